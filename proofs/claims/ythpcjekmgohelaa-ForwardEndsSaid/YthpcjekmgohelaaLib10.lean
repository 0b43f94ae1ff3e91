/- ABSTRACT RUNS, 31: slices that grow; moves of lists; loops over a range. -/
import Derived.Test.YthpcjekmgohelaaLib9
set_option linter.unusedVariables false
set_option linter.unusedSimpArgs false
namespace Go.Proofs.Ythpcjekmgohelaa.Ab
open Go Go.RowKit
set_option linter.unusedSimpArgs false
set_option linter.unusedVariables false

theorem frc_go {v : AVal} {K : AVal → Prop} (h : K v) : frc v K := by rwa [frc_eq]
theorem frcV_go {v : AVal} {K : AVal → Prop} (h : K v) : frcV v K := by rwa [frcV_eq]
theorem frcL_go {v : List AVal} {K : List AVal → Prop} (h : K v) : frcL v K := by rwa [frcL_eq]
theorem frcH_go {v : Heap} {K : Heap → Prop} (h : K v) : frcH v K := by rwa [frcH_eq]

/-- A slice that its owner lets grow: nil, or a row of the heap. -/
def own (rows : List (List AVal)) (id : Nat) : AVal :=
  match rows with
  | [] => .nilS
  | r :: rs => .row id (rs.length + 1)
def ownO (esz : Nat) (rows : List (List AVal)) : AObj :=
  match rows with
  | [] => .dead
  | r :: rs => .row esz (r :: rs) false
theorem own_ne {rows : List (List AVal)} (h : rows ≠ []) (id : Nat) : own rows id = .row id rows.length := by
  cases rows with
  | nil => exact absurd rfl h
  | cons => rfl
theorem ownO_ne {esz : Nat} {rows : List (List AVal)} (h : rows ≠ []) : ownO esz rows = .row esz rows false := by
  cases rows with
  | nil => exact absurd rfl h
  | cons => rfl

theorem app_own {H : Heap} {sv : AVal} {esz bytes : Nat} {K : AVal → Heap → Prop} (rows new : List (List AVal)) (id : Nat) {n : Nat} (hs : sv = own rows id) (ho : H[id]? = some (ownO esz rows))
    (hne : new ≠ []) (hn : rows.length = n) (hb : (n + new.length) * bytes ≤ 140737488355328 ∧ n + new.length ≤ 9223372036854775807)
    (hk : frcH (H.set id .dead ++ [.row esz (rows ++ new) false]) fun H' => K (.row H.length (n + new.length)) H') : vcApp esz bytes sv H new K := by
  subst hn
  rw [frcH_eq] at hk
  simp only [vcApp, frcH_eq]
  rw [hs]
  cases rows with
  | nil =>
    simp only [own]
    refine ⟨fun h => absurd h hne, fun _ => ⟨by simpa using hb, ?_⟩⟩
    simp only [ownO] at ho
    have : H.set id .dead = H := by
      obtain ⟨h1, h2⟩ := List.getElem?_eq_some_iff.1 ho
      rw [← h2]; exact List.set_getElem_self h1
    rw [this] at hk
    simpa using hk
  | cons r rs =>
    simp only [ownO] at ho
    simp only [own, ho]
    exact ⟨⟨trivial, rfl, by simpa using hb⟩, hk⟩
theorem app_one {H : Heap} {sv : AVal} {esz bytes : Nat} {K : AVal → Heap → Prop} (rows : List (List AVal)) (id : Nat) {r : List AVal} {n : Nat} (hs : sv = own rows id) (ho : H[id]? = some (ownO esz rows))
    (hn : rows.length = n) (hb : (n + 1) * bytes ≤ 140737488355328 ∧ n + 1 ≤ 9223372036854775807)
    (hk : frcH (H.set id .dead ++ [.row esz (rows ++ [r]) false]) fun H' => K (.row H.length (n + 1)) H') : vcApp esz bytes sv H [r] K :=
  app_own rows [r] id hs ho (List.cons_ne_nil _ _) hn hb hk
theorem all_one {r : List AVal} {n : Nat} (h : r.length = n) : ∀ q ∈ [r], q.length = n := fun q hq => by rw [List.mem_singleton.1 hq]; exact h

/-! ### Moves of lists -/
section
variable {σ : Nat → Nat} {ok : Nat → Prop} {H : Heap} {fr : Nat → Prop}

theorem cv_ptr {id id' off : Nat} (h : ok id) (e : σ id = id') : Cv σ ok H fr (.ptr id' off) (.ptr id off) := e ▸ .ptr id off h
theorem cv_row {id id' n : Nat} (h : ok id) (e : σ id = id') : Cv σ ok H fr (.row id' n) (.row id n) := e ▸ .row id n h
theorem cv_mp {id id' : Nat} (h : ok id) (e : σ id = id') : Cv σ ok H fr (.mp id') (.mp id) := e ▸ .mp id h
theorem cv_own {rows : List (List AVal)} {id id' : Nat} (h : ok id) (e : σ id = id') : Cv σ ok H fr (own rows id') (own rows id) := by
  subst e
  cases rows with
  | nil => exact .nilS
  | cons => exact .row id _ h
theorem cv_own_new {rows : List (List AVal)} {id id' n : Nat} (h : ok id) (hne : rows ≠ []) (hn : rows.length = n) (hi : σ id = id') : Cv σ ok H fr (.row id' n) (own rows id) := by
  subst hn; subst hi
  rw [own_ne hne]; exact .row id _ h

/-- Cells that hold no numbers. -/
theorem cv_cells {cs : List AVal} (h : cleanL cs = true) : ∀ j, j < cs.length → Cv σ ok H fr (cs.getD j .u) (cs.getD j .u) := by
  intro j hj
  rw [cleanL_all] at h
  exact .cl _ (all_getD h hj)
theorem cv_rows {rows : List (List AVal)} {esz : Nat} (h : cleanLL rows = true) (hr : ∀ r ∈ rows, r.length = esz) : ∀ i j, i < rows.length → j < esz → Cv σ ok H fr ((rows.getD i []).getD j .u) ((rows.getD i []).getD j .u) := by
  intro i j hi hj
  rw [cleanLL_all] at h
  exact .cl _ (all_getDD h hr hi hj)
theorem cvO_row {rows : List (List AVal)} {esz : Nat} {fz : Bool} (h : cleanLL rows = true) (hr : ∀ r ∈ rows, r.length = esz) : CvO σ ok H fr (.row esz rows fz) (.row esz rows fz) := .row esz rows rows fz fz (fun h => h) rfl hr (cv_rows h hr)
theorem cvO_own {rows : List (List AVal)} {esz : Nat} (h : cleanLL rows = true) (hr : ∀ r ∈ rows, r.length = esz) : CvO σ ok H fr (ownO esz rows) (ownO esz rows) := by
  cases rows with
  | nil => exact .dead _
  | cons r rs => exact cvO_row h hr
theorem cvO_own_new {rows : List (List AVal)} {esz : Nat} (h : cleanLL rows = true) (hr : ∀ r ∈ rows, r.length = esz) : CvO σ ok H fr (.row esz rows false) (ownO esz rows) := by
  cases rows with
  | nil => exact .dead _
  | cons r rs => exact cvO_row h hr
theorem cvO_own_as {rows rows' : List (List AVal)} {esz : Nat} (e : rows' = rows) (h : cleanLL rows' = true) (hr : ∀ r ∈ rows', r.length = esz) : CvO σ ok H fr (.row esz rows false) (ownO esz rows') := e ▸ cvO_own_new h hr
theorem cvO_box {cs : List AVal} (h : cleanL cs = true) : CvO σ ok H fr (.box cs) (.box cs) := .box cs cs rfl (cv_cells h)

/-- Cells one by one. -/
def CvL (σ : Nat → Nat) (ok : Nat → Prop) (H : Heap) (fr : Nat → Prop) : List AVal → List AVal → Prop
  | [], [] => True
  | a :: as, b :: bs => Cv σ ok H fr a b ∧ CvL σ ok H fr as bs
  | _, _ => False
theorem CvL.len : ∀ {as bs : List AVal}, CvL σ ok H fr as bs → as.length = bs.length
  | [], [], _ => rfl
  | a :: as, b :: bs, h => by simp [CvL.len h.2]
  | [], b :: bs, h => h.elim
  | a :: as, [], h => h.elim
theorem CvL.get : ∀ {as bs : List AVal}, CvL σ ok H fr as bs → ∀ j, j < bs.length → Cv σ ok H fr (as.getD j .u) (bs.getD j .u)
  | [], [], _, j, hj => by simp at hj
  | a :: as, b :: bs, h, 0, hj => h.1
  | a :: as, b :: bs, h, j + 1, hj => by
    have := CvL.get h.2 j (by simpa using hj)
    simpa using this
  | [], b :: bs, h, _, _ => h.elim
  | a :: as, [], h, _, _ => h.elim
theorem cvO_boxL {as bs : List AVal} (h : CvL σ ok H fr as bs) : CvO σ ok H fr (.box as) (.box bs) := .box as bs h.len h.get
theorem cv_aggL {as bs : List AVal} (h : CvL σ ok H fr as bs) : Cv σ ok H fr (.agg as) (.agg bs) := .agg as bs h.len h.get
end

/-- Objects one by one: old numbers, new objects. -/
def AllO (σ : Nat → Nat) (ok : Nat → Prop) (H : Heap) (fr : Nat → Prop) : List Nat → Heap → Prop
  | [], [] => True
  | i :: is, o' :: os => (o' = .dead ∨ ∃ o, H[i]? = some o ∧ CvO σ ok H fr o o') ∧ AllO σ ok H fr is os
  | _, _ => False
def AllS (σ : Nat → Nat) (ok : Nat → Prop) (H : Heap) (fr : Nat → Prop) (E : Slots) : Slots → Prop
  | [] => True
  | p :: ps => Cv σ ok H fr (look E p.1) p.2 ∧ AllS σ ok H fr E ps
theorem AllO.len {σ : Nat → Nat} {ok : Nat → Prop} {H : Heap} {fr : Nat → Prop} : ∀ {is : List Nat} {os : Heap}, AllO σ ok H fr is os → is.length = os.length
  | [], [], _ => rfl
  | i :: is, o :: os, h => by simp [AllO.len h.2]
  | [], _ :: _, h => h.elim
  | _ :: _, [], h => h.elim
theorem AllO.get {σ : Nat → Nat} {ok : Nat → Prop} {H : Heap} {fr : Nat → Prop} : ∀ {is : List Nat} {os : Heap}, AllO σ ok H fr is os → ∀ j o', os[j]? = some o' → o' = .dead ∨ ∃ o, H[is.getD j 0]? = some o ∧ CvO σ ok H fr o o'
  | [], [], _, j, o', h => by simp at h
  | i :: is, o :: os, h, 0, o', h' => by simp at h'; subst h'; exact h.1
  | i :: is, o :: os, h, j + 1, o', h' => by
    have := AllO.get h.2 j o' (by simpa using h')
    simpa using this
  | [], _ :: _, h, _, _, _ => h.elim
  | _ :: _, [], h, _, _, _ => h.elim
theorem AllS.get {σ : Nat → Nat} {ok : Nat → Prop} {H : Heap} {fr : Nat → Prop} {E : Slots} : ∀ {ps : Slots}, AllS σ ok H fr E ps → ∀ p ∈ ps, Cv σ ok H fr (look E p.1) p.2
  | [], _, p, hp => by simp at hp
  | q :: ps, h, p, hp => by
    rcases List.mem_cons.1 hp with rfl | hp
    · exact h.1
    · exact AllS.get h.2 p hp

/-- Numbers below m0 stay. -/
def fixB (ids : List Nat) : Nat → Bool
  | 0 => true
  | n + 1 => fixB ids n && Nat.beq (ids.getD n (n + 1)) n && Nat.blt n ids.length
theorem fixB_at {ids : List Nat} : ∀ {n : Nat}, fixB ids n = true → n ≤ ids.length ∧ ∀ j, j < n → ids.getD j 0 = j
  | 0, _ => ⟨Nat.zero_le _, fun j hj => absurd hj (Nat.not_lt_zero j)⟩
  | n + 1, h => by
    simp only [fixB, Bool.and_eq_true, Nat.blt_eq] at h
    obtain ⟨⟨h1, h2⟩, h3⟩ := h
    obtain ⟨h4, h5⟩ := fixB_at h1
    refine ⟨h3, fun j hj => ?_⟩
    by_cases e : j = n
    · subst e
      have := Nat.eq_of_beq_eq_true h2
      rw [List.getD_eq_getElem?_getD, List.getElem?_eq_getElem h3] at this ⊢
      exact this
    · exact h5 j (by omega)

theorem nodup_sOf {ids : List Nat} (hn : ids.Nodup) {i j : Nat} (h1 : i < ids.length) (h2 : j < ids.length) (e : sOf ids i = sOf ids j) : i = j := by
  unfold sOf at e
  rw [List.getD_eq_getElem?_getD, List.getElem?_eq_getElem h1, List.getD_eq_getElem?_getD, List.getElem?_eq_getElem h2] at e
  have hp := List.pairwise_iff_getElem.1 hn
  rcases Nat.lt_trichotomy i j with h | h | h
  · exact absurd e (hp i j _ _ h)
  · exact h
  · exact absurd e.symm (hp j i _ _ h)

/-- What is written no more in the new heap. -/
def still (ids : List Nat) (H' : Heap) (id : Nat) : Prop := ∀ j o', H'[j]? = some o' → o'.mut = true → sOf ids j ≠ id

theorem moveL {m0 : Nat} {E E' : Slots} {H H' : Heap} (ids : List Nat) (hf : fixB ids m0 = true) (hn : ids.Nodup) (ho : AllO (sOf ids) (· < H'.length) H (still ids H') ids H') (hs : AllS (sOf ids) (· < H'.length) H (still ids H') E E') : Move m0 E H E' H' := by
  have hl := ho.len
  refine Form.move (σ := sOf ids) ⟨by rw [← hl]; exact (fixB_at hf).1, fun j hj => (fixB_at hf).2 j hj, fun i j h1 h2 _ _ e => nodup_sOf hn (by omega) (by omega) e, fun j o' h => ho.get j o' h, fun p hp => hs.get p hp⟩

/-! ### Loops over a range -/
section
variable {P : Program} {G : GI} {m0 : Nat} {E : Slots} {H : Heap} {Q : AExit → Slots → Heap → Prop}

/-- How a round of a loop over a range ends. -/
def roundR (B : Nat) (m0 ti tt i : Nat) (I : Nat → Slots → Heap → Prop) (Q : AExit → Slots → Heap → Prop) : AExit → Slots → Heap → Prop
  | .normal, E, H => look E ti = .i .i64 (i : Nat) ∧ ∃ E' H', Move m0 ((ti, .i .i64 ((i + 1 : Nat) : Int)) :: (tt, .i .i64 ((i + 1 : Nat) : Int)) :: E) H E' H' ∧ I (i + 1) E' H'
  | .exit j, E, H => bif Nat.beq j B then Q .normal E H else Q (.exit j) E H
  | .ret, E, H => Q .ret E H

theorem t_range {B B' tc ti tn tt : Nat} {ek1 ek2 : EK} {body : LCode} (N : Nat) (hN : (N : Int) ≤ 9223372036854775807) (I : Nat → Slots → Heap → Prop) (E0 : Slots) (H0 : Heap) (hm : Move m0 E H E0 H0) (h0 : I 0 E0 H0)
    (hI : ∀ i E H, I i E H → i ≤ N ∧ look E ti = .i .i64 (i : Nat) ∧ look E tn = .i .i64 (N : Nat))
    (hbody : ∀ i E H, i < N → I i E H → Trip P G m0 body ((tc, .b true) :: (tc, .b true) :: E) H (behind B' (roundR B m0 ti tt i I Q)))
    (hexit : ∀ E H, I N E H → Q .normal ((tc, .b false) :: (tc, .b false) :: E) H) :
    Trip P G m0 (.block B (.loop (.seq (.reg [⟨some tc, .bin .lss ek1 (.t ti) (.t tn), none⟩]) (.seq (.cond (.t tc) .skip (.exit B)) (.seq (.block B' body) (.reg [⟨some tt, .bin .add ek2 (.t ti) (.c (.i .i64 1)), none⟩, ⟨some ti, .mv (.t tt), none⟩])))))) E H Q := by
  refine t_block (t_loopM (fun n E H => ∃ i, n = N - i ∧ I i E H) (N - 0) E0 H0 hm ⟨0, rfl, h0⟩ ?_)
  rintro n E H ⟨i, rfl, hi⟩
  obtain ⟨hle, hti, htn⟩ := hI i E H hi
  refine t_seq (t_reg ?_)
  show vcO P G _ E H _
  simp only [vcO, vcOp, LOp.heapy, cond_false, vcP, gv, hti, htn, vcBin, binA, intBin, if_true, frc, put, vcR, Bool.false_eq_true, if_false]
  simp only [andThen]
  refine t_seq ?_
  by_cases hlt : i < N
  · have hd : decide ((i : Int) < (N : Int)) = true := by simpa using hlt
    rw [hd]
    refine t_cond (t := true) (by simp [look]) (fun _ => t_skip ?_) (fun h => by cases h)
    simp only [andThen]
    refine t_seq (t_block (t_mono (hbody i E H hlt hi) ?_))
    have hend : ∀ E' H', look E' ti = .i .i64 (i : Nat) → (∃ E'' H'', Move m0 ((ti, .i .i64 ((i + 1 : Nat) : Int)) :: (tt, .i .i64 ((i + 1 : Nat) : Int)) :: E') H' E'' H'' ∧ I (i + 1) E'' H'') →
        Trip P G m0 (.reg [⟨some tt, .bin .add ek2 (.t ti) (.c (.i .i64 1)), none⟩, ⟨some ti, .mv (.t tt), none⟩]) E' H' (andThen (fun E' H' => ∃ n' E'' H'', n' < N - i ∧ Move m0 E' H' E'' H'' ∧ ∃ i, n' = N - i ∧ I i E'' H'') (behind B Q)) := by
      intro E' H' h1 ⟨E'', H'', h2, h3⟩
      refine t_reg ?_
      have hw : IntKind.i64.wrap ((i : Nat) + 1) = ((i + 1 : Nat) : Int) := by rw [w64 (by omega) (by omega)]; rfl
      show vcO P G _ E' H' _
      simp only [vcO, vcOp, LOp.heapy, cond_false, vcP, gv, h1, vcBin, binA, intBin, if_true, frc, put, vcR, hw, look, Nat.beq_refl, cond_true]
      exact ⟨N - (i + 1), E'', H'', by omega, h2, i + 1, rfl, h3⟩
    intro x E' H' hx
    cases x with
    | normal => exact hend E' H' hx.1 hx.2
    | exit j =>
      simp only [behind] at hx
      cases hj : Nat.beq j B' with
      | true => rw [hj] at hx; simp only [behind, hj, cond_true] at hx ⊢; exact hend E' H' hx.1 hx.2
      | false => rw [hj] at hx; simp only [behind, hj, cond_false, roundR, andThen] at hx ⊢; exact hx
    | ret => exact hx
  · have : i = N := by omega
    subst this
    have hd : decide ((i : Int) < (i : Int)) = false := by simp
    rw [hd]
    refine t_cond (t := false) (by simp [look]) (fun h => by cases h) (fun _ => t_exit ?_)
    simp only [andThen, behind, Nat.beq_refl, cond_true]
    exact hexit E H hi
end
end Go.Proofs.Ythpcjekmgohelaa.Ab

/- ABSTRACT RUNS, 32: more tools for runs of single functions. -/
namespace Go.Proofs.Ythpcjekmgohelaa.Ab
open Go Go.RowKit
set_option linter.unusedSimpArgs false
set_option linter.unusedVariables false

theorem dT {p : Prop} {d : Decidable p} (h : p) : @decide p d = true := decide_eq_true h
theorem dF {p : Prop} {d : Decidable p} (h : ¬ p) : @decide p d = false := decide_eq_false h

theorem clean_rows {α : Type} {f : α → List AVal} (h : ∀ x, cleanL (f x) = true) : ∀ xs : List α, cleanLL (xs.map f) = true
  | [] => rfl
  | x :: xs => by simp only [List.map_cons, cleanLL, h, clean_rows h xs, Bool.and_self]
theorem clean_sl {α : Type} {f : α → List AVal} (h : ∀ x, cleanL (f x) = true) (xs : List α) : clean (.sl (xs.map f)) = true := by
  simp only [clean]; exact clean_rows h xs
theorem len_rows {α : Type} {f : α → List AVal} {n : Nat} (h : ∀ x, (f x).length = n) (xs : List α) : ∀ r ∈ xs.map f, r.length = n := by
  intro r hr
  obtain ⟨x, _, rfl⟩ := List.mem_map.1 hr
  exact h x
theorem frzAll_clean {H : Heap} : ∀ {args : List AVal}, cleanAll args = true → frzAll H args = some args
  | [], _ => rfl
  | v :: vs, h => by
    simp only [cleanAll, List.all_cons, Bool.and_eq_true] at h
    have h2 := frzAll_clean (H := H) (args := vs) h.2
    simp only [frzAll, frz, h.1, if_true, h2]
/-- A call with arguments without numbers. -/
theorem call_clean {P : Program} {G : GI} {mk : Bool} {f : FuncId} {args : List AVal} {r : AVal} {H : Heap} {K : AVal → Heap → Prop} (hev : EvP P G f args r) (hc : cleanAll args = true) (h : frcV r fun r => K r H) : vcCall P G mk f args H K :=
  .inl ⟨args, r, hev, frzAll_clean hc, .inl ⟨by rw [hc]; rfl, h⟩⟩
/-- A call that hands back no memory. -/
theorem call_flat {P : Program} {G : GI} {mk : Bool} {f : FuncId} {args args' : List AVal} {r : AVal} {H : Heap} {K : AVal → Heap → Prop} (hev : EvP P G f args' r) (hf : frzAll H args = some args') (hc : flat r = true) (h : frcV r fun r => K r H) : vcCall P G mk f args H K :=
  .inl ⟨args', r, hev, hf, .inl ⟨by rw [hc, Bool.or_true], h⟩⟩
/-- A call on the heap. -/
theorem call_heap {P : Program} {G : GI} {f : FuncId} {args : List AVal} {r : AVal} {H H' : Heap} {K : AVal → Heap → Prop} (hev : EvS P G f args H r H') (h : frcV r fun r => frcH H' fun H' => K r H') : vcCall P G true f args H K :=
  .inr ⟨rfl, r, H', hev, h⟩

theorem frz_clean {H : Heap} {v : AVal} (h : clean v = true) : frz H v = some v := by
  unfold frz; rw [h]; rfl
mutual
theorem thaw_clean (H : Heap) : ∀ v : AVal, clean v = true → thaw H v = v
  | .u, h => rfl
  | .b _, _ => rfl
  | .i _ _, _ => rfl
  | .s _, _ => rfl
  | .agg cs, h => by simp only [clean] at h; simp only [thaw, thawL_clean H cs h]
  | .tup cs, h => by simp only [clean] at h; simp only [thaw, thawL_clean H cs h]
  | .sl rows, h => by simp only [clean] at h; simp only [thaw, thawLL_clean H rows h]
  | .nilS, h => by simp [clean] at h
  | .row _ _, h => by simp [clean] at h
  | .ptr _ _, h => rfl
  | .eptr _ _ _ _, h => rfl
  | .cptr _ _, h => rfl
  | .mp _, h => rfl
  | .nilM, _ => rfl
  | .fn _ cap, h => by simp only [clean] at h; simp only [thaw, thawL_clean H cap h]
  | .nilF, _ => rfl
  | .nilP, _ => rfl
  | .nilI, _ => rfl
  | .ifc _ v, h => by simp only [clean] at h; simp only [thaw, thaw_clean H v h]
theorem thawL_clean (H : Heap) : ∀ vs : List AVal, cleanL vs = true → thawL H vs = vs
  | [], _ => rfl
  | v :: vs, h => by
    simp only [cleanL, Bool.and_eq_true] at h
    simp only [thawL, thaw_clean H v h.1, thawL_clean H vs h.2]
theorem thawLL_clean (H : Heap) : ∀ vs : List (List AVal), cleanLL vs = true → thawLL H vs = vs
  | [], _ => rfl
  | v :: vs, h => by
    simp only [cleanLL, Bool.and_eq_true] at h
    simp only [thawLL, thawL_clean H v h.1, thawLL_clean H vs h.2]
end
theorem frz_own {H : Heap} {rows : List (List AVal)} {esz id : Nat} (ho : H[id]? = some (ownO esz rows)) (hc : cleanLL rows = true) : frz H (own rows id) = some (.sl rows) := by
  cases rows with
  | nil => rfl
  | cons r rs =>
    have h1 : thaw H (own (r :: rs) id) = .sl (r :: rs) := by
      simp only [own, thaw, ho, ownO, List.length_cons, if_true]
    have h2 : clean (.sl (r :: rs)) = true := by simpa only [clean] using hc
    unfold frz
    rw [show clean (own (r :: rs) id) = false by simp [own, clean]]
    rw [h1, thaw_clean _ _ h2, thaw_clean _ _ h2]
    simp only [h2, Bool.false_eq_true, if_false, if_true]
/-! ### Tests that part -/
theorem sp_t {p : Prop} {d : Decidable p} {A B : Prop} (hA : p → A) (hB : ¬ p → B) : (@decide p d = true → A) ∧ (@decide p d = !true → B) := ⟨fun h => hA (of_decide_eq_true h), fun h => hB (of_decide_eq_false h)⟩
theorem sp_f {p : Prop} {d : Decidable p} {A B : Prop} (hA : p → A) (hB : ¬ p → B) : (@decide p d = false → B) ∧ (@decide p d = !false → A) := ⟨fun h => hB (of_decide_eq_false h), fun h => hA (of_decide_eq_true h)⟩
theorem sq_t {a b : Int} {A B : Prop} (hA : a = b → A) (hB : ¬ a = b → B) : ((a == b) = true → A) ∧ ((a == b) = !true → B) := ⟨fun h => hA (by simpa using h), fun h => hB (by simpa using h)⟩
theorem sq_f {a b : Int} {A B : Prop} (hA : a = b → A) (hB : ¬ a = b → B) : ((a == b) = false → B) ∧ ((a == b) = !false → A) := ⟨fun h => hB (by simpa using h), fun h => hA (by simpa using h)⟩
theorem sb_t {b : Bool} {A B : Prop} (hA : b = true → A) (hB : b = false → B) : (b = true → A) ∧ (b = !true → B) := ⟨hA, hB⟩
theorem sb_f {b : Bool} {A B : Prop} (hA : b = true → A) (hB : b = false → B) : (b = false → B) ∧ (b = !false → A) := ⟨hB, hA⟩
section
variable {P : Program} {G : GI} {m0 : Nat} {E : Slots} {H : Heap} {Q : AExit → Slots → Heap → Prop} {n : Nat} {x y : LCode}
theorem c_t (hb : look E n = .b true) (hx : Trip P G m0 x ((n, .b true) :: E) H Q) : Trip P G m0 (.cond (.t n) x y) E H Q := t_cond hb (fun _ => hx) (fun h => by cases h)
theorem c_f (hb : look E n = .b false) (hy : Trip P G m0 y ((n, .b false) :: E) H Q) : Trip P G m0 (.cond (.t n) x y) E H Q := t_cond hb (fun h => by cases h) (fun _ => hy)
theorem c_d {p : Prop} {d : Decidable p} (hb : look E n = .b (@decide p d)) (hx : p → Trip P G m0 x ((n, .b true) :: E) H Q) (hy : ¬ p → Trip P G m0 y ((n, .b false) :: E) H Q) : Trip P G m0 (.cond (.t n) x y) E H Q := t_cond hb (fun h => hx (of_decide_eq_true h)) (fun h => hy (of_decide_eq_false h))
theorem c_nd {p : Prop} {d : Decidable p} (hb : look E n = .b (!@decide p d)) (hx : ¬ p → Trip P G m0 x ((n, .b true) :: E) H Q) (hy : p → Trip P G m0 y ((n, .b false) :: E) H Q) : Trip P G m0 (.cond (.t n) x y) E H Q := t_cond hb (fun h => hx (by simpa using h)) (fun h => hy (by simpa using h))
theorem c_q {a b : Int} (hb : look E n = .b (a == b)) (hx : a = b → Trip P G m0 x ((n, .b true) :: E) H Q) (hy : ¬ a = b → Trip P G m0 y ((n, .b false) :: E) H Q) : Trip P G m0 (.cond (.t n) x y) E H Q := t_cond hb (fun h => hx (by simpa using h)) (fun h => hy (by simpa using h))
theorem c_nq {a b : Int} (hb : look E n = .b (a != b)) (hx : ¬ a = b → Trip P G m0 x ((n, .b true) :: E) H Q) (hy : a = b → Trip P G m0 y ((n, .b false) :: E) H Q) : Trip P G m0 (.cond (.t n) x y) E H Q := t_cond hb (fun h => hx (by simpa using h)) (fun h => hy (by simpa using h))
theorem c_b {b : Bool} (hb : look E n = .b b) (hx : b = true → Trip P G m0 x ((n, .b true) :: E) H Q) (hy : b = false → Trip P G m0 y ((n, .b false) :: E) H Q) : Trip P G m0 (.cond (.t n) x y) E H Q := t_cond hb hx hy
theorem c_nb {b : Bool} (hb : look E n = .b (!b)) (hx : b = false → Trip P G m0 x ((n, .b true) :: E) H Q) (hy : b = true → Trip P G m0 y ((n, .b false) :: E) H Q) : Trip P G m0 (.cond (.t n) x y) E H Q := t_cond hb (fun h => hx (by simpa using h)) (fun h => hy (by simpa using h))
end
section
variable {P : Program} {G : GI} {E : Slots} {H : Heap} {K : Slots → Heap → Prop} {os : List LOper} {d : Nat}
/-- One operation at a time, where a value can't be worked out to its head. -/
theorem mv_as {x : LOpd} {v : AVal} (h : gv E x = v) (hk : vcR P G os ((d, v) :: E) H K) : vcR P G (⟨some d, .mv x, none⟩ :: os) E H K := by
  subst h
  show vcO P G _ E H _
  simp only [vcO, vcOp, LOp.heapy, cond_false, vcP, frc_eq, put]
  exact hk
/-- A field of a variable, where its value can't be worked out to its head. -/
theorem fld_as {n id o off d1 : Nat} {ag : Bool} {p : LOpd} {cs : List AVal} {v : AVal} (hp : gv E p = .ptr id o) (ho : H[id]? = some (.box cs)) (hv : ldCells cs (o + off) n ag = some v) (hk : vcR P G os ((d, v) :: (d1, .ptr id (o + off)) :: E) H K) :
    vcR P G (⟨some d1, .fad off p, none⟩ :: ⟨some d, .load n ag (.t d1), none⟩ :: os) E H K := by
  show vcO P G _ E H _
  have h1 : evalP (look E) (.fad off p) = some (.ptr id (o + off)) := by simp only [evalP, gv_ev, hp]
  simp only [vcO, vcOp, LOp.heapy, cond_false, vcP, h1, frcV, frc_eq, put, vcR]
  simp only [LOp.heapy, cond_true, vcH, gv, look, Nat.beq_refl, cond_true, ho, hv, frcV_eq]
  exact hk
theorem ld_as {n id o : Nat} {ag : Bool} {p : LOpd} {cs : List AVal} {v : AVal} (hp : gv E p = .ptr id o) (ho : H[id]? = some (.box cs)) (hv : ldCells cs o n ag = some v) (hk : vcR P G os ((d, v) :: E) H K) : vcR P G (⟨some d, .load n ag p, none⟩ :: os) E H K := by
  show vcO P G _ E H _
  simp only [vcO, vcOp, LOp.heapy, cond_true, vcH, hp, ho, hv, frcV_eq, put]
  exact hk
end
theorem rng_not {n N : Nat} (h : ¬ ((n : Int) < (N : Int))) (h2 : n ≤ N) : n = N := by omega
theorem take_map_succ {α β : Type} {f : α → β} {xs : List α} {i : Nat} (h : i < xs.length) : (xs.take (i + 1)).map f = (xs.take i).map f ++ [f xs[i]] := by
  rw [List.take_succ_eq_append_getElem h, List.map_append]; rfl
end Go.Proofs.Ythpcjekmgohelaa.Ab
