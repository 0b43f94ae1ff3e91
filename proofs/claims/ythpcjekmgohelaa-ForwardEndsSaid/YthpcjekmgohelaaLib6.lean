/- ABSTRACT RUNS, 19: calls. -/
import Derived.Test.YthpcjekmgohelaaLib5
set_option linter.unusedVariables false
set_option linter.unusedSimpArgs false
namespace Go.Proofs.Ythpcjekmgohelaa.Ab
open Go Go.RowKit
set_option linter.unusedSimpArgs false
set_option linter.unusedVariables false

section
variable {P : Program} {G : GI} {F0 : Nat → Prop} {B0 : Nat} {w w' : World} {β κ β' κ' : Nat → Nat} {H H' : Heap} {a : Act} {e : Env}

theorem Fx.mut_of (h : Fx H H') {b : Nat} (hm : Mut β H' b) : Mut β H b := by
  obtain ⟨id, o, h1, h2, rfl⟩ := hm
  rcases h.at_ id with k | ⟨e1, r1, f1, k1, k2⟩
  · exact ⟨id, o, by rw [← k]; exact h1, h2, rfl⟩
  · rw [k2] at h1; simp only [Option.some.injEq] at h1; subst h1; simp [AObj.mut] at h2

theorem Fx.alive_of (h : Fx H H') {id : Nat} {o : AObj} (ho : H'[id]? = some o) (hal : o.alive = true) : ∃ o', H[id]? = some o' ∧ o'.alive = true := by
  rcases h.at_ id with k | ⟨e1, r1, f1, k1, k2⟩
  · exact ⟨o, by rw [← k]; exact ho, hal⟩
  · exact ⟨_, k1, rfl⟩

theorem Fx.mut_same {H H' : Heap} (hfx : Fx H H') {id : Nat} {o p : AObj} (h1 : H'[id]? = some o) (h2 : H[id]? = some p) (hm : o.mut = true) : p.mut = true := by
  rcases hfx.at_ id with k | ⟨e1, r1, f1, k1, k2⟩
  · rw [k, h2] at h1; simp only [Option.some.injEq] at h1; subst h1; exact hm
  · rw [k2] at h1; simp only [Option.some.injEq] at h1; subst h1; simp [AObj.mut] at hm

theorem adv_below (hs : HS G F0 B0 w β κ H) (hb : Below w.heap.size w w') (hfx : Fx H H') : Adv G F0 B0 w β κ H w' β κ H' := by
  have hk : Kept (Mut β H) w w' := Kept.of_below hb
  have hm : ∀ b, Mut β H' b → Mut β H b ∨ w.heap.size ≤ b := fun b h => .inl (hfx.mut_of h)
  have hl : H.length ≤ H'.length := Nat.le_of_eq hfx.len.symm
  refine adv_of hs hk hm hl (fun _ _ => ⟨rfl, rfl⟩) ?_ ?_
  · intro id o h1 hal
    rcases hfx.at_ id with k | ⟨e1, r1, f1, k1, k2⟩
    · have h1' : H[id]? = some o := by rw [← k]; exact h1
      exact .inl ⟨h1', hb.block _ (hs.lt id o h1' hal).1⟩
    · rw [k2] at h1; simp only [Option.some.injEq] at h1; subst h1
      have hlt := hs.lt id _ k1 rfl
      have hle := le_of (F0 := F0) (B0 := B0) (κ := κ) (κ' := κ) hk hm hl (fun _ _ => ⟨rfl, rfl⟩)
      have := ORel.le hle (List.getElem?_eq_some_iff.1 k1).1 (hb.block _ hlt.1) (hs.obj id _ k1)
      exact .inr ⟨this, Nat.lt_of_lt_of_le hlt.1 hb.size, hlt.2, hs.al id _ k1 rfl⟩
  · intro id id' o o' h1 h2 a1 a2 am he
    obtain ⟨p, p1, p2⟩ := hfx.alive_of h1 a1
    obtain ⟨q, q1, q2⟩ := hfx.alive_of h2 a2
    exact hs.inj id id' p q p1 q1 p2 q2 (am.imp (hfx.mut_same h1 p1) (hfx.mut_same h2 q1)) he

/-- The blocks that a call is handed. -/
def Fcall (F0 : Nat → Prop) (B0 : Nat) (w : World) (β : Nat → Nat) (H' : Heap) : Nat → Prop := fun b => (F0 b ∨ B0 ≤ b) ∧ b < w.heap.size ∧ ¬ Mut β H' b

theorem frz_rel (hs : HS G F0 B0 w β κ H) (hfx : Fx H H') {x : Value} {v v' : AVal} (hr : Rel (RPof F0 B0 w β κ H) x v) (hz : frz H v = some v') (hfz : ∀ id ∈ reach H v, Fz H' id) :
    Rel (RPof (Fcall F0 B0 w β H') w.heap.size w id id []) x v' := by
  have hmid : (RPof F0 B0 w β κ H).Le { F := Fcall F0 B0 w β H', w := w, β := β, κ := κ, N := H.length } :=
    ⟨fun b hb => ⟨hb.1, hb.2.1, fun hm => hb.2.2 (hfx.mut_of hm)⟩, fun _ _ => rfl, Nat.le_refl _, fun _ _ => rfl, fun _ _ => rfl⟩
  have hr1 := hr.le hmid
  have hout : ∀ b, Fcall F0 B0 w β H' b → (RPof (Fcall F0 B0 w β H') w.heap.size w id id []).F b ∧ (RPof (Fcall F0 B0 w β H') w.heap.size w id id []).w.heap[b]? = w.heap[b]? :=
    fun b hb => ⟨⟨.inl hb, hb.2.1, fun ⟨i, o, h, _⟩ => by simp at h⟩, rfl⟩
  have hobj : ∀ id o, Fz H' id → H[id]? = some o → ORel { F := Fcall F0 B0 w β H', w := w, β := β, κ := κ, N := H.length } id o := fun id o _ ho =>
    ORel.le hmid (List.getElem?_eq_some_iff.1 ho).1 rfl (hs.obj id o ho)
  have hF : ∀ id esz rows fz, Fz H' id → H[id]? = some (AObj.row esz rows fz) → Fcall F0 B0 w β H' (β id) := by
    intro id esz rows fz hfr ho
    refine ⟨hs.al id _ ho rfl, (hs.lt id _ ho rfl).1, ?_⟩
    rintro ⟨id', o', h1, h2, h3⟩
    obtain ⟨p, p1, p2⟩ := hfx.alive_of h1 (mut_alive h2)
    have : id = id' := hs.inj id id' _ p ho p1 rfl p2 (.inr (hfx.mut_same h1 p1 h2)) h3
    subst this
    rcases hfx.at_ id with k | ⟨e1, r1, f1, k1, k2⟩
    · rw [k, ho] at h1; simp only [Option.some.injEq] at h1; subst h1
      have := hfr esz rows fz (by rw [k]; exact ho)
      subst this; simp [AObj.mut] at h2
    · rw [k2] at h1; simp only [Option.some.injEq] at h1; subst h1; simp [AObj.mut] at h2
  unfold frz at hz
  split at hz
  · rename_i hc
    simp only [Option.some.injEq] at hz; subst hz
    exact hr1.clean hout hc
  · simp only at hz
    split at hz
    · rename_i hc
      simp only [Option.some.injEq] at hz; subst hz
      refine Rel.clean (R := { F := Fcall F0 B0 w β H', w := w, β := β, κ := κ, N := H.length }) hout ?_ hc
      have s0 : ∀ id ∈ refs v, id ∈ reach H v := fun id h => by unfold reach; simp [h]
      have s1 : ∀ k ∈ refs v, ∀ id ∈ rowsIn H k, id ∈ reach H v := fun k hk id h => by
        unfold reach; simp only [List.mem_append, List.mem_flatMap]; exact .inl (.inr ⟨k, hk, h⟩)
      have s2 : ∀ k ∈ refs v, ∀ m ∈ rowsIn H k, ∀ id ∈ rowsIn H m, id ∈ reach H v := fun k hk m hm id h => by
        unfold reach; simp only [List.mem_append, List.mem_flatMap]; exact .inr ⟨m, ⟨k, hk, hm⟩, h⟩
      have t1 : ∀ id ∈ refs (thaw H v), id ∈ refs v ∨ ∃ k ∈ refs v, id ∈ rowsIn H k := refs_thaw H v
      have u1 : ∀ id ∈ refs (thaw H v), id ∈ reach H v := fun id h => (t1 id h).elim (s0 id) (fun ⟨k, hk, h⟩ => s1 k hk id h)
      have u2 : ∀ id ∈ refs (thaw H (thaw H v)), id ∈ reach H v := fun id h => by
        rcases refs_thaw H _ id h with h1 | ⟨k, hk, h1⟩
        · exact u1 id h1
        · rcases t1 k hk with h2 | ⟨m, hm, h2⟩
          · exact s1 k h2 id h1
          · exact s2 m hm k h2 id h1
      have r1 := thaw_rel (H := H) (S := Fz H') hobj hF hr1 (fun id h => hfz id (s0 id h))
      have r2 := thaw_rel (H := H) (S := Fz H') hobj hF r1 (fun id h => hfz id (u1 id h))
      exact thaw_rel (H := H) (S := Fz H') hobj hF r2 (fun id h => hfz id (u2 id h))
    · simp at hz

theorem frzAll_rel (hs : HS G F0 B0 w β κ H) (hfx : Fx H H') : ∀ (args args' : List AVal) (vals : List Value), frzAll H args = some args' → (∀ v ∈ args, ∀ id ∈ reach H v, Fz H' id) → vals.length = args.length →
    (∀ j, j < args.length → Rel (RPof F0 B0 w β κ H) (vals.getD j undef) (args.getD j .u)) →
    vals.length = args'.length ∧ ∀ j, j < args'.length → Rel (RPof (Fcall F0 B0 w β H') w.heap.size w id id []) (vals.getD j undef) (args'.getD j .u)
  | [], args', vals, h, _, hl, _ => by simp [frzAll] at h; subst h; exact ⟨hl, fun j hj => by simp at hj⟩
  | v :: args, args', vals, h, hfz, hl, hr => by
    simp only [frzAll] at h
    split at h
    · rename_i x xs h1 h2
      simp only [Option.some.injEq] at h; subst h
      cases vals with
      | nil => simp at hl
      | cons y ys =>
        obtain ⟨g1, g2⟩ := frzAll_rel hs hfx args xs ys h2 (fun v hv => hfz v (.tail _ hv)) (by simpa using hl) (fun j hj => by simpa using hr (j + 1) (by simpa using hj))
        refine ⟨by simp [g1], fun j hj => ?_⟩
        cases j with
        | zero => exact frz_rel hs hfx (by simpa using hr 0 (by simp)) h1 (hfz v (.head _))
        | succ j => simpa using g2 j (by simpa using hj)
    · simp at h

theorem evp_sound {f : FuncId} {args args' : List AVal} {r : AVal} {vals : Array Value} (hs : HS G F0 B0 w β κ H) (hr : RelL (RPof F0 B0 w β κ H) vals args) (hz : frzAll H args = some args') (hev : EvP P G f args' r) :
    Calls P f vals w fun x w' => ∃ rv, x = .returned rv ∧ Below w.heap.size w w' ∧ Rel (RPof F0 B0 w' β κ (args.foldl fix H)) rv r := by
  obtain ⟨hfx, hfz⟩ := fixAll_fx args H
  obtain ⟨g1, g2⟩ := frzAll_rel hs hfx args args' vals.toList hz hfz (by simpa using hr.1) (fun j hj => by rw [← getD_toList]; exact hr.2 j hj)
  refine (hev (Fcall F0 B0 w β (args.foldl fix H)) w vals hs.gw hs.ng (fun b hb => hb.2.1) ⟨by simpa using g1, fun j hj => by rw [getD_toList]; exact g2 j hj⟩).mono ?_
  rintro x w' ⟨rv, rfl, hb, hrv⟩
  have hle : (RPof (Fcall F0 B0 w β (args.foldl fix H)) w.heap.size w' id id []).Le (RPof F0 B0 w' β κ (args.foldl fix H)) := by
    refine ⟨fun b hb' => ?_, fun _ _ => rfl, Nat.zero_le _, fun id hid => by simp [RPof] at hid, fun id hid => by simp [RPof] at hid⟩
    obtain ⟨h1, h2, _⟩ := hb'
    rcases h1 with h1 | h1
    · exact ⟨h1.1, h2, h1.2.2⟩
    · refine ⟨.inr (Nat.le_trans hs.b0 h1), h2, fun hm => ?_⟩
      obtain ⟨id, o, k1, k2, rfl⟩ := hfx.mut_of hm
      have := (hs.lt id o k1 (mut_alive k2)).1
      omega
  exact ⟨rv, rfl, hb, hrv.le hle⟩

/-- What comes of a call. -/
theorem callK_sound {mk : Bool} {f : FuncId} {args : List AVal} {K : AVal → Heap → Prop} {vals : Array Value} (hs : HS G F0 B0 w β κ H) (hr : RelL (RPof F0 B0 w β κ H) vals args) (h : CallK P G mk f args H K) :
    ∃ r H', K r H' ∧ (mk = false → H' = H) ∧ Calls P f vals w fun x w' => ∃ rv β' κ', x = .returned rv ∧ Adv G F0 B0 w β κ H w' β' κ' H' ∧ Rel (RPof F0 B0 w' β' κ' H') rv r := by
  rcases h with ⟨args', r, hz, hev, hK⟩ | ⟨hmk, r, H', hev, hK⟩
  · have hcall := evp_sound hs hr hz hev
    obtain ⟨hfx, _⟩ := fixAll_fx args H
    split at hK
    · rename_i hcond
      refine ⟨r, H, hK, fun _ => rfl, hcall.mono ?_⟩
      rintro x w' ⟨rv, rfl, hb, hrv⟩
      refine ⟨rv, β, κ, rfl, adv_below hs hb (Fx.refl H), ?_⟩
      simp only [Bool.or_eq_true] at hcond
      rcases hcond with hc | hc
      · rw [fixAll_clean args H hc] at hrv; exact hrv
      · exact hrv.flat hc
    · have hmk := hK.1
      refine ⟨r, args.foldl fix H, hK.2, fun h => absurd (hmk.symm.trans h) (by decide), hcall.mono ?_⟩
      rintro x w' ⟨rv, rfl, hb, hrv⟩
      exact ⟨rv, β, κ, rfl, adv_below hs hb hfx, hrv⟩
  · refine ⟨r, H', hK, fun h => absurd (hmk.symm.trans h) (by decide), (hev F0 B0 w β κ vals hs hr).mono ?_⟩
    rintro x w' ⟨rv, β', κ', rfl, h1, h2, h3, h4, h5, h6⟩
    exact ⟨rv, β', κ', rfl, ⟨h1, h2, h3, h4, h5⟩, h6⟩
end
end Go.Proofs.Ythpcjekmgohelaa.Ab

/- ABSTRACT RUNS, 20: one operation of a region. -/
namespace Go.Proofs.Ythpcjekmgohelaa.Ab
open Go Go.RowKit
set_option linter.unusedSimpArgs false
set_option linter.unusedVariables false

/-- Where a run of a function stands. -/
structure Inv (G : GI) (F0 : Nat → Prop) (B0 : Nat) (w0 : World) (β0 κ0 : Nat → Nat) (H0 : Heap) (nt : Nat) (a : Act) (w : World) (e : Env) (H : Heap) (β κ : Nat → Nat) : Prop where
  adv : Adv G F0 B0 w0 β0 κ0 H0 w β κ H
  rel : RelE (RPof F0 B0 w β κ H) a e
  size : a.tmps.size = nt
  defers : a.defers = []

section
variable {P : Program} {G : GI} {F0 : Nat → Prop} {B0 : Nat} {w0 w w' : World} {β0 κ0 β κ β' κ' : Nat → Nat} {H0 H H' : Heap} {nt : Nat} {a : Act} {e : Env} {ops : Array Oper} {Q : Exit → Act → World → Prop}

theorem RelE.le {R R' : RP} (hle : R.Le R') (h : RelE R a e) : RelE R' a e := fun t => (h t).le hle

theorem RelE.put {R : RP} (h : RelE R a e) {v : Value} {v' : AVal} (hv : Rel R v v') {dst : Option Nat} (hd : ∀ d, dst = some d → d < a.tmps.size) : RelE R (a.put dst v) (e.set dst v') := by
  cases dst with
  | none => exact h
  | some d =>
    intro t
    simp only [Act.put, Env.set]
    by_cases ht : t = d
    · subst ht
      rw [if_pos rfl, Array.getD_eq_getD_getElem?, Array.getElem?_setIfInBounds_self_of_lt (hd t rfl)]
      exact hv
    · rw [if_neg ht, Array.getD_eq_getD_getElem?, Array.getElem?_setIfInBounds_ne (fun e => ht e.symm), ← Array.getD_eq_getD_getElem?]
      exact h t

theorem Act.put_size (a : Act) (dst : Option Nat) (v : Value) : (a.put dst v).tmps.size = a.tmps.size := by cases dst <;> simp [Act.put]
theorem Act.put_def (a : Act) (dst : Option Nat) (v : Value) : (a.put dst v).defers = a.defers := by cases dst <;> rfl

theorem Inv.put (h : Inv G F0 B0 w0 β0 κ0 H0 nt a w e H β κ) (hadv : Adv G F0 B0 w β κ H w' β' κ' H') {v : Value} {v' : AVal} (hv : Rel (RPof F0 B0 w' β' κ' H') v v') {dst : Option Nat} (hd : ∀ d, dst = some d → d < nt) :
    Inv G F0 B0 w0 β0 κ0 H0 nt (a.put dst v) w' (e.set dst v') H' β' κ' :=
  ⟨h.adv.trans hadv, (h.rel.le hadv.le).put hv (by rw [h.size]; exact hd), by rw [Act.put_size]; exact h.size, by rw [Act.put_def]; exact h.defers⟩

theorem Fine.wp {o : Oper} {v : AVal} (hf : Fine P G F0 B0 w β κ H (execOp a.eval o) v H') (h : Inv G F0 B0 w0 β0 κ0 H0 nt a w e H β κ) (hd : ∀ d, o.dst = some d → d < nt) {K : Act → World → Prop}
    (hK : ∀ a' w' β' κ', Inv G F0 B0 w0 β0 κ0 H0 nt a' w' (e.set o.dst v) H' β' κ' → K a' w') : o.wp P a w K Q := by
  obtain ⟨n, w', β', κ', h1, h2, h3⟩ := hf
  unfold Oper.wp
  rw [h1]
  rcases h3 with ⟨x, rfl, h4⟩ | ⟨rfl, rfl⟩
  · exact hK _ _ _ _ (h.put h2 h4 hd)
  · exact hK _ _ _ _ (h.put h2 (.u _) hd)

theorem call_wp {o : Oper} {f : FuncId} {vals : Array Value} (hr : (execOp a.eval o).run P w = .ok (.enter f vals) w) {v : AVal} (h : Inv G F0 B0 w0 β0 κ0 H0 nt a w e H β κ) (hd : ∀ d, o.dst = some d → d < nt)
    (hc : Calls P f vals w fun x w' => ∃ rv β' κ', x = .returned rv ∧ Adv G F0 B0 w β κ H w' β' κ' H' ∧ Rel (RPof F0 B0 w' β' κ' H') rv v) {K : Act → World → Prop}
    (hK : ∀ a' w' β' κ', Inv G F0 B0 w0 β0 κ0 H0 nt a' w' (e.set o.dst v) H' β' κ' → K a' w') : o.wp P a w K Q := by
  unfold Oper.wp
  rw [hr]
  refine hc.mono ?_
  rintro x w' ⟨rv, β', κ', rfl, h2, h3⟩
  exact hK _ _ _ _ (h.put h2 h3 hd)

theorem enter_run {f : FuncId} (hok : callOk P f = true) (vals : Array Value) : (callFunc f vals).run P w = .ok (.enter f vals) w := by
  unfold callOk at hok
  split at hok
  · rename_i fn hfn
    simp only [Bool.and_eq_true, Bool.not_eq_true', beq_eq_false_iff_ne, ne_eq] at hok
    obtain ⟨h1, h2⟩ := hok
    have h2' : fn.body.isNone = false := by cases hb : fn.body <;> simp_all
    simp [callFunc, hfn, h1]
    intro hb; rw [hb] at h2; cases h2
  · simp at hok

theorem RelL.append {R : RP} {x y : Array Value} {a b : List AVal} (h : RelL R x a) (k : RelL R y b) : RelL R (x ++ y) (a ++ b) := by
  have h1 := h.1
  have k1 := k.1
  refine ⟨by simp [h1, k1], fun j hj => ?_⟩
  by_cases hlo : j < a.length
  · have e1 : (a ++ b).getD j .u = a.getD j .u := by rw [List.getD_eq_getElem?_getD, List.getElem?_append_left hlo, ← List.getD_eq_getElem?_getD]
    have e2 : (x ++ y).getD j undef = x.getD j undef := by rw [Array.getD_eq_getD_getElem?, Array.getElem?_append_left (by omega), ← Array.getD_eq_getD_getElem?]
    rw [e1, e2]; exact h.2 j hlo
  · have e1 : (a ++ b).getD j .u = b.getD (j - a.length) .u := by rw [List.getD_eq_getElem?_getD, List.getElem?_append_right (by omega), ← List.getD_eq_getElem?_getD]
    have e2 : (x ++ y).getD j undef = y.getD (j - a.length) undef := by rw [Array.getD_eq_getD_getElem?, Array.getElem?_append_right (by omega), ← Array.getD_eq_getD_getElem?, h1]
    rw [e1, e2]; exact k.2 _ (by rw [List.length_append] at hj; omega)

theorem Rel.inv_fn {R : RP} {v : Value} {f : FuncId} {cap : List AVal} (h : Rel R v (.fn f cap)) : ∃ vs, v = .func (.func f) #[] vs ∧ RelL R vs cap := by
  cases h with
  | fn f vs cs hn h => exact ⟨vs, rfl, hn, h⟩

/-- What an operation that is no call comes to. -/
theorem plain_of {l : LOp} {K : AVal → Heap → Prop} (h1 : ∀ mk f args, l ≠ .call mk f args) (h2 : ∀ mk f args, l ≠ .callv mk f args) (h : doOp P G e H l K) :
    (∃ v, evalP e l = some v ∧ K v H) ∨ ∃ v H', evalH e H l = some (v, H') ∧ K v H' := by
  have h' : (match evalP e l with
    | some v => K v H
    | none => match evalH e H l with
      | some (v, H') => K v H'
      | none => False) := by
    cases l <;> first | exact h | exact absurd rfl (h1 _ _ _) | exact absurd rfl (h2 _ _ _)
  split at h'
  · rename_i v hv; exact .inl ⟨v, hv, h'⟩
  · split at h'
    · rename_i v H' hv; exact .inr ⟨v, H', hv, h'⟩
    · exact h'.elim

theorem call_of {dr mk : Bool} {op : Op} {f : FuncId} {args : List LOpd} (hc : cOp P dr op = some (.call mk f args)) : ∃ c, op = .call c ∧ c.callee = .value (.func f) ∧ callOk P f = true ∧ cOpds c.args.toList = some args ∧ mk = !dr := by
  cases op <;> simp only [cOp, okb, reduceCtorEq] at hc
  case call c =>
    split at hc
    case h_8 =>
      rename_i f' hcal
      split at hc
      · rename_i hok
        obtain ⟨z, hz, hzz⟩ := Option.map_eq_some_iff.1 hc
        simp only [LOp.call.injEq] at hzz
        obtain ⟨rfl, rfl, rfl⟩ := hzz
        exact ⟨c, rfl, hcal, hok, hz, rfl⟩
      · simp at hc
    all_goals
      exfalso
      (try (repeat' split at hc)) <;> first
        | (simp at hc; done)
        | (simp [Option.map_eq_some_iff] at hc; done)
  all_goals
    exfalso
    (try (repeat' split at hc)) <;> first
      | (simp at hc; done)
      | (simp [Option.map_eq_some_iff] at hc; done)

theorem callv_of {dr mk : Bool} {op : Op} {fx : LOpd} {args : List LOpd} (hc : cOp P dr op = some (.callv mk fx args)) : ∃ c x, op = .call c ∧ c.callee = .value x ∧ cOpd x = some fx ∧ cOpds c.args.toList = some args ∧ mk = !dr := by
  cases op <;> simp only [cOp, okb, reduceCtorEq] at hc
  case call c =>
    split at hc
    case h_9 =>
      rename_i x _ hcal
      split at hc
      · rename_i x' as hx has
        simp only [Option.some.injEq, LOp.callv.injEq] at hc
        obtain ⟨rfl, rfl, rfl⟩ := hc
        exact ⟨c, x, rfl, hcal, hx, has, rfl⟩
      · simp at hc
    all_goals
      exfalso
      (try (repeat' split at hc)) <;> first
        | (simp at hc; done)
        | (simp [Option.map_eq_some_iff] at hc; done)
  all_goals
    exfalso
    (try (repeat' split at hc)) <;> first
      | (simp at hc; done)
      | (simp [Option.map_eq_some_iff] at hc; done)

/-- One operation, wanted. -/
theorem do_step {dr : Bool} {o : Oper} {l : LOp} {K : AVal → Heap → Prop} (hc : cOp P dr o.op = some l) (h : Inv G F0 B0 w0 β0 κ0 H0 nt a w e H β κ) (hd : ∀ d, o.dst = some d → d < nt) (hdo : doOp P G e H l K) :
    ∃ v H', K v H' ∧ (l.turns = false → H' = H) ∧ ∀ K' : Act → World → Prop, (∀ a' w' β' κ', Inv G F0 B0 w0 β0 κ0 H0 nt a' w' (e.set o.dst v) H' β' κ' → K' a' w') → o.wp P a w K' Q := by
  by_cases hcall : ∃ mk f args, l = .call mk f args
  · obtain ⟨mk, f, args, rfl⟩ := hcall
    obtain ⟨c, hop, hcal, hok, has, rfl⟩ := call_of hc
    obtain ⟨r, H', hK, hmk, hcalls⟩ := callK_sound h.adv.hs (opdsL h.rel has) hdo
    refine ⟨r, H', hK, hmk, fun K' hK' => call_wp (f := f) (vals := c.args.map a.eval) ?_ h hd hcalls hK'⟩
    simp [execOp, hop, resolve, hcal, Act.eval, Deferred.ofValue, invoke, enter_run hok]
  · by_cases hcallv : ∃ mk fx args, l = .callv mk fx args
    · obtain ⟨mk, fx, args, rfl⟩ := hcallv
      obtain ⟨c, x, hop, hcal, hx, has, rfl⟩ := callv_of hc
      simp only [doOp] at hdo
      split at hdo
      · rename_i f cap heq
        obtain ⟨hok, hdo⟩ := hdo
        have r1 := opd_sound h.rel hx
        rw [heq] at r1
        obtain ⟨vs, hv, hvs⟩ := r1.inv_fn
        obtain ⟨r, H', hK, hmk, hcalls⟩ := callK_sound h.adv.hs ((opdsL h.rel has).append hvs) hdo
        refine ⟨r, H', hK, hmk, fun K' hK' => call_wp (f := f) (vals := c.args.map a.eval ++ vs) ?_ h hd hcalls hK'⟩
        simp [execOp, hop, resolve, hcal, hv, Deferred.ofValue, invoke, enter_run hok]
      · exact hdo.elim
    · rcases plain_of (fun mk f args e => hcall ⟨mk, f, args, e⟩) (fun mk f args e => hcallv ⟨mk, f, args, e⟩) hdo with ⟨v, hv, hK⟩ | ⟨v, H', hv, hK⟩
      · exact ⟨v, H, hK, fun _ => rfl, fun K' hK' => (evalP_fine hc h.adv.hs h.rel hv).wp h hd hK'⟩
      · obtain ⟨hf, ht⟩ := evalH_fine hc h.adv.hs h.rel hv
        exact ⟨v, H', hK, ht, fun K' hK' => hf.wp h hd hK'⟩

theorem yielded_of {g d : Nat} {og : Oper} {t : Bool} (hg : ops[g]? = some og) (hd : og.dst = some d) {R : RP} (he : RelE R a e) (hb : e d = .b t) : yielded ops a.tmps g = some t := by
  have h1 := he d
  rw [hb] at h1
  have h2 := h1.inv_b
  have h3 : a.tmps[d]? = some (.bool t) := by
    rw [Array.getD_eq_getD_getElem?] at h2
    cases h4 : a.tmps[d]? with
    | none => rw [h4] at h2; simp [undef] at h2
    | some x => rw [h4] at h2; simp at h2; rw [h2]
  simp [yielded, hg, hd, h3]

theorem unyielded_of {g d : Nat} {og : Oper} {vs : List AVal} (hg : ops[g]? = some og) (hd : og.dst = some d) {R : RP} (he : RelE R a e) (hb : e d = .tup vs) : yielded ops a.tmps g = none := by
  have h1 := he d
  rw [hb] at h1
  obtain ⟨xs, h2, _⟩ := h1.inv_tup
  simp only [yielded, hg, hd, Option.bind_some]
  cases h4 : a.tmps[d]? with
  | none => rfl
  | some x =>
    rw [Array.getD_eq_getD_getElem?, h4] at h2
    simp at h2
    subst h2
    rfl

/-- One operation of a region. -/
theorem op_step {dr : Bool} {i : Nat} {o : Oper} {lo : LOper} {K : Env → Heap → Prop} (hi : ops[i]? = some o) (hc : cOper P dr nt ops o = some lo) (h : Inv G F0 B0 w0 β0 κ0 H0 nt a w e H β κ) (hwp : wpO P G lo e H K) :
    ∃ v H', K (e.set lo.dst v) H' ∧ (lo.op.turns = false → H' = H) ∧ ∀ K' : Act → World → Prop, (∀ a' w' β' κ', Inv G F0 B0 w0 β0 κ0 H0 nt a' w' (e.set lo.dst v) H' β' κ' → K' a' w') → wpOp P ops Q i K' a w := by
  have hparts : ∃ g l, cGuard ops o.guard = some g ∧ cOp P dr o.op = some l ∧ lo = { dst := o.dst, op := l, guard := g } ∧ ∀ d, o.dst = some d → d < nt := by
    unfold cOper at hc
    split at hc
    · rename_i g l hg hl
      split at hc
      · rename_i d hd
        split at hc
        · rename_i hlt
          simp only [Option.some.injEq] at hc
          exact ⟨g, l, hg, hl, by rw [hd]; exact hc.symm, fun d' hd' => by rw [hd] at hd'; cases hd'; exact hlt⟩
        · simp at hc
      · rename_i hd
        simp only [Option.some.injEq] at hc
        exact ⟨g, l, hg, hl, by rw [hd]; exact hc.symm, fun d' hd' => by rw [hd] at hd'; cases hd'⟩
    · simp at hc
  obtain ⟨g, l, hg, hl, rfl, hd⟩ := hparts
  unfold wpO at hwp
  simp only at hwp ⊢
  unfold cGuard at hg
  split at hg
  · rename_i hgn
    simp only [Option.some.injEq] at hg
    subst hg
    obtain ⟨v, H', h1, h2, h3⟩ := do_step (Q := Q) hl h hd hwp
    refine ⟨v, H', h1, h2, fun K' hK' => ?_⟩
    unfold wpOp
    simp only [hi]
    rw [if_pos (by simp [Region.wanted, hgn])]
    exact .inl (h3 K' hK')
  · rename_i g' t hgs
    split at hg
    · rename_i og hog
      split at hg
      · rename_i d hdst
        simp only [Option.some.injEq] at hg
        subst hg
        simp only at hwp
        split at hwp
        · rename_i t' hb
          have hy := yielded_of hog hdst h.rel hb
          split at hwp
          · rename_i htt
            obtain ⟨v, H', h1, h2, h3⟩ := do_step (Q := Q) hl h hd hwp
            refine ⟨v, H', h1, h2, fun K' hK' => ?_⟩
            unfold wpOp
            simp only [hi]
            rw [if_pos (by simp [Region.wanted, hgs, hy, htt])]
            exact .inl (h3 K' hK')
          · rename_i htt
            refine ⟨.tup [], H, hwp, fun _ => rfl, fun K' hK' => ?_⟩
            unfold wpOp
            simp only [hi]
            rw [if_neg (by simp [Region.wanted, hgs, hy, htt])]
            exact hK' _ _ _ _ (h.put (Adv.refl h.adv.hs) (.tup #[] [] rfl (fun j hj => by simp at hj)) hd)
        · rename_i vs hb
          have hy := unyielded_of hog hdst h.rel hb
          refine ⟨.tup [], H, hwp, fun _ => rfl, fun K' hK' => ?_⟩
          unfold wpOp
          simp only [hi]
          rw [if_neg (by simp [Region.wanted, hgs, hy])]
          exact hK' _ _ _ _ (h.put (Adv.refl h.adv.hs) (.tup #[] [] rfl (fun j hj => by simp at hj)) hd)
        · exact hwp.elim
      · simp at hg
    · simp at hg
end
end Go.Proofs.Ythpcjekmgohelaa.Ab

/- ABSTRACT RUNS, 21: regions. Two operations that do not stand in each other's way may change places. -/
namespace Go.Proofs.Ythpcjekmgohelaa.Ab
open Go Go.RowKit
set_option linter.unusedSimpArgs false
set_option linter.unusedVariables false

section
variable {P : Program} {G : GI} {e e' : Env} {H H' : Heap}

/-- What one operation does. -/
def Out (P : Program) (G : GI) (o : LOper) (e : Env) (H : Heap) (v : AVal) (H' : Heap) : Prop :=
  match o.guard with
  | none => doOp P G e H o.op fun v' H'' => v' = v ∧ H'' = H'
  | some (g, t) => match e g with
    | .b t' => if t' = t then doOp P G e H o.op fun v' H'' => v' = v ∧ H'' = H' else v = .tup [] ∧ H' = H
    | .tup _ => v = .tup [] ∧ H' = H
    | _ => False

theorem callK_split {mk : Bool} {f : FuncId} {args : List AVal} {K : AVal → Heap → Prop} : CallK P G mk f args H K ↔ ∃ v H', CallK P G mk f args H (fun v' H'' => v' = v ∧ H'' = H') ∧ K v H' := by
  constructor
  · rintro (⟨args', r, h1, h2, h3⟩ | ⟨h1, r, H', h2, h3⟩)
    · split at h3
      · rename_i hc
        exact ⟨r, H, .inl ⟨args', r, h1, h2, by rw [if_pos hc]; exact ⟨rfl, rfl⟩⟩, h3⟩
      · rename_i hc
        exact ⟨r, _, .inl ⟨args', r, h1, h2, by rw [if_neg hc]; exact ⟨h3.1, rfl, rfl⟩⟩, h3.2⟩
    · exact ⟨r, H', .inr ⟨h1, r, H', h2, rfl, rfl⟩, h3⟩
  · rintro ⟨v, H', h, hK⟩
    rcases h with ⟨args', r, h1, h2, h3⟩ | ⟨h1, r, H'', h2, rfl, rfl⟩
    · refine .inl ⟨args', r, h1, h2, ?_⟩
      split at h3
      · rename_i hc; obtain ⟨rfl, rfl⟩ := h3; rw [if_pos hc]; exact hK
      · rename_i hc; obtain ⟨hm, rfl, rfl⟩ := h3; rw [if_neg hc]; exact ⟨hm, hK⟩
    · exact .inr ⟨h1, _, _, h2, hK⟩

def plainOp (e : Env) (H : Heap) (l : LOp) (K : AVal → Heap → Prop) : Prop :=
  match evalP e l with
  | some v => K v H
  | none => match evalH e H l with
    | some (v, H') => K v H'
    | none => False

theorem doOp_plain {l : LOp} (h1 : ∀ mk f args, l ≠ .call mk f args) (h2 : ∀ mk f args, l ≠ .callv mk f args) (K : AVal → Heap → Prop) : doOp P G e H l K = plainOp e H l K := by
  cases l <;> first | rfl | exact absurd rfl (h1 _ _ _) | exact absurd rfl (h2 _ _ _)

theorem plainOp_split {l : LOp} {K : AVal → Heap → Prop} : plainOp e H l K ↔ ∃ v H', plainOp e H l (fun v' H'' => v' = v ∧ H'' = H') ∧ K v H' := by
  unfold plainOp
  cases evalP e l with
  | some v => exact ⟨fun h => ⟨v, H, ⟨rfl, rfl⟩, h⟩, fun ⟨v', H', ⟨h1, h2⟩, h⟩ => by subst h1; subst h2; exact h⟩
  | none =>
    cases evalH e H l with
    | some p => exact ⟨fun h => ⟨p.1, p.2, ⟨rfl, rfl⟩, h⟩, fun ⟨v', H', ⟨h1, h2⟩, h⟩ => by subst h1; subst h2; exact h⟩
    | none => exact ⟨fun h => h.elim, fun ⟨_, _, h, _⟩ => h.elim⟩

theorem doOp_split {l : LOp} {K : AVal → Heap → Prop} : doOp P G e H l K ↔ ∃ v H', doOp P G e H l (fun v' H'' => v' = v ∧ H'' = H') ∧ K v H' := by
  by_cases hcall : ∃ mk f args, l = .call mk f args
  · obtain ⟨mk, f, args, rfl⟩ := hcall
    exact callK_split
  · by_cases hcallv : ∃ mk fx args, l = .callv mk fx args
    · obtain ⟨mk, fx, args, rfl⟩ := hcallv
      simp only [doOp]
      split
      · rename_i f cap
        exact ⟨fun ⟨h1, h2⟩ => let ⟨v, H', h3, h4⟩ := callK_split.1 h2; ⟨v, H', ⟨h1, h3⟩, h4⟩, fun ⟨v, H', ⟨h1, h3⟩, h4⟩ => ⟨h1, callK_split.2 ⟨v, H', h3, h4⟩⟩⟩
      · exact ⟨fun h => h.elim, fun ⟨_, _, h, _⟩ => h.elim⟩
    · have h1 : ∀ mk f args, l ≠ .call mk f args := fun mk f args e => hcall ⟨mk, f, args, e⟩
      have h2 : ∀ mk f args, l ≠ .callv mk f args := fun mk f args e => hcallv ⟨mk, f, args, e⟩
      simp only [doOp_plain h1 h2]
      exact plainOp_split

theorem wpO_split {o : LOper} {K : Env → Heap → Prop} : wpO P G o e H K ↔ ∃ v H', Out P G o e H v H' ∧ K (e.set o.dst v) H' := by
  obtain ⟨d, l, g⟩ := o
  cases g with
  | none => exact doOp_split
  | some p =>
    obtain ⟨g, t⟩ := p
    by_cases hb : ∃ t', e g = .b t'
    · obtain ⟨t', hb⟩ := hb
      by_cases ht : t' = t
      · simp only [wpO, Out, hb, if_pos ht]; exact doOp_split
      · simp only [wpO, Out, hb, if_neg ht]
        exact ⟨fun h => ⟨.tup [], H, ⟨rfl, rfl⟩, h⟩, fun ⟨v, H', ⟨h1, h2⟩, h⟩ => by subst h1; subst h2; exact h⟩
    · by_cases hu : ∃ vs, e g = .tup vs
      · obtain ⟨vs, hu⟩ := hu
        simp only [wpO, Out, hu]
        exact ⟨fun h => ⟨.tup [], H, ⟨rfl, rfl⟩, h⟩, fun ⟨v, H', ⟨h1, h2⟩, h⟩ => by subst h1; subst h2; exact h⟩
      · have hw : ∀ K, ¬ wpO P G { dst := d, op := l, guard := some (g, t) } e H K := by
          intro K h
          simp only [wpO] at h
          split at h
          · rename_i t' hb'; exact hb ⟨t', hb'⟩
          · rename_i vs hb'; exact hu ⟨vs, hb'⟩
          · exact h
        have ho : ∀ v H', ¬ Out P G { dst := d, op := l, guard := some (g, t) } e H v H' := by
          intro v H' h
          simp only [Out] at h
          split at h
          · rename_i t' hb'; exact hb ⟨t', hb'⟩
          · rename_i vs hb'; exact hu ⟨vs, hb'⟩
          · exact h
        exact ⟨fun h => (hw _ h).elim, fun ⟨v, H', h, _⟩ => (ho _ _ h).elim⟩

/-! ### What an operation looks at -/
theorem ev_congr {x : LOpd} (h : ∀ t, tmpOf x = some t → e' t = e t) : x.ev e' = x.ev e := by
  cases x with
  | t n => exact h n rfl
  | c v => rfl
theorem map_ev_congr {xs : List LOpd} (h : ∀ x ∈ xs, ∀ t, tmpOf x = some t → e' t = e t) : xs.map (·.ev e') = xs.map (·.ev e) :=
  List.map_congr_left fun x hx => ev_congr (h x hx)

theorem pairs_congr {A : Type} {ps : List (A × LOpd)} (h : ∀ p ∈ ps, p.2.ev e' = p.2.ev e) : ps.map (fun (i, x) => (i, x.ev e')) = ps.map (fun (i, x) => (i, x.ev e)) :=
  List.map_congr_left fun p hp => by obtain ⟨i, x⟩ := p; simp only [h _ hp]
theorem trips_congr {ps : List (Nat × Nat × LOpd)} (h : ∀ p ∈ ps, p.2.2.ev e' = p.2.2.ev e) : ps.map (fun (o, n, x) => (o, n, x.ev e')) = ps.map (fun (o, n, x) => (o, n, x.ev e)) :=
  List.map_congr_left fun p hp => by obtain ⟨i, n, x⟩ := p; simp only [h _ hp]
theorem low_congr {lo : Option LOpd} (h : ∀ x ∈ lo.toList, x.ev e' = x.ev e) : lowOf e' lo = lowOf e lo := by
  cases lo with
  | none => rfl
  | some x => simp only [lowOf, h x (by simp)]
theorem high_congr {n : Nat} {hi : Option LOpd} (h : ∀ x ∈ hi.toList, x.ev e' = x.ev e) : highOf e' n hi = highOf e n hi := by
  cases hi with
  | none => rfl
  | some x => simp only [highOf, h x (by simp)]

theorem evalP_congr {l : LOp} (h : ∀ x ∈ l.opds, x.ev e' = x.ev e) : evalP e' l = evalP e l := by
  cases l
  case build z ps =>
    have : ps.map (fun (o, n, x) => (o, n, x.ev e')) = ps.map (fun (o, n, x) => (o, n, x.ev e)) := trips_congr fun p hp => h _ (List.mem_map.2 ⟨p, hp, rfl⟩)
    simp only [evalP]; rw [this]
  case bsl n z len ps =>
    have : ps.map (fun (i, x) => (i, x.ev e')) = ps.map (fun (i, x) => (i, x.ev e)) := pairs_congr fun p hp => h _ (List.mem_map.2 ⟨p, hp, rfl⟩)
    simp only [evalP]; rw [this]
  case slc x lo hi =>
    simp only [LOp.opds, List.mem_cons, List.mem_append] at h
    simp only [evalP, h x (.inl rfl), low_congr fun y hy => h y (.inr (.inl hy)), high_congr fun y hy => h y (.inr (.inr hy))]
  case sls n x lo hi =>
    simp only [LOp.opds, List.mem_cons, List.mem_append] at h
    simp only [evalP, h x (.inl rfl), low_congr fun y hy => h y (.inr (.inl hy)), high_congr fun y hy => h y (.inr (.inr hy))]
  case mkf f xs =>
    have h' : xs.map (fun x => x.ev e') = xs.map (fun x => x.ev e) := List.map_congr_left h
    simp only [evalP]; rw [h']
  case mx xs =>
    have h' : xs.map (fun x => x.ev e') = xs.map (fun x => x.ev e) := List.map_congr_left h
    simp only [evalP]; rw [h']
  case mn xs =>
    have h' : xs.map (fun x => x.ev e') = xs.map (fun x => x.ev e) := List.map_congr_left h
    simp only [evalP]; rw [h']
  all_goals (first | rfl | (simp [LOp.opds] at h; simp [evalP, h]; done))

theorem evalH_congr {l : LOp} (h : ∀ x ∈ l.opds, x.ev e' = x.ev e) : evalH e' H l = evalH e H l := by
  cases l
  all_goals (first | rfl | (simp [LOp.opds] at h; simp [evalH, h]; done))

theorem doOp_congr {l : LOp} {K : AVal → Heap → Prop} (h : ∀ x ∈ l.opds, x.ev e' = x.ev e) : doOp P G e' H l K = doOp P G e H l K := by
  cases l
  case call mk f args =>
    have h' : args.map (fun x => x.ev e') = args.map (fun x => x.ev e) := List.map_congr_left h
    simp only [doOp]; rw [h']
  case callv mk fx args =>
    simp only [LOp.opds, List.mem_cons] at h
    have h' : args.map (fun x => x.ev e') = args.map (fun x => x.ev e) := List.map_congr_left fun x hx => h x (.inr hx)
    simp only [doOp, h fx (.inl rfl)]; rw [h']
  all_goals simp only [doOp, evalP_congr h, evalH_congr h]

theorem Out_congr {o : LOper} {v : AVal} (h : ∀ t, o.uses t = true → e' t = e t) (ho : Out P G o e H v H') : Out P G o e' H v H' := by
  have h1 : ∀ x ∈ o.op.opds, x.ev e' = x.ev e := fun x hx => ev_congr fun t ht => h t (by
    unfold LOper.uses
    rw [Bool.or_eq_true]
    exact .inl (List.any_eq_true.2 ⟨x, hx, by simp [ht]⟩))
  unfold Out at ho ⊢
  split
  · rename_i hg
    rw [hg] at ho
    rw [doOp_congr h1]; exact ho
  · rename_i g t hg
    rw [hg] at ho
    have hgt : e' g = e g := h g (by unfold LOper.uses; rw [hg]; simp)
    rw [hgt]
    simp only at ho ⊢
    simp only [doOp_congr h1]
    exact ho

/-! ### The heap -/
mutual
theorem thaw_box (z : List AVal) : ∀ v : AVal, thaw (H ++ [.box z]) v = thaw H v
  | .u => by simp [thaw]
  | .b _ => by simp [thaw]
  | .i _ _ => by simp [thaw]
  | .s _ => by simp [thaw]
  | .agg cs => by simp only [thaw]; rw [thawL_box z cs]
  | .tup cs => by simp only [thaw]; rw [thawL_box z cs]
  | .sl rows => by simp only [thaw]; rw [thawLL_box z rows]
  | .nilS => by simp [thaw]
  | .row k len => by
    simp only [thaw]
    by_cases hk : k < H.length
    · rw [List.getElem?_append_left hk]
    · have h1 : H[k]? = none := List.getElem?_eq_none (by omega)
      rw [h1]
      rcases Nat.lt_or_ge k (H ++ [AObj.box z]).length with h2 | h2
      · have : k = H.length := by simp at h2; omega
        subst this; simp
      · rw [List.getElem?_eq_none h2]
  | .ptr _ _ => by simp [thaw]
  | .eptr _ _ _ _ => by simp [thaw]
  | .cptr _ _ => by simp [thaw]
  | .mp _ => by simp [thaw]
  | .nilM => by simp [thaw]
  | .fn _ cap => by simp only [thaw]; rw [thawL_box z cap]
  | .nilF => by simp [thaw]
  | .nilP => by simp [thaw]
  | .nilI => by simp [thaw]
  | .ifc _ v => by simp only [thaw]; rw [thaw_box z v]
theorem thawL_box (z : List AVal) : ∀ vs : List AVal, thawL (H ++ [.box z]) vs = thawL H vs
  | [] => by simp [thawL]
  | v :: vs => by simp only [thawL]; rw [thaw_box z v, thawL_box z vs]
theorem thawLL_box (z : List AVal) : ∀ vs : List (List AVal), thawLL (H ++ [.box z]) vs = thawLL H vs
  | [] => by simp [thawLL]
  | v :: vs => by simp only [thawLL]; rw [thawL_box z v, thawLL_box z vs]
end

theorem frz_box (z : List AVal) (v : AVal) : frz (H ++ [.box z]) v = frz H v := by
  unfold frz; simp only [thaw_box]
theorem frzAll_box (z : List AVal) : ∀ vs : List AVal, frzAll (H ++ [.box z]) vs = frzAll H vs
  | [] => rfl
  | v :: vs => by simp only [frzAll, frz_box, frzAll_box z vs]

theorem get_box (z : List AVal) {id : Nat} {o : AObj} (h : H[id]? = some o) : (H ++ [AObj.box z])[id]? = some o := by
  rw [List.getElem?_append_left (List.getElem?_eq_some_iff.1 h).1]; exact h

theorem callK_box (z : List AVal) {f : FuncId} {args : List AVal} {v : AVal} (h : CallK P G false f args H (fun v' H'' => v' = v ∧ H'' = H')) :
    H' = H ∧ CallK P G false f args (H ++ [.box z]) (fun v' H'' => v' = v ∧ H'' = H ++ [.box z]) := by
  rcases h with ⟨args', r, h1, h2, h3⟩ | ⟨h1, _⟩
  · split at h3
    · rename_i hc
      obtain ⟨rfl, rfl⟩ := h3
      exact ⟨rfl, .inl ⟨args', _, by rw [frzAll_box]; exact h1, h2, by rw [if_pos hc]; exact ⟨rfl, rfl⟩⟩⟩
    · cases h3.1
  · cases h1

theorem doOp_box (z : List AVal) {l : LOp} {v : AVal} (ht : l.turns = false) (h : doOp P G e H l (fun v' H'' => v' = v ∧ H'' = H')) :
    H' = H ∧ doOp P G e (H ++ [.box z]) l (fun v' H'' => v' = v ∧ H'' = H ++ [.box z]) := by
  by_cases hcall : ∃ mk f args, l = .call mk f args
  · obtain ⟨mk, f, args, rfl⟩ := hcall
    simp only [LOp.turns] at ht
    subst ht
    exact callK_box z h
  · by_cases hcallv : ∃ mk fx args, l = .callv mk fx args
    · obtain ⟨mk, fx, args, rfl⟩ := hcallv
      simp only [LOp.turns] at ht
      subst ht
      simp only [doOp] at h ⊢
      split at h
      · rename_i f cap heq
        obtain ⟨h1, h2⟩ := callK_box z h.2
        exact ⟨h1, h.1, h2⟩
      · exact h.elim
    · have h1 : ∀ mk f args, l ≠ .call mk f args := fun mk f args e => hcall ⟨mk, f, args, e⟩
      have h2 : ∀ mk f args, l ≠ .callv mk f args := fun mk f args e => hcallv ⟨mk, f, args, e⟩
      have conv : ∀ (H2 : Heap) (v2 : AVal) (H3 : Heap), (evalP e l = some v2 ∧ H3 = H2) ∨ (evalP e l = none ∧ evalH e H2 l = some (v2, H3)) → doOp P G e H2 l (fun v' H'' => v' = v2 ∧ H'' = H3) := by
        intro H2 v2 H3 hh
        rw [doOp_plain h1 h2]
        unfold plainOp
        rcases hh with ⟨q1, q2⟩ | ⟨q1, q2⟩
        · rw [q1]; exact ⟨rfl, q2.symm⟩
        · rw [q1, q2]; exact ⟨rfl, rfl⟩
      have h' := h
      rw [doOp_plain h1 h2] at h'
      unfold plainOp at h'
      split at h'
      · rename_i v' hv
        obtain ⟨rfl, rfl⟩ := h'
        exact ⟨rfl, conv _ _ _ (.inl ⟨hv, rfl⟩)⟩
      · rename_i hnone
        split at h'
        · rename_i v' H'' hv
          obtain ⟨rfl, rfl⟩ := h'
          have key : H'' = H ∧ evalH e (H ++ [.box z]) l = some (v', H ++ [.box z]) := by
            cases l <;> simp only [LOp.turns, reduceCtorEq] at ht <;> simp only [evalH, reduceCtorEq] at hv
            case load n ag p =>
              split at hv
              · rename_i cs o heq
                obtain ⟨x, h5, h6⟩ := Option.map_eq_some_iff.1 hv
                simp only [Prod.mk.injEq] at h6; obtain ⟨rfl, rfl⟩ := h6
                exact ⟨rfl, by simp [evalH, heq, h5]⟩
              · rename_i id o heq
                split at hv
                · rename_i cs hob
                  obtain ⟨x, h5, h6⟩ := Option.map_eq_some_iff.1 hv
                  simp only [Prod.mk.injEq] at h6; obtain ⟨rfl, rfl⟩ := h6
                  exact ⟨rfl, by simp only [evalH, heq, get_box z hob]; simp [h5]⟩
                · simp at hv
              · rename_i id esz i o heq
                split at hv
                · rename_i esz' rows fz hob
                  split at hv
                  · rename_i hc
                    split at hv
                    · rename_i r hr
                      obtain ⟨x, h5, h6⟩ := Option.map_eq_some_iff.1 hv
                      simp only [Prod.mk.injEq] at h6; obtain ⟨rfl, rfl⟩ := h6
                      exact ⟨rfl, by simp only [evalH, heq, get_box z hob, if_pos hc, hr]; simp [h5]⟩
                    · simp at hv
                  · simp at hv
                · simp at hv
              · simp at hv
            case lkp kk zero ok m k =>
              split at hv
              · rename_i id heq
                split at hv
                · rename_i es hob
                  split at hv
                  · rename_i x hf
                    simp only [Option.some.injEq, Prod.mk.injEq] at hv; obtain ⟨rfl, rfl⟩ := hv
                    exact ⟨rfl, by simp only [evalH, heq, get_box z hob, hf]⟩
                  · rename_i hf
                    simp only [Option.some.injEq, Prod.mk.injEq] at hv; obtain ⟨rfl, rfl⟩ := hv
                    exact ⟨rfl, by simp only [evalH, heq, get_box z hob, hf]⟩
                  · simp at hv
                · simp at hv
              · simp at hv
            case lenm m =>
              split at hv
              · rename_i id heq
                split at hv
                · rename_i es hob
                  simp only [Option.some.injEq, Prod.mk.injEq] at hv; obtain ⟨rfl, rfl⟩ := hv
                  exact ⟨rfl, by simp only [evalH, heq, get_box z hob]⟩
                · simp at hv
              · rename_i heq
                simp only [Option.some.injEq, Prod.mk.injEq] at hv; obtain ⟨rfl, rfl⟩ := hv
                exact ⟨rfl, by simp only [evalH, heq]⟩
              · simp at hv
          obtain ⟨rfl, hk⟩ := key
          exact ⟨rfl, conv _ _ _ (.inr ⟨hnone, hk⟩)⟩
        · exact h'.elim
end
end Go.Proofs.Ythpcjekmgohelaa.Ab
