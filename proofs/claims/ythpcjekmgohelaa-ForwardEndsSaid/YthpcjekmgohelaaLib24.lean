/- PLAIN LAWS, 2: where all have what they should, costs fall along the ways of a graph. No program in sight. -/
import Derived.Test.YthpcjekmgohelaaLib22
import Derived.Test.YthpcjekmgohelaaLib23
set_option linter.unusedVariables false
set_option linter.unusedSimpArgs false
namespace Go.Proofs.Ythpcjekmgohelaa.Ab
open Go Go.Proofs
set_option linter.unusedVariables false
set_option linter.unusedSectionVars false
set_option linter.unusedSimpArgs false

theorem do_cost (cs : List Cla) (to : Pfx) (a : Attr) (h0 : 0 ≤ a.cost) (h1 : a.cost ≤ 2000000000000) : 0 ≤ (doM cs to a).cost ∧ (doM cs to a).cost ≤ a.cost + 15 ∧ ((doM cs to a).ok = true → a.ok = true ∧ a.cost ≤ (doM cs to a).cost) := by
  unfold doM
  cases hok : a.ok with
  | false => exact ⟨Int.le_refl _, by show (0 : Int) ≤ _; omega, fun h => by cases h⟩
  | true =>
    simp only [Bool.not_true, cond_false]
    cases cs.find? (fun c => c.matches to a.tags) with
    | none => exact ⟨h0, by show a.cost ≤ _; omega, fun _ => ⟨by first | trivial | exact hok, Int.le_refl _⟩⟩
    | some c =>
      simp only [Cla.act]
      cases c.drop with
      | true => exact ⟨Int.le_refl _, by show (0 : Int) ≤ _; omega, fun h => by cases h⟩
      | false =>
        have hw : IntKind.i64.wrap (a.cost + (if (if 15 < c.more then 15 else c.more) > 0 then (if 15 < c.more then 15 else c.more) else 0)) = a.cost + (if (if 15 < c.more then 15 else c.more) > 0 then (if 15 < c.more then 15 else c.more) else 0) := by
          apply w64 <;> split <;> split <;> omega
        simp only [cond_false, hw]
        refine ⟨?_, ?_, fun _ => ⟨by first | trivial | exact hok, ?_⟩⟩ <;> split <;> (try split) <;> omega
theorem take_cost (e : Edg) (a : Attr) (h0 : 0 ≤ a.cost) (h1 : a.cost ≤ 1000000000000) : 0 ≤ (take e a).cost ∧ (take e a).cost ≤ a.cost + 1030 ∧ ((take e a).ok = true → a.ok = true ∧ a.cost + 1 ≤ (take e a).cost) := by
  obtain ⟨d1, d2, d3⟩ := do_cost e.exp Pfx.zero a h0 (by omega)
  unfold take
  cases hd : (doM e.exp Pfx.zero a).ok with
  | false => exact ⟨Int.le_refl _, by show (0 : Int) ≤ _; omega, fun h => by cases h⟩
  | true =>
    obtain ⟨d4, d5⟩ := d3 hd
    simp only [Bool.not_true, cond_false]
    generalize doM e.exp Pfx.zero a = b at *
    have hw : IntKind.i64.wrap (b.cost + (if (if 1000 < e.cost then 1000 else e.cost) > 1 then (if 1000 < e.cost then 1000 else e.cost) else 1)) = b.cost + (if (if 1000 < e.cost then 1000 else e.cost) > 1 then (if 1000 < e.cost then 1000 else e.cost) else 1) := by
      apply w64 <;> split <;> (try split) <;> omega
    have hx : 1 ≤ (if (if 1000 < e.cost then 1000 else e.cost) > 1 then (if 1000 < e.cost then 1000 else e.cost) else 1) ∧ (if (if 1000 < e.cost then 1000 else e.cost) > 1 then (if 1000 < e.cost then 1000 else e.cost) else 1) ≤ 1000 := by
      constructor <;> split <;> (try split) <;> omega
    rw [hw]
    generalize (if (if 1000 < e.cost then 1000 else e.cost) > 1 then (if 1000 < e.cost then 1000 else e.cost) else 1) = x at hx
    obtain ⟨g1, g2, g3⟩ := do_cost e.imp Pfx.zero { b with cost := b.cost + x, pref := 100 } (by show 0 ≤ b.cost + x; omega) (by show b.cost + x ≤ _; omega)
    refine ⟨g1, ?_, fun h => ⟨d4, ?_⟩⟩
    · have : (doM e.imp Pfx.zero { b with cost := b.cost + x, pref := 100 }).cost ≤ b.cost + x + 15 := g2
      omega
    · have : b.cost + x ≤ (doM e.imp Pfx.zero { b with cost := b.cost + x, pref := 100 }).cost := (g3 h).2
      omega
theorem attr_at {C : Int} {L : List Attr} (hC : 0 ≤ C) (h : ∀ a ∈ L, 0 ≤ a.cost ∧ a.cost ≤ C) (k : Nat) : 0 ≤ (L.getD k Attr.zero).cost ∧ (L.getD k Attr.zero).cost ≤ C := by
  by_cases e : k < L.length
  · rw [getD_of e]; exact h _ (List.getElem_mem e)
  · rw [List.getD_eq_getElem?_getD, List.getElem?_eq_none (by omega)]; exact ⟨Int.le_refl _, hC⟩
theorem offer_cost {C : Int} {L : List Attr} (hC : 0 ≤ C) (hC2 : C ≤ 1000000000000) (h : ∀ a ∈ L, 0 ≤ a.cost ∧ a.cost ≤ C) (e : Edg) : 0 ≤ (offerOf L e).cost ∧ (offerOf L e).cost ≤ C + 1030 ∧ ((offerOf L e).ok = true → 0 ≤ e.from_ ∧ e.from_ < L.length ∧ (L.getD e.from_.toNat Attr.zero).ok = true ∧ (L.getD e.from_.toNat Attr.zero).cost + 1 ≤ (offerOf L e).cost) := by
  unfold offerOf
  by_cases hr : 0 ≤ e.from_ ∧ e.from_ < L.length
  · rw [if_pos hr]
    obtain ⟨a1, a2⟩ := attr_at hC h e.from_.toNat
    obtain ⟨t1, t2, t3⟩ := take_cost e (L.getD e.from_.toNat Attr.zero) a1 (by omega)
    exact ⟨t1, by omega, fun hk => ⟨hr.1, hr.2, t3 hk⟩⟩
  · rw [if_neg hr]
    exact ⟨Int.le_refl _, by show (0 : Int) ≤ _; omega, fun hk => by cases hk⟩
theorem best_mem : ∀ (os : List Attr) (acc : Attr), os.foldl bestStep acc = acc ∨ os.foldl bestStep acc ∈ os
  | [], acc => .inl rfl
  | o :: os, acc => by
    rw [List.foldl_cons]
    rcases best_mem os (bestStep acc o) with h | h
    · rw [h]
      unfold bestStep
      cases o.better acc with
      | true => exact .inr (.head _)
      | false => exact .inl rfl
    · exact .inr (.tail _ h)
theorem choice_cost {C : Int} {n : Netw} {L : List Attr} (hC : 0 ≤ C) (hC2 : C ≤ 1000000000000) (h : ∀ a ∈ L, 0 ≤ a.cost ∧ a.cost ≤ C) (k : Int) : 0 ≤ (choiceM n L k).cost ∧ (choiceM n L k).cost ≤ C + 1030 := by
  unfold choiceM
  cases fixedM n k with
  | true => exact ⟨Int.le_refl _, by show (0 : Int) ≤ _; omega⟩
  | false =>
    show 0 ≤ (bestM (offersM n L k)).cost ∧ (bestM (offersM n L k)).cost ≤ _
    unfold bestM
    rcases best_mem (offersM n L k) Attr.zero with e | e
    · rw [e]; exact ⟨Int.le_refl _, by show (0 : Int) ≤ _; omega⟩
    · unfold offersM at e ⊢
      split at e
      · rename_i hr
        rw [if_pos hr]
        obtain ⟨x, hx, he⟩ := List.mem_map.1 e
        rw [← he]
        have := offer_cost hC hC2 h x
        exact ⟨this.1, this.2.1⟩
      · simp at e
theorem same_ok {a b : Attr} (h : a.same b = true) (hk : b.ok = true ∨ a.ok = true) : a = b := by
  obtain ⟨o1, p1, c1, t1⟩ := a
  obtain ⟨o2, p2, c2, t2⟩ := b
  unfold Attr.same at h
  simp only [Bool.or_eq_true, Bool.and_eq_true, beq_iff_eq, Bool.not_eq_true'] at h hk
  rcases h with ⟨h1, h2⟩ | ⟨h1, h2, h3, h4, _⟩
  · rcases hk with hk | hk
    · rw [hk] at h2; cases h2
    · rw [hk] at h1; cases h1
  · subst h1; subst h2; subst h3; subst h4; rfl
theorem same_self (a : Attr) : a.same a = true := by simp [Attr.same]

/-- A network without ways that are told beforehand, where all have what they should. -/
structure Ends (n : Netw) (L : List Attr) : Prop where
  len : L.length = n.origin.length
  elen : n.edges.length = n.origin.length
  static : ∀ x ∈ n.static, x < 0
  is : isM n L = true
  cost : ∀ a ∈ L, 0 ≤ a.cost ∧ a.cost ≤ 1000000000000

section
variable {n : Netw} {L : List Attr} (he : Ends n L)
include he
theorem Ends.no (k : Nat) : ¬ (k < n.static.length ∧ 0 ≤ n.static.getD k 0) := by
  rintro ⟨h1, h2⟩
  rw [getD_of h1] at h2
  have := he.static _ (List.getElem_mem h1)
  omega
theorem Ends.at {k : Nat} (hk : k < n.origin.length) : (L.getD k Attr.zero).same (choiceM n L k) = true := by
  have h := he.is
  unfold isM at h
  simp only [Bool.and_eq_true, List.all_eq_true, List.mem_range] at h
  exact h.2 k (by rw [he.len]; exact hk)
theorem Ends.origin {k : Nat} (hk : k < n.origin.length) (ho : n.origin.getD k false = true) : (L.getD k Attr.zero).ok = true := by
  have h := he.at hk
  have hf : fixedM n (k : Nat) = true := by
    unfold fixedM
    simp only [Int.toNat_natCast, ho, Bool.true_or, Bool.and_true, decide_eq_true_eq]
    omega
  unfold choiceM at h
  rw [hf] at h
  have := same_ok h (.inl rfl)
  rw [this]; rfl
theorem ends_row {k : Nat} (hk : k < n.origin.length) : (ofM n L).getD k [] = ofRow n L k := by
  rw [getD_of (by rw [ofM_len]; exact hk)]; simp [ofM]
theorem Ends.edge {k : Nat} {x : Int} (hk : k < n.origin.length) (hx : x ∈ (ofM n L).getD k []) : 0 ≤ x ∧ x.toNat < n.origin.length ∧ (L.getD k Attr.zero).ok = true ∧ (L.getD x.toNat Attr.zero).ok = true ∧ (L.getD x.toNat Attr.zero).cost + 1 ≤ (L.getD k Attr.zero).cost := by
  rw [ends_row he hk] at hx
  unfold ofRow at hx
  split at hx
  · simp at hx
  rw [if_neg (he.no k)] at hx
  split at hx
  · rename_i h1 h2
    obtain ⟨e, hf, rfl⟩ := List.mem_map.1 hx
    have hs := (List.mem_filter.1 hf).2
    have hq := same_ok hs (.inl h2.2)
    obtain ⟨_, _, o⟩ := offer_cost (by decide) (Int.le_refl _) he.cost e
    rw [hq] at o
    obtain ⟨o1, o2, o3, o4⟩ := o h2.2
    have := he.len
    exact ⟨o1, by omega, h2.2, o3, o4⟩
  · simp at hx
theorem Ends.some {k : Nat} (hk : k < n.origin.length) (ho : ¬ n.origin.getD k false = true) (hok : (L.getD k Attr.zero).ok = true) : ∃ x, x ∈ (ofM n L).getD k [] := by
  have h := he.at hk
  have hf : fixedM n (k : Nat) = false := by
    unfold fixedM
    have h1 := he.no k
    simp only [Int.toNat_natCast, Bool.not_eq_true] at ho ⊢
    rw [ho]
    simp only [Bool.false_or, Bool.and_eq_false_iff, decide_eq_false_iff_not]
    right
    by_cases e : k < n.static.length
    · exact .inr fun h => h1 ⟨e, h⟩
    · exact .inl (by omega)
  unfold choiceM at h
  rw [hf, cond_false] at h
  have hq := same_ok h (.inr hok)
  have hb : bestM (offersM n L k) ∈ offersM n L k := by
    rcases best_mem (offersM n L k) Attr.zero with e | e
    · rw [hq] at hok
      unfold bestM at hok
      rw [e] at hok; cases hok
    · exact e
  have hM : offersM n L (k : Nat) = (n.edges.getD k []).map (offerOf L) := by
    have := he.elen
    unfold offersM; rw [if_pos ⟨by omega, by omega⟩, Int.toNat_natCast]
  rw [hM] at hb hq
  obtain ⟨e, hem, heq⟩ := List.mem_map.1 hb
  refine ⟨e.from_, ?_⟩
  rw [ends_row he hk]
  unfold ofRow
  rw [if_neg ho, if_neg (he.no k), if_pos ⟨by rw [he.len]; exact hk, hok⟩]
  refine List.mem_map.2 ⟨e, List.mem_filter.2 ⟨hem, ?_⟩, rfl⟩
  rw [heq, ← hq]; exact same_self _
theorem Ends.now_ok : ∀ (j k : Nat), k < n.origin.length → (nowM (ofM n L) n.origin j).getD k false = true → (L.getD k Attr.zero).ok = true
  | 0, k, hk, h => by
    refine he.origin hk ?_
    have h2 : (startL n.origin (ofM n L).length).getD k false = true := h
    unfold startL at h2
    rw [ofM_len, Nat.sub_self, List.replicate_zero, List.append_nil, List.take_length] at h2
    exact h2
  | j + 1, k, hk, h => by
    obtain ⟨x, hx, _⟩ := stepM_true.1 (show (stepM (ofM n L) (nowM (ofM n L) n.origin j)).getD k false = true from h)
    exact (he.edge hk hx).2.2.1
theorem Ends.ok_now : ∀ (c : Nat) (k : Nat), k < n.origin.length → (L.getD k Attr.zero).ok = true → (L.getD k Attr.zero).cost < c → ∃ j, (nowM (ofM n L) n.origin j).getD k false = true
  | 0, k, hk, hok, hc => by
    have := (attr_at (by decide) he.cost k).1
    omega
  | c + 1, k, hk, hok, hc => by
    by_cases ho : n.origin.getD k false = true
    · refine ⟨0, ?_⟩
      show (startL n.origin (ofM n L).length).getD k false = true
      unfold startL
      rw [ofM_len, Nat.sub_self, List.replicate_zero, List.append_nil, List.take_length]
      exact ho
    · obtain ⟨x, hx⟩ := he.some hk ho hok
      obtain ⟨h0, h1, _, h3, h4⟩ := he.edge hk hx
      obtain ⟨j, hj⟩ := Ends.ok_now c x.toNat h1 h3 (by omega)
      exact ⟨j + 1, stepM_true.2 ⟨x, hx, h0, hj⟩⟩
theorem Ends.reach {k : Nat} (hk : k < n.origin.length) : (reachM (ofM n L) n.origin (ofM n L).length).getD k false = (L.getD k Attr.zero).ok := by
  have hg : k < (ofM n L).length := by rw [ofM_len]; exact hk
  rw [Bool.eq_iff_iff, reach_now]
  constructor
  · rintro ⟨j, _, h⟩; exact he.now_ok j k hk h
  · intro h
    obtain ⟨j, hj⟩ := he.ok_now ((L.getD k Attr.zero).cost + 1).toNat k hk h (by have := (attr_at (by decide) he.cost k).1; omega)
    obtain ⟨i, hi, h⟩ := now_few hg hj
    exact ⟨i, by omega, h⟩
theorem Ends.loop_cost : ∀ (m k : Nat), k < n.origin.length → (loopsM (ofM n L) m).getD k false = true → (m : Int) ≤ (L.getD k Attr.zero).cost
  | 0, k, hk, h => by have := (attr_at (by decide) he.cost k).1; omega
  | m + 1, k, hk, h => by
    obtain ⟨x, hx, h0, h2⟩ := stepM_true.1 (show (stepM (ofM n L) (loopsM (ofM n L) m)).getD k false = true from h)
    obtain ⟨_, h1, _, _, h4⟩ := he.edge hk hx
    have := Ends.loop_cost m x.toNat h1 h2
    omega
end
theorem loops_fall (g : List (List Int)) : ∀ m k, (loopsM g (m + 1)).getD k false = true → (loopsM g m).getD k false = true
  | 0, k, h => by
    have hk : k < g.length := by
      by_cases e : k < g.length
      · exact e
      · rw [getB_none (by rw [loopsM_len]; exact e)] at h; cases h
    rw [getD_of (by rw [loopsM_len]; exact hk)]; simp [loopsM]
  | m + 1, k, h => by
    obtain ⟨x, hx, h0, h2⟩ := stepM_true.1 (show (stepM g (loopsM g (m + 1))).getD k false = true from h)
    exact stepM_true.2 ⟨x, hx, h0, loops_fall g m _ h2⟩
theorem loops_or (g : List (List Int)) (m : Nat) : List.zipWith (· || ·) (loopsM g (m + 1)) (loopsM g m) = loopsM g m := by
  refine List.ext_getElem (by rw [List.length_zipWith, loopsM_len, loopsM_len, Nat.min_self]) fun i h1 h2 => ?_
  have hl : i < (loopsM g (m + 1)).length := by rw [loopsM_len] at h2 ⊢; exact h2
  rw [List.getElem_zipWith]
  have hf := loops_fall g m i
  rw [getD_of hl, getD_of h2] at hf
  cases e : (loopsM g (m + 1))[i] with
  | false => rfl
  | true => rw [hf e]; rfl
theorem loops_same {g : List (List Int)} {i : Nat} (h : loopsM g (i + 1) = loopsM g i) : ∀ d, loopsM g (i + d) = loopsM g i
  | 0 => rfl
  | d + 1 => by
    have h1 : loopsM g (i + d + 1) = stepM g (loopsM g (i + d)) := rfl
    rw [loops_same h d] at h1
    exact h1.trans h
theorem loops_chain (g : List (List Int)) : ∀ m, (∃ i, i < m ∧ loopsM g (i + 1) = loopsM g i) ∨ (loopsM g m).count true + m ≤ g.length
  | 0 => .inr (by have := List.count_le_length (a := true) (l := loopsM g 0); rw [loopsM_len] at this; omega)
  | m + 1 => by
    rcases loops_chain g m with ⟨i, hi, h⟩ | h
    · exact .inl ⟨i, by omega, h⟩
    · rcases count_or (loopsM g (m + 1)) (loopsM g m) (by rw [loopsM_len, loopsM_len]) with h1 | h1
      · rw [loops_or] at h1; exact .inl ⟨m, by omega, h1.symm⟩
      · rw [loops_or] at h1; exact .inr (by omega)
theorem Ends.loops {n : Netw} {L : List Attr} (he : Ends n L) {k : Nat} (hk : k < n.origin.length) : (loopsM (ofM n L) (ofM n L).length).getD k false = false := by
  rw [Bool.eq_false_iff]
  intro h
  rcases loops_chain (ofM n L) (ofM n L).length with ⟨i, hi, hs⟩ | h1
  · have e1 := loops_same hs ((ofM n L).length - i)
    rw [show i + ((ofM n L).length - i) = (ofM n L).length by omega] at e1
    rw [e1, ← loops_same hs ((L.getD k Attr.zero).cost + 1).toNat] at h
    have := he.loop_cost _ k hk h
    have := (attr_at (by decide) he.cost k).1
    omega
  · have h0 : (loopsM (ofM n L) (ofM n L).length).count true = 0 := by omega
    have hl : k < (loopsM (ofM n L) (ofM n L).length).length := by rw [loopsM_len, ofM_len]; exact hk
    rw [getD_of hl] at h
    have := List.count_pos_iff.2 (h ▸ List.getElem_mem hl : true ∈ loopsM (ofM n L) (ofM n L).length)
    omega
theorem net_static (s : Shp) (hw : s.ways = []) (to : Pfx) : ∀ x ∈ (netM (confM s) to).static, x < 0 := by
  intro x hx
  obtain ⟨r, hr, rfl⟩ := List.mem_map.1 hx
  obtain ⟨k, _, rfl⟩ := conf_rou hr
  have h0 : number s.ways (k : Int) = 0 := by rw [hw]; rfl
  have h1 : (rouK s s.n k).statics = [] := by
    show staK s s.n k = []
    unfold staK
    rw [if_neg]
    rintro ⟨h, _⟩
    rw [h0] at h
    exact absurd h (by decide)
  unfold staticK
  rw [h1, show staticM to [] = ([], -1) from rfl]
  exact (by decide : (-1 : Int) < 0)
theorem step_cost {C : Int} {n : Netw} {K : List Attr} (hC : 0 ≤ C) (hC2 : C ≤ 1000000000000) (h : ∀ a ∈ K, 0 ≤ a.cost ∧ a.cost ≤ C) (k : Nat) : ∀ a ∈ K.set k (choiceM n K (k : Int)), 0 ≤ a.cost ∧ a.cost ≤ C + 1030 := by
  intro a ha
  rcases List.mem_or_eq_of_mem_set ha with ha | rfl
  · have := h a ha; omega
  · exact choice_cost hC hC2 h _
end Go.Proofs.Ythpcjekmgohelaa.Ab

/- FUNCTIONS, 32: ForwardEnds. -/
namespace Go.Proofs.Ythpcjekmgohelaa.Ab
open Go Go.Proofs
set_option linter.unusedVariables false
set_option linter.unusedSimpArgs false

section
variable {P : Program} {G : GI} {m0 : Nat} {E : Slots} {H : Heap} {Q : AExit → Slots → Heap → Prop}
theorem t_cut1 {x y : LCode} (I : Slots → Heap → Prop) (hx : Trip P G m0 x E H (andThen (fun E' H' => ∃ E'' H'', Move m0 E' H' E'' H'' ∧ I E'' H'') Q)) (hy : ∀ E H, I E H → Trip P G m0 y E H Q) : Trip P G m0 x E H (andThen (fun E' H' => Trip P G m0 y E' H' Q) Q) := by
  refine t_mono hx ?_
  intro x E' H' hq
  cases x with
  | normal =>
    obtain ⟨E'', H'', h1, h2⟩ := hq
    exact t_move h1 (hy E'' H'' h2)
  | exit id => exact hq
  | ret => exact hq
end

variable {G : GI}
abbrev r1E (many r : Nat) : Slots := [(9, .i .i64 (r : Nat)), (8, .row 1 many), (5, .ptr 0 0)]
abbrev r1F (many r k : Nat) : Slots := [(43, .i .i64 (k : Nat)), (42, .i .i64 (many : Nat)), (9, .i .i64 (r : Nat)), (8, .row 1 many), (5, .ptr 0 0)]
abbrev r1G (K : List Attr) : Slots := [(8, .sl (K.map Attr.cells)), (5, .ptr 0 0)]
abbrev r2E (K : List Attr) (R S : List Bool) (i : Nat) : Slots := [(81, .i .i64 (i : Nat)), (80, .i .i64 ((K.map Attr.cells).length : Nat)), (13, .sl (S.map bcells)), (12, .sl (R.map bcells)), (8, .sl (K.map Attr.cells)), (5, .ptr 0 0)]

set_option maxHeartbeats 2000000 in
theorem law_ForwardEnds_true {a0 a1 : AVal} (h0 : hasA true pt_Shape a0) (h1 : hasA false pt_uint8 a1) :
    EvP Try.prog G fn_maquettelaw21_ForwardEnds [a0, a1] (.b true) := by
  obtain ⟨s, rfl, hs⟩ := shape_of h0
  obtain ⟨which, rfl, hw⟩ := u8_of h1
  clear h0 h1
  obtain ⟨z, hz⟩ : ∃ z : Shp, z = { s with ways := [] } := ⟨_, rfl⟩
  have hzk : z.ok := by subst hz; exact ⟨hs.routers, hs.links, hs.maps, hs.rules, hs.names, hs.nets, ⟨by simp, by simp⟩⟩
  have hzw : z.ways = [] := by rw [hz]
  have ca : cleanAll [z.av, .i .u8 which] = true := by simp only [cleanAll, List.all_cons, Shp.av, clean, z.clean]; rfl
  have hnet := law15_Net_ev (G := G) z which hzk hw
  refine evP c_maquettelaw21_ForwardEnds rfl ?_
  (repeat' first | refine t_seq ?_ | refine t_reg ?_ | refine t_skip ?_ | refine t_scope ?_ | refine t_ret ?_ | refine t_exit ?_ | refine lit_t rfl ?_ | refine lit_f rfl ?_ | refine And.intro (And.intro rfl (Nat.le_of_ble_eq_true rfl)) ?_ | refine c_t rfl ?_ | refine c_f rfl ?_)
  refine call_clean law21_awake_ev rfl ?_
  (iterate 5 (first | refine t_seq ?_ | refine t_reg ?_ | refine t_skip ?_ | refine t_scope ?_ | refine t_ret ?_ | refine t_exit ?_ | refine lit_t rfl ?_ | refine lit_f rfl ?_ | refine And.intro (And.intro rfl (Nat.le_of_ble_eq_true rfl)) ?_ | refine c_t rfl ?_ | refine c_f rfl ?_))
  have k1 := clean_sl (f := u8cells) (fun _ => rfl) z.links
  have k2 := clean_sl rulesC_clean z.maps
  have k3 := clean_sl (f := u8cells) (fun _ => rfl) z.names
  have k4 := clean_sl (f := u8cells) (fun _ => rfl) z.nets
  refine t_move (E' := [(2, .ptr 0 0), (1, .i .u8 which)]) (H' := [.box z.cells]) (moveL [0] rfl (by decide) ⟨.inr ⟨_, rfl, ?_⟩, trivial⟩ ?_) ?_
  · subst hz
    exact cvO_boxL ⟨.cl _ rfl, .cl _ k1, .cl _ k2, .cl _ k3, .cl _ k4, .nil, trivial⟩
  · refine ⟨?_, ?_, trivial⟩ <;> (first | exact .cl _ rfl | exact .cl _ (by assumption) | exact cv_ptr (Nat.le_of_ble_eq_true rfl) rfl | exact .nilS | exact cv_own (Nat.le_of_ble_eq_true rfl) rfl | exact cv_row (Nat.le_of_ble_eq_true rfl) rfl | exact cv_mp (Nat.le_of_ble_eq_true rfl) rfl)
  clear hz hs s k1 k2 k3 k4
  by_cases hz : (classesM (confM z)).length = 0
  · unfold netOf at hnet
    rw [if_pos hz] at hnet
    (repeat' first | refine t_seq ?_ | refine t_reg ?_ | refine t_skip ?_ | refine t_scope ?_ | refine t_ret ?_ | refine t_exit ?_ | refine lit_t rfl ?_ | refine lit_f rfl ?_ | refine And.intro (And.intro rfl (Nat.le_of_ble_eq_true rfl)) ?_ | refine c_t rfl ?_ | refine c_f rfl ?_ | (first | refine call_clean hnet ca ?_) | (refine sp_t (fun h => ?_) (fun h => ?_) <;> (try simp only [List.length_map] at h)) | (refine sp_f (fun h => ?_) (fun h => ?_) <;> (try simp only [List.length_map] at h)) | refine sq_t (fun h => ?_) (fun h => ?_) | refine sq_f (fun h => ?_) (fun h => ?_) | refine sb_t (fun h => ?_) (fun h => ?_) | refine sb_f (fun h => ?_) (fun h => ?_) | (refine c_nd rfl (fun h => ?_) (fun h => ?_) <;> (try simp only [List.length_map] at h)) | (refine c_d rfl (fun h => ?_) (fun h => ?_) <;> (try simp only [List.length_map] at h)) | refine c_nq rfl (fun h => ?_) (fun h => ?_) | refine c_q rfl (fun h => ?_) (fun h => ?_) | refine c_nb rfl (fun h => ?_) (fun h => ?_) | refine c_b rfl (fun h => ?_) (fun h => ?_) | refine And.intro rfl (Exists.intro _ (And.intro rfl ?_)) | refine Exists.intro _ (And.intro rfl ?_))
    rfl
  unfold netOf at hnet
  rw [if_neg hz] at hnet
  have hn := net_ok z hzk (toM z which)
  have hri := net_rise z hzk (toM z which)
  have hnl := net_len z (toM z which)
  have hnl2 := net_lens z (toM z which)
  have hns := net_static z hzw (toM z which)
  have hn8 := shp_n z hzk
  generalize netM (confM z) (toM z which) = n at hnet hn hri hnl hnl2 hns
  have hlo : (n.origin.map bcells).length = z.n := by simp [hnl]
  have cA : ∀ L : List Attr, cleanLL (L.map Attr.cells) = true := fun L => clean_rows Attr.clean _
  have lA : ∀ L : List Attr, ∀ r ∈ L.map Attr.cells, r.length = 4 := fun L => len_rows (f := Attr.cells) (fun _ => rfl) _
  (repeat' first | refine t_seq ?_ | refine t_reg ?_ | refine t_skip ?_ | refine t_scope ?_ | refine t_ret ?_ | refine t_exit ?_ | refine lit_t rfl ?_ | refine lit_f rfl ?_ | refine And.intro (And.intro rfl (Nat.le_of_ble_eq_true rfl)) ?_ | refine c_t rfl ?_ | refine c_f rfl ?_ | (first | refine call_clean hnet ca ?_) | (refine sp_t (fun h => ?_) (fun h => ?_) <;> (try simp only [List.length_map] at h)) | (refine sp_f (fun h => ?_) (fun h => ?_) <;> (try simp only [List.length_map] at h)) | refine sq_t (fun h => ?_) (fun h => ?_) | refine sq_f (fun h => ?_) (fun h => ?_) | refine sb_t (fun h => ?_) (fun h => ?_) | refine sb_f (fun h => ?_) (fun h => ?_) | (refine c_nd rfl (fun h => ?_) (fun h => ?_) <;> (try simp only [List.length_map] at h)) | (refine c_d rfl (fun h => ?_) (fun h => ?_) <;> (try simp only [List.length_map] at h)) | refine c_nq rfl (fun h => ?_) (fun h => ?_) | refine c_q rfl (fun h => ?_) (fun h => ?_) | refine c_nb rfl (fun h => ?_) (fun h => ?_) | refine c_b rfl (fun h => ?_) (fun h => ?_) | refine And.intro rfl (Exists.intro _ (And.intro rfl ?_)) | refine Exists.intro _ (And.intro rfl ?_))
  refine And.intro (And.intro rfl ?_) ?_
  · exact ⟨by omega, by omega, by omega, rfl⟩
  (repeat' first | refine t_seq ?_ | refine t_reg ?_ | refine t_skip ?_ | refine t_scope ?_ | refine t_ret ?_ | refine t_exit ?_ | refine lit_t rfl ?_ | refine lit_f rfl ?_ | refine And.intro (And.intro rfl (Nat.le_of_ble_eq_true rfl)) ?_ | refine c_t rfl ?_ | refine c_f rfl ?_)
  generalize hmany : (n.origin.map bcells).length = many at hlo
  obtain ⟨L0, hL0⟩ : ∃ L0, L0 = List.replicate many Attr.zero := ⟨_, rfl⟩
  have hL0l : L0.length = many := by rw [hL0]; simp
  have hL0c : ∀ a ∈ L0, 0 ≤ a.cost ∧ a.cost ≤ 0 := by
    intro a ha
    rw [hL0] at ha
    rw [List.eq_of_mem_replicate ha]
    exact ⟨Int.le_refl _, Int.le_refl _⟩
  refine t_cut1 (fun E H => ∃ K : List Attr, K.length = many ∧ (∀ a ∈ K, 0 ≤ a.cost ∧ a.cost ≤ 1000000000000) ∧ E = r1G K ∧ H = [.box n.cells]) ?_ ?_
  · refine t_block (t_loopM (fun w E H => ∃ (r : Nat) (K : List Attr), r ≤ 20 ∧ w = 20 - r ∧ K.length = many ∧ (∀ a ∈ K, 0 ≤ a.cost ∧ a.cost ≤ (r : Int) * 1000000) ∧ E = r1E many r ∧ H = l1H n K) _ (r1E many 0) (l1H n L0) ?_ ⟨0, L0, by omega, rfl, hL0l, fun a ha => by have := hL0c a ha; omega, rfl, rfl⟩ ?_)
    · refine moveL [1, 3] rfl (by decide) ⟨.inr ⟨_, rfl, cvO_box n.clean⟩, .inr ⟨_, rfl, cvO_row_as (rows' := L0.map Attr.cells) (by rw [hL0, List.map_replicate, Int.toNat_natCast]; rfl) (cA _) (lA _)⟩, trivial⟩ ?_
      refine ⟨?_, ?_, ?_, trivial⟩ <;> first | (first | exact .cl _ rfl | exact .cl _ (by assumption) | exact cv_ptr (Nat.le_of_ble_eq_true rfl) rfl | exact .nilS | exact cv_own (Nat.le_of_ble_eq_true rfl) rfl | exact cv_row (Nat.le_of_ble_eq_true rfl) rfl | exact cv_mp (Nat.le_of_ble_eq_true rfl) rfl) | exact cv_row_as (Nat.le_of_ble_eq_true rfl) rfl rfl
    rintro w E H ⟨r, K, hr20, rfl, hKl, hKc, rfl, rfl⟩
    have hIs := stable_Is_ev (G := G) n K hn (by omega)
    have f1 : frz (l1H n K) n.av = some n.av := frz_clean (by simp only [Netw.av, clean, n.clean])
    have f2 : frz (l1H n K) (.row 1 many) = some (.sl (K.map Attr.cells)) := frz_row rfl rfl (by rw [List.length_map]; exact hKl) (cA K)
    have hfz2 : frzAll (l1H n K) [n.av, .row 1 many] = some [n.av, .sl (K.map Attr.cells)] := by simp only [frzAll, f1, f2]
    (repeat' first | refine t_seq ?_ | refine t_reg ?_ | refine t_skip ?_ | refine t_scope ?_ | refine t_ret ?_ | refine t_exit ?_ | refine lit_t rfl ?_ | refine lit_f rfl ?_ | refine And.intro (And.intro rfl (Nat.le_of_ble_eq_true rfl)) ?_ | refine c_t rfl ?_ | refine c_f rfl ?_ | (first | refine call_flat hIs hfz2 (by simp [flat]) ?_) | (refine sp_t (fun h => ?_) (fun h => ?_) <;> (try simp only [List.length_map] at h)) | (refine sp_f (fun h => ?_) (fun h => ?_) <;> (try simp only [List.length_map] at h)) | refine sq_t (fun h => ?_) (fun h => ?_) | refine sq_f (fun h => ?_) (fun h => ?_) | refine sb_t (fun h => ?_) (fun h => ?_) | refine sb_f (fun h => ?_) (fun h => ?_) | (refine c_nd rfl (fun h => ?_) (fun h => ?_) <;> (try simp only [List.length_map] at h)) | (refine c_d rfl (fun h => ?_) (fun h => ?_) <;> (try simp only [List.length_map] at h)) | refine c_nq rfl (fun h => ?_) (fun h => ?_) | refine c_q rfl (fun h => ?_) (fun h => ?_) | refine c_nb rfl (fun h => ?_) (fun h => ?_) | refine c_b rfl (fun h => ?_) (fun h => ?_) | refine And.intro rfl (Exists.intro _ (And.intro rfl ?_)) | refine Exists.intro _ (And.intro rfl ?_))
    · refine t_block ?_
      (repeat' first | refine t_seq ?_ | refine t_reg ?_ | refine t_skip ?_ | refine t_scope ?_ | refine t_ret ?_ | refine t_exit ?_ | refine lit_t rfl ?_ | refine lit_f rfl ?_ | refine And.intro (And.intro rfl (Nat.le_of_ble_eq_true rfl)) ?_ | refine c_t rfl ?_ | refine c_f rfl ?_)
      have hfz : ∀ (J : List Attr) (k : Nat), J.length = many → frzAll (l1H n J) [n.av, .row 1 many, .i .i64 (k : Nat)] = some [n.av, .sl (J.map Attr.cells), .i .i64 (k : Nat)] := by
        intro J k hJ
        have f1 : frz (l1H n J) n.av = some n.av := frz_clean (by simp only [Netw.av, clean, n.clean])
        have f2 : frz (l1H n J) (.row 1 many) = some (.sl (J.map Attr.cells)) := frz_row rfl rfl (by rw [List.length_map]; exact hJ) (cA J)
        have f3 : frz (l1H n J) (.i .i64 (k : Nat)) = some (.i .i64 (k : Nat)) := frz_clean rfl
        simp only [frzAll, f1, f2, f3]
      refine t_range many (by omega) (fun k E H => ∃ J : List Attr, k ≤ many ∧ E = r1F many r k ∧ J.length = many ∧ (∀ a ∈ J, 0 ≤ a.cost ∧ a.cost ≤ (r : Int) * 1000000 + (k : Int) * 1030) ∧ H = l1H n J) (r1F many r 0) (l1H n K) ?_ ⟨K, Nat.zero_le _, rfl, hKl, fun a ha => by have := hKc a ha; omega, rfl⟩ ?_ ?_ ?_
      · refine moveL [0, 1] rfl (by decide) ⟨.inr ⟨_, rfl, cvO_box n.clean⟩, .inr ⟨_, rfl, cvO_row_as rfl (cA _) (lA _)⟩, trivial⟩ ?_
        refine ⟨?_, ?_, ?_, ?_, ?_, trivial⟩ <;> (first | exact .cl _ rfl | exact .cl _ (by assumption) | exact cv_ptr (Nat.le_of_ble_eq_true rfl) rfl | exact .nilS | exact cv_own (Nat.le_of_ble_eq_true rfl) rfl | exact cv_row (Nat.le_of_ble_eq_true rfl) rfl | exact cv_mp (Nat.le_of_ble_eq_true rfl) rfl)
      · rintro k E H ⟨J, hi, rfl, _, _, rfl⟩; exact ⟨hi, rfl, rfl⟩
      · rintro k E H hlt ⟨J, hi, rfl, hJl, hJc, rfl⟩
        have hch := stable_Choice_ev (G := G) n J (k : Nat) hn (by omega)
        have hat := rows_at (f := Attr.cells) (List.getElem?_eq_getElem (show k < J.length by omega))
        have hsc := step_cost (n := n) (by omega) (by omega) hJc k
        (repeat' first | refine t_seq ?_ | refine t_reg ?_ | refine t_skip ?_ | refine t_scope ?_ | refine t_ret ?_ | refine t_exit ?_ | refine lit_t rfl ?_ | refine lit_f rfl ?_ | refine And.intro (And.intro rfl (Nat.le_of_ble_eq_true rfl)) ?_ | refine c_t rfl ?_ | refine c_f rfl ?_ | (first | refine call_flat hch (hfz J k hJl) (flat_attr _) ?_ | refine And.intro (And.intro rfl (And.intro rfl (Nat.le_of_ble_eq_true rfl))) (Exists.intro _ (And.intro (hat) ?_)) | refine And.intro (And.intro (by omega) (by omega)) ?_) | (refine sp_t (fun h => ?_) (fun h => ?_) <;> (try simp only [List.length_map] at h)) | (refine sp_f (fun h => ?_) (fun h => ?_) <;> (try simp only [List.length_map] at h)) | refine sq_t (fun h => ?_) (fun h => ?_) | refine sq_f (fun h => ?_) (fun h => ?_) | refine sb_t (fun h => ?_) (fun h => ?_) | refine sb_f (fun h => ?_) (fun h => ?_) | (refine c_nd rfl (fun h => ?_) (fun h => ?_) <;> (try simp only [List.length_map] at h)) | (refine c_d rfl (fun h => ?_) (fun h => ?_) <;> (try simp only [List.length_map] at h)) | refine c_nq rfl (fun h => ?_) (fun h => ?_) | refine c_q rfl (fun h => ?_) (fun h => ?_) | refine c_nb rfl (fun h => ?_) (fun h => ?_) | refine c_b rfl (fun h => ?_) (fun h => ?_) | refine And.intro rfl (Exists.intro _ (And.intro rfl ?_)) | refine Exists.intro _ (And.intro rfl ?_))
        refine And.intro rfl ⟨r1F many r (k + 1), l1H n (J.set k (choiceM n J (k : Int))), moveL [0, 1] rfl (by decide) ⟨.inr ⟨_, rfl, cvO_box n.clean⟩, .inr ⟨_, rfl, cvO_row_as ((set_map (f := Attr.cells)).symm) (cA _) (lA _)⟩, trivial⟩ ?_, J.set k (choiceM n J (k : Int)), hlt, rfl, by rw [List.length_set]; exact hJl, fun a ha => by have := hsc a ha; omega, rfl⟩
        refine ⟨?_, ?_, ?_, ?_, ?_, trivial⟩ <;> (first | exact .cl _ rfl | exact .cl _ (by assumption) | exact cv_ptr (Nat.le_of_ble_eq_true rfl) rfl | exact .nilS | exact cv_own (Nat.le_of_ble_eq_true rfl) rfl | exact cv_row (Nat.le_of_ble_eq_true rfl) rfl | exact cv_mp (Nat.le_of_ble_eq_true rfl) rfl)
      · rintro E H ⟨J, hi, rfl, hJl, hJc, rfl⟩
        have hwr1 : IntKind.i64.wrap ((r : Nat) + 1) = ((r + 1 : Nat) : Int) := by rw [w64 (by omega) (by omega)]; rfl
        (repeat' first | refine t_seq ?_ | refine t_reg ?_ | refine t_skip ?_ | refine t_scope ?_ | refine t_ret ?_ | refine t_exit ?_ | refine lit_t rfl ?_ | refine lit_f rfl ?_ | refine And.intro (And.intro rfl (Nat.le_of_ble_eq_true rfl)) ?_ | refine c_t rfl ?_ | refine c_f rfl ?_)
        refine ⟨_, r1E many (r + 1), l1H n J, ?_, moveL [0, 1] rfl (by decide) ⟨.inr ⟨_, rfl, cvO_box n.clean⟩, .inr ⟨_, rfl, cvO_row_as rfl (cA _) (lA _)⟩, trivial⟩ ?_, r + 1, J, by omega, rfl, hJl, fun a ha => by have := hJc a ha; omega, rfl, rfl⟩
        · omega
        · refine ⟨?_, ?_, ?_, trivial⟩ <;> first | (first | exact .cl _ rfl | exact .cl _ (by assumption) | exact cv_ptr (Nat.le_of_ble_eq_true rfl) rfl | exact .nilS | exact cv_own (Nat.le_of_ble_eq_true rfl) rfl | exact cv_row (Nat.le_of_ble_eq_true rfl) rfl | exact cv_mp (Nat.le_of_ble_eq_true rfl) rfl) | exact cv_i hwr1.symm
    · refine Exists.intro (r1G K) (Exists.intro [.box n.cells] (And.intro (moveL [0] rfl (by decide) ⟨.inr ⟨_, rfl, cvO_box n.clean⟩, trivial⟩ ?_) ⟨K, hKl, fun a ha => by have := hKc a ha; omega, rfl, rfl⟩))
      refine ⟨?_, ?_, trivial⟩ <;> first | (first | exact .cl _ rfl | exact .cl _ (by assumption) | exact cv_ptr (Nat.le_of_ble_eq_true rfl) rfl | exact .nilS | exact cv_own (Nat.le_of_ble_eq_true rfl) rfl | exact cv_row (Nat.le_of_ble_eq_true rfl) rfl | exact cv_mp (Nat.le_of_ble_eq_true rfl) rfl) | skip
      exact cv_frz rfl (still_of (by rfl) (by rfl)) rfl (by rw [List.length_map]; exact hKl) (cA _) (lA _)
    · refine Exists.intro (r1G K) (Exists.intro [.box n.cells] (And.intro (moveL [0] rfl (by decide) ⟨.inr ⟨_, rfl, cvO_box n.clean⟩, trivial⟩ ?_) ⟨K, hKl, fun a ha => by have := hKc a ha; omega, rfl, rfl⟩))
      refine ⟨?_, ?_, trivial⟩ <;> first | (first | exact .cl _ rfl | exact .cl _ (by assumption) | exact cv_ptr (Nat.le_of_ble_eq_true rfl) rfl | exact .nilS | exact cv_own (Nat.le_of_ble_eq_true rfl) rfl | exact cv_row (Nat.le_of_ble_eq_true rfl) rfl | exact cv_mp (Nat.le_of_ble_eq_true rfl) rfl) | skip
      exact cv_frz rfl (still_of (by rfl) (by rfl)) rfl (by rw [List.length_map]; exact hKl) (cA _) (lA _)
  rintro E H ⟨K, hKl, hKc, rfl, rfl⟩
  have hIs := stable_Is_ev (G := G) n K hn (by omega)
  have b2 : cleanAll [n.av, .sl (K.map Attr.cells)] = true := by simp only [cleanAll, List.all_cons, clean, Netw.av, n.clean, clean_rows Attr.clean]; rfl
  cases his : isM n K with
  | false =>
    rw [his] at hIs
    (repeat' first | refine t_seq ?_ | refine t_reg ?_ | refine t_skip ?_ | refine t_scope ?_ | refine t_ret ?_ | refine t_exit ?_ | refine lit_t rfl ?_ | refine lit_f rfl ?_ | refine And.intro (And.intro rfl (Nat.le_of_ble_eq_true rfl)) ?_ | refine c_t rfl ?_ | refine c_f rfl ?_ | (first | refine call_clean hIs b2 ?_) | (refine sp_t (fun h => ?_) (fun h => ?_) <;> (try simp only [List.length_map] at h)) | (refine sp_f (fun h => ?_) (fun h => ?_) <;> (try simp only [List.length_map] at h)) | refine sq_t (fun h => ?_) (fun h => ?_) | refine sq_f (fun h => ?_) (fun h => ?_) | refine sb_t (fun h => ?_) (fun h => ?_) | refine sb_f (fun h => ?_) (fun h => ?_) | (refine c_nd rfl (fun h => ?_) (fun h => ?_) <;> (try simp only [List.length_map] at h)) | (refine c_d rfl (fun h => ?_) (fun h => ?_) <;> (try simp only [List.length_map] at h)) | refine c_nq rfl (fun h => ?_) (fun h => ?_) | refine c_q rfl (fun h => ?_) (fun h => ?_) | refine c_nb rfl (fun h => ?_) (fun h => ?_) | refine c_b rfl (fun h => ?_) (fun h => ?_) | refine And.intro rfl (Exists.intro _ (And.intro rfl ?_)) | refine Exists.intro _ (And.intro rfl ?_))
    rfl
  | true =>
    rw [his] at hIs
    have he : Ends n K := ⟨by omega, by omega, hns, his, hKc⟩
    have ho : (n.origin.length : Int) ≤ 1000000 := by omega
    have hg := ofM_ok n K hri ho
    have hgl := ofM_len n K
    have b4 : cleanAll [.sl ((ofM n K).map gcells)] = true := by simp only [cleanAll, List.all_cons, clean, clean_rows gcells_clean]; rfl
    have cB : ∀ L : List Bool, clean (.sl (L.map bcells)) = true := fun L => clean_sl (f := bcells) (fun _ => rfl) L
    have cK := clean_sl Attr.clean K
    have hrl : (reachM (ofM n K) n.origin (ofM n K).length).length = n.origin.length := by rw [reachM_len, hgl]
    have hll : (loopsM (ofM n K) (ofM n K).length).length = n.origin.length := by rw [loopsM_len, hgl]
    have hre := fun k (hk : k < n.origin.length) => he.reach hk
    have hlp := fun k (hk : k < n.origin.length) => he.loops hk
    have eR := forward_Reach_ev (G := G) (ofM n K) n.origin hg
    have eL := forward_Loops_ev (G := G) (ofM n K) hg
    generalize reachM (ofM n K) n.origin (ofM n K).length = R at hrl hre eR
    generalize loopsM (ofM n K) (ofM n K).length = S at hll hlp eL
    (repeat' first | refine t_seq ?_ | refine t_reg ?_ | refine t_skip ?_ | refine t_scope ?_ | refine t_ret ?_ | refine t_exit ?_ | refine lit_t rfl ?_ | refine lit_f rfl ?_ | refine And.intro (And.intro rfl (Nat.le_of_ble_eq_true rfl)) ?_ | refine c_t rfl ?_ | refine c_f rfl ?_ | (first | refine call_clean hIs b2 ?_ | refine call_clean (forward_Of_ev n K hn hri ho (by omega)) b2 ?_ | refine call_clean eR (gb_clean _ _) ?_ | refine call_clean eL b4 ?_) | (refine sp_t (fun h => ?_) (fun h => ?_) <;> (try simp only [List.length_map] at h)) | (refine sp_f (fun h => ?_) (fun h => ?_) <;> (try simp only [List.length_map] at h)) | refine sq_t (fun h => ?_) (fun h => ?_) | refine sq_f (fun h => ?_) (fun h => ?_) | refine sb_t (fun h => ?_) (fun h => ?_) | refine sb_f (fun h => ?_) (fun h => ?_) | (refine c_nd rfl (fun h => ?_) (fun h => ?_) <;> (try simp only [List.length_map] at h)) | (refine c_d rfl (fun h => ?_) (fun h => ?_) <;> (try simp only [List.length_map] at h)) | refine c_nq rfl (fun h => ?_) (fun h => ?_) | refine c_q rfl (fun h => ?_) (fun h => ?_) | refine c_nb rfl (fun h => ?_) (fun h => ?_) | refine c_b rfl (fun h => ?_) (fun h => ?_) | refine And.intro rfl (Exists.intro _ (And.intro rfl ?_)) | refine Exists.intro _ (And.intro rfl ?_))
    · exfalso; simp only [bne_iff_ne, ne_eq, List.length_map] at h; omega
    · exfalso; omega
    refine t_range (K.map Attr.cells).length (by rw [List.length_map]; omega) (fun i E H => i ≤ (K.map Attr.cells).length ∧ E = r2E K R S i ∧ H = [.box n.cells]) (r2E K R S 0) [.box n.cells] ?_ ⟨Nat.zero_le _, rfl, rfl⟩ ?_ ?_ ?_
    · refine moveL [0] rfl (by decide) ⟨.inr ⟨_, rfl, cvO_box n.clean⟩, trivial⟩ ?_
      refine ⟨?_, ?_, ?_, ?_, ?_, ?_, trivial⟩ <;> first | (first | exact .cl _ rfl | exact .cl _ (by assumption) | exact cv_ptr (Nat.le_of_ble_eq_true rfl) rfl | exact .nilS | exact cv_own (Nat.le_of_ble_eq_true rfl) rfl | exact cv_row (Nat.le_of_ble_eq_true rfl) rfl | exact cv_mp (Nat.le_of_ble_eq_true rfl) rfl) | exact .cl _ (cB _)
    · rintro i E H ⟨hi, rfl, rfl⟩; exact ⟨hi, rfl, rfl⟩
    · rintro i E H hlt ⟨hi, rfl, rfl⟩
      rw [List.length_map] at hlt
      have o0 : i < n.origin.length := by omega
      have iR : i < R.length := by omega
      have iS : i < S.length := by omega
      have hr := hre i o0
      have hl := hlp i o0
      rw [getD_of iR, getD_of hlt] at hr
      rw [getD_of iS] at hl
      have hatR : (R.map bcells)[((i : Nat) : Int).toNat]? = some [.b K[i].ok] := by rw [row_at iR, hr]; rfl
      have hatS : (S.map bcells)[((i : Nat) : Int).toNat]? = some [.b false] := by rw [row_at iS, hl]; rfl
      have hatK : (K.map Attr.cells)[((i : Nat) : Int).toNat]? = some (Attr.cells K[i]) := row_at hlt
      generalize K[i] = a at hatR hatK
      obtain ⟨o, p, c, t⟩ := a
      cases o
      · (repeat' first | refine t_seq ?_ | refine t_reg ?_ | refine t_skip ?_ | refine t_scope ?_ | refine t_ret ?_ | refine t_exit ?_ | refine lit_t rfl ?_ | refine lit_f rfl ?_ | refine And.intro (And.intro rfl (Nat.le_of_ble_eq_true rfl)) ?_ | refine c_t rfl ?_ | refine c_f rfl ?_ | (first | refine And.intro (Int.natCast_nonneg i) (Exists.intro _ (And.intro hatR (And.intro rfl ?_))) | refine And.intro (Int.natCast_nonneg i) (Exists.intro _ (And.intro hatS (And.intro rfl ?_))) | refine And.intro (Int.natCast_nonneg i) (Exists.intro _ (And.intro hatK (And.intro rfl ?_)))) | (refine sp_t (fun h => ?_) (fun h => ?_) <;> (try simp only [List.length_map] at h)) | (refine sp_f (fun h => ?_) (fun h => ?_) <;> (try simp only [List.length_map] at h)) | refine sq_t (fun h => ?_) (fun h => ?_) | refine sq_f (fun h => ?_) (fun h => ?_) | refine sb_t (fun h => ?_) (fun h => ?_) | refine sb_f (fun h => ?_) (fun h => ?_) | (refine c_nd rfl (fun h => ?_) (fun h => ?_) <;> (try simp only [List.length_map] at h)) | (refine c_d rfl (fun h => ?_) (fun h => ?_) <;> (try simp only [List.length_map] at h)) | refine c_nq rfl (fun h => ?_) (fun h => ?_) | refine c_q rfl (fun h => ?_) (fun h => ?_) | refine c_nb rfl (fun h => ?_) (fun h => ?_) | refine c_b rfl (fun h => ?_) (fun h => ?_) | refine And.intro rfl (Exists.intro _ (And.intro rfl ?_)) | refine Exists.intro _ (And.intro rfl ?_))
        refine And.intro rfl ⟨r2E K R S (i + 1), [.box n.cells], moveL [0] rfl (by decide) ⟨.inr ⟨_, rfl, cvO_box n.clean⟩, trivial⟩ ?_, by rw [List.length_map]; omega, rfl, rfl⟩
        refine ⟨?_, ?_, ?_, ?_, ?_, ?_, trivial⟩ <;> first | (first | exact .cl _ rfl | exact .cl _ (by assumption) | exact cv_ptr (Nat.le_of_ble_eq_true rfl) rfl | exact .nilS | exact cv_own (Nat.le_of_ble_eq_true rfl) rfl | exact cv_row (Nat.le_of_ble_eq_true rfl) rfl | exact cv_mp (Nat.le_of_ble_eq_true rfl) rfl) | exact .cl _ (cB _)
      · (repeat' first | refine t_seq ?_ | refine t_reg ?_ | refine t_skip ?_ | refine t_scope ?_ | refine t_ret ?_ | refine t_exit ?_ | refine lit_t rfl ?_ | refine lit_f rfl ?_ | refine And.intro (And.intro rfl (Nat.le_of_ble_eq_true rfl)) ?_ | refine c_t rfl ?_ | refine c_f rfl ?_ | (first | refine And.intro (Int.natCast_nonneg i) (Exists.intro _ (And.intro hatR (And.intro rfl ?_))) | refine And.intro (Int.natCast_nonneg i) (Exists.intro _ (And.intro hatS (And.intro rfl ?_))) | refine And.intro (Int.natCast_nonneg i) (Exists.intro _ (And.intro hatK (And.intro rfl ?_)))) | (refine sp_t (fun h => ?_) (fun h => ?_) <;> (try simp only [List.length_map] at h)) | (refine sp_f (fun h => ?_) (fun h => ?_) <;> (try simp only [List.length_map] at h)) | refine sq_t (fun h => ?_) (fun h => ?_) | refine sq_f (fun h => ?_) (fun h => ?_) | refine sb_t (fun h => ?_) (fun h => ?_) | refine sb_f (fun h => ?_) (fun h => ?_) | (refine c_nd rfl (fun h => ?_) (fun h => ?_) <;> (try simp only [List.length_map] at h)) | (refine c_d rfl (fun h => ?_) (fun h => ?_) <;> (try simp only [List.length_map] at h)) | refine c_nq rfl (fun h => ?_) (fun h => ?_) | refine c_q rfl (fun h => ?_) (fun h => ?_) | refine c_nb rfl (fun h => ?_) (fun h => ?_) | refine c_b rfl (fun h => ?_) (fun h => ?_) | refine And.intro rfl (Exists.intro _ (And.intro rfl ?_)) | refine Exists.intro _ (And.intro rfl ?_))
        refine And.intro rfl ⟨r2E K R S (i + 1), [.box n.cells], moveL [0] rfl (by decide) ⟨.inr ⟨_, rfl, cvO_box n.clean⟩, trivial⟩ ?_, by rw [List.length_map]; omega, rfl, rfl⟩
        refine ⟨?_, ?_, ?_, ?_, ?_, ?_, trivial⟩ <;> first | (first | exact .cl _ rfl | exact .cl _ (by assumption) | exact cv_ptr (Nat.le_of_ble_eq_true rfl) rfl | exact .nilS | exact cv_own (Nat.le_of_ble_eq_true rfl) rfl | exact cv_row (Nat.le_of_ble_eq_true rfl) rfl | exact cv_mp (Nat.le_of_ble_eq_true rfl) rfl) | exact .cl _ (cB _)
    · rintro E H ⟨hi, rfl, rfl⟩
      (repeat' first | refine t_seq ?_ | refine t_reg ?_ | refine t_skip ?_ | refine t_scope ?_ | refine t_ret ?_ | refine t_exit ?_ | refine lit_t rfl ?_ | refine lit_f rfl ?_ | refine And.intro (And.intro rfl (Nat.le_of_ble_eq_true rfl)) ?_ | refine c_t rfl ?_ | refine c_f rfl ?_ | (refine sp_t (fun h => ?_) (fun h => ?_) <;> (try simp only [List.length_map] at h)) | (refine sp_f (fun h => ?_) (fun h => ?_) <;> (try simp only [List.length_map] at h)) | refine sq_t (fun h => ?_) (fun h => ?_) | refine sq_f (fun h => ?_) (fun h => ?_) | refine sb_t (fun h => ?_) (fun h => ?_) | refine sb_f (fun h => ?_) (fun h => ?_) | (refine c_nd rfl (fun h => ?_) (fun h => ?_) <;> (try simp only [List.length_map] at h)) | (refine c_d rfl (fun h => ?_) (fun h => ?_) <;> (try simp only [List.length_map] at h)) | refine c_nq rfl (fun h => ?_) (fun h => ?_) | refine c_q rfl (fun h => ?_) (fun h => ?_) | refine c_nb rfl (fun h => ?_) (fun h => ?_) | refine c_b rfl (fun h => ?_) (fun h => ?_) | refine And.intro (by omega) (Exists.intro _ (And.intro (row_atN (by omega)) (And.intro rfl ?_))) | refine And.intro rfl (Exists.intro _ (And.intro rfl ?_)) | refine Exists.intro _ (And.intro rfl ?_))
      rfl
end Go.Proofs.Ythpcjekmgohelaa.Ab
