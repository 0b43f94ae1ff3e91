/- ABSTRACT RUNS, 22: regions in the text's order, regions in any order. -/
import Derived.Test.YthpcjekmgohelaaLib6
import Derived.Scope
set_option linter.unusedVariables false
set_option linter.unusedSimpArgs false
namespace Go.Proofs.Ythpcjekmgohelaa.Ab
open Go Go.RowKit
set_option linter.unusedSimpArgs false
set_option linter.unusedVariables false

section
variable {P : Program} {G : GI} {e e' : Env} {H H' : Heap}

theorem set_comm {d1 d2 : Option Nat} (h : (d1.isNone || d1 != d2) = true) (v1 v2 : AVal) : (e.set d1 v1).set d2 v2 = (e.set d2 v2).set d1 v1 := by
  cases d1 with
  | none => rfl
  | some a =>
    cases d2 with
    | none => rfl
    | some b =>
      have hne : a ≠ b := by intro e; subst e; simp at h
      funext t
      simp only [Env.set]
      by_cases h1 : t = a
      · subst h1; rw [if_neg hne, if_pos rfl, if_pos rfl]
      · rw [if_neg h1]
        split
        · rfl
        · rfl

theorem Out_set {o : LOper} {d : Option Nat} {v v' : AVal} (h : (match d with | some d => o.uses d | none => false) = false) : Out P G o (e.set d v') H v H' ↔ Out P G o e H v H' := by
  have key : ∀ t, o.uses t = true → (e.set d v') t = e t := by
    intro t ht
    cases d with
    | none => rfl
    | some d =>
      simp only [Env.set]
      rw [if_neg]
      intro e; subst e; simp only at h; rw [ht] at h; cases h
  exact ⟨fun ho => Out_congr (fun t ht => (key t ht).symm) ho, fun ho => Out_congr key ho⟩

theorem evalH_heapy {l : LOp} (h : l.heapy = false) : evalH e H l = none := by
  cases l <;> simp only [LOp.heapy, reduceCtorEq] at h <;> rfl

theorem doOp_dry {l : LOp} (h : l.heapy = false) {v : AVal} (ho : doOp P G e H l fun v' H'' => v' = v ∧ H'' = H') : H' = H ∧ ∀ H2, doOp P G e H2 l fun v' H'' => v' = v ∧ H'' = H2 := by
  have h1 : ∀ mk f args, l ≠ .call mk f args := fun mk f args e => by subst e; simp [LOp.heapy] at h
  have h2 : ∀ mk f args, l ≠ .callv mk f args := fun mk f args e => by subst e; simp [LOp.heapy] at h
  simp only [doOp_plain h1 h2] at ho ⊢
  unfold plainOp at ho ⊢
  split at ho
  · rename_i v' hv
    obtain ⟨rfl, rfl⟩ := ho
    exact ⟨rfl, fun H2 => ⟨rfl, rfl⟩⟩
  · rw [evalH_heapy h] at ho; exact ho.elim

theorem Out_dry {o : LOper} (h : o.op.heapy = false) {v : AVal} (ho : Out P G o e H v H') : H' = H ∧ ∀ H2, Out P G o e H2 v H2 := by
  unfold Out at ho ⊢
  split at ho
  · rename_i hg; exact doOp_dry h ho
  · rename_i g t hg
    split at ho
    · rename_i t' hb
      split at ho
      · rename_i ht; simp only [if_pos ht]; exact doOp_dry h ho
      · rename_i ht; simp only [if_neg ht]; exact ⟨ho.2, fun H2 => ⟨ho.1, trivial⟩⟩
    · exact ⟨ho.2, fun H2 => ⟨ho.1, rfl⟩⟩
    · exact ho.elim

theorem Out_box (z : List AVal) {o : LOper} (ht : o.op.turns = false) {v : AVal} (ho : Out P G o e H v H') : H' = H ∧ Out P G o e (H ++ [.box z]) v (H ++ [.box z]) := by
  unfold Out at ho ⊢
  split at ho
  · exact doOp_box z ht ho
  · split at ho
    · split at ho
      · rename_i hc; rw [if_pos hc]; exact doOp_box z ht ho
      · rename_i hc; rw [if_neg hc]; exact ⟨ho.2, ho.1, rfl⟩
    · exact ⟨ho.2, ho.1, rfl⟩
    · exact ho.elim

theorem Out_alloc {o : LOper} (ha : o.op.isAlloc = true) {v : AVal} (ho : Out P G o e H v H') : H' = H ∨ ∃ z, H' = H ++ [.box z] := by
  have key : doOp P G e H o.op (fun v' H'' => v' = v ∧ H'' = H') → H' = H ∨ ∃ z, H' = H ++ [.box z] := by
    intro h
    cases hop : o.op <;> rw [hop] at ha <;> simp [LOp.isAlloc] at ha
    rename_i z
    rw [hop] at h
    simp only [doOp, evalP, evalH] at h
    exact .inr ⟨z, h.2.symm⟩
  unfold Out at ho
  split at ho
  · exact key ho
  · split at ho
    · split at ho
      · exact key ho
      · exact .inl ho.2
    · exact .inl ho.2
    · exact ho.elim

theorem Out_still {o : LOper} (ht : o.op.turns = false) {v : AVal} (ho : Out P G o e H v H') : H' = H := (Out_box [] ht ho).1

theorem wpO_mono {o : LOper} {K K' : Env → Heap → Prop} (h : wpO P G o e H K) (hk : ∀ e H, K e H → K' e H) : wpO P G o e H K' := by
  obtain ⟨v, H', h1, h2⟩ := wpO_split.1 h
  exact wpO_split.2 ⟨v, H', h1, hk _ _ h2⟩

/-- Two operations change places. -/
theorem swap {o1 o2 : LOper} {K : Env → Heap → Prop} (hd : (o1.dst.isNone || o1.dst != o2.dst) = true) (hc : clashes o1 o2 = false) (h : wpO P G o1 e H fun e1 H1 => wpO P G o2 e1 H1 K) :
    wpO P G o2 e H fun e2 H2 => wpO P G o1 e2 H2 K := by
  obtain ⟨v1, H1, h1, h⟩ := wpO_split.1 h
  obtain ⟨v2, H2, h2, hK⟩ := wpO_split.1 h
  unfold clashes clashE clashH at hc
  simp only [Bool.or_eq_false_iff] at hc
  obtain ⟨⟨hc1, hc2⟩, hc3⟩ := hc
  rw [Out_set hc1] at h2
  rw [set_comm hd] at hK
  have fin : ∀ H1', Out P G o2 e H v2 H1' → Out P G o1 e H1' v1 H2 → wpO P G o2 e H fun e2 H2 => wpO P G o1 e2 H2 K := fun H1' k1 k2 =>
    wpO_split.2 ⟨v2, H1', k1, wpO_split.2 ⟨v1, H2, (Out_set hc2).2 k2, hK⟩⟩
  by_cases y1 : o1.op.heapy = true
  · by_cases y2 : o2.op.heapy = true
    · rw [y1, y2] at hc3
      simp only [Bool.true_and, Bool.or_eq_false_iff, Bool.and_eq_false_iff, Bool.not_eq_false'] at hc3
      obtain ⟨t1, t2⟩ := hc3
      have e1 := Out_still t1 h1
      subst e1
      rcases t2 with t2 | t2
      · have e2 := Out_still t2 h2
        subst e2
        exact fin _ h2 h1
      · rcases Out_alloc t2 h2 with e2 | ⟨z, e2⟩
        · subst e2; exact fin _ h2 h1
        · subst e2; exact fin _ h2 (Out_box z t1 h1).2
    · obtain ⟨e2, k⟩ := Out_dry (by simpa using y2) h2
      subst e2
      exact fin H (k H) h1
  · obtain ⟨e1, k⟩ := Out_dry (by simpa using y1) h1
    subst e1
    exact fin H2 h2 (k H2)

theorem to_front {x : LOper} {post : List LOper} {K : Env → Heap → Prop} : ∀ (pre : List LOper) (e : Env) (H : Heap), (∀ o ∈ pre, (o.dst.isNone || o.dst != x.dst) = true ∧ clashes o x = false) →
    wpR P G (pre ++ x :: post) e H K → wpO P G x e H fun e' H' => wpR P G (pre ++ post) e' H' K
  | [], e, H, _, h => h
  | o :: pre, e, H, hp, h => by
    have h' : wpO P G o e H fun e1 H1 => wpO P G x e1 H1 fun e' H' => wpR P G (pre ++ post) e' H' K := wpO_mono h fun e1 H1 h1 => to_front pre e1 H1 (fun o ho => hp o (.tail _ ho)) h1
    obtain ⟨g1, g2⟩ := hp o (.head _)
    exact swap g1 g2 h'
end

section
variable {P : Program} {G : GI} {F0 : Nat → Prop} {B0 : Nat} {w0 w w' : World} {β0 κ0 β κ β' κ' : Nat → Nat} {H0 H H' : Heap} {nt : Nat} {a : Act} {e : Env} {ops : Array Oper} {Q : Exit → Act → World → Prop}

theorem cOpers_get {dr : Bool} : ∀ {l : List Oper} {ls : List LOper}, cOpers P dr nt ops l = some ls → l.length = ls.length ∧ ∀ (i : Nat) (o : Oper), l[i]? = some o → ∃ lo, ls[i]? = some lo ∧ cOper P dr nt ops o = some lo
  | [], ls, h => by simp [cOpers] at h; subst h; exact ⟨rfl, fun i o h => by simp at h⟩
  | o :: l, ls, h => by
    simp only [cOpers] at h
    split at h
    · rename_i lo los h1 h2
      simp only [Option.some.injEq] at h; subst h
      obtain ⟨k1, k2⟩ := cOpers_get h2
      refine ⟨by simp [k1], fun i o' ho => ?_⟩
      cases i with
      | zero => simp at ho; subst ho; exact ⟨lo, rfl, h1⟩
      | succ i => simpa using k2 i o' (by simpa using ho)
    · simp at h

/-- A region in the text's order. -/
theorem text_run {dr : Bool} {K : Env → Heap → Prop} : ∀ (l : List Oper) (ls : List LOper) (k : Nat), (∀ j, l[j]? = ops[k + j]?) → cOpers P dr nt ops l = some ls →
    ∀ (a : Act) (w : World) (e : Env) (H : Heap) (β κ : Nat → Nat), Inv G F0 B0 w0 β0 κ0 H0 nt a w e H β κ → wpR P G ls e H K →
    (∀ a' w' e' H' β' κ', Inv G F0 B0 w0 β0 κ0 H0 nt a' w' e' H' β' κ' → K e' H' → Q .normal a' w') → wpOps P ops Q (List.range' k l.length) a w
  | [], ls, k, _, hc, a, w, e, H, β, κ, hi, hwp, hQ => by
    simp [cOpers] at hc; subst hc
    simp only [List.length_nil, List.range'_zero, wpOps]
    exact hQ _ _ _ _ _ _ hi hwp
  | o :: l, ls, k, hl, hc, a, w, e, H, β, κ, hi, hwp, hQ => by
    simp only [cOpers] at hc
    split at hc
    · rename_i lo los h1 h2
      simp only [Option.some.injEq] at hc; subst hc
      simp only [List.length_cons, List.range'_succ, wpOps_cons]
      have h0 : ops[k]? = some o := by simpa using (hl 0).symm
      obtain ⟨v, H', hK, _, hstep⟩ := op_step (Q := Q) h0 h1 hi hwp
      refine hstep _ (fun a' w' β' κ' hi' => ?_)
      exact text_run l los (k + 1) (fun j => by have := hl (j + 1); simpa [Nat.add_assoc, Nat.add_comm 1 j] using this) h2 a' w' _ _ _ _ hi' hK hQ
    · simp at hc

theorem waits_listed {listed : Array Bool} (hcl : ∀ k o, ops[k]? = some o → listed.getD k false = true → ∀ ed ∈ o.after, Region.binds .any ed = true → listed.getD ed.on false = true) :
    ∀ (n i j : Nat), waits ops n i j = true → (listed.getD j false = true ∨ ∃ o, ops[j]? = some o ∧ ∀ ed ∈ o.after, Region.binds .any ed = true → listed.getD ed.on false = true) → listed.getD i false = true
  | 0, i, j, h, _ => by simp [waits] at h
  | n + 1, i, j, h, hj => by
    simp only [waits] at h
    split at h
    · rename_i o ho
      have hall : ∀ ed ∈ o.after, Region.binds .any ed = true → listed.getD ed.on false = true := by
        rcases hj with hj | ⟨o', ho', hj⟩
        · exact hcl j o ho hj
        · rw [ho] at ho'; cases ho'; exact hj
      rw [List.any_eq_true] at h
      obtain ⟨ed, hed, h⟩ := h
      simp only [Bool.and_eq_true, Bool.or_eq_true, beq_iff_eq] at h
      obtain ⟨hb, h⟩ := h
      have hed' : ed ∈ o.after := by simpa using hed
      rcases h with h | h
      · rw [← h]; exact hall ed hed' hb
      · exact waits_listed hcl n i ed.on h (.inl (hall ed hed' hb))
    · simp at h

theorem ordered_spec {ls : List LOper} (ho : ordered ops ls = true) {i j : Nat} {x y : LOper} (hij : i < j) (hx : ls[i]? = some x) (hy : ls[j]? = some y) :
    (x.dst.isNone || x.dst != y.dst) = true ∧ (clashes x y = false ∨ waits ops ops.size i j = true) := by
  unfold ordered at ho
  have h1 := List.all_eq_true.1 ho (y, j) (List.mem_zipIdx_iff_getElem?.2 hy)
  have h2 := List.all_eq_true.1 h1 (x, i) (List.mem_zipIdx_iff_getElem?.2 hx)
  simp only [hij, if_true, Bool.and_eq_true, Bool.or_eq_true, Bool.not_eq_true'] at h2 ⊢
  exact h2

theorem fwd_spec (hf : fwd ops = true) {j : Nat} {o : Oper} (ho : ops[j]? = some o) : ∀ ed ∈ o.after, Region.binds .any ed = true → ed.on < j := by
  unfold fwd at hf
  have h1 := List.all_eq_true.1 hf (o, j) (List.mem_zipIdx_iff_getElem?.2 (by simpa using ho))
  intro ed hed hb
  have h2 := List.all_eq_true.1 h1 ed (by simpa using hed)
  simp only [hb, Bool.not_true, Bool.false_or, decide_eq_true_eq] at h2
  exact h2

/-- What is left of a region. -/
def left (n : Nat) (listed : Array Bool) : List Nat := (List.range n).filter fun i => !listed.getD i true

theorem left_sorted (n : Nat) (listed : Array Bool) : (left n listed).Pairwise (· < ·) := List.Pairwise.filter _ List.pairwise_lt_range

theorem left_set {n i : Nat} {listed : Array Bool} {pre post : List Nat} (hs : listed.size = n) (h : left n listed = pre ++ i :: post) : left n (listed.setIfInBounds i true) = pre ++ post := by
  have hsort := left_sorted n listed
  have hmem : i ∈ left n listed := by rw [h]; simp
  have hi : i < n := by simpa using (List.mem_filter.1 hmem).1
  have hset : ∀ j, (listed.setIfInBounds i true).getD j true = if j = i then true else listed.getD j true := by
    intro j
    rw [Array.getD_eq_getD_getElem?, Array.getD_eq_getD_getElem?]
    by_cases e : j = i
    · subst e; rw [if_pos rfl, Array.getElem?_setIfInBounds_self_of_lt (by omega)]; rfl
    · rw [if_neg e, Array.getElem?_setIfInBounds_ne (fun e' => e e'.symm)]
  have hstep : left n (listed.setIfInBounds i true) = (left n listed).filter fun j => decide (j ≠ i) := by
    unfold left
    rw [List.filter_filter]
    congr 1
    funext j
    rw [hset j]
    by_cases e : j = i <;> simp [e]
  rw [hstep, h]
  rw [h] at hsort
  have hp := List.pairwise_append.1 hsort
  have hq := List.pairwise_cons.1 hp.2.1
  rw [List.filter_append, List.filter_cons]
  simp only [ne_eq, not_true_eq_false, decide_false, Bool.false_eq_true, if_false]
  congr 1
  · exact List.filter_eq_self.2 fun j hj => by have := hp.2.2 j hj i (.head _); simp; omega
  · exact List.filter_eq_self.2 fun j hj => by have := hq.1 j hj; simp; omega

/-- A region in any order: what holds of what is left is so told that an operation for which nothing is in the way may be done first. -/
theorem any_run {ls : List LOper} {W : List Nat → Env → Heap → Prop} (hc : cOpers P true nt ops ops.toList = some ls) (hf : fwd ops = true)
    (hW : ∀ (pre : List Nat) (i : Nat) (post : List Nat) (lo : LOper), ls[i]? = some lo → (∀ k ∈ pre, k < i ∧ k < ls.length ∧ waits ops ops.size k i = false) → ∀ e H, W (pre ++ i :: post) e H → wpO P G lo e H fun e' H' => W (pre ++ post) e' H')
    (hQ : ∀ a' w' e' H' β' κ', Inv G F0 B0 w0 β0 κ0 H0 nt a' w' e' H' β' κ' → W [] e' H' → Q .normal a' w') : ∀ (fuel : Nat) (listed : Array Bool) (a : Act) (w : World) (e : Env) (H : Heap) (β κ : Nat → Nat),
    listed.size = ops.size → (left ops.size listed).length ≤ fuel → (∀ k o, ops[k]? = some o → listed.getD k false = true → ∀ ed ∈ o.after, Region.binds .any ed = true → listed.getD ed.on false = true) →
    Inv G F0 B0 w0 β0 κ0 H0 nt a w e H β κ → W (left ops.size listed) e H → wpAny P .any ops Q fuel listed a w := by
  have hnone : ∀ (listed : Array Bool), listed.size = ops.size → Region.ready .any ops listed = [] → left ops.size listed = [] := by
    intro listed hs hr
    cases hl : left ops.size listed with
    | nil => rfl
    | cons i rest =>
      exfalso
      have hmem : i ∈ left ops.size listed := by rw [hl]; exact .head _
      obtain ⟨m1, m2⟩ := List.mem_filter.1 hmem
      have hi : i < ops.size := by simpa using m1
      have hun : listed.getD i true = false := by simpa using m2
      have : i ∈ Region.ready .any ops listed := by
        rw [mem_ready]
        refine ⟨hun, ops[i], Array.getElem?_eq_getElem hi, fun ed hed hb => ?_⟩
        have hlt := fwd_spec hf (Array.getElem?_eq_getElem hi) ed hed hb
        cases hon : listed.getD ed.on false with
        | true => rfl
        | false =>
          exfalso
          have hlt2 : ed.on < listed.size := by omega
          have hon' : listed.getD ed.on true = false := by
            rw [Array.getD_eq_getD_getElem?, Array.getElem?_eq_getElem hlt2] at hon ⊢; exact hon
          have hin : ed.on ∈ left ops.size listed := List.mem_filter.2 ⟨by simp; omega, by rw [hon']; rfl⟩
          rw [hl] at hin
          have hsort := left_sorted ops.size listed
          rw [hl] at hsort
          rcases List.mem_cons.1 hin with h1 | h1
          · omega
          · have := (List.pairwise_cons.1 hsort).1 _ h1; omega
      rw [hr] at this
      cases this
  obtain ⟨hlen, hget⟩ := cOpers_get hc
  intro fuel
  induction fuel with
  | zero =>
    intro listed a w e H β κ hs hl hcl hi hwp
    have hnil : left ops.size listed = [] := List.length_eq_zero_iff.1 (Nat.le_zero.1 hl)
    rw [hnil] at hwp
    refine ⟨?_, hQ _ _ _ _ _ _ hi hwp⟩
    cases hr : Region.ready .any ops listed with
    | nil => rfl
    | cons i rest =>
      exfalso
      have hmem : i ∈ Region.ready .any ops listed := by rw [hr]; exact .head _
      obtain ⟨hun, o, ho', _⟩ := mem_ready.1 hmem
      have : i ∈ left ops.size listed := List.mem_filter.2 ⟨by simpa using (Array.getElem?_eq_some_iff.1 ho').1, by rw [hun]; rfl⟩
      rw [hnil] at this; cases this
  | succ fuel ih =>
    intro listed a w e H β κ hs hl hcl hi hwp
    refine ⟨fun hr => ?_, fun i hready => ?_⟩
    · rw [hnone listed hs hr] at hwp
      exact hQ _ _ _ _ _ _ hi hwp
    · obtain ⟨hun, o, hoi, hed⟩ := mem_ready.1 hready
      have hil : i < ops.size := (Array.getElem?_eq_some_iff.1 hoi).1
      have hmem : i ∈ left ops.size listed := List.mem_filter.2 ⟨by simpa using hil, by rw [hun]; rfl⟩
      obtain ⟨pre, post, hsplit⟩ := List.append_of_mem hmem
      obtain ⟨lo, hlo, hcop⟩ := hget i o (by simpa using hoi)
      have hsort := left_sorted ops.size listed
      rw [hsplit] at hsort
      have hp := List.pairwise_append.1 hsort
      rw [hsplit] at hwp
      have hfront := hW pre i post lo hlo (fun k hk => by
        have hki : k < i := hp.2.2 k hk i (.head _)
        have hkl : k < ls.length := by rw [← hlen, Array.length_toList]; omega
        refine ⟨hki, hkl, ?_⟩
        cases hw : waits ops ops.size k i with
        | false => rfl
        | true =>
          exfalso
          have hlk := waits_listed hcl _ _ _ hw (.inr ⟨o, hoi, hed⟩)
          have hkm : k ∈ left ops.size listed := by rw [hsplit]; exact List.mem_append_left _ hk
          have hkun : listed.getD k true = false := by simpa using (List.mem_filter.1 hkm).2
          have hks : k < listed.size := by omega
          rw [Array.getD_eq_getD_getElem?, Array.getElem?_eq_getElem hks] at hlk hkun
          simp at hlk hkun
          rw [hlk] at hkun; cases hkun) e H hwp
      obtain ⟨v, H', hK, _, hstep⟩ := op_step (Q := Q) hoi hcop hi hfront
      refine hstep _ (fun a' w' β' κ' hi' => ?_)
      have hnew := left_set hs hsplit
      refine ih (listed.setIfInBounds i true) a' w' _ H' β' κ' (by simpa using hs) ?_ ?_ hi' ?_
      · rw [hnew]
        rw [hsplit] at hl
        simp only [List.length_append, List.length_cons] at hl ⊢
        omega
      · intro k o' hok hlk ed hed' hb
        by_cases hki : k = i
        · subst hki
          rw [hoi] at hok; cases hok
          exact getD_set_true (hed ed hed' hb)
        · rw [getD_set_ne false (Ne.symm hki)] at hlk
          exact getD_set_true (hcl k o' hok hlk ed hed' hb)
      · rw [hnew]; exact hK

/-- Of a region whose operations are in order. -/
theorem front_ordered {ls : List LOper} {K : Env → Heap → Prop} (ho : ordered ops ls = true) (pre : List Nat) (i : Nat) (post : List Nat) (lo : LOper) (hlo : ls[i]? = some lo) (hpre : ∀ k ∈ pre, k < i ∧ k < ls.length ∧ waits ops ops.size k i = false) (e : Env) (H : Heap)
    (h : wpR P G ((pre ++ i :: post).map fun i => ls.getD i default) e H K) : wpO P G lo e H fun e' H' => wpR P G ((pre ++ post).map fun i => ls.getD i default) e' H' K := by
  have hgd : ls.getD i default = lo := by rw [List.getD_eq_getElem?_getD, hlo]; rfl
  rw [List.map_append, List.map_cons, hgd] at h
  rw [List.map_append]
  refine to_front (pre.map fun i => ls.getD i default) e H (fun x hx => ?_) h
  obtain ⟨k, hk, rfl⟩ := List.mem_map.1 hx
  obtain ⟨hki, hkl, hw⟩ := hpre k hk
  have hkx : ls[k]? = some (ls.getD k default) := by rw [List.getD_eq_getElem?_getD, List.getElem?_eq_getElem hkl]; rfl
  obtain ⟨g1, g2⟩ := ordered_spec ho hki hkx hlo
  exact ⟨g1, g2.resolve_right fun h => by rw [hw] at h; cases h⟩
end

/-! ### Loads and stores of different variables -/
section
variable {P : Program} {G : GI} {e e' : Env} {H H' : Heap}

theorem boxy_uses {o : LOper} {p : LOpd} (hp : o.boxy = some p) : o.guard = none ∧ ((∃ n ag, o.op = .load n ag p) ∨ ∃ n x, o.op = .store n p x) := by
  obtain ⟨d, op, g⟩ := o
  cases g with
  | some g => simp [LOper.boxy] at hp
  | none =>
    refine ⟨rfl, ?_⟩
    cases op <;> simp [LOper.boxy] at hp
    · subst hp; exact .inl ⟨_, _, rfl⟩
    · subst hp; exact .inr ⟨_, _, rfl⟩

theorem foot_set {o : LOper} {s : Nat} {d : Option Nat} {v : AVal} (h : (match d with | some d => o.uses d | none => false) = false) : foot o s (e.set d v) ↔ foot o s e := by
  have key : ∀ p, o.boxy = some p → p.ev (e.set d v) = p.ev e := by
    intro p hp
    refine ev_congr fun t ht => ?_
    cases d with
    | none => rfl
    | some d =>
      simp only [Env.set]
      rw [if_neg]
      intro e'; subst e'
      simp only at h
      have : o.uses t = true := by
        unfold LOper.uses
        rw [Bool.or_eq_true]
        refine .inl (List.any_eq_true.2 ⟨p, ?_, by simp [ht]⟩)
        rcases (boxy_uses hp).2 with ⟨n, ag, he⟩ | ⟨n, x, he⟩ <;> rw [he] <;> simp [LOp.opds]
      rw [this] at h; cases h
  exact ⟨fun hf p hp => by rw [← key p hp]; exact hf p hp, fun hf p hp => by rw [key p hp]; exact hf p hp⟩

/-- What a plain load or store does. -/
theorem Out_boxy {o : LOper} {p : LOpd} {s off : Nat} {v : AVal} (hp : o.boxy = some p) (hev : p.ev e = .ptr s off) :
    Out P G o e H v H' ↔ (∃ n ag cs, o.op = .load n ag p ∧ H[s]? = some (.box cs) ∧ ldCells cs off n ag = some v ∧ H' = H) ∨
      (∃ n x vs cs, o.op = .store n p x ∧ (x.ev e).cells? = some vs ∧ vs.length = n ∧ H[s]? = some (.box cs) ∧ off + n ≤ cs.length ∧ v = .u ∧ H' = H.set s (.box (setSeg cs off vs))) := by
  obtain ⟨hg, hop⟩ := boxy_uses hp
  unfold Out
  rw [hg]
  simp only
  rcases hop with ⟨n, ag, hop⟩ | ⟨n, x, hop⟩
  · rw [hop]
    simp only [doOp, evalP, evalH, hev]
    constructor
    · intro h
      split at h
      · rename_i v' H'' hv
        obtain ⟨rfl, rfl⟩ := h
        split at hv
        · rename_i cs hob
          obtain ⟨z, h1, h2⟩ := Option.map_eq_some_iff.1 hv
          simp only [Prod.mk.injEq] at h2
          obtain ⟨rfl, rfl⟩ := h2
          exact .inl ⟨n, ag, cs, rfl, hob, h1, rfl⟩
        · simp at hv
      · exact h.elim
    · rintro (⟨n', ag', cs, h1, h2, h3, rfl⟩ | ⟨n', x, vs, cs, h1, _⟩)
      · simp only [LOp.load.injEq] at h1
        obtain ⟨rfl, rfl, _⟩ := h1
        simp [h2, h3]
      · simp at h1
  · rw [hop]
    simp only [doOp, evalP, evalH, hev]
    constructor
    · intro h
      split at h
      · rename_i v' H'' hv
        obtain ⟨rfl, rfl⟩ := h
        split at hv
        · rename_i vs hvs
          split at hv
          · rename_i hlen
            split at hv
            · rename_i cs hob
              split at hv
              · rename_i hle
                simp only [Option.some.injEq, Prod.mk.injEq] at hv
                obtain ⟨rfl, rfl⟩ := hv
                exact .inr ⟨n, x, vs, cs, rfl, hvs, hlen, hob, hle, rfl, rfl⟩
              · simp at hv
            · simp at hv
          · simp at hv
        · simp at hv
      · exact h.elim
    · rintro (⟨n', ag', cs, h1, _⟩ | ⟨n', x', vs, cs, h1, h2, h3, h4, h5, rfl, rfl⟩)
      · simp at h1
      · simp only [LOp.store.injEq] at h1
        obtain ⟨rfl, _, rfl⟩ := h1
        simp [h2, h3, h4, h5]

theorem swapD {o1 o2 : LOper} {s1 s2 : Nat} {K : Env → Heap → Prop} (hd : (o1.dst.isNone || o1.dst != o2.dst) = true) (hce : clashE o1 o2 = false)
    (hch : clashH o1 o2 = false ∨ (o1.boxy.isSome = true ∧ o2.boxy.isSome = true ∧ s1 ≠ s2)) (hf1 : foot o1 s1 e) (h : wpO P G o1 e H fun e1 H1 => foot o2 s2 e1 ∧ wpO P G o2 e1 H1 K) :
    foot o2 s2 e ∧ wpO P G o2 e H fun e2 H2 => foot o1 s1 e2 ∧ wpO P G o1 e2 H2 K := by
  have hce' := hce
  unfold clashE at hce'
  simp only [Bool.or_eq_false_iff] at hce'
  obtain ⟨hc1, hc2⟩ := hce'
  have hf2 : foot o2 s2 e := by
    obtain ⟨v1, H1, h1, h2⟩ := wpO_split.1 h
    exact (foot_set hc1).1 h2.1
  refine ⟨hf2, ?_⟩
  have h0 : wpO P G o1 e H fun e1 H1 => wpO P G o2 e1 H1 K := wpO_mono h fun _ _ hk => hk.2
  have main : wpO P G o2 e H fun e2 H2 => wpO P G o1 e2 H2 K := by
    by_cases hch0 : clashH o1 o2 = false
    · exact swap hd (by unfold clashes; rw [hce, hch0]; rfl) h0
    · obtain ⟨hb1, hb2, hne⟩ := hch.resolve_left hch0
      obtain ⟨p1, hp1⟩ := Option.isSome_iff_exists.1 hb1
      obtain ⟨p2, hp2⟩ := Option.isSome_iff_exists.1 hb2
      obtain ⟨off1, hev1⟩ := hf1 p1 hp1
      obtain ⟨off2, hev2⟩ := hf2 p2 hp2
      obtain ⟨v1, H1, h1, h⟩ := wpO_split.1 h0
      obtain ⟨v2, H2, h2, hK⟩ := wpO_split.1 h
      rw [Out_set hc1] at h2
      rw [set_comm hd] at hK
      have fin : ∀ H1', Out P G o2 e H v2 H1' → Out P G o1 e H1' v1 H2 → wpO P G o2 e H fun e2 H2 => wpO P G o1 e2 H2 K := fun H1' k1 k2 =>
        wpO_split.2 ⟨v2, H1', k1, wpO_split.2 ⟨v1, H2, (Out_set hc2).2 k2, hK⟩⟩
      rw [Out_boxy hp1 hev1] at h1
      rw [Out_boxy hp2 hev2] at h2
      rcases h1 with ⟨n1, ag1, cs1, a1, a2, a3, rfl⟩ | ⟨n1, x1, vs1, cs1, a1, a2, a3, a4, a5, rfl, rfl⟩
      · rcases h2 with ⟨n2, ag2, cs2, b1, b2, b3, rfl⟩ | ⟨n2, x2, vs2, cs2, b1, b2, b3, b4, b5, rfl, rfl⟩
        · exact fin _ ((Out_boxy hp2 hev2).2 (.inl ⟨n2, ag2, cs2, b1, b2, b3, rfl⟩)) ((Out_boxy hp1 hev1).2 (.inl ⟨n1, ag1, cs1, a1, a2, a3, rfl⟩))
        · refine fin _ ((Out_boxy hp2 hev2).2 (.inr ⟨n2, x2, vs2, cs2, b1, b2, b3, b4, b5, rfl, rfl⟩)) ((Out_boxy hp1 hev1).2 (.inl ⟨n1, ag1, cs1, a1, ?_, a3, rfl⟩))
          rw [List.getElem?_set_ne (Ne.symm hne)]; exact a2
      · rcases h2 with ⟨n2, ag2, cs2, b1, b2, b3, rfl⟩ | ⟨n2, x2, vs2, cs2, b1, b2, b3, b4, b5, rfl, rfl⟩
        · rw [List.getElem?_set_ne hne] at b2
          exact fin _ ((Out_boxy hp2 hev2).2 (.inl ⟨n2, ag2, cs2, b1, b2, b3, rfl⟩)) ((Out_boxy hp1 hev1).2 (.inr ⟨n1, x1, vs1, cs1, a1, a2, a3, a4, a5, rfl, rfl⟩))
        · rw [List.getElem?_set_ne hne] at b4
          refine fin _ ((Out_boxy hp2 hev2).2 (.inr ⟨n2, x2, vs2, cs2, b1, b2, b3, b4, b5, rfl, rfl⟩)) ((Out_boxy hp1 hev1).2 (.inr ⟨n1, x1, vs1, cs1, a1, a2, a3, ?_, a5, rfl, ?_⟩))
          · rw [List.getElem?_set_ne (Ne.symm hne)]; exact a4
          · exact List.set_comm _ _ hne
  obtain ⟨v2, H2, h1, h2⟩ := wpO_split.1 main
  exact wpO_split.2 ⟨v2, H2, h1, (foot_set hc2).2 hf1, h2⟩

theorem to_frontD {x : LOper} {s : Nat} {post : List (LOper × Nat)} {K : Env → Heap → Prop} : ∀ (pre : List (LOper × Nat)) (e : Env) (H : Heap),
    (∀ o ∈ pre, (o.1.dst.isNone || o.1.dst != x.dst) = true ∧ clashE o.1 x = false ∧ (clashH o.1 x = false ∨ (o.1.boxy.isSome = true ∧ x.boxy.isSome = true ∧ o.2 ≠ s))) →
    wpRD P G (pre ++ (x, s) :: post) e H K → foot x s e ∧ wpO P G x e H fun e' H' => wpRD P G (pre ++ post) e' H' K
  | [], e, H, _, h => h
  | (o, t) :: pre, e, H, hp, h => by
    obtain ⟨hf, h⟩ := h
    have h' : wpO P G o e H fun e1 H1 => foot x s e1 ∧ wpO P G x e1 H1 fun e' H' => wpRD P G (pre ++ post) e' H' K := wpO_mono h fun e1 H1 h1 => to_frontD pre e1 H1 (fun o ho => hp o (.tail _ ho)) h1
    obtain ⟨g1, g2, g3⟩ := hp (o, t) (.head _)
    exact swapD g1 g2 g3 hf h'

theorem front_orderedD {ops : Array Oper} {ls : List LOper} {s : List Nat} {K : Env → Heap → Prop} (ho : orderedD ops ls = true) (hs : ∀ p ∈ confl ops ls, s.getD p.1 0 ≠ s.getD p.2 0) (pre : List Nat) (i : Nat) (post : List Nat) (lo : LOper) (hlo : ls[i]? = some lo)
    (hpre : ∀ k ∈ pre, k < i ∧ k < ls.length ∧ waits ops ops.size k i = false) (e : Env) (H : Heap)
    (h : wpRD P G ((pre ++ i :: post).map fun i => (ls.getD i default, s.getD i 0)) e H K) : wpO P G lo e H fun e' H' => wpRD P G ((pre ++ post).map fun i => (ls.getD i default, s.getD i 0)) e' H' K := by
  have hgd : ls.getD i default = lo := by rw [List.getD_eq_getElem?_getD, hlo]; rfl
  rw [List.map_append, List.map_cons, hgd] at h
  rw [List.map_append]
  refine (to_frontD (pre.map fun i => (ls.getD i default, s.getD i 0)) e H (fun x hx => ?_) h).2
  obtain ⟨k, hk, rfl⟩ := List.mem_map.1 hx
  obtain ⟨hki, hkl, hw⟩ := hpre k hk
  have hkx : ls[k]? = some (ls.getD k default) := by rw [List.getD_eq_getElem?_getD, List.getElem?_eq_getElem hkl]; rfl
  unfold orderedD at ho
  have h1 := List.all_eq_true.1 ho (lo, i) (List.mem_zipIdx_iff_getElem?.2 hlo)
  have h2 := List.all_eq_true.1 h1 (ls.getD k default, k) (List.mem_zipIdx_iff_getElem?.2 hkx)
  simp only [hki, if_true, hw, Bool.false_or, Bool.and_eq_true, Bool.or_eq_true, Bool.not_eq_true'] at h2
  obtain ⟨g1, g2, g3⟩ := h2
  refine ⟨by simpa using g1, g2, ?_⟩
  by_cases hcl : clashH (ls.getD k default) lo = false
  · exact .inl hcl
  · refine .inr ⟨(g3.resolve_left hcl).1, (g3.resolve_left hcl).2, ?_⟩
    refine hs (k, i) ?_
    unfold confl
    refine List.mem_flatMap.2 ⟨(lo, i), List.mem_zipIdx_iff_getElem?.2 hlo, List.mem_map.2 ⟨(ls.getD k default, k), List.mem_filter.2 ⟨List.mem_zipIdx_iff_getElem?.2 hkx, ?_⟩, rfl⟩⟩
    have hcl' : clashH (ls.getD k default) lo = true := by simpa using hcl
    simp only [hki, hw, hcl', decide_true, Bool.not_false, Bool.and_self]
end
end Go.Proofs.Ythpcjekmgohelaa.Ab

/- ABSTRACT RUNS, 23: code, functions. -/
namespace Go.Proofs.Ythpcjekmgohelaa.Ab
open Go Go.RowKit
set_option linter.unusedSimpArgs false
set_option linter.unusedVariables false

def exOf : AExit → Exit
  | .normal => .normal
  | .exit id => .exit id
  | .ret => .ret

theorem exists_least (p : Nat → Prop) (h : ∃ n, p n) : ∃ n, p n ∧ ∀ m, p m → n ≤ m := by
  obtain ⟨n, hn⟩ := h
  induction n using Nat.strongRecOn with
  | _ n ih =>
    by_cases hm : ∃ m, m < n ∧ p m
    · obtain ⟨m, h1, h2⟩ := hm; exact ih m h1 h2
    · exact ⟨n, hn, fun m hm' => Nat.le_of_not_lt fun hlt => hm ⟨m, hlt, hm'⟩⟩

open Classical in
noncomputable def least (p : Nat → Prop) : Nat := if h : ∃ n, p n then Classical.choose (exists_least p h) else 0
theorem least_spec {p : Nat → Prop} (h : ∃ n, p n) : p (least p) := by unfold least; rw [dif_pos h]; exact (Classical.choose_spec (exists_least p h)).1
theorem least_le {p : Nat → Prop} {n : Nat} (h : p n) : least p ≤ n := by unfold least; rw [dif_pos ⟨n, h⟩]; exact (Classical.choose_spec (exists_least p ⟨n, h⟩)).2 n h

section
variable {P : Program} {G : GI} {F0 : Nat → Prop} {B0 : Nat} {w0 : World} {β0 κ0 : Nat → Nat} {H0 : Heap} {nt : Nat}

/-- What is done comes of the machine's code. -/
def CodeOk (P : Program) (G : GI) (F0 : Nat → Prop) (B0 : Nat) (w0 : World) (β0 κ0 : Nat → Nat) (H0 : Heap) (nt : Nat) (c : Code) (lc : LCode) : Prop :=
  ∀ (Q' : AExit → Env → Heap → Prop) (Q : Exit → Act → World → Prop) (a : Act) (w : World) (e : Env) (H : Heap) (β κ : Nat → Nat), Inv G F0 B0 w0 β0 κ0 H0 nt a w e H β κ → wpC P G lc e H Q' →
    (∀ x a' w' e' H' β' κ', Inv G F0 B0 w0 β0 κ0 H0 nt a' w' e' H' β' κ' → Q' x e' H' → Q (exOf x) a' w') → c.wp P Q a w

theorem loop_ok {c : Code} {lc : LCode} (ih : CodeOk P G F0 B0 w0 β0 κ0 H0 nt c lc) : CodeOk P G F0 B0 w0 β0 κ0 H0 nt (.loop c) (.loop lc) := by
  intro Q' Q a w e H β κ hi hwp hQ
  obtain ⟨n, hn⟩ := hwp
  let J : Act → World → Nat → Prop := fun a w n => ∃ e H β κ, Inv G F0 B0 w0 β0 κ0 H0 nt a w e H β κ ∧ rounds (wpC P G lc) n e H Q'
  refine wp_loop (fun a w => ∃ n, J a w n) (fun a w => least (J a w)) ⟨n, e, H, β, κ, hi, hn⟩ ?_
  intro a w hJ
  have hsp := least_spec hJ
  generalize least (J a w) = m at hsp ⊢
  obtain ⟨e, H, β, κ, hi, hr⟩ := hsp
  cases m with
  | zero => exact hr.elim
  | succ m =>
    refine ih _ _ a w e H β κ hi hr ?_
    intro x a' w' e' H' β' κ' hi' hx
    cases x with
    | normal =>
      have hj : J a' w' m := ⟨e', H', β', κ', hi', hx⟩
      exact ⟨⟨m, hj⟩, Nat.lt_succ_of_le (least_le hj)⟩
    | exit id => exact hQ _ _ _ _ _ _ _ hi' hx
    | ret => exact hQ _ _ _ _ _ _ _ hi' hx

theorem code_sound : ∀ (c : Code) (lc : LCode), cCode P nt c = some lc → CodeOk P G F0 B0 w0 β0 κ0 H0 nt c lc := by
  intro c
  induction c with
  | skip =>
    intro lc hc Q' Q a w e H β κ hi hwp hQ
    simp only [cCode, Option.some.injEq] at hc; subst hc
    exact wp_skip (hQ _ _ _ _ _ _ _ hi hwp)
  | region id ops draw =>
    intro lc hc Q' Q a w e H β κ hi hwp hQ
    simp only [cCode] at hc
    split at hc
    · rename_i ls hls
      cases draw with
      | false =>
        simp only [Bool.false_eq_true, if_false, Option.some.injEq] at hc; subst hc
        refine wp_region ?_
        have := text_run (Q := Q) ops.toList ls 0 (fun j => by simp) hls a w e H β κ hi hwp (fun a' w' e' H' β' κ' hi' hq => hQ .normal _ _ _ _ _ _ hi' hq)
        rw [List.range_eq_range']
        simpa using this
      | true =>
        simp only [if_true] at hc
        have hi2 : Inv G F0 B0 w0 β0 κ0 H0 nt a { w with drawn := w.drawn + 1 } e H β κ :=
          ⟨hi.adv.trans (adv_drawn hi.adv.hs _), hi.rel.le (adv_drawn hi.adv.hs _).le, hi.size, hi.defers⟩
        have hleft : left ops.size (Array.replicate ops.size false) = List.range ops.size := by
          unfold left
          refine List.filter_eq_self.2 fun i hi => ?_
          have hlt : i < ops.size := by simpa using hi
          rw [Array.getD_eq_getD_getElem?]
          simp [hlt]
        obtain ⟨hlen, _⟩ := cOpers_get hls
        have hlen' : ls.length = ops.size := by rw [← hlen, Array.length_toList]
        have hcl0 : ∀ k o, ops[k]? = some o → (Array.replicate ops.size false).getD k false = true → ∀ ed ∈ o.after, Region.binds .any ed = true → (Array.replicate ops.size false).getD ed.on false = true := by
          intro k o hk hl
          rw [Array.getD_eq_getD_getElem?] at hl
          have hlt : k < ops.size := (Array.getElem?_eq_some_iff.1 hk).1
          simp [hlt] at hl
        split at hc
        · rename_i hcond
          simp only [Bool.and_eq_true] at hcond
          obtain ⟨hm, hf⟩ := hcond
          refine wp_region_any hm ?_
          split at hc
          · rename_i ho
            simp only [Option.some.injEq] at hc; subst hc
            have hmap : ((List.range ops.size).map fun i => ls.getD i default) = ls := by
              apply List.ext_getElem?
              intro i
              rw [List.getElem?_map]
              by_cases hlt : i < ops.size
              · have hlt2 : i < ls.length := by omega
                rw [List.getElem?_range hlt, List.getElem?_eq_getElem hlt2]
                simp only [Option.map_some, List.getD_eq_getElem?_getD, List.getElem?_eq_getElem hlt2, Option.getD_some]
              · rw [List.getElem?_eq_none (by simpa using hlt), List.getElem?_eq_none (by omega)]; rfl
            refine any_run (W := fun rem e H => wpR P G (rem.map fun i => ls.getD i default) e H (Q' .normal)) hls hf (fun pre i post lo hlo hpre e H h => front_ordered ho pre i post lo hlo hpre e H h) (fun a' w' e' H' β' κ' hi' hq => hQ .normal _ _ _ _ _ _ hi' hq)
              ops.size _ a _ e H β κ (by simp) (by rw [hleft]; simp) hcl0 hi2 (by rw [hleft, hmap]; exact hwp)
          · split at hc
            · rename_i ho
              simp only [Option.some.injEq] at hc; subst hc
              obtain ⟨s, hs, hwp⟩ := hwp
              rw [hlen'] at hwp
              refine any_run (W := fun rem e H => wpRD P G (rem.map fun i => (ls.getD i default, s.getD i 0)) e H (Q' .normal)) hls hf (fun pre i post lo hlo hpre e H h => front_orderedD ho hs pre i post lo hlo hpre e H h) (fun a' w' e' H' β' κ' hi' hq => hQ .normal _ _ _ _ _ _ hi' hq)
                ops.size _ a _ e H β κ (by simp) (by rw [hleft]; simp) hcl0 hi2 (by rw [hleft]; exact hwp)
            · simp at hc
        · simp at hc
    · simp at hc
  | seq x y ihx ihy =>
    intro lc hc Q' Q a w e H β κ hi hwp hQ
    simp only [cCode] at hc
    split at hc
    · rename_i lx ly hx hy
      simp only [Option.some.injEq] at hc; subst hc
      refine wp_seq (ihx lx hx _ _ a w e H β κ hi hwp ?_)
      intro z a' w' e' H' β' κ' hi' hz
      cases z with
      | normal => exact ihy ly hy Q' Q a' w' e' H' β' κ' hi' hz hQ
      | exit id => exact hQ _ _ _ _ _ _ _ hi' hz
      | ret => exact hQ _ _ _ _ _ _ _ hi' hz
    · simp at hc
  | cond c x y ihx ihy =>
    intro lc hc Q' Q a w e H β κ hi hwp hQ
    simp only [cCode] at hc
    split at hc
    · rename_i c' lx ly hcc hx hy
      simp only [Option.some.injEq] at hc; subst hc
      have r1 := opd_sound hi.rel hcc
      simp only [wpC] at hwp
      split at hwp
      · rename_i t heq
        rw [heq] at r1
        refine wp_cond_split r1.inv_b (fun ht => ?_) (fun ht => ?_)
        · exact ihx lx hx Q' Q a w e H β κ hi (hwp.1 ht) hQ
        · exact ihy ly hy Q' Q a w e H β κ hi (hwp.2 ht) hQ
      · exact hwp.elim
    · simp at hc
  | block id c ih =>
    intro lc hc Q' Q a w e H β κ hi hwp hQ
    simp only [cCode, Option.map_eq_some_iff] at hc
    obtain ⟨lc', hc, rfl⟩ := hc
    refine wp_block (ih lc' hc _ _ a w e H β κ hi hwp ?_)
    intro z a' w' e' H' β' κ' hi' hz
    cases z with
    | normal => exact hQ .normal _ _ _ _ _ _ hi' hz
    | exit j =>
      simp only at hz
      simp only [exOf, Exit.inBlock]
      split at hz
      · rename_i h; rw [if_pos h]; exact hQ .normal _ _ _ _ _ _ hi' hz
      · rename_i h; rw [if_neg h]; exact hQ (.exit j) _ _ _ _ _ _ hi' hz
    | ret => exact hQ .ret _ _ _ _ _ _ hi' hz
  | loop c ih =>
    intro lc hc
    simp only [cCode, Option.map_eq_some_iff] at hc
    obtain ⟨lc', hc, rfl⟩ := hc
    exact loop_ok (ih lc' hc)
  | exit id =>
    intro lc hc Q' Q a w e H β κ hi hwp hQ
    simp only [cCode, Option.some.injEq] at hc; subst hc
    exact wp_exit (hQ (.exit id) _ _ _ _ _ _ hi hwp)
  | ret =>
    intro lc hc Q' Q a w e H β κ hi hwp hQ
    simp only [cCode, Option.some.injEq] at hc; subst hc
    exact wp_ret (hQ .ret _ _ _ _ _ _ hi hwp)
  | label l =>
    intro lc hc Q' Q a w e H β κ hi hwp hQ
    simp only [cCode, Option.some.injEq] at hc; subst hc
    exact wp_label (hQ .normal _ _ _ _ _ _ hi hwp)
  | scope c ih =>
    intro lc hc Q' Q a w e H β κ hi hwp hQ
    simp only [cCode, Option.map_eq_some_iff] at hc
    obtain ⟨lc', hc, rfl⟩ := hc
    refine wp_scope_straight (ih lc' hc Q' _ a w e H β κ hi hwp ?_)
    intro z a' w' e' H' β' κ' hi' hz
    have := hQ z _ _ _ _ _ _ hi' hz
    cases z <;> exact this
  | _ =>
    intro lc hc
    simp [cCode] at hc
end
end Go.Proofs.Ythpcjekmgohelaa.Ab

/- ABSTRACT RUNS, 24: functions. -/
namespace Go.Proofs.Ythpcjekmgohelaa.Ab
open Go Go.RowKit
set_option linter.unusedSimpArgs false
set_option linter.unusedVariables false

section
variable {P : Program} {G : GI} {F0 : Nat → Prop} {B0 : Nat} {w0 w : World} {β0 κ0 β κ : Nat → Nat} {H0 H : Heap} {nt : Nat} {a : Act} {e : Env}

def resRun (tmps : Array Value) : ResultVar → Sem Value
  | .tmp t => pure (tmps.getD t undef)
  | .cell a t => do loadVar t (← asAddr (tmps.getD a undef))

theorem resList (hs : HS G F0 B0 w β κ H) (he : RelE (RPof F0 B0 w β κ H) a e) : ∀ (rs : List ResultVar) (lr : List (Nat × Option (Nat × Bool))) (cs : List AVal), cRes P rs = some lr → resOf e H lr = some cs →
    ∃ vs, (rs.mapM (resRun a.tmps)).run P w = .ok vs w ∧ vs.length = cs.length ∧ ∀ j, j < cs.length → Rel (RPof F0 B0 w β κ H) (vs.getD j undef) (cs.getD j .u)
  | [], lr, cs, h1, h2 => by
    simp [cRes] at h1; subst h1
    simp [resOf] at h2; subst h2
    exact ⟨[], by simp, rfl, fun j hj => by simp at hj⟩
  | .tmp t :: rs, lr, cs, h1, h2 => by
    simp only [cRes, Option.map_eq_some_iff] at h1
    obtain ⟨lr', h1, rfl⟩ := h1
    simp only [resOf, Option.map_eq_some_iff] at h2
    obtain ⟨cs', h2, rfl⟩ := h2
    obtain ⟨vs, g1, g2, g3⟩ := resList hs he rs lr' cs' h1 h2
    refine ⟨a.tmps.getD t undef :: vs, by simp [resRun, g1], by simp [g2], fun j hj => ?_⟩
    cases j with
    | zero => exact he t
    | succ j => simpa using g3 j (by simpa using hj)
  | .cell t ty :: rs, lr, cs, h1, h2 => by
    simp only [cRes, okb] at h1
    split at h1
    · rename_i n ag l hn hag hl
      split at h1
      · rename_i hcond
        simp only [Option.some.injEq] at h1; subst h1
        simp only [resOf] at h2
        split at h2
        · rename_i id o heq
          split at h2
          · rename_i cells hobj
            split at h2
            · rename_i v vs' hld hrest
              simp only [Option.some.injEq] at h2; subst h2
              obtain ⟨vs, g1, g2, g3⟩ := resList hs he rs l vs' hl hrest
              obtain ⟨bs, T, k1, k2⟩ := hs.obj id _ hobj
              have hload := load_sound (P := P) (Lies.box k1 k2) hn hag hld
              obtain ⟨z, hz, hzr⟩ := hload
              have r1 := he t
              rw [heq] at r1
              have hz' : (loadVar ty ⟨β id, o, none⟩).run P w = .ok z w := by rw [Nat.zero_add] at hz; exact hz
              generalize hv : a.tmps.getD t undef = vt at r1
              cases r1 with
              | ptr _ _ hid =>
                refine ⟨z :: vs, ?_, by simp [g2], fun j hj => ?_⟩
                · simp [resRun, hv, asAddr, RPof, hz', g1]
                · cases j with
                  | zero => exact hzr
                  | succ j => simpa using g3 j (by simpa using hj)
            · simp at h2
          · simp at h2
        · simp at h2
      · simp at h1
    · simp at h1

theorem res_sound {fn : Func} {lr : List (Nat × Option (Nat × Bool))} {cs : List AVal} (hs : HS G F0 B0 w β κ H) (he : RelE (RPof F0 B0 w β κ H) a e) (h1 : cRes P fn.results.toList = some lr) (h2 : resOf e H lr = some cs) :
    ∃ v, (results fn a.tmps).run P w = .ok v w ∧ Rel (RPof F0 B0 w β κ H) v (oneRes cs) := by
  obtain ⟨vs, g1, g2, g3⟩ := resList hs he _ lr cs h1 h2
  have hm : (fn.results.mapM (resRun a.tmps)).run P w = .ok vs.toArray w := by
    rw [Array.mapM_eq_mapM_toList]
    simp [g1]
  have hr : results fn a.tmps = (do let vs ← fn.results.mapM (resRun a.tmps); pure (if h : vs.size = 1 then vs[0] else .tuple vs)) := by
    unfold results
    congr 1
  rw [hr]
  simp only [Sem.run_bind, hm, Result.andThen_ok]
  by_cases hone : cs.length = 1
  · obtain ⟨c, rfl⟩ := List.length_eq_one_iff.1 hone
    obtain ⟨v, rfl⟩ := List.length_eq_one_iff.1 (g2.trans hone)
    exact ⟨v, by simp, by simpa [oneRes] using g3 0 (by simp)⟩
  · have ho : oneRes cs = .tup cs := by
      unfold oneRes
      split
      · simp at hone
      · rfl
    refine ⟨.tuple vs.toArray, by simp [g2, hone], ?_⟩
    rw [ho]
    exact .tup _ _ (by simp [g2]) (fun j hj => by rw [getD_toList]; exact g3 j hj)

/-- How a run that works on a heap ends. -/
def EndS (res : List (Nat × Option (Nat × Bool))) (r : AVal) (H' : Heap) (x : AExit) (e : Env) (H : Heap) : Prop :=
  (match x with | .exit _ => False | _ => True) ∧ ∃ vs, resOf e H res = some vs ∧ oneRes vs = r ∧ H = H'
/-- How a run ends that hands back a value without numbers. -/
def EndP (res : List (Nat × Option (Nat × Bool))) (r : AVal) (x : AExit) (e : Env) (H : Heap) : Prop :=
  (match x with | .exit _ => False | _ => True) ∧ ∃ vs, resOf e H res = some vs ∧ frz H (oneRes vs) = some r

theorem run_fun {f : FuncId} {lf : LFunc} {args : List AVal} {vals : Array Value} {Q' : AExit → Env → Heap → Prop} {R : Ending → World → Prop} (hc : cFunc P f = some lf) (hn : args.length = lf.np) (hs : HS G F0 B0 w β κ H)
    (hr : RelL (RPof F0 B0 w β κ H) vals args) (hwp : wpC P G lf.body (env0 args) H Q')
    (hQ : ∀ x w' e' H' β' κ', Adv G F0 B0 w β κ H w' β' κ' H' → Q' x e' H' → (match x with | .exit _ => False | _ => True) ∧ ∃ vs, resOf e' H' lf.res = some vs ∧ ∀ v, Rel (RPof F0 B0 w' β' κ' H') v (oneRes vs) → R (.returned v) w') :
    Calls P f vals w R := by
  unfold cFunc at hc
  split at hc
  · rename_i fn hfn
    split at hc
    · rename_i body hbody
      split at hc
      · rename_i c r hcc hcr
        unfold okb at hc
        split at hc
        · rename_i hle
          simp only [Option.some.injEq] at hc; subst hc
          simp only at hn hwp hQ
          have hle' : fn.nfree + fn.params.size ≤ fn.ntmps := by simpa using hle
          have hsz : vals.size = args.length := hr.1
          refine calls_of_wp hfn hbody ?_
          have hi : Inv G F0 B0 w β κ H fn.ntmps { tmps := vals ++ Array.replicate (fn.ntmps - vals.size) undef, defers := [] } w (env0 args) H β κ := by
            refine ⟨Adv.refl hs, fun t => ?_, by simp; omega, rfl⟩
            simp only [env0]
            by_cases ht : t < args.length
            · rw [Array.getD_eq_getD_getElem?, Array.getElem?_append_left (by omega), ← Array.getD_eq_getD_getElem?]
              exact hr.2 t ht
            · rw [List.getD_eq_getElem?_getD, List.getElem?_eq_none (by omega)]
              exact .u _
          refine code_sound body c hcc Q' _ _ w _ H β κ hi hwp ?_
          intro x a' w' e' H' β' κ' hi' hx
          obtain ⟨k1, vs, k2, k3⟩ := hQ x w' e' H' β' κ' hi'.adv hx
          obtain ⟨v, k4, k5⟩ := res_sound (P := P) hi'.adv.hs hi'.rel hcr k2
          cases x with
          | normal => exact ⟨hi'.defers, v, k4, k3 v k5⟩
          | ret => exact ⟨hi'.defers, v, k4, k3 v k5⟩
          | exit id => exact k1.elim
        · simp at hc
      · simp at hc
    · simp at hc
  · simp at hc

theorem EvS_intro {f : FuncId} {lf : LFunc} {args : List AVal} {r : AVal} {H' : Heap} (hc : cFunc P f = some lf) (hn : args.length = lf.np) (hwp : wpC P G lf.body (env0 args) H (EndS lf.res r H')) : EvS P G f args H r H' := by
  intro F0 B0 w β κ vals hs hr
  refine run_fun hc hn hs hr hwp ?_
  rintro x w' e' H'' β' κ' hadv ⟨h1, vs, h2, rfl, rfl⟩
  exact ⟨h1, vs, h2, fun v hv => ⟨v, β', κ', rfl, hadv.hs, hadv.kept, hadv.mt, hadv.len, hadv.agree, hv⟩⟩

theorem EvP_intro {f : FuncId} {lf : LFunc} {args : List AVal} {r : AVal} (hc : cFunc P f = some lf) (hn : args.length = lf.np) (hwp : wpC P G lf.body (env0 args) [] (EndP lf.res r)) : EvP P G f args r := by
  intro F0 w vals hgw hng hf0 hr
  have hs : HS G F0 w.heap.size w id id [] := ⟨hgw, hng, Nat.le_refl _, hf0, fun id o h => by simp at h, fun id o h => by simp at h, fun id id' o o' h => by simp at h, fun id o h => by simp at h⟩
  refine run_fun hc hn hs hr hwp ?_
  rintro x w' e' H'' β' κ' hadv ⟨h1, vs, h2, h3⟩
  refine ⟨h1, vs, h2, fun v hv => ⟨v, rfl, ?_, ?_⟩⟩
  · have hk := hadv.kept
    exact ⟨hk.os, hk.tape, hk.output, hk.size, fun b hb => hk.block b hb (fun ⟨i, o, h, _⟩ => by simp at h)⟩
  · obtain ⟨hfx, hfz⟩ := fixAll_fx [oneRes vs] H''
    have := frz_rel hadv.hs hfx hv h3 (hfz _ (.head _))
    have hle : (RPof (Fcall F0 w.heap.size w' β' ([oneRes vs].foldl fix H'')) w'.heap.size w' id id []).Le (RPof F0 w.heap.size w' id id []) := by
      refine ⟨fun b hb => ?_, fun _ _ => rfl, Nat.le_refl _, fun _ _ => rfl, fun _ _ => rfl⟩
      obtain ⟨q1, q2, q3⟩ := hb
      refine ⟨?_, q2, q3⟩
      rcases q1 with q1 | q1
      · exact q1.1
      · exact .inr (Nat.le_trans hadv.kept.size q1)
    exact this.le hle
end
end Go.Proofs.Ythpcjekmgohelaa.Ab
