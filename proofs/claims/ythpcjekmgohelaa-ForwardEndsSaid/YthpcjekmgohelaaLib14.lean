/- FUNCTIONS, 12: who comes to some, and in how many steps. -/
import Derived.Test.YthpcjekmgohelaaLib13
set_option linter.unusedVariables false
set_option linter.unusedSimpArgs false
namespace Go.Proofs.Ythpcjekmgohelaa.Ab
open Go Go.Proofs
set_option linter.unusedVariables false
set_option linter.unusedSimpArgs false
variable {G : GI}

def startL (to : List Bool) (n : Nat) : List Bool := to.take n ++ List.replicate (n - to.length) false
theorem startL_len (to : List Bool) (n : Nat) : (startL to n).length = n := by simp [startL]; omega
theorem startL_rows (to : List Bool) (n : Nat) : (startL to n).map bcells = (to.map bcells).take n ++ (List.replicate n [AVal.b false]).drop (to.map bcells).length := by
  simp [startL, bcells, List.map_take]
def orL (R S : List Bool) (j : Nat) : List Bool := List.zipWith (· || ·) (R.take j) (S.take j) ++ R.drop j
theorem orL_zero (R S : List Bool) : orL R S 0 = R := by simp [orL]
theorem orL_all {R S : List Bool} {n : Nat} (hR : R.length = n) (hS : S.length = n) : orL R S n = List.zipWith (· || ·) R S := by
  subst hR
  simp only [orL, List.take_length, List.drop_length, List.append_nil]
  rw [← hS, List.take_length]
theorem orL_len {R S : List Bool} {n j : Nat} (hR : R.length = n) (hS : S.length = n) (h : j ≤ n) : (orL R S j).length = n := by simp [orL, hR, hS]; omega
theorem orL_at {R S : List Bool} {n j : Nat} (hR : R.length = n) (hS : S.length = n) (h : j < n) : (orL R S j)[j]? = some (R[j]'(by omega)) := by
  have hl : (List.zipWith (· || ·) (R.take j) (S.take j)).length = j := by simp [hR, hS]; omega
  unfold orL
  rw [List.getElem?_append_right (Nat.le_of_eq hl), hl, Nat.sub_self, List.getElem?_drop, Nat.add_zero, List.getElem?_eq_getElem]
theorem orL_set {R S : List Bool} {n j : Nat} (hR : R.length = n) (hS : S.length = n) (h : j < n) : (orL R S j).set j (R[j]'(by omega) || S[j]'(by omega)) = orL R S (j + 1) := by
  have hl : (List.zipWith (· || ·) (R.take j) (S.take j)).length = j := by simp [hR, hS]; omega
  unfold orL
  rw [List.set_append_right j _ (Nat.le_of_eq hl), hl, Nat.sub_self, List.drop_eq_getElem_cons (by omega : j < R.length), List.set_cons_zero,
    List.take_succ_eq_append_getElem (by omega : j < R.length), List.take_succ_eq_append_getElem (by omega : j < S.length),
    List.zipWith_append (by simp [hR, hS]), List.append_assoc]
  rfl
def reachM (g : List (List Int)) (to : List Bool) : Nat → List Bool
  | 0 => startL to g.length
  | i + 1 => List.zipWith (· || ·) (reachM g to i) (stepM g (reachM g to i))
theorem reachM_len (g : List (List Int)) (to : List Bool) : ∀ i, (reachM g to i).length = g.length
  | 0 => startL_len _ _
  | i + 1 => by simp [reachM, reachM_len g to i, stepM_len]

theorem step_evS' (g : List (List Int)) (to : List Bool) (n : Nat) (hn : (to.map bcells).length = n) (hg : GraphOk g) :
    EvS Try.prog G fn_forward_step [.sl (g.map gcells), .row 0 n] [.row 1 (to.map bcells) false] (.row 1 (g.map gcells).length) [.row 1 (to.map bcells) false, .row 1 ((stepM g to).map bcells) false] := by
  subst hn; exact forward_step_evS g to hg.len hg.row

abbrev reE (g : List (List Int)) (i : Nat) : Slots := [(16, .i .i64 (i : Nat)), (15, .i .i64 ((g.map gcells).length : Nat)), (5, .row 0 (g.map gcells).length), (0, .sl (g.map gcells))]
abbrev reF (g : List (List Int)) (S : List Bool) (i j : Nat) : Slots := [(22, .i .i64 (j : Nat)), (21, .i .i64 ((g.map gcells).length : Nat)), (20, .sl (S.map bcells)), (16, .i .i64 (i : Nat)), (15, .i .i64 ((g.map gcells).length : Nat)), (5, .row 0 (g.map gcells).length), (0, .sl (g.map gcells))]

theorem forward_Reach_ev (g : List (List Int)) (to : List Bool) (hg : GraphOk g) : EvP Try.prog G fn_forward_Reach [.sl (g.map gcells), .sl (to.map bcells)] (.sl ((reachM g to g.length).map bcells)) := by
  have c1 := clean_sl gcells_clean g
  have hlg : (g.map gcells).length = g.length := by simp
  have hgl := hg.len
  have cB : ∀ L : List Bool, cleanLL (L.map bcells) = true := fun L => clean_rows (fun _ => rfl) _
  have lB : ∀ L : List Bool, ∀ r ∈ L.map bcells, r.length = 1 := fun L => len_rows (f := bcells) (fun _ => rfl) _
  refine evP c_forward_Reach rfl ?_
  (repeat' first | refine t_seq ?_ | refine t_reg ?_ | refine t_skip ?_ | refine t_scope ?_ | refine t_ret ?_ | refine t_exit ?_ | refine lit_t rfl ?_ | refine lit_f rfl ?_ | refine And.intro (And.intro rfl (Nat.le_of_ble_eq_true rfl)) ?_ | refine c_t rfl ?_ | refine c_f rfl ?_)
  refine And.intro (And.intro rfl ?_) ?_
  · exact ⟨by omega, by omega, by omega, rfl⟩
  (repeat' first | refine t_seq ?_ | refine t_reg ?_ | refine t_skip ?_ | refine t_scope ?_ | refine t_ret ?_ | refine t_exit ?_ | refine lit_t rfl ?_ | refine lit_f rfl ?_ | refine And.intro (And.intro rfl (Nat.le_of_ble_eq_true rfl)) ?_ | refine c_t rfl ?_ | refine c_f rfl ?_)
  refine Exists.intro _ (And.intro rfl (And.intro (And.intro rfl (And.intro ?_ (lB _))) ?_))
  · simp
  (repeat' first | refine t_seq ?_ | refine t_reg ?_ | refine t_skip ?_ | refine t_scope ?_ | refine t_ret ?_ | refine t_exit ?_ | refine lit_t rfl ?_ | refine lit_f rfl ?_ | refine And.intro (And.intro rfl (Nat.le_of_ble_eq_true rfl)) ?_ | refine c_t rfl ?_ | refine c_f rfl ?_)
  refine t_range (g.map gcells).length (by omega) (fun i E H => i ≤ (g.map gcells).length ∧ E = reE g i ∧ H = [.row 1 ((reachM g to i).map bcells) false]) (reE g 0) [.row 1 ((reachM g to 0).map bcells) false] ?_ ⟨Nat.zero_le _, rfl, rfl⟩ ?_ ?_ ?_
  · refine moveL [0] rfl (by decide) ⟨.inr ⟨_, rfl, cvO_row_as (by rw [← startL_rows, Int.toNat_natCast, hlg]; rfl) (cB _) (lB _)⟩, trivial⟩ ?_
    refine ⟨?_, ?_, ?_, ?_, trivial⟩ <;> (first | exact .cl _ rfl | exact .cl _ (by assumption) | exact cv_ptr (Nat.le_of_ble_eq_true rfl) rfl | exact .nilS | exact cv_own (Nat.le_of_ble_eq_true rfl) rfl | exact cv_row (Nat.le_of_ble_eq_true rfl) rfl | exact cv_mp (Nat.le_of_ble_eq_true rfl) rfl)
  · rintro i E H ⟨hi, rfl, rfl⟩; exact ⟨hi, rfl, rfl⟩
  · rintro i E H hlt ⟨hi, rfl, rfl⟩
    have hlt' : i < g.length := by omega
    generalize hR : reachM g to i = R
    have hRl : R.length = g.length := by rw [← hR]; exact reachM_len g to i
    have hSl := stepM_len g R
    (repeat' first | refine t_seq ?_ | refine t_reg ?_ | refine t_skip ?_ | refine t_scope ?_ | refine t_ret ?_ | refine t_exit ?_ | refine lit_t rfl ?_ | refine lit_f rfl ?_ | refine And.intro (And.intro rfl (Nat.le_of_ble_eq_true rfl)) ?_ | refine c_t rfl ?_ | refine c_f rfl ?_ | (refine sp_t (fun h => ?_) (fun h => ?_) <;> (try simp only [List.length_map] at h)) | (refine sp_f (fun h => ?_) (fun h => ?_) <;> (try simp only [List.length_map] at h)) | refine sq_t (fun h => ?_) (fun h => ?_) | refine sq_f (fun h => ?_) (fun h => ?_) | refine sb_t (fun h => ?_) (fun h => ?_) | refine sb_f (fun h => ?_) (fun h => ?_) | (refine c_nd rfl (fun h => ?_) (fun h => ?_) <;> (try simp only [List.length_map] at h)) | (refine c_d rfl (fun h => ?_) (fun h => ?_) <;> (try simp only [List.length_map] at h)) | refine c_nq rfl (fun h => ?_) (fun h => ?_) | refine c_q rfl (fun h => ?_) (fun h => ?_) | refine c_nb rfl (fun h => ?_) (fun h => ?_) | refine c_b rfl (fun h => ?_) (fun h => ?_) | refine And.intro (by omega) (Exists.intro _ (And.intro (row_atN (by omega)) (And.intro rfl ?_))) | (first | refine call_heap (step_evS' g R (g.map gcells).length (by rw [List.length_map, hRl, hlg]) hg) ?_) | refine And.intro rfl (Exists.intro _ (And.intro rfl ?_)) | refine Exists.intro _ (And.intro rfl ?_))
    generalize hS : stepM g R = S at hSl ⊢
    refine t_range (g.map gcells).length (by omega) (fun j E H => j ≤ (g.map gcells).length ∧ E = reF g S i j ∧ H = [.row 1 ((orL R S j).map bcells) false]) (reF g S i 0) [.row 1 ((orL R S 0).map bcells) false] ?_ ⟨Nat.zero_le _, rfl, rfl⟩ ?_ ?_ ?_
    · refine moveL [0] rfl (by decide) ⟨.inr ⟨_, rfl, cvO_row_as (by rw [orL_zero]) (cB _) (lB _)⟩, trivial⟩ ?_
      refine ⟨?_, ?_, ?_, ?_, ?_, ?_, ?_, trivial⟩ <;> first | (first | exact .cl _ rfl | exact .cl _ (by assumption) | exact cv_ptr (Nat.le_of_ble_eq_true rfl) rfl | exact .nilS | exact cv_own (Nat.le_of_ble_eq_true rfl) rfl | exact cv_row (Nat.le_of_ble_eq_true rfl) rfl | exact cv_mp (Nat.le_of_ble_eq_true rfl) rfl) | skip
      exact cv_frz rfl (still_of (by rfl) (by rfl)) rfl (by rw [List.length_map, hSl, hlg]) (cB _) (lB _)
    · rintro j E H ⟨hj, rfl, rfl⟩; exact ⟨hj, rfl, rfl⟩
    · rintro j E H hltj ⟨hj, rfl, rfl⟩
      have hltj' : j < S.length := by omega
      have hltR : j < R.length := by omega
      have hat := rows_at (f := bcells) (orL_at hRl hSl (by omega : j < g.length))
      have hset := orL_set hRl hSl (by omega : j < g.length)
      have c2 := clean_sl (f := bcells) (fun _ => rfl) S
      (repeat' first | refine t_seq ?_ | refine t_reg ?_ | refine t_skip ?_ | refine t_scope ?_ | refine t_ret ?_ | refine t_exit ?_ | refine lit_t rfl ?_ | refine lit_f rfl ?_ | refine And.intro (And.intro rfl (Nat.le_of_ble_eq_true rfl)) ?_ | refine c_t rfl ?_ | refine c_f rfl ?_)
      refine And.intro (Int.natCast_nonneg j) (Exists.intro _ (And.intro (row_at hltj') (And.intro rfl ?_)))
      generalize S[j] = s at hset ⊢
      generalize R[j] = r at hset hat ⊢
      (repeat' first | refine t_seq ?_ | refine t_reg ?_ | refine t_skip ?_ | refine t_scope ?_ | refine t_ret ?_ | refine t_exit ?_ | refine lit_t rfl ?_ | refine lit_f rfl ?_ | refine And.intro (And.intro rfl (Nat.le_of_ble_eq_true rfl)) ?_ | refine c_t rfl ?_ | refine c_f rfl ?_ | (refine sp_t (fun h => ?_) (fun h => ?_) <;> (try simp only [List.length_map] at h)) | (refine sp_f (fun h => ?_) (fun h => ?_) <;> (try simp only [List.length_map] at h)) | refine sq_t (fun h => ?_) (fun h => ?_) | refine sq_f (fun h => ?_) (fun h => ?_) | refine sb_t (fun h => ?_) (fun h => ?_) | refine sb_f (fun h => ?_) (fun h => ?_) | (refine c_nd rfl (fun h => ?_) (fun h => ?_) <;> (try simp only [List.length_map] at h)) | (refine c_d rfl (fun h => ?_) (fun h => ?_) <;> (try simp only [List.length_map] at h)) | refine c_nq rfl (fun h => ?_) (fun h => ?_) | refine c_q rfl (fun h => ?_) (fun h => ?_) | refine c_nb rfl (fun h => ?_) (fun h => ?_) | refine c_b rfl (fun h => ?_) (fun h => ?_) | refine And.intro (by omega) (Exists.intro _ (And.intro (row_atN (by omega)) (And.intro rfl ?_))) | (first | refine And.intro rfl (Exists.intro _ (And.intro (hat) (Exists.intro _ (And.intro rfl ?_)))) | refine And.intro (And.intro rfl (And.intro rfl (Nat.le_of_ble_eq_true rfl))) (Exists.intro _ (And.intro (hat) ?_)) | refine And.intro (And.intro (by omega) (by omega)) ?_) | refine And.intro rfl (Exists.intro _ (And.intro rfl ?_)) | refine Exists.intro _ (And.intro rfl ?_))
      all_goals
        refine And.intro rfl ⟨reF g S i (j + 1), [.row 1 ((orL R S (j + 1)).map bcells) false], moveL [0] rfl (by decide) ⟨.inr ⟨_, rfl, cvO_row_as (by rw [← hset, h]; exact (set_map (f := bcells)).symm) (cB _) (lB _)⟩, trivial⟩ ?_, hltj, rfl, rfl⟩
        refine ⟨?_, ?_, ?_, ?_, ?_, ?_, ?_, trivial⟩ <;> (first | exact .cl _ rfl | exact .cl _ (by assumption) | exact cv_ptr (Nat.le_of_ble_eq_true rfl) rfl | exact .nilS | exact cv_own (Nat.le_of_ble_eq_true rfl) rfl | exact cv_row (Nat.le_of_ble_eq_true rfl) rfl | exact cv_mp (Nat.le_of_ble_eq_true rfl) rfl)
    · rintro E H ⟨hj, rfl, rfl⟩
      refine And.intro rfl ⟨reE g (i + 1), [.row 1 ((reachM g to (i + 1)).map bcells) false], moveL [0] rfl (by decide) ⟨.inr ⟨_, rfl, cvO_row_as (by rw [hlg, orL_all hRl hSl, ← hS, ← hR]; rfl) (cB _) (lB _)⟩, trivial⟩ ?_, hlt, rfl, rfl⟩
      refine ⟨?_, ?_, ?_, ?_, trivial⟩ <;> (first | exact .cl _ rfl | exact .cl _ (by assumption) | exact cv_ptr (Nat.le_of_ble_eq_true rfl) rfl | exact .nilS | exact cv_own (Nat.le_of_ble_eq_true rfl) rfl | exact cv_row (Nat.le_of_ble_eq_true rfl) rfl | exact cv_mp (Nat.le_of_ble_eq_true rfl) rfl)
  · rintro E H ⟨hi, rfl, rfl⟩
    (repeat' first | refine t_seq ?_ | refine t_reg ?_ | refine t_skip ?_ | refine t_scope ?_ | refine t_ret ?_ | refine t_exit ?_ | refine lit_t rfl ?_ | refine lit_f rfl ?_ | refine And.intro (And.intro rfl (Nat.le_of_ble_eq_true rfl)) ?_ | refine c_t rfl ?_ | refine c_f rfl ?_ | (refine sp_t (fun h => ?_) (fun h => ?_) <;> (try simp only [List.length_map] at h)) | (refine sp_f (fun h => ?_) (fun h => ?_) <;> (try simp only [List.length_map] at h)) | refine sq_t (fun h => ?_) (fun h => ?_) | refine sq_f (fun h => ?_) (fun h => ?_) | refine sb_t (fun h => ?_) (fun h => ?_) | refine sb_f (fun h => ?_) (fun h => ?_) | (refine c_nd rfl (fun h => ?_) (fun h => ?_) <;> (try simp only [List.length_map] at h)) | (refine c_d rfl (fun h => ?_) (fun h => ?_) <;> (try simp only [List.length_map] at h)) | refine c_nq rfl (fun h => ?_) (fun h => ?_) | refine c_q rfl (fun h => ?_) (fun h => ?_) | refine c_nb rfl (fun h => ?_) (fun h => ?_) | refine c_b rfl (fun h => ?_) (fun h => ?_) | refine And.intro (by omega) (Exists.intro _ (And.intro (row_atN (by omega)) (And.intro rfl ?_))) | refine And.intro rfl (Exists.intro _ (And.intro rfl ?_)) | refine Exists.intro _ (And.intro rfl ?_))
    exact frz_row rfl (by rw [hlg]) (by rw [List.length_map, reachM_len, hlg]) (cB _)
end Go.Proofs.Ythpcjekmgohelaa.Ab

/- FUNCTIONS, 13: the numbers of steps. -/
namespace Go.Proofs.Ythpcjekmgohelaa.Ab
open Go Go.Proofs
set_option linter.unusedVariables false
set_option linter.unusedSimpArgs false
variable {G : GI}

/-! ### A row of rows that grow -/
/-- Cells that lead to rows with the numbers from s on. -/
def nestC : List (List (List AVal)) → Nat → List (List AVal)
  | [], _ => []
  | r :: rs, s => [own r s] :: nestC rs (s + 1)
theorem nestC_len : ∀ (L : List (List (List AVal))) (s : Nat), (nestC L s).length = L.length
  | [], s => rfl
  | r :: rs, s => by simp [nestC, nestC_len rs]
theorem nestC_at : ∀ (L : List (List (List AVal))) (s i : Nat) (h : i < L.length), (nestC L s)[i]? = some [own L[i] (s + i)]
  | r :: rs, s, 0, h => rfl
  | r :: rs, s, i + 1, h => by
    have := nestC_at rs (s + 1) i (by simpa using h)
    simp only [nestC, List.getElem?_cons_succ, List.getElem_cons_succ, this]
    rw [Nat.add_assoc, Nat.add_comm 1 i]
theorem nestC_row (L : List (List (List AVal))) (s : Nat) : ∀ r ∈ nestC L s, r.length = 1 := by
  intro r hr
  obtain ⟨i, hi⟩ := List.getElem?_of_mem hr
  have hlt := (List.getElem?_eq_some_iff.1 hi).1
  rw [nestC_len] at hlt
  rw [nestC_at L s i hlt] at hi
  simp only [Option.some.injEq] at hi; subst hi; rfl
theorem nestC_nil (n s : Nat) : nestC (List.replicate n []) s = List.replicate n [.nilS] := by
  induction n generalizing s with
  | zero => rfl
  | succ n ih => rw [List.replicate_succ, List.replicate_succ, nestC, ih]; rfl
abbrev nestH (L : List (List (List AVal))) : Heap := .row 1 (nestC L 1) false :: L.map (ownO 1)
theorem nestH_at (L : List (List (List AVal))) (i : Nat) (h : i < L.length) : (nestH L)[1 + i]? = some (ownO 1 L[i]) := by
  rw [Nat.add_comm]; simp [nestH, h]

/-- One of the rows grows. -/
theorem nest_move {L : List (List (List AVal))} {k n : Nat} {x : List AVal} {E E' : Slots} (hk : k < L.length) (hlen : L[k].length = n) (hc : ∀ r ∈ L, cleanLL r = true ∧ ∀ q ∈ r, q.length = 1) (hx : cleanL x = true ∧ x.length = 1)
    (hs : ∀ p ∈ E', (∃ m, p.2 = .row 0 m ∧ look E p.1 = .row 0 m) ∨ (clean p.2 = true ∧ look E p.1 = p.2)) :
    Move 0 E (((nestH L).set (1 + k) .dead ++ [AObj.row 1 (L[k] ++ [x]) false]).set 0 (AObj.row 1 ((nestC L 1).set k [AVal.row (1 + L.length) (n + 1)]) false)) E' (nestH (L.set k (L[k] ++ [x]))) := by
  have hH' : (nestH (L.set k (L[k] ++ [x]))).length = 1 + L.length := by simp [nestH, Nat.add_comm]
  have hlenH : ((nestH L).set (1 + k) .dead).length = 1 + L.length := by simp [nestH, Nat.add_comm]
  let σ : Nat → Nat := fun j => if j = 1 + k then 1 + L.length else j
  have hσk : σ (1 + k) = 1 + L.length := if_pos rfl
  have hσn : ∀ j, j ≠ 1 + k → σ j = j := fun j h => if_neg h
  have cell : ∀ (ok : Nat → Prop) (H : Heap) (fr : Nat → Prop), (∀ j, j < 1 + L.length → ok j) → ∀ i j, i < (nestC (L.set k (L[k] ++ [x])) 1).length → j < 1 →
      Cv σ ok H fr ((((nestC L 1).set k [AVal.row (1 + L.length) (n + 1)]).getD i []).getD j .u) (((nestC (L.set k (L[k] ++ [x])) 1).getD i []).getD j .u) := by
    intro ok H fr hok i j hi hj
    have hj0 : j = 0 := by omega
    subst hj0
    rw [nestC_len, List.length_set] at hi
    have e2 : (nestC (L.set k (L[k] ++ [x])) 1).getD i [] = [own ((L.set k (L[k] ++ [x]))[i]'(by simpa using hi)) (1 + i)] := by
      rw [List.getD_eq_getElem?_getD, nestC_at _ _ _ (by simpa using hi)]; rfl
    rw [e2]
    by_cases e : i = k
    · subst e
      have e1 : ((nestC L 1).set i [AVal.row (1 + L.length) (n + 1)]).getD i [] = [.row (1 + L.length) (n + 1)] := by
        rw [List.getD_eq_getElem?_getD, List.getElem?_set_self (by rw [nestC_len]; exact hi)]; rfl
      rw [e1]
      simp only [List.getElem_set_self]
      exact cv_own_new (hok _ (by omega)) (by simp) (by simp [hlen]) hσk
    · have e1 : ((nestC L 1).set k [AVal.row (1 + L.length) (n + 1)]).getD i [] = [own L[i] (1 + i)] := by
        rw [List.getD_eq_getElem?_getD, List.getElem?_set_ne (fun h => e h.symm), nestC_at L 1 i hi]; rfl
      rw [e1, List.getElem_set_ne (fun h => e h.symm)]
      exact cv_own (hok _ (by omega)) (hσn _ (by omega))
  refine Form.move (σ := σ) ⟨Nat.zero_le _, fun j hj => absurd hj (Nat.not_lt_zero j), fun i j h1 h2 _ _ e => ?_, fun j o' h => ?_, fun p hp => ?_⟩
  · rw [hH'] at h1 h2
    by_cases e1 : i = 1 + k
    · by_cases e2 : j = 1 + k
      · omega
      · rw [e1, hσk, hσn j e2] at e; omega
    · by_cases e2 : j = 1 + k
      · rw [e2, hσk, hσn i e1] at e; omega
      · rw [hσn i e1, hσn j e2] at e; exact e
  · refine .inr ?_
    have hj := (List.getElem?_eq_some_iff.1 h).1
    rw [hH'] at hj
    cases j with
    | zero =>
      have : o' = .row 1 (nestC (L.set k (L[k] ++ [x])) 1) false := by simp [nestH] at h; exact h.symm
      subst this
      refine ⟨.row 1 ((nestC L 1).set k [AVal.row (1 + L.length) (n + 1)]) false, ?_, ?_⟩
      · rw [hσn 0 (by omega)]; simp [nestH]
      · refine .row 1 _ _ false false (fun h => h) (by rw [List.length_set, nestC_len, nestC_len, List.length_set]) (nestC_row _ _) (cell _ _ _ fun j hj => by rw [hH']; exact hj)
    | succ i =>
      have hi : i < L.length := by omega
      have hL : (nestH (L.set k (L[k] ++ [x])))[i + 1]? = some (ownO 1 ((L.set k (L[k] ++ [x]))[i]'(by simpa using hi))) := by rw [Nat.add_comm]; exact nestH_at _ _ (by simpa using hi)
      rw [hL] at h; simp only [Option.some.injEq] at h; subst h
      by_cases e : i = k
      · subst e
        refine ⟨.row 1 (L[i] ++ [x]) false, ?_, ?_⟩
        · rw [show i + 1 = 1 + i by omega, hσk, List.getElem?_set_ne (by omega), List.getElem?_append_right (by omega), hlenH, Nat.sub_self]; rfl
        · rw [List.getElem_set_self]
          refine cvO_own_new ?_ ?_
          · have := (hc _ (List.getElem_mem hi)).1
            rw [cleanLL_all] at this ⊢
            rw [List.all_append, this]
            simp only [List.all_cons, List.all_nil, Bool.and_true, Bool.true_and]
            rw [← cleanL_all]; exact hx.1
          · intro q hq
            rcases List.mem_append.1 hq with hq | hq
            · exact (hc _ (List.getElem_mem hi)).2 q hq
            · rw [List.mem_singleton.1 hq]; exact hx.2
      · refine ⟨ownO 1 L[i], ?_, ?_⟩
        · rw [hσn _ (by omega), List.getElem?_set_ne (by omega), List.getElem?_append_left (by omega), List.getElem?_set_ne (by omega), show i + 1 = 1 + i by omega]
          exact nestH_at L i hi
        · rw [List.getElem_set_ne (fun h => e h.symm)]
          exact cvO_own (hc _ (List.getElem_mem hi)).1 (hc _ (List.getElem_mem hi)).2
  · rcases hs p hp with ⟨m, h1, h2⟩ | ⟨h1, h2⟩
    · rw [h1, h2]; exact cv_row (by show 0 < _; rw [hH']; omega) (hσn 0 (by omega))
    · rw [h2]; exact .cl _ h1

theorem thaw_nest (L0 : List (List (List AVal))) (H : Heap) : ∀ (L : List (List (List AVal))) (s : Nat), (∀ i (h : i < L.length), H[s + i]? = some (ownO 1 L[i])) → thawLL H (nestC L s) = L.map fun r => [AVal.sl r]
  | [], s, h => rfl
  | r :: rs, s, h => by
    have h0 := h 0 (by simp)
    simp only [Nat.add_zero, List.getElem_cons_zero] at h0
    have ih := thaw_nest L0 H rs (s + 1) fun i hi => by
      have := h (i + 1) (by simpa using hi)
      rw [show s + 1 + i = s + (i + 1) by omega]; simpa using this
    simp only [nestC, thawLL, thawL, ih, List.map_cons]
    congr 2
    cases r with
    | nil => rfl
    | cons q qs => simp only [own, thaw, h0, ownO, List.length_cons, if_true]
theorem frz_nest {L : List (List (List AVal))} {n : Nat} (hn : L.length = n) (hc : ∀ r ∈ L, cleanLL r = true) (h0 : n ≠ 0 ∨ n = 0) : frz (nestH L) (.row 0 n) = some (.sl (L.map fun r => [AVal.sl r])) := by
  have h1 : thaw (nestH L) (.row 0 n) = .sl (nestC L 1) := by
    have : (nestH L)[0]? = some (.row 1 (nestC L 1) false) := rfl
    simp only [thaw, this, nestC_len, hn, if_true]
  have h2 : thaw (nestH L) (.sl (nestC L 1)) = .sl (L.map fun r => [AVal.sl r]) := by
    simp only [thaw]
    rw [thaw_nest L (nestH L) L 1 fun i hi => nestH_at L i hi]
  have h3 : clean (.sl (L.map fun r => [AVal.sl r])) = true := by
    simp only [clean]
    rw [cleanLL_all]
    refine List.all_eq_true.2 fun r hr => ?_
    obtain ⟨q, hq, rfl⟩ := List.mem_map.1 hr
    simp [clean, hc q hq]
  unfold frz
  rw [show clean (.row 0 n) = false by simp [clean], h1, h2, thaw_clean _ _ h3]
  simp only [h3, Bool.false_eq_true, if_false, if_true]
end Go.Proofs.Ythpcjekmgohelaa.Ab

/- FUNCTIONS, 14: forward.Hops, lift.Answers. -/
namespace Go.Proofs.Ythpcjekmgohelaa.Ab
open Go Go.Proofs
set_option linter.unusedVariables false
set_option linter.unusedSimpArgs false
variable {G : GI}

theorem nestC_at1 (L : List (List (List AVal))) (i : Nat) (h : i < L.length) : (nestC L 1)[((i : Nat) : Int).toNat]? = some [own L[i] (i + 1)] := by
  rw [Int.toNat_natCast, nestC_at L 1 i h, Nat.add_comm]
theorem nestH_at1 (L : List (List (List AVal))) (i : Nat) (h : i < L.length) : (nestH L)[i + 1]? = some (ownO 1 L[i]) := by
  rw [Nat.add_comm]; exact nestH_at L i h
theorem nest_move1 {L L' : List (List (List AVal))} {k n id : Nat} {x : List AVal} {E E' : Slots} (hk : k < L.length) (hid : id = L.length + 1) (hlen : L[k].length = n) (hL' : L' = L.set k (L[k] ++ [x])) (hc : ∀ r ∈ L, cleanLL r = true ∧ ∀ q ∈ r, q.length = 1) (hx : cleanL x = true ∧ x.length = 1)
    (hs : ∀ p ∈ E', (∃ m, p.2 = .row 0 m ∧ look E p.1 = .row 0 m) ∨ (clean p.2 = true ∧ look E p.1 = p.2)) :
    Move 0 E (((nestH L).set (k + 1) .dead ++ [AObj.row 1 (L[k] ++ [x]) false]).set 0 (AObj.row 1 ((nestC L 1).set k [AVal.row id (n + 1)]) false)) E' (nestH L') := by
  subst hL'; subst hid
  have := nest_move hk hlen hc hx hs
  rw [show 1 + k = k + 1 by omega, show 1 + L.length = L.length + 1 by omega] at this
  exact this

theorem nest_start {n : Nat} {E E' : Slots} {L : List (List (List AVal))} (hL : L = List.replicate n []) (hs : ∀ p ∈ E', (∃ m, p.2 = .row 0 m ∧ look E p.1 = .row 0 m) ∨ (clean p.2 = true ∧ look E p.1 = p.2)) :
    Move 0 E [AObj.row 1 (List.replicate n [AVal.nilS]) false] E' (nestH L) := by
  subst hL
  refine Form.move (σ := fun j => j) ⟨Nat.zero_le _, fun j hj => rfl, fun i j h1 h2 _ _ e => e, fun j o' h => ?_, fun p hp => ?_⟩
  · cases j with
    | zero =>
      have : o' = .row 1 (nestC (List.replicate n []) 1) false := by simp [nestH] at h; exact h.symm
      subst this
      refine .inr ⟨_, rfl, .row 1 _ _ false false (fun h => h) (by simp [nestC_len]) (nestC_row _ _) fun i j hi hj => ?_⟩
      rw [nestC_nil] at hi ⊢
      have hj0 : j = 0 := by omega
      subst hj0
      have : (List.replicate n [AVal.nilS]).getD i [] = [.nilS] := by
        rw [List.length_replicate] at hi
        rw [List.getD_eq_getElem?_getD, List.getElem?_replicate, if_pos hi]; rfl
      rw [this]; exact .nilS
    | succ i =>
      refine .inl ?_
      have hi := (List.getElem?_eq_some_iff.1 h).1
      simp only [nestH, List.length_cons, List.length_map, List.length_replicate] at hi
      simp [nestH, List.getElem?_replicate] at h
      exact h.2.symm
  · rcases hs p hp with ⟨m, h1, h2⟩ | ⟨h1, h2⟩
    · rw [h1, h2]; exact cv_row (by show 0 < _; simp [nestH]) rfl
    · rw [h2]; exact .cl _ h1

/-- Slots forgotten; the heap as it is. -/
theorem moveAs {E E' : Slots} {H H' : Heap} (hH : H' = H) (hs : ∀ p ∈ E', (∃ m, p.2 = .row 0 m ∧ look E p.1 = .row 0 m) ∨ (clean p.2 = true ∧ look E p.1 = p.2)) : Move 0 E H E' H' := by
  subst hH
  intro G F0 B0 w0 β0 κ0 H0 nt a w β κ hl hi
  refine ⟨β, κ, ⟨hi.adv, fun t => ?_, hi.size, hi.defers⟩⟩
  rcases look_mem' E' t with hu | ⟨p, hp, rfl, hpe⟩
  · rw [hu]; exact .u _
  · rw [← hpe]
    have hr := hi.rel p.1
    rcases hs p hp with ⟨m, h1, h2⟩ | ⟨h1, h2⟩
    · rw [h1, ← h2]; exact hr
    · rw [← h2]; exact hr

def nowM (g : List (List Int)) (to : List Bool) : Nat → List Bool
  | 0 => startL to g.length
  | c + 1 => stepM g (nowM g to c)
theorem nowM_len (g : List (List Int)) (to : List Bool) : ∀ c, (nowM g to c).length = g.length
  | 0 => startL_len _ _
  | c + 1 => stepM_len _ _
def hopsUp (g : List (List Int)) (to : List Bool) (c k : Nat) : List Int := ((List.range c).filter fun m => (nowM g to m).getD k false).map Int.ofNat
theorem hopsUp_succ (g : List (List Int)) (to : List Bool) (c k : Nat) : hopsUp g to (c + 1) k = hopsUp g to c k ++ if (nowM g to c).getD k false then [(c : Int)] else [] := by
  unfold hopsUp
  rw [List.range_succ, List.filter_append, List.map_append]
  congr 1
  by_cases h : (nowM g to c).getD k false = true
  · rw [if_pos h, List.filter_cons, if_pos h]; rfl
  · rw [if_neg h, List.filter_cons, if_neg h]; rfl
theorem hopsUp_len (g : List (List Int)) (to : List Bool) (c k : Nat) : (hopsUp g to c k).length ≤ c := by
  unfold hopsUp
  rw [List.length_map]
  exact Nat.le_trans (List.length_filter_le _ _) (by simp)
def hopL (g : List (List Int)) (to : List Bool) (c j : Nat) : List (List (List AVal)) := (List.range g.length).map fun k => (hopsUp g to (if k < j then c + 1 else c) k).map icells
theorem hopL_len (g : List (List Int)) (to : List Bool) (c j : Nat) : (hopL g to c j).length = g.length := by simp [hopL]
theorem hopL_clean (g : List (List Int)) (to : List Bool) (c j : Nat) : ∀ r ∈ hopL g to c j, cleanLL r = true ∧ ∀ q ∈ r, q.length = 1 := by
  intro r hr
  obtain ⟨k, _, rfl⟩ := List.mem_map.1 hr
  exact ⟨clean_rows (f := icells) (fun _ => rfl) _, len_rows (f := icells) (fun _ => rfl) _⟩
theorem hopL_at (g : List (List Int)) (to : List Bool) (c j : Nat) (h : j < (hopL g to c j).length) : (hopL g to c j)[j] = (hopsUp g to c j).map icells := by
  simp [hopL]
theorem hopL_next (g : List (List Int)) (to : List Bool) (c : Nat) : hopL g to c g.length = hopL g to (c + 1) 0 := by
  unfold hopL
  refine List.map_congr_left fun k hk => ?_
  have : k < g.length := by simpa using hk
  simp [this]
theorem hopL_skip (g : List (List Int)) (to : List Bool) (c j : Nat) (h : (nowM g to c).getD j false = false) : hopL g to c (j + 1) = hopL g to c j := by
  unfold hopL
  refine List.map_congr_left fun k hk => ?_
  by_cases e : k = j
  · subst e; simp only [Nat.lt_succ_self, if_true, Nat.lt_irrefl, if_false, hopsUp_succ, h, Bool.false_eq_true, List.append_nil]
  · have : (k < j + 1) = (k < j) := by simp; omega
    simp only [this]
theorem hopL_set (g : List (List Int)) (to : List Bool) (c j : Nat) (hj : j < (hopL g to c j).length) (h : (nowM g to c).getD j false = true) : hopL g to c (j + 1) = (hopL g to c j).set j ((hopL g to c j)[j] ++ [icells (c : Int)]) := by
  rw [hopL_at]
  refine List.ext_getElem (by simp [hopL]) fun k h1 h2 => ?_
  by_cases e : k = j
  · subst e; simp only [hopL, List.getElem_map, List.getElem_range, Nat.lt_succ_self, if_true, hopsUp_succ, h, List.map_append, List.getElem_set_self, List.map_cons, List.map_nil]
  · rw [List.getElem_set_ne (fun h => e h.symm)]
    have : (k < j + 1) = (k < j) := by simp; omega
    simp only [hopL, List.getElem_map, List.getElem_range, this]

def hopsM (g : List (List Int)) (to : List Bool) (most : Int) : List (List Int) := (List.range g.length).map fun k => hopsUp g to ((if 256 < most then 256 else most) + 1).toNat k
abbrev hoE (g : List (List Int)) (to : List Bool) (most : Int) (c : Nat) : Slots := [(9, .i .i64 (c : Nat)), (8, .sl ((nowM g to c).map bcells)), (7, .row 0 (g.map gcells).length), (2, .i .i64 most), (0, .sl (g.map gcells))]
abbrev hoF (g : List (List Int)) (to : List Bool) (most : Int) (c j : Nat) : Slots := [(29, .i .i64 (j : Nat)), (28, .i .i64 ((g.map gcells).length : Nat)), (27, .sl ((nowM g to c).map bcells)), (9, .i .i64 (c : Nat)), (8, .sl ((nowM g to c).map bcells)), (7, .row 0 (g.map gcells).length), (2, .i .i64 most), (0, .sl (g.map gcells))]

theorem forward_Hops_ev (g : List (List Int)) (to : List Bool) (most : Int) (hg : GraphOk g) : EvP Try.prog G fn_forward_Hops [.sl (g.map gcells), .sl (to.map bcells), .i .i64 most] (.sl ((hopsM g to most).map gcells)) := by
  have c1 := clean_sl gcells_clean g
  have hlg : (g.map gcells).length = g.length := by simp
  have hgl := hg.len
  have cB : ∀ L : List Bool, cleanLL (L.map bcells) = true := fun L => clean_rows (fun _ => rfl) _
  have lB : ∀ L : List Bool, ∀ r ∈ L.map bcells, r.length = 1 := fun L => len_rows (f := bcells) (fun _ => rfl) _
  refine evP c_forward_Hops rfl ?_
  (repeat' first | refine t_seq ?_ | refine t_reg ?_ | refine t_skip ?_ | refine t_scope ?_ | refine t_ret ?_ | refine t_exit ?_ | refine lit_t rfl ?_ | refine lit_f rfl ?_ | refine And.intro (And.intro rfl (Nat.le_of_ble_eq_true rfl)) ?_ | refine c_t rfl ?_ | refine c_f rfl ?_)
  refine And.intro (And.intro rfl ?_) ?_
  · exact ⟨by omega, by omega, by omega, rfl⟩
  (repeat' first | refine t_seq ?_ | refine t_reg ?_ | refine t_skip ?_ | refine t_scope ?_ | refine t_ret ?_ | refine t_exit ?_ | refine lit_t rfl ?_ | refine lit_f rfl ?_ | refine And.intro (And.intro rfl (Nat.le_of_ble_eq_true rfl)) ?_ | refine c_t rfl ?_ | refine c_f rfl ?_)
  refine And.intro (And.intro rfl ?_) ?_
  · exact ⟨by omega, by omega, by omega, rfl⟩
  (repeat' first | refine t_seq ?_ | refine t_reg ?_ | refine t_skip ?_ | refine t_scope ?_ | refine t_ret ?_ | refine t_exit ?_ | refine lit_t rfl ?_ | refine lit_f rfl ?_ | refine And.intro (And.intro rfl (Nat.le_of_ble_eq_true rfl)) ?_ | refine c_t rfl ?_ | refine c_f rfl ?_)
  refine Exists.intro _ (And.intro rfl (And.intro (And.intro rfl (And.intro ?_ (lB _))) ?_))
  · simp
  (repeat' first | refine t_seq ?_ | refine t_reg ?_ | refine t_skip ?_ | refine t_scope ?_ | refine t_ret ?_ | refine t_exit ?_ | refine lit_t rfl ?_ | refine lit_f rfl ?_ | refine And.intro (And.intro rfl (Nat.le_of_ble_eq_true rfl)) ?_ | refine c_t rfl ?_ | refine c_f rfl ?_)
  have hM : ∃ M : Int, M = (if 256 < most then 256 else most) ∧ M ≤ 256 := ⟨_, rfl, by split <;> omega⟩
  obtain ⟨M, hM, hM2⟩ := hM
  have cN : ∀ c, clean (.sl ((nowM g to c).map bcells)) = true := fun c => clean_sl (f := bcells) (fun _ => rfl) _
  refine t_block (t_loopM (fun n E H => ∃ c : Nat, (c : Int) ≤ max 0 (M + 1) ∧ n = (M + 1 - c).toNat ∧ E = hoE g to most c ∧ H = nestH (hopL g to c 0)) _ (hoE g to most 0) (nestH (hopL g to 0 0)) ?_ ⟨0, by omega, rfl, rfl, rfl⟩ ?_)
  · have hm := nest_start (n := (g.map gcells).length) (E := hoE g to most 0) (E' := hoE g to most 0) (L := hopL g to 0 0) (by unfold hopL; rw [hlg]; exact List.ext_getElem (by simp) fun k h1 h2 => by simp [hopsUp]) (by
      refine List.forall_mem_cons.2 ⟨.inr ⟨rfl, rfl⟩, List.forall_mem_cons.2 ⟨.inr ⟨cN 0, rfl⟩, List.forall_mem_cons.2 ⟨.inl ⟨_, rfl, rfl⟩, List.forall_mem_cons.2 ⟨.inr ⟨rfl, rfl⟩, List.forall_mem_cons.2 ⟨.inr ⟨c1, rfl⟩, fun p hp => by cases hp⟩⟩⟩⟩⟩)
    refine Move.trans ?_ hm
    refine moveL [0] rfl (by decide) ⟨.inr ⟨_, rfl, ?_⟩, trivial⟩ ?_
    · refine .row 1 _ _ false false (fun h => h) rfl (fun r hr => by rw [List.eq_of_mem_replicate hr]; rfl) fun i j hi hj => ?_
      have hj0 : j = 0 := by omega
      subst hj0
      have : ∀ n, i < n → (List.replicate n [AVal.nilS]).getD i [] = [.nilS] := fun n h => by
        rw [List.getD_eq_getElem?_getD, List.getElem?_replicate, if_pos h]; rfl
      rw [List.length_replicate] at hi
      show Cv _ _ _ _ (((List.replicate (g.map gcells).length [AVal.nilS]).getD i []).getD 0 .u) (((List.replicate (g.map gcells).length [AVal.nilS]).getD i []).getD 0 .u)
      rw [this _ hi]
      exact .nilS
    · refine ⟨?_, ?_, ?_, ?_, ?_, trivial⟩ <;> first | (first | exact .cl _ rfl | exact .cl _ (by assumption) | exact cv_ptr (Nat.le_of_ble_eq_true rfl) rfl | exact .nilS | exact cv_own (Nat.le_of_ble_eq_true rfl) rfl | exact cv_row (Nat.le_of_ble_eq_true rfl) rfl | exact cv_mp (Nat.le_of_ble_eq_true rfl) rfl) | skip
      exact cv_frz rfl (still_of (by rfl) (by rfl)) (by rw [← startL_rows, Int.toNat_natCast, hlg]; rfl) (by simp; omega) (cB _) (lB _)
  · rintro n E H ⟨c, hc, rfl, rfl, rfl⟩
    have hif : (if 256 < most then (256 : Int) else most) = M := hM.symm
    (repeat' first | refine t_seq ?_ | refine t_reg ?_ | refine t_skip ?_ | refine t_scope ?_ | refine t_ret ?_ | refine t_exit ?_ | refine lit_t rfl ?_ | refine lit_f rfl ?_ | refine And.intro (And.intro rfl (Nat.le_of_ble_eq_true rfl)) ?_ | refine c_t rfl ?_ | refine c_f rfl ?_)
    refine c_d rfl (fun h => ?_) (fun h => ?_)
    · have h' : (c : Int) ≤ M := by rw [← hif]; exact h
      (repeat' first | refine t_seq ?_ | refine t_reg ?_ | refine t_skip ?_ | refine t_scope ?_ | refine t_ret ?_ | refine t_exit ?_ | refine lit_t rfl ?_ | refine lit_f rfl ?_ | refine And.intro (And.intro rfl (Nat.le_of_ble_eq_true rfl)) ?_ | refine c_t rfl ?_ | refine c_f rfl ?_)
      refine t_block ?_
      (repeat' first | refine t_seq ?_ | refine t_reg ?_ | refine t_skip ?_ | refine t_scope ?_ | refine t_ret ?_ | refine t_exit ?_ | refine lit_t rfl ?_ | refine lit_f rfl ?_ | refine And.intro (And.intro rfl (Nat.le_of_ble_eq_true rfl)) ?_ | refine c_t rfl ?_ | refine c_f rfl ?_)
      refine t_range (g.map gcells).length (by omega) (fun j E H => j ≤ (g.map gcells).length ∧ E = hoF g to most c j ∧ H = nestH (hopL g to c j)) (hoF g to most c 0) (nestH (hopL g to c 0)) ?_ ⟨Nat.zero_le _, rfl, rfl⟩ ?_ ?_ ?_
      · refine moveAs rfl (List.forall_mem_cons.2 ⟨.inr ⟨rfl, rfl⟩, List.forall_mem_cons.2 ⟨.inr ⟨rfl, congrArg (fun n : Nat => AVal.i IntKind.i64 n) (show ((nowM g to c).map bcells).length = (g.map gcells).length by rw [List.length_map, nowM_len, hlg])⟩, List.forall_mem_cons.2 ⟨.inr ⟨cN c, rfl⟩, List.forall_mem_cons.2 ⟨.inr ⟨rfl, rfl⟩, List.forall_mem_cons.2 ⟨.inr ⟨cN c, rfl⟩, List.forall_mem_cons.2 ⟨.inl ⟨_, rfl, rfl⟩, List.forall_mem_cons.2 ⟨.inr ⟨rfl, rfl⟩, List.forall_mem_cons.2 ⟨.inr ⟨c1, rfl⟩, fun p hp => by cases hp⟩⟩⟩⟩⟩⟩⟩⟩)
      · rintro j E H ⟨hj, rfl, rfl⟩; exact ⟨hj, rfl, rfl⟩
      · rintro j E H hltj ⟨hj, rfl, rfl⟩
        have hnl := nowM_len g to c
        have hltj' : j < (nowM g to c).length := by omega
        have hLl := hopL_len g to c j
        have hjL : j < (hopL g to c j).length := by omega
        have hgd := getD_of (d := false) hltj'
        have hat := nestC_at1 (hopL g to c j) j hjL
        have hlen : ((hopL g to c j)[j]'hjL).length ≤ c := by rw [hopL_at]; simp [hopsUp_len]
        (repeat' first | refine t_seq ?_ | refine t_reg ?_ | refine t_skip ?_ | refine t_scope ?_ | refine t_ret ?_ | refine t_exit ?_ | refine lit_t rfl ?_ | refine lit_f rfl ?_ | refine And.intro (And.intro rfl (Nat.le_of_ble_eq_true rfl)) ?_ | refine c_t rfl ?_ | refine c_f rfl ?_)
        refine And.intro (Int.natCast_nonneg j) (Exists.intro _ (And.intro (row_at hltj') (And.intro rfl ?_)))
        (repeat' first | refine t_seq ?_ | refine t_reg ?_ | refine t_skip ?_ | refine t_scope ?_ | refine t_ret ?_ | refine t_exit ?_ | refine lit_t rfl ?_ | refine lit_f rfl ?_ | refine And.intro (And.intro rfl (Nat.le_of_ble_eq_true rfl)) ?_ | refine c_t rfl ?_ | refine c_f rfl ?_ | (refine sp_t (fun h => ?_) (fun h => ?_) <;> (try simp only [List.length_map] at h)) | (refine sp_f (fun h => ?_) (fun h => ?_) <;> (try simp only [List.length_map] at h)) | refine sq_t (fun h => ?_) (fun h => ?_) | refine sq_f (fun h => ?_) (fun h => ?_) | refine sb_t (fun h => ?_) (fun h => ?_) | refine sb_f (fun h => ?_) (fun h => ?_) | (refine c_nd rfl (fun h => ?_) (fun h => ?_) <;> (try simp only [List.length_map] at h)) | (refine c_d rfl (fun h => ?_) (fun h => ?_) <;> (try simp only [List.length_map] at h)) | refine c_nq rfl (fun h => ?_) (fun h => ?_) | refine c_q rfl (fun h => ?_) (fun h => ?_) | refine c_nb rfl (fun h => ?_) (fun h => ?_) | refine c_b rfl (fun h => ?_) (fun h => ?_) | refine And.intro (by omega) (Exists.intro _ (And.intro (row_atN (by omega)) (And.intro rfl ?_))) | (first | refine And.intro rfl (Exists.intro _ (And.intro (hat) (Exists.intro _ (And.intro rfl ?_)))) | refine frcV_go ?_ | (refine Exists.intro [_] (And.intro rfl (And.intro (all_one rfl) (app_one ((hopL g to c j)[j]'hjL) (j + 1) rfl (nestH_at1 _ _ hjL) rfl ?_ ?_))); omega) | refine frcH_go ?_ | refine And.intro (And.intro rfl (And.intro rfl (Nat.le_of_ble_eq_true rfl))) (Exists.intro _ (And.intro (hat) ?_)) | refine And.intro (And.intro (by omega) (by omega)) ?_) | refine And.intro rfl (Exists.intro _ (And.intro rfl ?_)) | refine Exists.intro _ (And.intro rfl ?_))
        · have hset := hopL_set g to c j hjL (by rw [hgd]; exact h)
          refine And.intro rfl ⟨hoF g to most c (j + 1), nestH (hopL g to c (j + 1)), nest_move1 hjL (id := (nestH (hopL g to c j)).length) (by simp [nestH]) rfl hset (hopL_clean g to c j) ⟨rfl, rfl⟩ ?_, hltj, rfl, rfl⟩
          exact List.forall_mem_cons.2 ⟨.inr ⟨rfl, rfl⟩, List.forall_mem_cons.2 ⟨.inr ⟨rfl, rfl⟩, List.forall_mem_cons.2 ⟨.inr ⟨cN c, rfl⟩, List.forall_mem_cons.2 ⟨.inr ⟨rfl, rfl⟩, List.forall_mem_cons.2 ⟨.inr ⟨cN c, rfl⟩, List.forall_mem_cons.2 ⟨.inl ⟨_, rfl, rfl⟩, List.forall_mem_cons.2 ⟨.inr ⟨rfl, rfl⟩, List.forall_mem_cons.2 ⟨.inr ⟨c1, rfl⟩, fun p hp => by cases hp⟩⟩⟩⟩⟩⟩⟩⟩
        · have hskip := hopL_skip g to c j (by rw [hgd]; exact h)
          refine And.intro rfl ⟨hoF g to most c (j + 1), nestH (hopL g to c (j + 1)), moveAs (by rw [hskip]) ?_, hltj, rfl, rfl⟩
          exact List.forall_mem_cons.2 ⟨.inr ⟨rfl, rfl⟩, List.forall_mem_cons.2 ⟨.inr ⟨rfl, rfl⟩, List.forall_mem_cons.2 ⟨.inr ⟨cN c, rfl⟩, List.forall_mem_cons.2 ⟨.inr ⟨rfl, rfl⟩, List.forall_mem_cons.2 ⟨.inr ⟨cN c, rfl⟩, List.forall_mem_cons.2 ⟨.inl ⟨_, rfl, rfl⟩, List.forall_mem_cons.2 ⟨.inr ⟨rfl, rfl⟩, List.forall_mem_cons.2 ⟨.inr ⟨c1, rfl⟩, fun p hp => by cases hp⟩⟩⟩⟩⟩⟩⟩⟩
      · rintro E H ⟨hj, rfl, rfl⟩
        have hll : ((nowM g to c).length : Int) ≤ 9223372036854775807 := by rw [nowM_len]; omega
        (repeat' first | refine t_seq ?_ | refine t_reg ?_ | refine t_skip ?_ | refine t_scope ?_ | refine t_ret ?_ | refine t_exit ?_ | refine lit_t rfl ?_ | refine lit_f rfl ?_ | refine And.intro (And.intro rfl (Nat.le_of_ble_eq_true rfl)) ?_ | refine c_t rfl ?_ | refine c_f rfl ?_ | (refine sp_t (fun h => ?_) (fun h => ?_) <;> (try simp only [List.length_map] at h)) | (refine sp_f (fun h => ?_) (fun h => ?_) <;> (try simp only [List.length_map] at h)) | refine sq_t (fun h => ?_) (fun h => ?_) | refine sq_f (fun h => ?_) (fun h => ?_) | refine sb_t (fun h => ?_) (fun h => ?_) | refine sb_f (fun h => ?_) (fun h => ?_) | (refine c_nd rfl (fun h => ?_) (fun h => ?_) <;> (try simp only [List.length_map] at h)) | (refine c_d rfl (fun h => ?_) (fun h => ?_) <;> (try simp only [List.length_map] at h)) | refine c_nq rfl (fun h => ?_) (fun h => ?_) | refine c_q rfl (fun h => ?_) (fun h => ?_) | refine c_nb rfl (fun h => ?_) (fun h => ?_) | refine c_b rfl (fun h => ?_) (fun h => ?_) | refine And.intro (by omega) (Exists.intro _ (And.intro (row_atN (by omega)) (And.intro rfl ?_))) | (first | refine call_clean (forward_step_ev g (nowM g to c) hg.len hg.row hll) (gb_clean g _) ?_) | refine And.intro rfl (Exists.intro _ (And.intro rfl ?_)) | refine Exists.intro _ (And.intro rfl ?_))
        refine ⟨_, hoE g to most (c + 1), nestH (hopL g to (c + 1) 0), ?_, moveAs (by rw [hlg, hopL_next]) ?_, c + 1, ?_, rfl, rfl, rfl⟩
        · omega
        · refine List.forall_mem_cons.2 ⟨.inr ⟨rfl, congrArg (AVal.i IntKind.i64) ?_⟩, List.forall_mem_cons.2 ⟨.inr ⟨cN (c + 1), rfl⟩, List.forall_mem_cons.2 ⟨.inl ⟨_, rfl, rfl⟩, List.forall_mem_cons.2 ⟨.inr ⟨rfl, rfl⟩, List.forall_mem_cons.2 ⟨.inr ⟨c1, rfl⟩, fun p hp => by cases hp⟩⟩⟩⟩⟩
          show IntKind.i64.wrap ((c : Int) + 1) = _
          rw [w64 (by omega) (by omega)]; rfl
        · omega
    · have h' : ¬ (c : Int) ≤ M := by rw [← hif]; exact h
      have hcM : c = (M + 1).toNat := by omega
      (repeat' first | refine t_seq ?_ | refine t_reg ?_ | refine t_skip ?_ | refine t_scope ?_ | refine t_ret ?_ | refine t_exit ?_ | refine lit_t rfl ?_ | refine lit_f rfl ?_ | refine And.intro (And.intro rfl (Nat.le_of_ble_eq_true rfl)) ?_ | refine c_t rfl ?_ | refine c_f rfl ?_ | (refine sp_t (fun h => ?_) (fun h => ?_) <;> (try simp only [List.length_map] at h)) | (refine sp_f (fun h => ?_) (fun h => ?_) <;> (try simp only [List.length_map] at h)) | refine sq_t (fun h => ?_) (fun h => ?_) | refine sq_f (fun h => ?_) (fun h => ?_) | refine sb_t (fun h => ?_) (fun h => ?_) | refine sb_f (fun h => ?_) (fun h => ?_) | (refine c_nd rfl (fun h => ?_) (fun h => ?_) <;> (try simp only [List.length_map] at h)) | (refine c_d rfl (fun h => ?_) (fun h => ?_) <;> (try simp only [List.length_map] at h)) | refine c_nq rfl (fun h => ?_) (fun h => ?_) | refine c_q rfl (fun h => ?_) (fun h => ?_) | refine c_nb rfl (fun h => ?_) (fun h => ?_) | refine c_b rfl (fun h => ?_) (fun h => ?_) | refine And.intro (by omega) (Exists.intro _ (And.intro (row_atN (by omega)) (And.intro rfl ?_))) | refine And.intro rfl (Exists.intro _ (And.intro rfl ?_)) | refine Exists.intro _ (And.intro rfl ?_))
      have hfin : hopsM g to most = (List.range g.length).map fun k => hopsUp g to c k := by unfold hopsM; rw [hif, hcM]
      refine (frz_nest (L := hopL g to c 0) (n := (g.map gcells).length) (by rw [hopL_len]; exact hlg.symm) (fun r hr => (hopL_clean g to c 0 r hr).1) (by omega)).trans ?_
      rw [hfin]
      simp [hopL, gcells]
end Go.Proofs.Ythpcjekmgohelaa.Ab
