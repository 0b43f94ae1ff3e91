/- FUNCTIONS, 15: sorting, of up to twelve. -/
import Derived.Test.YthpcjekmgohelaaLib14
import Derived.Test.YthpcjekmgohelaaLib12
set_option linter.unusedVariables false
set_option linter.unusedSimpArgs false
namespace Go.Proofs.Ythpcjekmgohelaa.Ab
open Go Go.Proofs
set_option linter.unusedVariables false
set_option linter.unusedSimpArgs false
variable {G : GI}

/-- One element goes down to its place. -/
def insG {α : Type} (less : α → α → Bool) : List α → Nat → List α
  | L, 0 => L
  | L, j + 1 => match L[j + 1]?, L[j]? with
    | some x, some y => if less x y then insG less ((L.set (j + 1) y).set j x) j else L
    | _, _ => L
def isG {α : Type} (less : α → α → Bool) (L : List α) : Nat → List α
  | 0 => L
  | i + 1 => insG less (isG less L i) i
theorem insG_len {α : Type} (less : α → α → Bool) : ∀ (j : Nat) (L : List α), (insG less L j).length = L.length
  | 0, L => rfl
  | j + 1, L => by
    unfold insG
    split
    · split
      · rw [insG_len less j]; simp
      · rfl
    · rfl
theorem isG_len {α : Type} (less : α → α → Bool) (L : List α) : ∀ i, (isG less L i).length = L.length
  | 0 => rfl
  | i + 1 => by rw [isG, insG_len, isG_len less L i]
theorem insG_step {α : Type} {less : α → α → Bool} {L : List α} {j : Nat} (h : j + 1 < L.length) : insG less L (j + 1) = if less L[j + 1] L[j] then insG less ((L.set (j + 1) L[j]).set j L[j + 1]) j else L := by
  rw [insG, List.getElem?_eq_getElem h, List.getElem?_eq_getElem (by omega : j < L.length)]
theorem insG_perm {α : Type} (less : α → α → Bool) : ∀ (j : Nat) (L : List α) (x : α), x ∈ insG less L j ↔ x ∈ L
  | 0, L, x => Iff.rfl
  | j + 1, L, x => by
    unfold insG
    split
    · rename_i a b ha hb
      split
      · rw [insG_perm less j]
        obtain ⟨h1, h2⟩ := List.getElem?_eq_some_iff.1 ha
        obtain ⟨h3, h4⟩ := List.getElem?_eq_some_iff.1 hb
        constructor
        · intro hx
          rcases List.mem_or_eq_of_mem_set hx with hx | rfl
          · rcases List.mem_or_eq_of_mem_set hx with hx | rfl
            · exact hx
            · exact h4 ▸ List.getElem_mem h3
          · exact h2 ▸ List.getElem_mem h1
        · intro hx
          obtain ⟨k, hk, rfl⟩ := List.getElem_of_mem hx
          by_cases e1 : k = j
          · subst e1
            refine List.mem_iff_getElem.2 ⟨k + 1, by simpa using h1, ?_⟩
            rw [List.getElem_set_ne (by omega), List.getElem_set_self]; exact h4.symm
          · by_cases e2 : k = j + 1
            · subst e2
              refine List.mem_iff_getElem.2 ⟨j, by simpa using h3, ?_⟩
              rw [List.getElem_set_self]; exact h2.symm
            · refine List.mem_iff_getElem.2 ⟨k, by simpa using hk, ?_⟩
              rw [List.getElem_set_ne (fun h => e1 h.symm), List.getElem_set_ne (fun h => e2 h.symm)]
      · exact Iff.rfl
    · exact Iff.rfl
theorem isG_mem {α : Type} (less : α → α → Bool) (L : List α) (x : α) : ∀ i, x ∈ isG less L i ↔ x ∈ L
  | 0 => Iff.rfl
  | i + 1 => by rw [isG, insG_perm, isG_mem less L x i]
theorem isG_sorted {α : Type} {less : α → α → Bool} {L : List α} (h : ∀ j (h : j + 1 < L.length), less L[j + 1] L[j] = false) : ∀ i, i ≤ L.length → isG less L i = L
  | 0, _ => rfl
  | i + 1, hi => by
    rw [isG, isG_sorted h i (by omega)]
    cases i with
    | zero => rfl
    | succ j => rw [insG_step (by omega), h j (by omega)]; rfl

def lessI (a b : Int) : Bool := decide (a < b)

theorem isNaN_ev (n : Int) : EvP Try.prog G fn_cmp_isNaN_t [.i .i64 n] (.b false) := by
  refine evP c_cmp_isNaN_t rfl ?_
  (repeat' first | refine t_seq ?_ | refine t_reg ?_ | refine t_skip ?_ | refine t_scope ?_ | refine t_ret ?_ | refine t_exit ?_ | refine lit_t rfl ?_ | refine lit_f rfl ?_ | refine And.intro (And.intro rfl (Nat.le_of_ble_eq_true rfl)) ?_ | refine c_t rfl ?_ | refine c_f rfl ?_ | (refine sp_t (fun h => ?_) (fun h => ?_) <;> (try simp only [List.length_map] at h)) | (refine sp_f (fun h => ?_) (fun h => ?_) <;> (try simp only [List.length_map] at h)) | refine sq_t (fun h => ?_) (fun h => ?_) | refine sq_f (fun h => ?_) (fun h => ?_) | refine sb_t (fun h => ?_) (fun h => ?_) | refine sb_f (fun h => ?_) (fun h => ?_) | (refine c_nd rfl (fun h => ?_) (fun h => ?_) <;> (try simp only [List.length_map] at h)) | (refine c_d rfl (fun h => ?_) (fun h => ?_) <;> (try simp only [List.length_map] at h)) | refine c_nq rfl (fun h => ?_) (fun h => ?_) | refine c_q rfl (fun h => ?_) (fun h => ?_) | refine c_nb rfl (fun h => ?_) (fun h => ?_) | refine c_b rfl (fun h => ?_) (fun h => ?_) | refine And.intro (by omega) (Exists.intro _ (And.intro (row_atN (by omega)) (And.intro rfl ?_))) | refine And.intro rfl (Exists.intro _ (And.intro rfl ?_)) | refine Exists.intro _ (And.intro rfl ?_))
  have : (n != n) = false := by simp
  show some (AVal.b (n != n)) = _
  rw [this]
theorem cmp_Less_ev (a b : Int) : EvP Try.prog G fn_cmp_Less_t [.i .i64 a, .i .i64 b] (.b (lessI a b)) := by
  refine evP c_cmp_Less_t rfl ?_
  (repeat' first | refine t_seq ?_ | refine t_reg ?_ | refine t_skip ?_ | refine t_scope ?_ | refine t_ret ?_ | refine t_exit ?_ | refine lit_t rfl ?_ | refine lit_f rfl ?_ | refine And.intro (And.intro rfl (Nat.le_of_ble_eq_true rfl)) ?_ | refine c_t rfl ?_ | refine c_f rfl ?_ | (refine sp_t (fun h => ?_) (fun h => ?_) <;> (try simp only [List.length_map] at h)) | (refine sp_f (fun h => ?_) (fun h => ?_) <;> (try simp only [List.length_map] at h)) | refine sq_t (fun h => ?_) (fun h => ?_) | refine sq_f (fun h => ?_) (fun h => ?_) | refine sb_t (fun h => ?_) (fun h => ?_) | refine sb_f (fun h => ?_) (fun h => ?_) | (refine c_nd rfl (fun h => ?_) (fun h => ?_) <;> (try simp only [List.length_map] at h)) | (refine c_d rfl (fun h => ?_) (fun h => ?_) <;> (try simp only [List.length_map] at h)) | refine c_nq rfl (fun h => ?_) (fun h => ?_) | refine c_q rfl (fun h => ?_) (fun h => ?_) | refine c_nb rfl (fun h => ?_) (fun h => ?_) | refine c_b rfl (fun h => ?_) (fun h => ?_) | refine And.intro (by omega) (Exists.intro _ (And.intro (row_atN (by omega)) (And.intro rfl ?_))) | (first | refine call_clean (isNaN_ev _) rfl ?_) | refine And.intro rfl (Exists.intro _ (And.intro rfl ?_)) | refine Exists.intro _ (And.intro rfl ?_))
  rfl

theorem swap_rows {α : Type} {f : α → List AVal} {L : List α} {j : Nat} {x y : α} : (((L.map f).set (j + 1) (f y)).set j (f x)) = ((L.set (j + 1) y).set j x).map f := by
  rw [set_map, set_map]

abbrev inE (n i : Nat) : Slots := [(6, .i .i64 (i : Nat)), (2, .i .i64 (n : Nat)), (1, .i .i64 0), (0, .row 0 n)]
abbrev inF (n i j : Nat) : Slots := [(7, .i .i64 (j : Nat)), (6, .i .i64 (i : Nat)), (2, .i .i64 (n : Nat)), (1, .i .i64 0), (0, .row 0 n)]

theorem insertionSort_evS (L : List Int) (hl : (L.length : Int) ≤ 1000000) : EvS Try.prog G fn_slices_insertionSortOrdered_t [.row 0 L.length, .i .i64 0, .i .i64 (L.length : Nat)] [.row 1 (L.map icells) false] (.tup []) [.row 1 ((isG lessI L L.length).map icells) false] := by
  have cI : ∀ L : List Int, cleanLL (L.map icells) = true := fun L => clean_rows (fun _ => rfl) _
  have lI : ∀ L : List Int, ∀ r ∈ L.map icells, r.length = 1 := fun L => len_rows (f := icells) (fun _ => rfl) _
  refine evS c_slices_insertionSortOrdered_t rfl ?_
  (repeat' first | refine t_seq ?_ | refine t_reg ?_ | refine t_skip ?_ | refine t_scope ?_ | refine t_ret ?_ | refine t_exit ?_ | refine lit_t rfl ?_ | refine lit_f rfl ?_ | refine And.intro (And.intro rfl (Nat.le_of_ble_eq_true rfl)) ?_ | refine c_t rfl ?_ | refine c_f rfl ?_)
  refine t_block (t_loopM (fun n E H => ∃ i : Nat, 1 ≤ i ∧ (i ≤ L.length ∨ i = 1) ∧ n = L.length - i ∧ E = inE L.length i ∧ H = [.row 1 ((isG lessI L i).map icells) false]) _ (inE L.length 1) [.row 1 ((isG lessI L 1).map icells) false] ?_ ⟨1, Nat.le_refl 1, .inr rfl, rfl, rfl, rfl⟩ ?_)
  · refine moveL [0] rfl (by decide) ⟨.inr ⟨_, rfl, cvO_row_as rfl (cI _) (lI _)⟩, trivial⟩ ?_
    refine ⟨?_, ?_, ?_, ?_, trivial⟩ <;> (first | exact .cl _ rfl | exact .cl _ (by assumption) | exact cv_ptr (Nat.le_of_ble_eq_true rfl) rfl | exact .nilS | exact cv_own (Nat.le_of_ble_eq_true rfl) rfl | exact cv_row (Nat.le_of_ble_eq_true rfl) rfl | exact cv_mp (Nat.le_of_ble_eq_true rfl) rfl)
  rintro n E H ⟨i, hi1, hi2, rfl, rfl, rfl⟩
  (repeat' first | refine t_seq ?_ | refine t_reg ?_ | refine t_skip ?_ | refine t_scope ?_ | refine t_ret ?_ | refine t_exit ?_ | refine lit_t rfl ?_ | refine lit_f rfl ?_ | refine And.intro (And.intro rfl (Nat.le_of_ble_eq_true rfl)) ?_ | refine c_t rfl ?_ | refine c_f rfl ?_)
  refine c_d rfl (fun h => ?_) (fun h => ?_)
  · have hlt : i < L.length := by omega
    (repeat' first | refine t_seq ?_ | refine t_reg ?_ | refine t_skip ?_ | refine t_scope ?_ | refine t_ret ?_ | refine t_exit ?_ | refine lit_t rfl ?_ | refine lit_f rfl ?_ | refine And.intro (And.intro rfl (Nat.le_of_ble_eq_true rfl)) ?_ | refine c_t rfl ?_ | refine c_f rfl ?_)
    refine t_block ?_
    (repeat' first | refine t_seq ?_ | refine t_reg ?_ | refine t_skip ?_ | refine t_scope ?_ | refine t_ret ?_ | refine t_exit ?_ | refine lit_t rfl ?_ | refine lit_f rfl ?_ | refine And.intro (And.intro rfl (Nat.le_of_ble_eq_true rfl)) ?_ | refine c_t rfl ?_ | refine c_f rfl ?_)
    refine t_block (t_loopM (fun n E H => ∃ (j : Nat) (K : List Int), j ≤ i ∧ K.length = L.length ∧ insG lessI K j = isG lessI L (i + 1) ∧ n = j ∧ E = inF L.length i j ∧ H = [.row 1 (K.map icells) false]) _ (inF L.length i i) [.row 1 ((isG lessI L i).map icells) false] ?_ ⟨i, _, Nat.le_refl i, isG_len _ _ _, rfl, rfl, rfl, rfl⟩ ?_)
    · refine moveL [0] rfl (by decide) ⟨.inr ⟨_, rfl, cvO_row_as rfl (cI _) (lI _)⟩, trivial⟩ ?_
      refine ⟨?_, ?_, ?_, ?_, ?_, trivial⟩ <;> (first | exact .cl _ rfl | exact .cl _ (by assumption) | exact cv_ptr (Nat.le_of_ble_eq_true rfl) rfl | exact .nilS | exact cv_own (Nat.le_of_ble_eq_true rfl) rfl | exact cv_row (Nat.le_of_ble_eq_true rfl) rfl | exact cv_mp (Nat.le_of_ble_eq_true rfl) rfl)
    rintro n E H ⟨j, K, hji, hK, hins, rfl, rfl, rfl⟩
    have hwi : IntKind.i64.wrap ((i : Nat) + 1) = ((i + 1 : Nat) : Int) := by rw [w64 (by omega) (by omega)]; rfl
    have fin : insG lessI K n = K → K = isG lessI L (i + 1) := fun e => by rw [← hins, e]
    (repeat' first | refine t_seq ?_ | refine t_reg ?_ | refine t_skip ?_ | refine t_scope ?_ | refine t_ret ?_ | refine t_exit ?_ | refine lit_t rfl ?_ | refine lit_f rfl ?_ | refine And.intro (And.intro rfl (Nat.le_of_ble_eq_true rfl)) ?_ | refine c_t rfl ?_ | refine c_f rfl ?_)
    cases n with
    | zero =>
      (repeat' first | refine t_seq ?_ | refine t_reg ?_ | refine t_skip ?_ | refine t_scope ?_ | refine t_ret ?_ | refine t_exit ?_ | refine lit_t rfl ?_ | refine lit_f rfl ?_ | refine And.intro (And.intro rfl (Nat.le_of_ble_eq_true rfl)) ?_ | refine c_t rfl ?_ | refine c_f rfl ?_ | (refine sp_t (fun h => ?_) (fun h => ?_) <;> (try simp only [List.length_map] at h)) | (refine sp_f (fun h => ?_) (fun h => ?_) <;> (try simp only [List.length_map] at h)) | refine sq_t (fun h => ?_) (fun h => ?_) | refine sq_f (fun h => ?_) (fun h => ?_) | refine sb_t (fun h => ?_) (fun h => ?_) | refine sb_f (fun h => ?_) (fun h => ?_) | (refine c_nd rfl (fun h => ?_) (fun h => ?_) <;> (try simp only [List.length_map] at h)) | (refine c_d rfl (fun h => ?_) (fun h => ?_) <;> (try simp only [List.length_map] at h)) | refine c_nq rfl (fun h => ?_) (fun h => ?_) | refine c_q rfl (fun h => ?_) (fun h => ?_) | refine c_nb rfl (fun h => ?_) (fun h => ?_) | refine c_b rfl (fun h => ?_) (fun h => ?_) | refine And.intro (by omega) (Exists.intro _ (And.intro (row_atN (by omega)) (And.intro rfl ?_))) | refine And.intro rfl (Exists.intro _ (And.intro rfl ?_)) | refine Exists.intro _ (And.intro rfl ?_))
      refine ⟨L.length - (i + 1), inE L.length (i + 1), [.row 1 ((isG lessI L (i + 1)).map icells) false], by omega, moveL [0] rfl (by decide) ⟨.inr ⟨_, rfl, cvO_row_as (by rw [fin rfl]) (cI _) (lI _)⟩, trivial⟩ ?_, i + 1, by omega, .inl (by omega), rfl, rfl, rfl⟩
      refine ⟨?_, ?_, ?_, ?_, trivial⟩ <;> first | (first | exact .cl _ rfl | exact .cl _ (by assumption) | exact cv_ptr (Nat.le_of_ble_eq_true rfl) rfl | exact .nilS | exact cv_own (Nat.le_of_ble_eq_true rfl) rfl | exact cv_row (Nat.le_of_ble_eq_true rfl) rfl | exact cv_mp (Nat.le_of_ble_eq_true rfl) rfl) | exact cv_i hwi.symm
    | succ j =>
      have hw : IntKind.i64.wrap (((j + 1 : Nat) : Int) - 1) = (j : Int) := by rw [w64 (by omega) (by omega)]; omega
      have hj1 : j + 1 < K.length := by omega
      have hj0 : j < K.length := by omega
      have hat2 : ∀ X, ((K.map icells).set (((j + 1 : Nat) : Int).toNat) X)[(IntKind.i64.wrap (((j + 1 : Nat) : Int) - 1)).toNat]? = some (icells K[j]) := fun X => by
        rw [hw, Int.toNat_natCast, Int.toNat_natCast, List.getElem?_set_ne (by omega)]; exact row_atN hj0
      (repeat' first | refine t_seq ?_ | refine t_reg ?_ | refine t_skip ?_ | refine t_scope ?_ | refine t_ret ?_ | refine t_exit ?_ | refine lit_t rfl ?_ | refine lit_f rfl ?_ | refine And.intro (And.intro rfl (Nat.le_of_ble_eq_true rfl)) ?_ | refine c_t rfl ?_ | refine c_f rfl ?_ | (refine sp_t (fun h => ?_) (fun h => ?_) <;> (try simp only [List.length_map] at h)) | (refine sp_f (fun h => ?_) (fun h => ?_) <;> (try simp only [List.length_map] at h)) | refine sq_t (fun h => ?_) (fun h => ?_) | refine sq_f (fun h => ?_) (fun h => ?_) | refine sb_t (fun h => ?_) (fun h => ?_) | refine sb_f (fun h => ?_) (fun h => ?_) | (refine c_nd rfl (fun h => ?_) (fun h => ?_) <;> (try simp only [List.length_map] at h)) | (refine c_d rfl (fun h => ?_) (fun h => ?_) <;> (try simp only [List.length_map] at h)) | refine c_nq rfl (fun h => ?_) (fun h => ?_) | refine c_q rfl (fun h => ?_) (fun h => ?_) | refine c_nb rfl (fun h => ?_) (fun h => ?_) | refine c_b rfl (fun h => ?_) (fun h => ?_) | refine And.intro (by omega) (Exists.intro _ (And.intro (row_atN (by omega)) (And.intro rfl ?_))) | (first | refine t_block ?_ | refine And.intro rfl (Exists.intro _ (And.intro (row_at hj1) (Exists.intro _ (And.intro rfl ?_)))) | refine And.intro rfl (Exists.intro _ (And.intro (by rw [hw]; exact row_at hj0) (Exists.intro _ (And.intro rfl ?_)))) | refine And.intro (And.intro (by omega) (by omega)) ?_ | refine And.intro (And.intro (by rw [hw]; omega) (by rw [hw]; omega)) ?_ | refine call_clean (cmp_Less_ev _ _) rfl ?_ | refine And.intro (And.intro rfl (And.intro rfl (Nat.le_of_ble_eq_true rfl))) (Exists.intro _ (And.intro (row_at hj1) ?_)) | refine And.intro (And.intro rfl (And.intro rfl (Nat.le_of_ble_eq_true rfl))) (Exists.intro _ (And.intro (hat2 _) ?_))) | refine And.intro rfl (Exists.intro _ (And.intro rfl ?_)) | refine Exists.intro _ (And.intro rfl ?_))
      · refine ⟨j, inF L.length i j, [.row 1 (((K.set (j + 1) K[j]).set j K[j + 1]).map icells) false], by omega, moveL [0] rfl (by decide) ⟨.inr ⟨_, rfl, cvO_row_as (by rw [← swap_rows]; simp only [hw, Int.toNat_natCast]; rfl) (cI _) (lI _)⟩, trivial⟩ ?_, j, (K.set (j + 1) K[j]).set j K[j + 1], by omega, by simp [hK], ?_, rfl, rfl, rfl⟩
        · refine ⟨?_, ?_, ?_, ?_, ?_, trivial⟩ <;> first | (first | exact .cl _ rfl | exact .cl _ (by assumption) | exact cv_ptr (Nat.le_of_ble_eq_true rfl) rfl | exact .nilS | exact cv_own (Nat.le_of_ble_eq_true rfl) rfl | exact cv_row (Nat.le_of_ble_eq_true rfl) rfl | exact cv_mp (Nat.le_of_ble_eq_true rfl) rfl) | exact cv_i hw.symm
        · rw [← hins, insG_step hj1, if_pos (show lessI K[j + 1] K[j] = true from decide_eq_true h)]
      · have fin' := fin (by rw [insG_step hj1, if_neg (by simp only [lessI, decide_eq_true_eq]; exact h)])
        refine ⟨L.length - (i + 1), inE L.length (i + 1), [.row 1 ((isG lessI L (i + 1)).map icells) false], by omega, moveL [0] rfl (by decide) ⟨.inr ⟨_, rfl, cvO_row_as (by rw [fin']) (cI _) (lI _)⟩, trivial⟩ ?_, i + 1, by omega, .inl (by omega), rfl, rfl, rfl⟩
        refine ⟨?_, ?_, ?_, ?_, trivial⟩ <;> first | (first | exact .cl _ rfl | exact .cl _ (by assumption) | exact cv_ptr (Nat.le_of_ble_eq_true rfl) rfl | exact .nilS | exact cv_own (Nat.le_of_ble_eq_true rfl) rfl | exact cv_row (Nat.le_of_ble_eq_true rfl) rfl | exact cv_mp (Nat.le_of_ble_eq_true rfl) rfl) | exact cv_i hwi.symm
      · omega
  · (repeat' first | refine t_seq ?_ | refine t_reg ?_ | refine t_skip ?_ | refine t_scope ?_ | refine t_ret ?_ | refine t_exit ?_ | refine lit_t rfl ?_ | refine lit_f rfl ?_ | refine And.intro (And.intro rfl (Nat.le_of_ble_eq_true rfl)) ?_ | refine c_t rfl ?_ | refine c_f rfl ?_ | (refine sp_t (fun h => ?_) (fun h => ?_) <;> (try simp only [List.length_map] at h)) | (refine sp_f (fun h => ?_) (fun h => ?_) <;> (try simp only [List.length_map] at h)) | refine sq_t (fun h => ?_) (fun h => ?_) | refine sq_f (fun h => ?_) (fun h => ?_) | refine sb_t (fun h => ?_) (fun h => ?_) | refine sb_f (fun h => ?_) (fun h => ?_) | (refine c_nd rfl (fun h => ?_) (fun h => ?_) <;> (try simp only [List.length_map] at h)) | (refine c_d rfl (fun h => ?_) (fun h => ?_) <;> (try simp only [List.length_map] at h)) | refine c_nq rfl (fun h => ?_) (fun h => ?_) | refine c_q rfl (fun h => ?_) (fun h => ?_) | refine c_nb rfl (fun h => ?_) (fun h => ?_) | refine c_b rfl (fun h => ?_) (fun h => ?_) | refine And.intro (by omega) (Exists.intro _ (And.intro (row_atN (by omega)) (And.intro rfl ?_))) | refine And.intro rfl (Exists.intro _ (And.intro rfl ?_)) | refine Exists.intro _ (And.intro rfl ?_))
    refine And.intro rfl (congrArg (fun K : List Int => [AObj.row 1 (K.map icells) false]) ?_)
    by_cases e : L.length = i
    · rw [e]
    · have h1 : i = 1 := by omega
      have h0 : L.length = 0 := by omega
      subst h1
      rw [h0]; rfl
theorem bitsLen_ev (n : Nat) (h : n ≤ 12) : EvP Try.prog G fn_bits_Len [.i .u64 (n : Nat)] (.i .i64 (([0, 1, 2, 2, 3, 3, 3, 3, 4, 4, 4, 4, 4].getD n 0 : Nat) : Int)) := by
  have key : ∀ m : Nat, m ≤ 12 → EvP Try.prog G fn_bits_Len64 [.i .u64 (m : Nat)] (.i .i64 (([0, 1, 2, 2, 3, 3, 3, 3, 4, 4, 4, 4, 4].getD m 0 : Nat) : Int)) := by
    intro m hm
    refine evP c_bits_Len64 rfl ?_
    match m, hm with
    | 0, _ => (repeat' first | refine t_seq ?_ | refine t_reg ?_ | refine t_skip ?_ | refine t_scope ?_ | refine t_ret ?_ | refine t_exit ?_ | refine lit_t rfl ?_ | refine lit_f rfl ?_ | refine And.intro (And.intro rfl (Nat.le_of_ble_eq_true rfl)) ?_ | refine c_t rfl ?_ | refine c_f rfl ?_ | (refine sp_t (fun h => ?_) (fun h => ?_) <;> (try simp only [List.length_map] at h)) | (refine sp_f (fun h => ?_) (fun h => ?_) <;> (try simp only [List.length_map] at h)) | refine sq_t (fun h => ?_) (fun h => ?_) | refine sq_f (fun h => ?_) (fun h => ?_) | refine sb_t (fun h => ?_) (fun h => ?_) | refine sb_f (fun h => ?_) (fun h => ?_) | (refine c_nd rfl (fun h => ?_) (fun h => ?_) <;> (try simp only [List.length_map] at h)) | (refine c_d rfl (fun h => ?_) (fun h => ?_) <;> (try simp only [List.length_map] at h)) | refine c_nq rfl (fun h => ?_) (fun h => ?_) | refine c_q rfl (fun h => ?_) (fun h => ?_) | refine c_nb rfl (fun h => ?_) (fun h => ?_) | refine c_b rfl (fun h => ?_) (fun h => ?_) | refine And.intro (by omega) (Exists.intro _ (And.intro (row_atN (by omega)) (And.intro rfl ?_))) | (first | refine And.intro (by decide) (Exists.intro _ (And.intro rfl ?_))) | refine And.intro rfl (Exists.intro _ (And.intro rfl ?_)) | refine Exists.intro _ (And.intro rfl ?_)); rfl
    | 1, _ => (repeat' first | refine t_seq ?_ | refine t_reg ?_ | refine t_skip ?_ | refine t_scope ?_ | refine t_ret ?_ | refine t_exit ?_ | refine lit_t rfl ?_ | refine lit_f rfl ?_ | refine And.intro (And.intro rfl (Nat.le_of_ble_eq_true rfl)) ?_ | refine c_t rfl ?_ | refine c_f rfl ?_ | (refine sp_t (fun h => ?_) (fun h => ?_) <;> (try simp only [List.length_map] at h)) | (refine sp_f (fun h => ?_) (fun h => ?_) <;> (try simp only [List.length_map] at h)) | refine sq_t (fun h => ?_) (fun h => ?_) | refine sq_f (fun h => ?_) (fun h => ?_) | refine sb_t (fun h => ?_) (fun h => ?_) | refine sb_f (fun h => ?_) (fun h => ?_) | (refine c_nd rfl (fun h => ?_) (fun h => ?_) <;> (try simp only [List.length_map] at h)) | (refine c_d rfl (fun h => ?_) (fun h => ?_) <;> (try simp only [List.length_map] at h)) | refine c_nq rfl (fun h => ?_) (fun h => ?_) | refine c_q rfl (fun h => ?_) (fun h => ?_) | refine c_nb rfl (fun h => ?_) (fun h => ?_) | refine c_b rfl (fun h => ?_) (fun h => ?_) | refine And.intro (by omega) (Exists.intro _ (And.intro (row_atN (by omega)) (And.intro rfl ?_))) | (first | refine And.intro (by decide) (Exists.intro _ (And.intro rfl ?_))) | refine And.intro rfl (Exists.intro _ (And.intro rfl ?_)) | refine Exists.intro _ (And.intro rfl ?_)); rfl
    | 2, _ => (repeat' first | refine t_seq ?_ | refine t_reg ?_ | refine t_skip ?_ | refine t_scope ?_ | refine t_ret ?_ | refine t_exit ?_ | refine lit_t rfl ?_ | refine lit_f rfl ?_ | refine And.intro (And.intro rfl (Nat.le_of_ble_eq_true rfl)) ?_ | refine c_t rfl ?_ | refine c_f rfl ?_ | (refine sp_t (fun h => ?_) (fun h => ?_) <;> (try simp only [List.length_map] at h)) | (refine sp_f (fun h => ?_) (fun h => ?_) <;> (try simp only [List.length_map] at h)) | refine sq_t (fun h => ?_) (fun h => ?_) | refine sq_f (fun h => ?_) (fun h => ?_) | refine sb_t (fun h => ?_) (fun h => ?_) | refine sb_f (fun h => ?_) (fun h => ?_) | (refine c_nd rfl (fun h => ?_) (fun h => ?_) <;> (try simp only [List.length_map] at h)) | (refine c_d rfl (fun h => ?_) (fun h => ?_) <;> (try simp only [List.length_map] at h)) | refine c_nq rfl (fun h => ?_) (fun h => ?_) | refine c_q rfl (fun h => ?_) (fun h => ?_) | refine c_nb rfl (fun h => ?_) (fun h => ?_) | refine c_b rfl (fun h => ?_) (fun h => ?_) | refine And.intro (by omega) (Exists.intro _ (And.intro (row_atN (by omega)) (And.intro rfl ?_))) | (first | refine And.intro (by decide) (Exists.intro _ (And.intro rfl ?_))) | refine And.intro rfl (Exists.intro _ (And.intro rfl ?_)) | refine Exists.intro _ (And.intro rfl ?_)); rfl
    | 3, _ => (repeat' first | refine t_seq ?_ | refine t_reg ?_ | refine t_skip ?_ | refine t_scope ?_ | refine t_ret ?_ | refine t_exit ?_ | refine lit_t rfl ?_ | refine lit_f rfl ?_ | refine And.intro (And.intro rfl (Nat.le_of_ble_eq_true rfl)) ?_ | refine c_t rfl ?_ | refine c_f rfl ?_ | (refine sp_t (fun h => ?_) (fun h => ?_) <;> (try simp only [List.length_map] at h)) | (refine sp_f (fun h => ?_) (fun h => ?_) <;> (try simp only [List.length_map] at h)) | refine sq_t (fun h => ?_) (fun h => ?_) | refine sq_f (fun h => ?_) (fun h => ?_) | refine sb_t (fun h => ?_) (fun h => ?_) | refine sb_f (fun h => ?_) (fun h => ?_) | (refine c_nd rfl (fun h => ?_) (fun h => ?_) <;> (try simp only [List.length_map] at h)) | (refine c_d rfl (fun h => ?_) (fun h => ?_) <;> (try simp only [List.length_map] at h)) | refine c_nq rfl (fun h => ?_) (fun h => ?_) | refine c_q rfl (fun h => ?_) (fun h => ?_) | refine c_nb rfl (fun h => ?_) (fun h => ?_) | refine c_b rfl (fun h => ?_) (fun h => ?_) | refine And.intro (by omega) (Exists.intro _ (And.intro (row_atN (by omega)) (And.intro rfl ?_))) | (first | refine And.intro (by decide) (Exists.intro _ (And.intro rfl ?_))) | refine And.intro rfl (Exists.intro _ (And.intro rfl ?_)) | refine Exists.intro _ (And.intro rfl ?_)); rfl
    | 4, _ => (repeat' first | refine t_seq ?_ | refine t_reg ?_ | refine t_skip ?_ | refine t_scope ?_ | refine t_ret ?_ | refine t_exit ?_ | refine lit_t rfl ?_ | refine lit_f rfl ?_ | refine And.intro (And.intro rfl (Nat.le_of_ble_eq_true rfl)) ?_ | refine c_t rfl ?_ | refine c_f rfl ?_ | (refine sp_t (fun h => ?_) (fun h => ?_) <;> (try simp only [List.length_map] at h)) | (refine sp_f (fun h => ?_) (fun h => ?_) <;> (try simp only [List.length_map] at h)) | refine sq_t (fun h => ?_) (fun h => ?_) | refine sq_f (fun h => ?_) (fun h => ?_) | refine sb_t (fun h => ?_) (fun h => ?_) | refine sb_f (fun h => ?_) (fun h => ?_) | (refine c_nd rfl (fun h => ?_) (fun h => ?_) <;> (try simp only [List.length_map] at h)) | (refine c_d rfl (fun h => ?_) (fun h => ?_) <;> (try simp only [List.length_map] at h)) | refine c_nq rfl (fun h => ?_) (fun h => ?_) | refine c_q rfl (fun h => ?_) (fun h => ?_) | refine c_nb rfl (fun h => ?_) (fun h => ?_) | refine c_b rfl (fun h => ?_) (fun h => ?_) | refine And.intro (by omega) (Exists.intro _ (And.intro (row_atN (by omega)) (And.intro rfl ?_))) | (first | refine And.intro (by decide) (Exists.intro _ (And.intro rfl ?_))) | refine And.intro rfl (Exists.intro _ (And.intro rfl ?_)) | refine Exists.intro _ (And.intro rfl ?_)); rfl
    | 5, _ => (repeat' first | refine t_seq ?_ | refine t_reg ?_ | refine t_skip ?_ | refine t_scope ?_ | refine t_ret ?_ | refine t_exit ?_ | refine lit_t rfl ?_ | refine lit_f rfl ?_ | refine And.intro (And.intro rfl (Nat.le_of_ble_eq_true rfl)) ?_ | refine c_t rfl ?_ | refine c_f rfl ?_ | (refine sp_t (fun h => ?_) (fun h => ?_) <;> (try simp only [List.length_map] at h)) | (refine sp_f (fun h => ?_) (fun h => ?_) <;> (try simp only [List.length_map] at h)) | refine sq_t (fun h => ?_) (fun h => ?_) | refine sq_f (fun h => ?_) (fun h => ?_) | refine sb_t (fun h => ?_) (fun h => ?_) | refine sb_f (fun h => ?_) (fun h => ?_) | (refine c_nd rfl (fun h => ?_) (fun h => ?_) <;> (try simp only [List.length_map] at h)) | (refine c_d rfl (fun h => ?_) (fun h => ?_) <;> (try simp only [List.length_map] at h)) | refine c_nq rfl (fun h => ?_) (fun h => ?_) | refine c_q rfl (fun h => ?_) (fun h => ?_) | refine c_nb rfl (fun h => ?_) (fun h => ?_) | refine c_b rfl (fun h => ?_) (fun h => ?_) | refine And.intro (by omega) (Exists.intro _ (And.intro (row_atN (by omega)) (And.intro rfl ?_))) | (first | refine And.intro (by decide) (Exists.intro _ (And.intro rfl ?_))) | refine And.intro rfl (Exists.intro _ (And.intro rfl ?_)) | refine Exists.intro _ (And.intro rfl ?_)); rfl
    | 6, _ => (repeat' first | refine t_seq ?_ | refine t_reg ?_ | refine t_skip ?_ | refine t_scope ?_ | refine t_ret ?_ | refine t_exit ?_ | refine lit_t rfl ?_ | refine lit_f rfl ?_ | refine And.intro (And.intro rfl (Nat.le_of_ble_eq_true rfl)) ?_ | refine c_t rfl ?_ | refine c_f rfl ?_ | (refine sp_t (fun h => ?_) (fun h => ?_) <;> (try simp only [List.length_map] at h)) | (refine sp_f (fun h => ?_) (fun h => ?_) <;> (try simp only [List.length_map] at h)) | refine sq_t (fun h => ?_) (fun h => ?_) | refine sq_f (fun h => ?_) (fun h => ?_) | refine sb_t (fun h => ?_) (fun h => ?_) | refine sb_f (fun h => ?_) (fun h => ?_) | (refine c_nd rfl (fun h => ?_) (fun h => ?_) <;> (try simp only [List.length_map] at h)) | (refine c_d rfl (fun h => ?_) (fun h => ?_) <;> (try simp only [List.length_map] at h)) | refine c_nq rfl (fun h => ?_) (fun h => ?_) | refine c_q rfl (fun h => ?_) (fun h => ?_) | refine c_nb rfl (fun h => ?_) (fun h => ?_) | refine c_b rfl (fun h => ?_) (fun h => ?_) | refine And.intro (by omega) (Exists.intro _ (And.intro (row_atN (by omega)) (And.intro rfl ?_))) | (first | refine And.intro (by decide) (Exists.intro _ (And.intro rfl ?_))) | refine And.intro rfl (Exists.intro _ (And.intro rfl ?_)) | refine Exists.intro _ (And.intro rfl ?_)); rfl
    | 7, _ => (repeat' first | refine t_seq ?_ | refine t_reg ?_ | refine t_skip ?_ | refine t_scope ?_ | refine t_ret ?_ | refine t_exit ?_ | refine lit_t rfl ?_ | refine lit_f rfl ?_ | refine And.intro (And.intro rfl (Nat.le_of_ble_eq_true rfl)) ?_ | refine c_t rfl ?_ | refine c_f rfl ?_ | (refine sp_t (fun h => ?_) (fun h => ?_) <;> (try simp only [List.length_map] at h)) | (refine sp_f (fun h => ?_) (fun h => ?_) <;> (try simp only [List.length_map] at h)) | refine sq_t (fun h => ?_) (fun h => ?_) | refine sq_f (fun h => ?_) (fun h => ?_) | refine sb_t (fun h => ?_) (fun h => ?_) | refine sb_f (fun h => ?_) (fun h => ?_) | (refine c_nd rfl (fun h => ?_) (fun h => ?_) <;> (try simp only [List.length_map] at h)) | (refine c_d rfl (fun h => ?_) (fun h => ?_) <;> (try simp only [List.length_map] at h)) | refine c_nq rfl (fun h => ?_) (fun h => ?_) | refine c_q rfl (fun h => ?_) (fun h => ?_) | refine c_nb rfl (fun h => ?_) (fun h => ?_) | refine c_b rfl (fun h => ?_) (fun h => ?_) | refine And.intro (by omega) (Exists.intro _ (And.intro (row_atN (by omega)) (And.intro rfl ?_))) | (first | refine And.intro (by decide) (Exists.intro _ (And.intro rfl ?_))) | refine And.intro rfl (Exists.intro _ (And.intro rfl ?_)) | refine Exists.intro _ (And.intro rfl ?_)); rfl
    | 8, _ => (repeat' first | refine t_seq ?_ | refine t_reg ?_ | refine t_skip ?_ | refine t_scope ?_ | refine t_ret ?_ | refine t_exit ?_ | refine lit_t rfl ?_ | refine lit_f rfl ?_ | refine And.intro (And.intro rfl (Nat.le_of_ble_eq_true rfl)) ?_ | refine c_t rfl ?_ | refine c_f rfl ?_ | (refine sp_t (fun h => ?_) (fun h => ?_) <;> (try simp only [List.length_map] at h)) | (refine sp_f (fun h => ?_) (fun h => ?_) <;> (try simp only [List.length_map] at h)) | refine sq_t (fun h => ?_) (fun h => ?_) | refine sq_f (fun h => ?_) (fun h => ?_) | refine sb_t (fun h => ?_) (fun h => ?_) | refine sb_f (fun h => ?_) (fun h => ?_) | (refine c_nd rfl (fun h => ?_) (fun h => ?_) <;> (try simp only [List.length_map] at h)) | (refine c_d rfl (fun h => ?_) (fun h => ?_) <;> (try simp only [List.length_map] at h)) | refine c_nq rfl (fun h => ?_) (fun h => ?_) | refine c_q rfl (fun h => ?_) (fun h => ?_) | refine c_nb rfl (fun h => ?_) (fun h => ?_) | refine c_b rfl (fun h => ?_) (fun h => ?_) | refine And.intro (by omega) (Exists.intro _ (And.intro (row_atN (by omega)) (And.intro rfl ?_))) | (first | refine And.intro (by decide) (Exists.intro _ (And.intro rfl ?_))) | refine And.intro rfl (Exists.intro _ (And.intro rfl ?_)) | refine Exists.intro _ (And.intro rfl ?_)); rfl
    | 9, _ => (repeat' first | refine t_seq ?_ | refine t_reg ?_ | refine t_skip ?_ | refine t_scope ?_ | refine t_ret ?_ | refine t_exit ?_ | refine lit_t rfl ?_ | refine lit_f rfl ?_ | refine And.intro (And.intro rfl (Nat.le_of_ble_eq_true rfl)) ?_ | refine c_t rfl ?_ | refine c_f rfl ?_ | (refine sp_t (fun h => ?_) (fun h => ?_) <;> (try simp only [List.length_map] at h)) | (refine sp_f (fun h => ?_) (fun h => ?_) <;> (try simp only [List.length_map] at h)) | refine sq_t (fun h => ?_) (fun h => ?_) | refine sq_f (fun h => ?_) (fun h => ?_) | refine sb_t (fun h => ?_) (fun h => ?_) | refine sb_f (fun h => ?_) (fun h => ?_) | (refine c_nd rfl (fun h => ?_) (fun h => ?_) <;> (try simp only [List.length_map] at h)) | (refine c_d rfl (fun h => ?_) (fun h => ?_) <;> (try simp only [List.length_map] at h)) | refine c_nq rfl (fun h => ?_) (fun h => ?_) | refine c_q rfl (fun h => ?_) (fun h => ?_) | refine c_nb rfl (fun h => ?_) (fun h => ?_) | refine c_b rfl (fun h => ?_) (fun h => ?_) | refine And.intro (by omega) (Exists.intro _ (And.intro (row_atN (by omega)) (And.intro rfl ?_))) | (first | refine And.intro (by decide) (Exists.intro _ (And.intro rfl ?_))) | refine And.intro rfl (Exists.intro _ (And.intro rfl ?_)) | refine Exists.intro _ (And.intro rfl ?_)); rfl
    | 10, _ => (repeat' first | refine t_seq ?_ | refine t_reg ?_ | refine t_skip ?_ | refine t_scope ?_ | refine t_ret ?_ | refine t_exit ?_ | refine lit_t rfl ?_ | refine lit_f rfl ?_ | refine And.intro (And.intro rfl (Nat.le_of_ble_eq_true rfl)) ?_ | refine c_t rfl ?_ | refine c_f rfl ?_ | (refine sp_t (fun h => ?_) (fun h => ?_) <;> (try simp only [List.length_map] at h)) | (refine sp_f (fun h => ?_) (fun h => ?_) <;> (try simp only [List.length_map] at h)) | refine sq_t (fun h => ?_) (fun h => ?_) | refine sq_f (fun h => ?_) (fun h => ?_) | refine sb_t (fun h => ?_) (fun h => ?_) | refine sb_f (fun h => ?_) (fun h => ?_) | (refine c_nd rfl (fun h => ?_) (fun h => ?_) <;> (try simp only [List.length_map] at h)) | (refine c_d rfl (fun h => ?_) (fun h => ?_) <;> (try simp only [List.length_map] at h)) | refine c_nq rfl (fun h => ?_) (fun h => ?_) | refine c_q rfl (fun h => ?_) (fun h => ?_) | refine c_nb rfl (fun h => ?_) (fun h => ?_) | refine c_b rfl (fun h => ?_) (fun h => ?_) | refine And.intro (by omega) (Exists.intro _ (And.intro (row_atN (by omega)) (And.intro rfl ?_))) | (first | refine And.intro (by decide) (Exists.intro _ (And.intro rfl ?_))) | refine And.intro rfl (Exists.intro _ (And.intro rfl ?_)) | refine Exists.intro _ (And.intro rfl ?_)); rfl
    | 11, _ => (repeat' first | refine t_seq ?_ | refine t_reg ?_ | refine t_skip ?_ | refine t_scope ?_ | refine t_ret ?_ | refine t_exit ?_ | refine lit_t rfl ?_ | refine lit_f rfl ?_ | refine And.intro (And.intro rfl (Nat.le_of_ble_eq_true rfl)) ?_ | refine c_t rfl ?_ | refine c_f rfl ?_ | (refine sp_t (fun h => ?_) (fun h => ?_) <;> (try simp only [List.length_map] at h)) | (refine sp_f (fun h => ?_) (fun h => ?_) <;> (try simp only [List.length_map] at h)) | refine sq_t (fun h => ?_) (fun h => ?_) | refine sq_f (fun h => ?_) (fun h => ?_) | refine sb_t (fun h => ?_) (fun h => ?_) | refine sb_f (fun h => ?_) (fun h => ?_) | (refine c_nd rfl (fun h => ?_) (fun h => ?_) <;> (try simp only [List.length_map] at h)) | (refine c_d rfl (fun h => ?_) (fun h => ?_) <;> (try simp only [List.length_map] at h)) | refine c_nq rfl (fun h => ?_) (fun h => ?_) | refine c_q rfl (fun h => ?_) (fun h => ?_) | refine c_nb rfl (fun h => ?_) (fun h => ?_) | refine c_b rfl (fun h => ?_) (fun h => ?_) | refine And.intro (by omega) (Exists.intro _ (And.intro (row_atN (by omega)) (And.intro rfl ?_))) | (first | refine And.intro (by decide) (Exists.intro _ (And.intro rfl ?_))) | refine And.intro rfl (Exists.intro _ (And.intro rfl ?_)) | refine Exists.intro _ (And.intro rfl ?_)); rfl
    | 12, _ => (repeat' first | refine t_seq ?_ | refine t_reg ?_ | refine t_skip ?_ | refine t_scope ?_ | refine t_ret ?_ | refine t_exit ?_ | refine lit_t rfl ?_ | refine lit_f rfl ?_ | refine And.intro (And.intro rfl (Nat.le_of_ble_eq_true rfl)) ?_ | refine c_t rfl ?_ | refine c_f rfl ?_ | (refine sp_t (fun h => ?_) (fun h => ?_) <;> (try simp only [List.length_map] at h)) | (refine sp_f (fun h => ?_) (fun h => ?_) <;> (try simp only [List.length_map] at h)) | refine sq_t (fun h => ?_) (fun h => ?_) | refine sq_f (fun h => ?_) (fun h => ?_) | refine sb_t (fun h => ?_) (fun h => ?_) | refine sb_f (fun h => ?_) (fun h => ?_) | (refine c_nd rfl (fun h => ?_) (fun h => ?_) <;> (try simp only [List.length_map] at h)) | (refine c_d rfl (fun h => ?_) (fun h => ?_) <;> (try simp only [List.length_map] at h)) | refine c_nq rfl (fun h => ?_) (fun h => ?_) | refine c_q rfl (fun h => ?_) (fun h => ?_) | refine c_nb rfl (fun h => ?_) (fun h => ?_) | refine c_b rfl (fun h => ?_) (fun h => ?_) | refine And.intro (by omega) (Exists.intro _ (And.intro (row_atN (by omega)) (And.intro rfl ?_))) | (first | refine And.intro (by decide) (Exists.intro _ (And.intro rfl ?_))) | refine And.intro rfl (Exists.intro _ (And.intro rfl ?_)) | refine Exists.intro _ (And.intro rfl ?_)); rfl
    | m + 13, hm => omega
  refine evP c_bits_Len rfl ?_
  (repeat' first | refine t_seq ?_ | refine t_reg ?_ | refine t_skip ?_ | refine t_scope ?_ | refine t_ret ?_ | refine t_exit ?_ | refine lit_t rfl ?_ | refine lit_f rfl ?_ | refine And.intro (And.intro rfl (Nat.le_of_ble_eq_true rfl)) ?_ | refine c_t rfl ?_ | refine c_f rfl ?_ | (refine sp_t (fun h => ?_) (fun h => ?_) <;> (try simp only [List.length_map] at h)) | (refine sp_f (fun h => ?_) (fun h => ?_) <;> (try simp only [List.length_map] at h)) | refine sq_t (fun h => ?_) (fun h => ?_) | refine sq_f (fun h => ?_) (fun h => ?_) | refine sb_t (fun h => ?_) (fun h => ?_) | refine sb_f (fun h => ?_) (fun h => ?_) | (refine c_nd rfl (fun h => ?_) (fun h => ?_) <;> (try simp only [List.length_map] at h)) | (refine c_d rfl (fun h => ?_) (fun h => ?_) <;> (try simp only [List.length_map] at h)) | refine c_nq rfl (fun h => ?_) (fun h => ?_) | refine c_q rfl (fun h => ?_) (fun h => ?_) | refine c_nb rfl (fun h => ?_) (fun h => ?_) | refine c_b rfl (fun h => ?_) (fun h => ?_) | refine And.intro (by omega) (Exists.intro _ (And.intro (row_atN (by omega)) (And.intro rfl ?_))) | (first | refine t_condc (fun h => by cases h) (fun _ => ?_) | refine call_clean (key n h) rfl ?_) | refine And.intro rfl (Exists.intro _ (And.intro rfl ?_)) | refine Exists.intro _ (And.intro rfl ?_))
  rfl
theorem pdqsort_evS (L : List Int) (hl : L.length ≤ 12) (k : Int) : EvS Try.prog G fn_slices_pdqsortOrdered_t [.row 0 L.length, .i .i64 0, .i .i64 (L.length : Nat), .i .i64 k] [.row 1 (L.map icells) false] (.tup []) [.row 1 ((isG lessI L L.length).map icells) false] := by
  refine evS c_slices_pdqsortOrdered_t rfl ?_
  (repeat' first | refine t_seq ?_ | refine t_reg ?_ | refine t_skip ?_ | refine t_scope ?_ | refine t_ret ?_ | refine t_exit ?_ | refine lit_t rfl ?_ | refine lit_f rfl ?_ | refine And.intro (And.intro rfl (Nat.le_of_ble_eq_true rfl)) ?_ | refine c_t rfl ?_ | refine c_f rfl ?_)
  refine t_block (t_loopM (fun _ E' H' => E' = _ ∧ H' = _) 0 _ _ (Move.refl _ _ _) ⟨rfl, rfl⟩ ?_)
  rintro n E H ⟨rfl, rfl⟩
  refine t_block ?_
  have hw : IntKind.i64.wrap (((L.length : Nat) : Int) - 0) = ((L.length : Nat) : Int) := by rw [w64 (by omega) (by omega)]; omega
  (repeat' first | refine t_seq ?_ | refine t_reg ?_ | refine t_skip ?_ | refine t_scope ?_ | refine t_ret ?_ | refine t_exit ?_ | refine lit_t rfl ?_ | refine lit_f rfl ?_ | refine And.intro (And.intro rfl (Nat.le_of_ble_eq_true rfl)) ?_ | refine c_t rfl ?_ | refine c_f rfl ?_)
  refine c_d rfl (fun _ => ?_) (fun h => absurd (by rw [hw]; omega) h)
  (repeat' first | refine t_seq ?_ | refine t_reg ?_ | refine t_skip ?_ | refine t_scope ?_ | refine t_ret ?_ | refine t_exit ?_ | refine lit_t rfl ?_ | refine lit_f rfl ?_ | refine And.intro (And.intro rfl (Nat.le_of_ble_eq_true rfl)) ?_ | refine c_t rfl ?_ | refine c_f rfl ?_ | (refine sp_t (fun h => ?_) (fun h => ?_) <;> (try simp only [List.length_map] at h)) | (refine sp_f (fun h => ?_) (fun h => ?_) <;> (try simp only [List.length_map] at h)) | refine sq_t (fun h => ?_) (fun h => ?_) | refine sq_f (fun h => ?_) (fun h => ?_) | refine sb_t (fun h => ?_) (fun h => ?_) | refine sb_f (fun h => ?_) (fun h => ?_) | (refine c_nd rfl (fun h => ?_) (fun h => ?_) <;> (try simp only [List.length_map] at h)) | (refine c_d rfl (fun h => ?_) (fun h => ?_) <;> (try simp only [List.length_map] at h)) | refine c_nq rfl (fun h => ?_) (fun h => ?_) | refine c_q rfl (fun h => ?_) (fun h => ?_) | refine c_nb rfl (fun h => ?_) (fun h => ?_) | refine c_b rfl (fun h => ?_) (fun h => ?_) | refine And.intro (by omega) (Exists.intro _ (And.intro (row_atN (by omega)) (And.intro rfl ?_))) | (first | refine call_heap (insertionSort_evS L (by omega)) ?_) | refine And.intro rfl (Exists.intro _ (And.intro rfl ?_)) | refine Exists.intro _ (And.intro rfl ?_))
  exact And.intro rfl rfl
theorem sort_evS (L : List Int) (n : Nat) (hn : L.length = n) (hl : L.length ≤ 12) : EvS Try.prog G fn_slices_Sort_int [.row 0 n] [.row 1 (L.map icells) false] (.tup []) [.row 1 ((isG lessI L L.length).map icells) false] := by
  subst hn
  refine evS c_slices_Sort_int rfl ?_
  have hw : IntKind.u64.wrap ((L.length : Nat) : Int) = ((L.length : Nat) : Int) := by
    unfold IntKind.wrap
    simp [IntKind.bits, IntKind.signed]
    omega
  (repeat' first | refine t_seq ?_ | refine t_reg ?_ | refine t_skip ?_ | refine t_scope ?_ | refine t_ret ?_ | refine t_exit ?_ | refine lit_t rfl ?_ | refine lit_f rfl ?_ | refine And.intro (And.intro rfl (Nat.le_of_ble_eq_true rfl)) ?_ | refine c_t rfl ?_ | refine c_f rfl ?_ | (refine sp_t (fun h => ?_) (fun h => ?_) <;> (try simp only [List.length_map] at h)) | (refine sp_f (fun h => ?_) (fun h => ?_) <;> (try simp only [List.length_map] at h)) | refine sq_t (fun h => ?_) (fun h => ?_) | refine sq_f (fun h => ?_) (fun h => ?_) | refine sb_t (fun h => ?_) (fun h => ?_) | refine sb_f (fun h => ?_) (fun h => ?_) | (refine c_nd rfl (fun h => ?_) (fun h => ?_) <;> (try simp only [List.length_map] at h)) | (refine c_d rfl (fun h => ?_) (fun h => ?_) <;> (try simp only [List.length_map] at h)) | refine c_nq rfl (fun h => ?_) (fun h => ?_) | refine c_q rfl (fun h => ?_) (fun h => ?_) | refine c_nb rfl (fun h => ?_) (fun h => ?_) | refine c_b rfl (fun h => ?_) (fun h => ?_) | refine And.intro (by omega) (Exists.intro _ (And.intro (row_atN (by omega)) (And.intro rfl ?_))) | (first | refine call_clean (r := .i .i64 (([0, 1, 2, 2, 3, 3, 3, 3, 4, 4, 4, 4, 4].getD L.length 0 : Nat) : Int)) (by show EvP _ _ _ [.i .u64 (IntKind.u64.wrap ((L.length : Nat) : Int))] _; rw [hw]; exact bitsLen_ev L.length hl) rfl ?_ | refine call_heap (pdqsort_evS L hl _) ?_) | refine And.intro rfl (Exists.intro _ (And.intro rfl ?_)) | refine Exists.intro _ (And.intro rfl ?_))
  exact And.intro rfl rfl
end Go.Proofs.Ythpcjekmgohelaa.Ab

/- ABSTRACT RUNS, 34: a call that works on one row. -/
namespace Go.Proofs.Ythpcjekmgohelaa.Ab
open Go Go.RowKit
set_option linter.unusedSimpArgs false
set_option linter.unusedVariables false

/-- An argument in the small heap, and in the large one. -/
def ArgAt (id : Nat) (a s : AVal) : Prop := (clean s = true ∧ a = s) ∨ ∃ m, s = .row 0 m ∧ a = .row id m

theorem EvS.one {P : Program} {G : GI} {f : FuncId} {args argsS : List AVal} {rows rows' : List (List AVal)} {esz : Nat} {r : AVal} {H : Heap} (id : Nat) (h : EvS P G f argsS [.row esz rows false] r [.row esz rows' false]) (ho : H[id]? = some (.row esz rows false))
    (hn : args.length = argsS.length) (ha : ∀ j, j < argsS.length → ArgAt id (args.getD j .u) (argsS.getD j .u)) (hc : cleanLL rows = true) (hr : ∀ q ∈ rows, q.length = esz) (hc' : cleanLL rows' = true) (hr' : ∀ q ∈ rows', q.length = esz) (hres : clean r = true) :
    EvS P G f args H r (H.set id (.row esz rows' false)) := by
  have hid := (List.getElem?_eq_some_iff.1 ho).1
  refine EvS.frame [id] h ⟨rfl, by simp, fun i hi => by rw [List.mem_singleton.1 hi]; exact hid, fun j o' hj => ?_, hn, fun j hj => ?_⟩ ⟨by simp, fun k hk hne => ?_, fun k o' hk hk' => ?_, .cl _ hres⟩
  · cases j with
    | zero =>
      simp at hj; subst hj
      exact ⟨_, ho, cvO_row hc hr, rfl, rfl⟩
    | succ j => simp at hj
  · rcases ha j hj with ⟨h1, h2⟩ | ⟨m, h1, h2⟩
    · rw [h2]; exact .cl _ h1
    · rw [h1, h2]; exact cv_row (by simp) rfl
  · rw [List.getElem?_set_ne]
    intro e; subst e; simp at hne
  · have : k = id := by
      rcases hk with hk | hk
      · exact List.mem_singleton.1 hk
      · simp at hk; omega
    subst this
    rw [List.getElem?_set_self hid] at hk'
    simp only [Option.some.injEq] at hk'; subst hk'
    refine .inr ⟨.row esz rows' false, ?_, cvO_row hc' hr'⟩
    have : iOf [k] H.length [AObj.row esz rows false].length k = 0 := by simp [iOf]
    rw [this]; rfl

/-- A row of single cells, one of which is looked at. -/
def R3 (pre : List AVal) (v : AVal) (post : List AVal) : List (List AVal) := pre.map (fun c => [c]) ++ [v] :: post.map fun c => [c]
theorem R3_at {pre post : List AVal} {v : AVal} {k : Nat} (h : pre.length = k) : (R3 pre v post)[((k : Nat) : Int).toNat]? = some [v] := by
  subst h
  unfold R3
  rw [Int.toNat_natCast, List.getElem?_append_right (by simp)]; simp
theorem R3_set {pre post : List AVal} {v v' : AVal} {k : Nat} (h : pre.length = k) : (R3 pre v post).set ((k : Nat) : Int).toNat [v'] = R3 pre v' post := by
  subst h
  unfold R3
  rw [Int.toNat_natCast, List.set_append_right _ _ (by simp)]; simp
theorem R3_len {pre post : List AVal} {v : AVal} : (R3 pre v post).length = pre.length + post.length + 1 := by simp [R3]; omega
theorem R3_row {pre post : List AVal} {v : AVal} : ∀ r ∈ R3 pre v post, r.length = 1 := by
  intro r hr
  unfold R3 at hr
  rcases List.mem_append.1 hr with h | h
  · obtain ⟨c, _, rfl⟩ := List.mem_map.1 h; rfl
  · rcases List.mem_cons.1 h with rfl | h
    · rfl
    · obtain ⟨c, _, rfl⟩ := List.mem_map.1 h; rfl
/-- A cell that may stay as it is in any change of form. -/
def Stays (c : AVal) : Prop := clean c = true ∨ c = .nilS
theorem Stays.cv {c : AVal} (h : Stays c) {σ : Nat → Nat} {ok : Nat → Prop} {H : Heap} {fr : Nat → Prop} : Cv σ ok H fr c c := by
  rcases h with h | rfl
  · exact .cl _ h
  · exact .nilS
theorem cvO_R3 {pre post : List AVal} {v v' : AVal} {σ : Nat → Nat} {ok : Nat → Prop} {H : Heap} {fr : Nat → Prop} (h1 : ∀ c ∈ pre, Stays c) (h2 : ∀ c ∈ post, Stays c) (hv : Cv σ ok H fr v v') :
    CvO σ ok H fr (.row 1 (R3 pre v post) false) (.row 1 (R3 pre v' post) false) := by
  refine .row 1 _ _ false false (fun h => h) (by rw [R3_len, R3_len]) R3_row fun i j hi hj => ?_
  have hj0 : j = 0 := by omega
  subst hj0
  rw [R3_len] at hi
  have get : ∀ w, (R3 pre w post).getD i [] = if h : i < pre.length then [pre[i]] else if i = pre.length then [w] else [post.getD (i - pre.length - 1) .u] := by
    intro w
    unfold R3
    rw [List.getD_eq_getElem?_getD]
    by_cases h : i < pre.length
    · rw [dif_pos h, List.getElem?_append_left (by simpa using h)]; simp [h]
    · rw [dif_neg h, List.getElem?_append_right (by simp; omega), List.length_map]
      by_cases e : i = pre.length
      · rw [if_pos e, e, Nat.sub_self]; rfl
      · rw [if_neg e]
        obtain ⟨m, hm⟩ : ∃ m, i - pre.length = m + 1 := ⟨i - pre.length - 1, by omega⟩
        rw [hm, List.getElem?_cons_succ, List.getElem?_map, show m + 1 - 1 = m by omega, List.getD_eq_getElem?_getD]
        have : m < post.length := by omega
        rw [List.getElem?_eq_getElem this]; rfl
  rw [get, get]
  by_cases h : i < pre.length
  · rw [dif_pos h, dif_pos h]; exact (h1 _ (List.getElem_mem h)).cv
  · rw [dif_neg h, dif_neg h]
    by_cases e : i = pre.length
    · rw [if_pos e, if_pos e]; exact hv
    · rw [if_neg e, if_neg e]
      have : i - pre.length - 1 < post.length := by omega
      refine (h2 _ ?_).cv
      show post.getD (i - pre.length - 1) .u ∈ post
      rw [List.getD_eq_getElem?_getD, List.getElem?_eq_getElem this]; exact List.getElem_mem this
theorem cvO_R3_as {pre post : List AVal} {v v' : AVal} {rows : List (List AVal)} {σ : Nat → Nat} {ok : Nat → Prop} {H : Heap} {fr : Nat → Prop} (e : rows = R3 pre v post) (h1 : ∀ c ∈ pre, Stays c) (h2 : ∀ c ∈ post, Stays c) (hv : Cv σ ok H fr v v') :
    CvO σ ok H fr (.row 1 rows false) (.row 1 (R3 pre v' post) false) := e ▸ cvO_R3 h1 h2 hv
theorem stays_nil {m : Nat} : ∀ c ∈ List.replicate m AVal.nilS, Stays c := fun c hc => .inr (List.eq_of_mem_replicate hc)
end Go.Proofs.Ythpcjekmgohelaa.Ab
