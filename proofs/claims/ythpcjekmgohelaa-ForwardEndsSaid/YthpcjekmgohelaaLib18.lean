/- FUNCTIONS, 20: sorting of prefixes, up to twelve. -/
import Derived.Test.YthpcjekmgohelaaLib17
import Derived.KernelRfl
set_option linter.unusedVariables false
set_option linter.unusedSimpArgs false
namespace Go.Proofs.Ythpcjekmgohelaa.Ab
open Go Go.Proofs
set_option linter.unusedVariables false
set_option linter.unusedSimpArgs false
variable {G : GI}

def lessP (a b : Pfx) : Bool := decide (cmpM a b < 0)
theorem callOk_cmp : callOk Try.prog fn_lower_Classes_1 = true := by kernel_rfl
abbrev ipE (n i : Nat) : Slots := [(8, .i .i64 (i : Nat)), (3, .fn fn_lower_Classes_1 []), (2, .i .i64 (n : Nat)), (1, .i .i64 0), (0, .row 0 n)]
abbrev ipF (n i j : Nat) : Slots := [(9, .i .i64 (j : Nat)), (8, .i .i64 (i : Nat)), (3, .fn fn_lower_Classes_1 []), (2, .i .i64 (n : Nat)), (1, .i .i64 0), (0, .row 0 n)]

theorem insertionSortP_evS (L : List Pfx) (hl : (L.length : Int) ≤ 1000000) : EvS Try.prog G fn_slices_insertionSortCmpFunc_Prefix [.row 0 L.length, .i .i64 0, .i .i64 (L.length : Nat), .fn fn_lower_Classes_1 []] [.row 2 (L.map Pfx.cells) false] (.tup []) [.row 2 ((isG lessP L L.length).map Pfx.cells) false] := by
  have cI : ∀ L : List Pfx, cleanLL (L.map Pfx.cells) = true := fun L => clean_rows (fun _ => rfl) _
  have lI : ∀ L : List Pfx, ∀ r ∈ L.map Pfx.cells, r.length = 2 := fun L => len_rows (f := Pfx.cells) (fun _ => rfl) _
  refine evS c_slices_insertionSortCmpFunc_Prefix rfl ?_
  (repeat' first | refine t_seq ?_ | refine t_reg ?_ | refine t_skip ?_ | refine t_scope ?_ | refine t_ret ?_ | refine t_exit ?_ | refine lit_t rfl ?_ | refine lit_f rfl ?_ | refine And.intro (And.intro rfl (Nat.le_of_ble_eq_true rfl)) ?_ | refine c_t rfl ?_ | refine c_f rfl ?_)
  refine t_block (t_loopM (fun n E H => ∃ i : Nat, 1 ≤ i ∧ (i ≤ L.length ∨ i = 1) ∧ n = L.length - i ∧ E = ipE L.length i ∧ H = [.row 2 ((isG lessP L i).map Pfx.cells) false]) _ (ipE L.length 1) [.row 2 ((isG lessP L 1).map Pfx.cells) false] ?_ ⟨1, Nat.le_refl 1, .inr rfl, rfl, rfl, rfl⟩ ?_)
  · refine moveL [0] rfl (by decide) ⟨.inr ⟨_, rfl, cvO_row_as rfl (cI _) (lI _)⟩, trivial⟩ ?_
    refine ⟨?_, ?_, ?_, ?_, ?_, trivial⟩ <;> (first | exact .cl _ rfl | exact .cl _ (by assumption) | exact cv_ptr (Nat.le_of_ble_eq_true rfl) rfl | exact .nilS | exact cv_own (Nat.le_of_ble_eq_true rfl) rfl | exact cv_row (Nat.le_of_ble_eq_true rfl) rfl | exact cv_mp (Nat.le_of_ble_eq_true rfl) rfl)
  rintro n E H ⟨i, hi1, hi2, rfl, rfl, rfl⟩
  (repeat' first | refine t_seq ?_ | refine t_reg ?_ | refine t_skip ?_ | refine t_scope ?_ | refine t_ret ?_ | refine t_exit ?_ | refine lit_t rfl ?_ | refine lit_f rfl ?_ | refine And.intro (And.intro rfl (Nat.le_of_ble_eq_true rfl)) ?_ | refine c_t rfl ?_ | refine c_f rfl ?_)
  refine c_d rfl (fun h => ?_) (fun h => ?_)
  · have hlt : i < L.length := by omega
    (repeat' first | refine t_seq ?_ | refine t_reg ?_ | refine t_skip ?_ | refine t_scope ?_ | refine t_ret ?_ | refine t_exit ?_ | refine lit_t rfl ?_ | refine lit_f rfl ?_ | refine And.intro (And.intro rfl (Nat.le_of_ble_eq_true rfl)) ?_ | refine c_t rfl ?_ | refine c_f rfl ?_)
    refine t_block ?_
    (repeat' first | refine t_seq ?_ | refine t_reg ?_ | refine t_skip ?_ | refine t_scope ?_ | refine t_ret ?_ | refine t_exit ?_ | refine lit_t rfl ?_ | refine lit_f rfl ?_ | refine And.intro (And.intro rfl (Nat.le_of_ble_eq_true rfl)) ?_ | refine c_t rfl ?_ | refine c_f rfl ?_)
    refine t_block (t_loopM (fun n E H => ∃ (j : Nat) (K : List Pfx), j ≤ i ∧ K.length = L.length ∧ insG lessP K j = isG lessP L (i + 1) ∧ n = j ∧ E = ipF L.length i j ∧ H = [.row 2 (K.map Pfx.cells) false]) _ (ipF L.length i i) [.row 2 ((isG lessP L i).map Pfx.cells) false] ?_ ⟨i, _, Nat.le_refl i, isG_len _ _ _, rfl, rfl, rfl, rfl⟩ ?_)
    · refine moveL [0] rfl (by decide) ⟨.inr ⟨_, rfl, cvO_row_as rfl (cI _) (lI _)⟩, trivial⟩ ?_
      refine ⟨?_, ?_, ?_, ?_, ?_, ?_, trivial⟩ <;> (first | exact .cl _ rfl | exact .cl _ (by assumption) | exact cv_ptr (Nat.le_of_ble_eq_true rfl) rfl | exact .nilS | exact cv_own (Nat.le_of_ble_eq_true rfl) rfl | exact cv_row (Nat.le_of_ble_eq_true rfl) rfl | exact cv_mp (Nat.le_of_ble_eq_true rfl) rfl)
    rintro n E H ⟨j, K, hji, hK, hins, rfl, rfl, rfl⟩
    have hwi : IntKind.i64.wrap ((i : Nat) + 1) = ((i + 1 : Nat) : Int) := by rw [w64 (by omega) (by omega)]; rfl
    have fin : insG lessP K n = K → K = isG lessP L (i + 1) := fun e => by rw [← hins, e]
    (repeat' first | refine t_seq ?_ | refine t_reg ?_ | refine t_skip ?_ | refine t_scope ?_ | refine t_ret ?_ | refine t_exit ?_ | refine lit_t rfl ?_ | refine lit_f rfl ?_ | refine And.intro (And.intro rfl (Nat.le_of_ble_eq_true rfl)) ?_ | refine c_t rfl ?_ | refine c_f rfl ?_)
    cases n with
    | zero =>
      (repeat' first | refine t_seq ?_ | refine t_reg ?_ | refine t_skip ?_ | refine t_scope ?_ | refine t_ret ?_ | refine t_exit ?_ | refine lit_t rfl ?_ | refine lit_f rfl ?_ | refine And.intro (And.intro rfl (Nat.le_of_ble_eq_true rfl)) ?_ | refine c_t rfl ?_ | refine c_f rfl ?_ | (refine sp_t (fun h => ?_) (fun h => ?_) <;> (try simp only [List.length_map] at h)) | (refine sp_f (fun h => ?_) (fun h => ?_) <;> (try simp only [List.length_map] at h)) | refine sq_t (fun h => ?_) (fun h => ?_) | refine sq_f (fun h => ?_) (fun h => ?_) | refine sb_t (fun h => ?_) (fun h => ?_) | refine sb_f (fun h => ?_) (fun h => ?_) | (refine c_nd rfl (fun h => ?_) (fun h => ?_) <;> (try simp only [List.length_map] at h)) | (refine c_d rfl (fun h => ?_) (fun h => ?_) <;> (try simp only [List.length_map] at h)) | refine c_nq rfl (fun h => ?_) (fun h => ?_) | refine c_q rfl (fun h => ?_) (fun h => ?_) | refine c_nb rfl (fun h => ?_) (fun h => ?_) | refine c_b rfl (fun h => ?_) (fun h => ?_) | refine And.intro (by omega) (Exists.intro _ (And.intro (row_atN (by omega)) (And.intro rfl ?_))) | refine And.intro rfl (Exists.intro _ (And.intro rfl ?_)) | refine Exists.intro _ (And.intro rfl ?_))
      refine ⟨L.length - (i + 1), ipE L.length (i + 1), [.row 2 ((isG lessP L (i + 1)).map Pfx.cells) false], by omega, moveL [0] rfl (by decide) ⟨.inr ⟨_, rfl, cvO_row_as (by rw [fin rfl]) (cI _) (lI _)⟩, trivial⟩ ?_, i + 1, by omega, .inl (by omega), rfl, rfl, rfl⟩
      refine ⟨?_, ?_, ?_, ?_, ?_, trivial⟩ <;> first | (first | exact .cl _ rfl | exact .cl _ (by assumption) | exact cv_ptr (Nat.le_of_ble_eq_true rfl) rfl | exact .nilS | exact cv_own (Nat.le_of_ble_eq_true rfl) rfl | exact cv_row (Nat.le_of_ble_eq_true rfl) rfl | exact cv_mp (Nat.le_of_ble_eq_true rfl) rfl) | exact cv_i hwi.symm
    | succ j =>
      have hw : IntKind.i64.wrap (((j + 1 : Nat) : Int) - 1) = (j : Int) := by rw [w64 (by omega) (by omega)]; omega
      have hj1 : j + 1 < K.length := by omega
      have hj0 : j < K.length := by omega
      have hat2 : ∀ X, ((K.map Pfx.cells).set (((j + 1 : Nat) : Int).toNat) X)[(IntKind.i64.wrap (((j + 1 : Nat) : Int) - 1)).toNat]? = some (Pfx.cells K[j]) := fun X => by
        rw [hw, Int.toNat_natCast, Int.toNat_natCast, List.getElem?_set_ne (by omega)]; exact row_atN hj0
      (repeat' first | refine t_seq ?_ | refine t_reg ?_ | refine t_skip ?_ | refine t_scope ?_ | refine t_ret ?_ | refine t_exit ?_ | refine lit_t rfl ?_ | refine lit_f rfl ?_ | refine And.intro (And.intro rfl (Nat.le_of_ble_eq_true rfl)) ?_ | refine c_t rfl ?_ | refine c_f rfl ?_ | (refine sp_t (fun h => ?_) (fun h => ?_) <;> (try simp only [List.length_map] at h)) | (refine sp_f (fun h => ?_) (fun h => ?_) <;> (try simp only [List.length_map] at h)) | refine sq_t (fun h => ?_) (fun h => ?_) | refine sq_f (fun h => ?_) (fun h => ?_) | refine sb_t (fun h => ?_) (fun h => ?_) | refine sb_f (fun h => ?_) (fun h => ?_) | (refine c_nd rfl (fun h => ?_) (fun h => ?_) <;> (try simp only [List.length_map] at h)) | (refine c_d rfl (fun h => ?_) (fun h => ?_) <;> (try simp only [List.length_map] at h)) | refine c_nq rfl (fun h => ?_) (fun h => ?_) | refine c_q rfl (fun h => ?_) (fun h => ?_) | refine c_nb rfl (fun h => ?_) (fun h => ?_) | refine c_b rfl (fun h => ?_) (fun h => ?_) | refine And.intro (by omega) (Exists.intro _ (And.intro (row_atN (by omega)) (And.intro rfl ?_))) | (first | refine t_block ?_ | refine And.intro rfl (Exists.intro _ (And.intro (row_at hj1) (Exists.intro _ (And.intro rfl ?_)))) | refine And.intro rfl (Exists.intro _ (And.intro (by rw [hw]; exact row_at hj0) (Exists.intro _ (And.intro rfl ?_)))) | refine And.intro (And.intro (by omega) (by omega)) ?_ | refine And.intro (And.intro (by rw [hw]; omega) (by rw [hw]; omega)) ?_ | refine And.intro callOk_cmp (call_clean (lower_cmp_ev _ _) rfl ?_) | refine And.intro (And.intro rfl (And.intro rfl (Nat.le_of_ble_eq_true rfl))) (Exists.intro _ (And.intro (row_at hj1) ?_)) | refine And.intro (And.intro rfl (And.intro rfl (Nat.le_of_ble_eq_true rfl))) (Exists.intro _ (And.intro (hat2 _) ?_))) | refine And.intro rfl (Exists.intro _ (And.intro rfl ?_)) | refine Exists.intro _ (And.intro rfl ?_))
      · refine ⟨j, ipF L.length i j, [.row 2 (((K.set (j + 1) K[j]).set j K[j + 1]).map Pfx.cells) false], by omega, moveL [0] rfl (by decide) ⟨.inr ⟨_, rfl, cvO_row_as (by rw [← swap_rows]; simp only [hw, Int.toNat_natCast]; rfl) (cI _) (lI _)⟩, trivial⟩ ?_, j, (K.set (j + 1) K[j]).set j K[j + 1], by omega, by simp [hK], ?_, rfl, rfl, rfl⟩
        · refine ⟨?_, ?_, ?_, ?_, ?_, ?_, trivial⟩ <;> first | (first | exact .cl _ rfl | exact .cl _ (by assumption) | exact cv_ptr (Nat.le_of_ble_eq_true rfl) rfl | exact .nilS | exact cv_own (Nat.le_of_ble_eq_true rfl) rfl | exact cv_row (Nat.le_of_ble_eq_true rfl) rfl | exact cv_mp (Nat.le_of_ble_eq_true rfl) rfl) | exact cv_i hw.symm
        · rw [← hins, insG_step hj1, if_pos (show lessP K[j + 1] K[j] = true from decide_eq_true h)]
      · have fin' := fin (by rw [insG_step hj1, if_neg (by simp only [lessP, decide_eq_true_eq]; exact h)])
        refine ⟨L.length - (i + 1), ipE L.length (i + 1), [.row 2 ((isG lessP L (i + 1)).map Pfx.cells) false], by omega, moveL [0] rfl (by decide) ⟨.inr ⟨_, rfl, cvO_row_as (by rw [fin']) (cI _) (lI _)⟩, trivial⟩ ?_, i + 1, by omega, .inl (by omega), rfl, rfl, rfl⟩
        refine ⟨?_, ?_, ?_, ?_, ?_, trivial⟩ <;> first | (first | exact .cl _ rfl | exact .cl _ (by assumption) | exact cv_ptr (Nat.le_of_ble_eq_true rfl) rfl | exact .nilS | exact cv_own (Nat.le_of_ble_eq_true rfl) rfl | exact cv_row (Nat.le_of_ble_eq_true rfl) rfl | exact cv_mp (Nat.le_of_ble_eq_true rfl) rfl) | exact cv_i hwi.symm
      · omega
  · (repeat' first | refine t_seq ?_ | refine t_reg ?_ | refine t_skip ?_ | refine t_scope ?_ | refine t_ret ?_ | refine t_exit ?_ | refine lit_t rfl ?_ | refine lit_f rfl ?_ | refine And.intro (And.intro rfl (Nat.le_of_ble_eq_true rfl)) ?_ | refine c_t rfl ?_ | refine c_f rfl ?_ | (refine sp_t (fun h => ?_) (fun h => ?_) <;> (try simp only [List.length_map] at h)) | (refine sp_f (fun h => ?_) (fun h => ?_) <;> (try simp only [List.length_map] at h)) | refine sq_t (fun h => ?_) (fun h => ?_) | refine sq_f (fun h => ?_) (fun h => ?_) | refine sb_t (fun h => ?_) (fun h => ?_) | refine sb_f (fun h => ?_) (fun h => ?_) | (refine c_nd rfl (fun h => ?_) (fun h => ?_) <;> (try simp only [List.length_map] at h)) | (refine c_d rfl (fun h => ?_) (fun h => ?_) <;> (try simp only [List.length_map] at h)) | refine c_nq rfl (fun h => ?_) (fun h => ?_) | refine c_q rfl (fun h => ?_) (fun h => ?_) | refine c_nb rfl (fun h => ?_) (fun h => ?_) | refine c_b rfl (fun h => ?_) (fun h => ?_) | refine And.intro (by omega) (Exists.intro _ (And.intro (row_atN (by omega)) (And.intro rfl ?_))) | refine And.intro rfl (Exists.intro _ (And.intro rfl ?_)) | refine Exists.intro _ (And.intro rfl ?_))
    refine And.intro rfl (congrArg (fun K : List Pfx => [AObj.row 2 (K.map Pfx.cells) false]) ?_)
    by_cases e : L.length = i
    · rw [e]
    · have h1 : i = 1 := by omega
      have h0 : L.length = 0 := by omega
      subst h1
      rw [h0]; rfl
theorem pdqsortP_evS (L : List Pfx) (hl : L.length ≤ 12) (k : Int) : EvS Try.prog G fn_slices_pdqsortCmpFunc_Prefix [.row 0 L.length, .i .i64 0, .i .i64 (L.length : Nat), .i .i64 k, .fn fn_lower_Classes_1 []] [.row 2 (L.map Pfx.cells) false] (.tup []) [.row 2 ((isG lessP L L.length).map Pfx.cells) false] := by
  refine evS c_slices_pdqsortCmpFunc_Prefix rfl ?_
  (repeat' first | refine t_seq ?_ | refine t_reg ?_ | refine t_skip ?_ | refine t_scope ?_ | refine t_ret ?_ | refine t_exit ?_ | refine lit_t rfl ?_ | refine lit_f rfl ?_ | refine And.intro (And.intro rfl (Nat.le_of_ble_eq_true rfl)) ?_ | refine c_t rfl ?_ | refine c_f rfl ?_)
  refine t_block (t_loopM (fun _ E' H' => E' = _ ∧ H' = _) 0 _ _ (Move.refl _ _ _) ⟨rfl, rfl⟩ ?_)
  rintro n E H ⟨rfl, rfl⟩
  refine t_block ?_
  have hw : IntKind.i64.wrap (((L.length : Nat) : Int) - 0) = ((L.length : Nat) : Int) := by rw [w64 (by omega) (by omega)]; omega
  (repeat' first | refine t_seq ?_ | refine t_reg ?_ | refine t_skip ?_ | refine t_scope ?_ | refine t_ret ?_ | refine t_exit ?_ | refine lit_t rfl ?_ | refine lit_f rfl ?_ | refine And.intro (And.intro rfl (Nat.le_of_ble_eq_true rfl)) ?_ | refine c_t rfl ?_ | refine c_f rfl ?_)
  refine c_d rfl (fun _ => ?_) (fun h => absurd (by rw [hw]; omega) h)
  (repeat' first | refine t_seq ?_ | refine t_reg ?_ | refine t_skip ?_ | refine t_scope ?_ | refine t_ret ?_ | refine t_exit ?_ | refine lit_t rfl ?_ | refine lit_f rfl ?_ | refine And.intro (And.intro rfl (Nat.le_of_ble_eq_true rfl)) ?_ | refine c_t rfl ?_ | refine c_f rfl ?_ | (refine sp_t (fun h => ?_) (fun h => ?_) <;> (try simp only [List.length_map] at h)) | (refine sp_f (fun h => ?_) (fun h => ?_) <;> (try simp only [List.length_map] at h)) | refine sq_t (fun h => ?_) (fun h => ?_) | refine sq_f (fun h => ?_) (fun h => ?_) | refine sb_t (fun h => ?_) (fun h => ?_) | refine sb_f (fun h => ?_) (fun h => ?_) | (refine c_nd rfl (fun h => ?_) (fun h => ?_) <;> (try simp only [List.length_map] at h)) | (refine c_d rfl (fun h => ?_) (fun h => ?_) <;> (try simp only [List.length_map] at h)) | refine c_nq rfl (fun h => ?_) (fun h => ?_) | refine c_q rfl (fun h => ?_) (fun h => ?_) | refine c_nb rfl (fun h => ?_) (fun h => ?_) | refine c_b rfl (fun h => ?_) (fun h => ?_) | refine And.intro (by omega) (Exists.intro _ (And.intro (row_atN (by omega)) (And.intro rfl ?_))) | (first | refine call_heap (insertionSortP_evS L (by omega)) ?_) | refine And.intro rfl (Exists.intro _ (And.intro rfl ?_)) | refine Exists.intro _ (And.intro rfl ?_))
  exact And.intro rfl rfl
theorem sortP_evS (L : List Pfx) (n : Nat) (hn : L.length = n) (hl : L.length ≤ 12) : EvS Try.prog G fn_slices_SortFunc_Prefix [.row 0 n, .fn fn_lower_Classes_1 []] [.row 2 (L.map Pfx.cells) false] (.tup []) [.row 2 ((isG lessP L L.length).map Pfx.cells) false] := by
  subst hn
  refine evS c_slices_SortFunc_Prefix rfl ?_
  have hw : IntKind.u64.wrap ((L.length : Nat) : Int) = ((L.length : Nat) : Int) := by
    unfold IntKind.wrap
    simp [IntKind.bits, IntKind.signed]
    omega
  (repeat' first | refine t_seq ?_ | refine t_reg ?_ | refine t_skip ?_ | refine t_scope ?_ | refine t_ret ?_ | refine t_exit ?_ | refine lit_t rfl ?_ | refine lit_f rfl ?_ | refine And.intro (And.intro rfl (Nat.le_of_ble_eq_true rfl)) ?_ | refine c_t rfl ?_ | refine c_f rfl ?_ | (refine sp_t (fun h => ?_) (fun h => ?_) <;> (try simp only [List.length_map] at h)) | (refine sp_f (fun h => ?_) (fun h => ?_) <;> (try simp only [List.length_map] at h)) | refine sq_t (fun h => ?_) (fun h => ?_) | refine sq_f (fun h => ?_) (fun h => ?_) | refine sb_t (fun h => ?_) (fun h => ?_) | refine sb_f (fun h => ?_) (fun h => ?_) | (refine c_nd rfl (fun h => ?_) (fun h => ?_) <;> (try simp only [List.length_map] at h)) | (refine c_d rfl (fun h => ?_) (fun h => ?_) <;> (try simp only [List.length_map] at h)) | refine c_nq rfl (fun h => ?_) (fun h => ?_) | refine c_q rfl (fun h => ?_) (fun h => ?_) | refine c_nb rfl (fun h => ?_) (fun h => ?_) | refine c_b rfl (fun h => ?_) (fun h => ?_) | refine And.intro (by omega) (Exists.intro _ (And.intro (row_atN (by omega)) (And.intro rfl ?_))) | (first | refine call_clean (r := .i .i64 (([0, 1, 2, 2, 3, 3, 3, 3, 4, 4, 4, 4, 4].getD L.length 0 : Nat) : Int)) (by show EvP _ _ _ [.i .u64 (IntKind.u64.wrap ((L.length : Nat) : Int))] _; rw [hw]; exact bitsLen_ev L.length hl) rfl ?_ | refine call_heap (pdqsortP_evS L hl _) ?_) | refine And.intro rfl (Exists.intro _ (And.intro rfl ?_)) | refine Exists.intro _ (And.intro rfl ?_))
  exact And.intro rfl rfl
theorem sortP_nil_ev : EvP Try.prog G fn_slices_SortFunc_Prefix [.sl [], .fn fn_lower_Classes_1 []] (.tup []) := by
  have h1 : EvP Try.prog G fn_slices_insertionSortCmpFunc_Prefix [.sl [], .i .i64 0, .i .i64 0, .fn fn_lower_Classes_1 []] (.tup []) := by
    refine evP c_slices_insertionSortCmpFunc_Prefix rfl ?_
    (repeat' first | refine t_seq ?_ | refine t_reg ?_ | refine t_skip ?_ | refine t_scope ?_ | refine t_ret ?_ | refine t_exit ?_ | refine lit_t rfl ?_ | refine lit_f rfl ?_ | refine And.intro (And.intro rfl (Nat.le_of_ble_eq_true rfl)) ?_ | refine c_t rfl ?_ | refine c_f rfl ?_)
    refine t_block (t_loopM (fun _ E' H' => E' = _ ∧ H' = _) 0 _ _ (Move.refl _ _ _) ⟨rfl, rfl⟩ ?_)
    rintro n E H ⟨rfl, rfl⟩
    (repeat' first | refine t_seq ?_ | refine t_reg ?_ | refine t_skip ?_ | refine t_scope ?_ | refine t_ret ?_ | refine t_exit ?_ | refine lit_t rfl ?_ | refine lit_f rfl ?_ | refine And.intro (And.intro rfl (Nat.le_of_ble_eq_true rfl)) ?_ | refine c_t rfl ?_ | refine c_f rfl ?_ | (refine sp_t (fun h => ?_) (fun h => ?_) <;> (try simp only [List.length_map] at h)) | (refine sp_f (fun h => ?_) (fun h => ?_) <;> (try simp only [List.length_map] at h)) | refine sq_t (fun h => ?_) (fun h => ?_) | refine sq_f (fun h => ?_) (fun h => ?_) | refine sb_t (fun h => ?_) (fun h => ?_) | refine sb_f (fun h => ?_) (fun h => ?_) | (refine c_nd rfl (fun h => ?_) (fun h => ?_) <;> (try simp only [List.length_map] at h)) | (refine c_d rfl (fun h => ?_) (fun h => ?_) <;> (try simp only [List.length_map] at h)) | refine c_nq rfl (fun h => ?_) (fun h => ?_) | refine c_q rfl (fun h => ?_) (fun h => ?_) | refine c_nb rfl (fun h => ?_) (fun h => ?_) | refine c_b rfl (fun h => ?_) (fun h => ?_) | refine And.intro (by omega) (Exists.intro _ (And.intro (row_atN (by omega)) (And.intro rfl ?_))) | refine And.intro rfl (Exists.intro _ (And.intro rfl ?_)) | refine Exists.intro _ (And.intro rfl ?_))
    rfl
  have h2 : ∀ k, EvP Try.prog G fn_slices_pdqsortCmpFunc_Prefix [.sl [], .i .i64 0, .i .i64 0, .i .i64 k, .fn fn_lower_Classes_1 []] (.tup []) := by
    intro k
    refine evP c_slices_pdqsortCmpFunc_Prefix rfl ?_
    (repeat' first | refine t_seq ?_ | refine t_reg ?_ | refine t_skip ?_ | refine t_scope ?_ | refine t_ret ?_ | refine t_exit ?_ | refine lit_t rfl ?_ | refine lit_f rfl ?_ | refine And.intro (And.intro rfl (Nat.le_of_ble_eq_true rfl)) ?_ | refine c_t rfl ?_ | refine c_f rfl ?_)
    refine t_block (t_loopM (fun _ E' H' => E' = _ ∧ H' = _) 0 _ _ (Move.refl _ _ _) ⟨rfl, rfl⟩ ?_)
    rintro n E H ⟨rfl, rfl⟩
    refine t_block ?_
    (repeat' first | refine t_seq ?_ | refine t_reg ?_ | refine t_skip ?_ | refine t_scope ?_ | refine t_ret ?_ | refine t_exit ?_ | refine lit_t rfl ?_ | refine lit_f rfl ?_ | refine And.intro (And.intro rfl (Nat.le_of_ble_eq_true rfl)) ?_ | refine c_t rfl ?_ | refine c_f rfl ?_ | (refine sp_t (fun h => ?_) (fun h => ?_) <;> (try simp only [List.length_map] at h)) | (refine sp_f (fun h => ?_) (fun h => ?_) <;> (try simp only [List.length_map] at h)) | refine sq_t (fun h => ?_) (fun h => ?_) | refine sq_f (fun h => ?_) (fun h => ?_) | refine sb_t (fun h => ?_) (fun h => ?_) | refine sb_f (fun h => ?_) (fun h => ?_) | (refine c_nd rfl (fun h => ?_) (fun h => ?_) <;> (try simp only [List.length_map] at h)) | (refine c_d rfl (fun h => ?_) (fun h => ?_) <;> (try simp only [List.length_map] at h)) | refine c_nq rfl (fun h => ?_) (fun h => ?_) | refine c_q rfl (fun h => ?_) (fun h => ?_) | refine c_nb rfl (fun h => ?_) (fun h => ?_) | refine c_b rfl (fun h => ?_) (fun h => ?_) | refine And.intro (by omega) (Exists.intro _ (And.intro (row_atN (by omega)) (And.intro rfl ?_))) | (first | refine call_clean h1 rfl ?_) | refine And.intro rfl (Exists.intro _ (And.intro rfl ?_)) | refine Exists.intro _ (And.intro rfl ?_))
    rfl
  refine evP c_slices_SortFunc_Prefix rfl ?_
  (repeat' first | refine t_seq ?_ | refine t_reg ?_ | refine t_skip ?_ | refine t_scope ?_ | refine t_ret ?_ | refine t_exit ?_ | refine lit_t rfl ?_ | refine lit_f rfl ?_ | refine And.intro (And.intro rfl (Nat.le_of_ble_eq_true rfl)) ?_ | refine c_t rfl ?_ | refine c_f rfl ?_ | (refine sp_t (fun h => ?_) (fun h => ?_) <;> (try simp only [List.length_map] at h)) | (refine sp_f (fun h => ?_) (fun h => ?_) <;> (try simp only [List.length_map] at h)) | refine sq_t (fun h => ?_) (fun h => ?_) | refine sq_f (fun h => ?_) (fun h => ?_) | refine sb_t (fun h => ?_) (fun h => ?_) | refine sb_f (fun h => ?_) (fun h => ?_) | (refine c_nd rfl (fun h => ?_) (fun h => ?_) <;> (try simp only [List.length_map] at h)) | (refine c_d rfl (fun h => ?_) (fun h => ?_) <;> (try simp only [List.length_map] at h)) | refine c_nq rfl (fun h => ?_) (fun h => ?_) | refine c_q rfl (fun h => ?_) (fun h => ?_) | refine c_nb rfl (fun h => ?_) (fun h => ?_) | refine c_b rfl (fun h => ?_) (fun h => ?_) | refine And.intro (by omega) (Exists.intro _ (And.intro (row_atN (by omega)) (And.intro rfl ?_))) | (first | refine call_clean (bitsLen_ev 0 (by decide)) rfl ?_ | refine call_clean (h2 _) rfl ?_) | refine And.intro rfl (Exists.intro _ (And.intro rfl ?_)) | refine Exists.intro _ (And.intro rfl ?_))
  rfl
end Go.Proofs.Ythpcjekmgohelaa.Ab

/- FUNCTIONS, 21: lower.Classes. -/
namespace Go.Proofs.Ythpcjekmgohelaa.Ab
open Go Go.Proofs
set_option linter.unusedVariables false
set_option linter.unusedSimpArgs false
variable {G : GI}

def addP (acc : List Pfx) (p : Pfx) : List Pfx := bif acc.any (pfxEq p) then acc else acc ++ [p]
/- 'slices.Contains(out, p)' asks 'p == out[i]'. -/
def collectR (acc : List Pfx) (r : Rou) : List Pfx := r.nets.foldl addP acc
def collectM (rs : List Rou) : List Pfx := rs.foldl collectR []
def classesM (c : Conf) : List Pfx := isG lessP (collectM c.routers) (collectM c.routers).length
theorem addP_len (acc : List Pfx) (p : Pfx) : (addP acc p).length ≤ acc.length + 1 := by
  unfold addP; cases acc.any (pfxEq p) <;> simp
theorem foldP_len : ∀ (ns : List Pfx) (acc : List Pfx), (ns.foldl addP acc).length ≤ acc.length + ns.length
  | [], acc => by simp
  | n :: ns, acc => by
    have := foldP_len ns (addP acc n)
    have := addP_len acc n
    simp only [List.foldl_cons, List.length_cons]; omega
theorem collect_len : ∀ (rs : List Rou) (acc : List Pfx), (∀ r ∈ rs, r.nets.length ≤ 1000) → (rs.foldl collectR acc).length ≤ acc.length + 1000 * rs.length
  | [], acc, h => by simp
  | r :: rs, acc, h => by
    have := collect_len rs (collectR acc r) fun q hq => h q (.tail _ hq)
    have h1 := foldP_len r.nets acc
    have h2 := h r (.head _)
    simp only [List.foldl_cons, List.length_cons]
    unfold collectR at *; omega

abbrev clE (rs : List Rou) (acc : List Pfx) (i : Nat) : Slots := [(11, .i .i64 (i : Nat)), (10, .i .i64 ((rs.map Rou.cells).length : Nat)), (9, .sl (rs.map Rou.cells)), (3, own (acc.map Pfx.cells) 0)]
abbrev clF (rs : List Rou) (ns : List Pfx) (acc : List Pfx) (i j : Nat) : Slots := [(18, .i .i64 (j : Nat)), (17, .i .i64 ((ns.map Pfx.cells).length : Nat)), (16, .sl (ns.map Pfx.cells)), (11, .i .i64 (i : Nat)), (10, .i .i64 ((rs.map Rou.cells).length : Nat)), (9, .sl (rs.map Rou.cells)), (3, own (acc.map Pfx.cells) 0)]

theorem lower_Classes_ev (c : Conf) (hc : c.small) (hfew : (collectM c.routers).length ≤ 12) : EvP Try.prog G fn_lower_Classes [c.av] (.sl ((classesM c).map Pfx.cells)) := by
  have cR := clean_sl Rou.clean c.routers
  have cP : ∀ L : List Pfx, cleanLL (L.map Pfx.cells) = true := fun L => clean_rows Pfx.clean _
  have lP : ∀ L : List Pfx, ∀ r ∈ L.map Pfx.cells, r.length = 2 := fun L => len_rows (f := Pfx.cells) (fun _ => rfl) _
  have hrs := hc.routers
  refine evP c_lower_Classes rfl ?_
  (repeat' first | refine t_seq ?_ | refine t_reg ?_ | refine t_skip ?_ | refine t_scope ?_ | refine t_ret ?_ | refine t_exit ?_ | refine lit_t rfl ?_ | refine lit_f rfl ?_ | refine And.intro (And.intro rfl (Nat.le_of_ble_eq_true rfl)) ?_ | refine c_t rfl ?_ | refine c_f rfl ?_)
  refine t_range (c.routers.map Rou.cells).length (by simp; omega) (fun i E H => i ≤ (c.routers.map Rou.cells).length ∧ E = clE c.routers (collectM (c.routers.take i)) i ∧ H = [ownO 2 ((collectM (c.routers.take i)).map Pfx.cells)]) (clE c.routers [] 0) [ownO 2 []] ?_ ⟨Nat.zero_le _, rfl, rfl⟩ ?_ ?_ ?_
  · refine moveL [9] rfl (by decide) ⟨.inl rfl, trivial⟩ ?_
    refine ⟨?_, ?_, ?_, ?_, trivial⟩ <;> (first | exact .cl _ rfl | exact .cl _ (by assumption) | exact cv_ptr (Nat.le_of_ble_eq_true rfl) rfl | exact .nilS | exact cv_own (Nat.le_of_ble_eq_true rfl) rfl | exact cv_row (Nat.le_of_ble_eq_true rfl) rfl | exact cv_mp (Nat.le_of_ble_eq_true rfl) rfl)
  · rintro i E H ⟨hi, rfl, rfl⟩; exact ⟨hi, rfl, rfl⟩
  · rintro i E H hlt ⟨hi, rfl, rfl⟩
    have hlt' : i < c.routers.length := by simpa using hlt
    have hstep : collectM (c.routers.take (i + 1)) = collectR (collectM (c.routers.take i)) c.routers[i] := by
      unfold collectM; rw [List.take_succ_eq_append_getElem hlt', List.foldl_append]; rfl
    have hal : (collectM (c.routers.take i)).length ≤ 1000000 := by
      have := collect_len (c.routers.take i) [] fun r hr => (hc.rou r (List.mem_of_mem_take hr)).nets
      unfold collectM
      simp only [List.length_take, List.length_nil] at this
      omega
    have hsm := hc.rou _ (List.getElem_mem hlt')
    generalize collectM (c.routers.take i) = acc at hstep hal ⊢
    (repeat' first | refine t_seq ?_ | refine t_reg ?_ | refine t_skip ?_ | refine t_scope ?_ | refine t_ret ?_ | refine t_exit ?_ | refine lit_t rfl ?_ | refine lit_f rfl ?_ | refine And.intro (And.intro rfl (Nat.le_of_ble_eq_true rfl)) ?_ | refine c_t rfl ?_ | refine c_f rfl ?_)
    refine And.intro (Int.natCast_nonneg i) (Exists.intro _ (And.intro (row_at hlt') (And.intro rfl ?_)))
    generalize c.routers[i] = r at hstep hsm ⊢
    have hns := hsm.nets
    have cN := clean_sl Pfx.clean r.nets
    (repeat' first | refine t_seq ?_ | refine t_reg ?_ | refine t_skip ?_ | refine t_scope ?_ | refine t_ret ?_ | refine t_exit ?_ | refine lit_t rfl ?_ | refine lit_f rfl ?_ | refine And.intro (And.intro rfl (Nat.le_of_ble_eq_true rfl)) ?_ | refine c_t rfl ?_ | refine c_f rfl ?_)
    refine Exists.intro _ (And.intro rfl ?_)
    (repeat' first | refine t_seq ?_ | refine t_reg ?_ | refine t_skip ?_ | refine t_scope ?_ | refine t_ret ?_ | refine t_exit ?_ | refine lit_t rfl ?_ | refine lit_f rfl ?_ | refine And.intro (And.intro rfl (Nat.le_of_ble_eq_true rfl)) ?_ | refine c_t rfl ?_ | refine c_f rfl ?_)
    refine t_range (r.nets.map Pfx.cells).length (by simp; omega) (fun j E H => j ≤ (r.nets.map Pfx.cells).length ∧ E = clF c.routers r.nets ((r.nets.take j).foldl addP acc) i j ∧ H = [ownO 2 (((r.nets.take j).foldl addP acc).map Pfx.cells)]) (clF c.routers r.nets acc i 0) [ownO 2 (acc.map Pfx.cells)] ?_ ⟨Nat.zero_le _, rfl, rfl⟩ ?_ ?_ ?_
    · refine moveL [0] rfl (by decide) ⟨.inr ⟨_, rfl, cvO_own (cP _) (lP _)⟩, trivial⟩ ?_
      refine ⟨?_, ?_, ?_, ?_, ?_, ?_, ?_, trivial⟩ <;> (first | exact .cl _ rfl | exact .cl _ (by assumption) | exact cv_ptr (Nat.le_of_ble_eq_true rfl) rfl | exact .nilS | exact cv_own (Nat.le_of_ble_eq_true rfl) rfl | exact cv_row (Nat.le_of_ble_eq_true rfl) rfl | exact cv_mp (Nat.le_of_ble_eq_true rfl) rfl)
    · rintro j E H ⟨hj, rfl, rfl⟩; exact ⟨hj, rfl, rfl⟩
    · rintro j E H hltj ⟨hj, rfl, rfl⟩
      have hltj' : j < r.nets.length := by simpa using hltj
      have hnext : (r.nets.take (j + 1)).foldl addP acc = addP ((r.nets.take j).foldl addP acc) r.nets[j] := by rw [List.take_succ_eq_append_getElem hltj', List.foldl_append]; rfl
      have hbl : ((r.nets.take j).foldl addP acc).length ≤ 1001000 := by
        have := foldP_len (r.nets.take j) acc
        simp only [List.length_take] at this
        omega
      generalize (r.nets.take j).foldl addP acc = ac2 at hnext hbl ⊢
      have c5 : (ac2.map Pfx.cells).length = ac2.length := by simp
      have hfz : ∀ (p : Pfx) (o : AObj), frzAll [ownO 2 (ac2.map Pfx.cells), o] [own (ac2.map Pfx.cells) 0, p.av] = some [.sl (ac2.map Pfx.cells), p.av] := by
        intro p o
        simp only [frzAll, frz_own (H := [ownO 2 (ac2.map Pfx.cells), o]) (esz := 2) (id := 0) rfl (cP ac2), frz_clean (v := p.av) rfl]
      (repeat' first | refine t_seq ?_ | refine t_reg ?_ | refine t_skip ?_ | refine t_scope ?_ | refine t_ret ?_ | refine t_exit ?_ | refine lit_t rfl ?_ | refine lit_f rfl ?_ | refine And.intro (And.intro rfl (Nat.le_of_ble_eq_true rfl)) ?_ | refine c_t rfl ?_ | refine c_f rfl ?_ | (first | refine And.intro (Int.natCast_nonneg j) (Exists.intro _ (And.intro (row_at hltj') (And.intro rfl ?_))) | refine mv_as (v := own (ac2.map Pfx.cells) 0) rfl ?_ | refine call_flat (slices_Contains_ev ac2 r.nets[j] (by omega)) (hfz _ _) (by simp [flat]) ?_ | (refine Exists.intro [_] (And.intro rfl (And.intro (all_one rfl) (app_one (ac2.map Pfx.cells) 0 rfl rfl (c5) ?_ ?_))); omega)) | (refine sp_t (fun h => ?_) (fun h => ?_) <;> (try simp only [List.length_map] at h)) | (refine sp_f (fun h => ?_) (fun h => ?_) <;> (try simp only [List.length_map] at h)) | refine sq_t (fun h => ?_) (fun h => ?_) | refine sq_f (fun h => ?_) (fun h => ?_) | refine sb_t (fun h => ?_) (fun h => ?_) | refine sb_f (fun h => ?_) (fun h => ?_) | (refine c_nd rfl (fun h => ?_) (fun h => ?_) <;> (try simp only [List.length_map] at h)) | (refine c_d rfl (fun h => ?_) (fun h => ?_) <;> (try simp only [List.length_map] at h)) | refine c_nq rfl (fun h => ?_) (fun h => ?_) | refine c_q rfl (fun h => ?_) (fun h => ?_) | refine c_nb rfl (fun h => ?_) (fun h => ?_) | refine c_b rfl (fun h => ?_) (fun h => ?_) | refine And.intro rfl (Exists.intro _ (And.intro rfl ?_)) | refine Exists.intro _ (And.intro rfl ?_))
      · have hno : addP ac2 r.nets[j] = ac2 ++ [r.nets[j]] := by unfold addP; rw [h]; rfl
        rw [hno] at hnext
        refine And.intro rfl ⟨clF c.routers r.nets ((r.nets.take (j + 1)).foldl addP acc) i (j + 1), [ownO 2 (((r.nets.take (j + 1)).foldl addP acc).map Pfx.cells)], moveL [2] rfl (by decide) ⟨.inr ⟨_, rfl, cvO_own_as (by rw [hnext, List.map_append]; rfl) (cP _) (lP _)⟩, trivial⟩ ?_, hltj, rfl, rfl⟩
        refine ⟨?_, ?_, ?_, ?_, ?_, ?_, ?_, trivial⟩ <;> first | (first | exact .cl _ rfl | exact .cl _ (by assumption) | exact cv_ptr (Nat.le_of_ble_eq_true rfl) rfl | exact .nilS | exact cv_own (Nat.le_of_ble_eq_true rfl) rfl | exact cv_row (Nat.le_of_ble_eq_true rfl) rfl | exact cv_mp (Nat.le_of_ble_eq_true rfl) rfl) | exact cv_own_new (Nat.le_of_ble_eq_true rfl) (by rw [hnext]; simp) (by rw [hnext]; simp) rfl
      · have hno : addP ac2 r.nets[j] = ac2 := by unfold addP; rw [h]; rfl
        rw [hno] at hnext
        refine And.intro rfl ⟨clF c.routers r.nets ((r.nets.take (j + 1)).foldl addP acc) i (j + 1), [ownO 2 (((r.nets.take (j + 1)).foldl addP acc).map Pfx.cells)], ?_, hltj, rfl, rfl⟩
        rw [hnext]
        refine moveL [0] rfl (by decide) ⟨.inr ⟨_, rfl, cvO_own (cP _) (lP _)⟩, trivial⟩ ?_
        refine ⟨?_, ?_, ?_, ?_, ?_, ?_, ?_, trivial⟩ <;> (first | exact .cl _ rfl | exact .cl _ (by assumption) | exact cv_ptr (Nat.le_of_ble_eq_true rfl) rfl | exact .nilS | exact cv_own (Nat.le_of_ble_eq_true rfl) rfl | exact cv_row (Nat.le_of_ble_eq_true rfl) rfl | exact cv_mp (Nat.le_of_ble_eq_true rfl) rfl)
    · rintro E H ⟨hj, rfl, rfl⟩
      have he : (r.nets.take (r.nets.map Pfx.cells).length).foldl addP acc = collectR acc r := by rw [List.length_map, List.take_length]; rfl
      rw [he, ← hstep]
      refine And.intro rfl ⟨clE c.routers (collectM (c.routers.take (i + 1))) (i + 1), [ownO 2 ((collectM (c.routers.take (i + 1))).map Pfx.cells)], moveL [0] rfl (by decide) ⟨.inr ⟨_, rfl, cvO_own (cP _) (lP _)⟩, trivial⟩ ?_, hlt, rfl, rfl⟩
      refine ⟨?_, ?_, ?_, ?_, trivial⟩ <;> (first | exact .cl _ rfl | exact .cl _ (by assumption) | exact cv_ptr (Nat.le_of_ble_eq_true rfl) rfl | exact .nilS | exact cv_own (Nat.le_of_ble_eq_true rfl) rfl | exact cv_row (Nat.le_of_ble_eq_true rfl) rfl | exact cv_mp (Nat.le_of_ble_eq_true rfl) rfl)
  · rintro E H ⟨hi, rfl, rfl⟩
    rw [show (c.routers.map Rou.cells).length = c.routers.length by simp, List.take_length]
    unfold classesM
    have hs := sortP_evS (G := G) (collectM c.routers) ((collectM c.routers).map Pfx.cells).length (by simp) hfew
    generalize collectM c.routers = R at hs hfew ⊢
    cases R with
    | nil =>
      (repeat' first | refine t_seq ?_ | refine t_reg ?_ | refine t_skip ?_ | refine t_scope ?_ | refine t_ret ?_ | refine t_exit ?_ | refine lit_t rfl ?_ | refine lit_f rfl ?_ | refine And.intro (And.intro rfl (Nat.le_of_ble_eq_true rfl)) ?_ | refine c_t rfl ?_ | refine c_f rfl ?_ | (first | refine call_flat sortP_nil_ev rfl flat_unit ?_) | (refine sp_t (fun h => ?_) (fun h => ?_) <;> (try simp only [List.length_map] at h)) | (refine sp_f (fun h => ?_) (fun h => ?_) <;> (try simp only [List.length_map] at h)) | refine sq_t (fun h => ?_) (fun h => ?_) | refine sq_f (fun h => ?_) (fun h => ?_) | refine sb_t (fun h => ?_) (fun h => ?_) | refine sb_f (fun h => ?_) (fun h => ?_) | (refine c_nd rfl (fun h => ?_) (fun h => ?_) <;> (try simp only [List.length_map] at h)) | (refine c_d rfl (fun h => ?_) (fun h => ?_) <;> (try simp only [List.length_map] at h)) | refine c_nq rfl (fun h => ?_) (fun h => ?_) | refine c_q rfl (fun h => ?_) (fun h => ?_) | refine c_nb rfl (fun h => ?_) (fun h => ?_) | refine c_b rfl (fun h => ?_) (fun h => ?_) | refine And.intro rfl (Exists.intro _ (And.intro rfl ?_)) | refine Exists.intro _ (And.intro rfl ?_))
      rfl
    | cons x xs =>
      (repeat' first | refine t_seq ?_ | refine t_reg ?_ | refine t_skip ?_ | refine t_scope ?_ | refine t_ret ?_ | refine t_exit ?_ | refine lit_t rfl ?_ | refine lit_f rfl ?_ | refine And.intro (And.intro rfl (Nat.le_of_ble_eq_true rfl)) ?_ | refine c_t rfl ?_ | refine c_f rfl ?_ | (first | refine call_heap (EvS.one 0 hs rfl rfl (fun j hj => ?_) (cP _) (lP _) (cP _) (lP _) rfl) ?_) | (refine sp_t (fun h => ?_) (fun h => ?_) <;> (try simp only [List.length_map] at h)) | (refine sp_f (fun h => ?_) (fun h => ?_) <;> (try simp only [List.length_map] at h)) | refine sq_t (fun h => ?_) (fun h => ?_) | refine sq_f (fun h => ?_) (fun h => ?_) | refine sb_t (fun h => ?_) (fun h => ?_) | refine sb_f (fun h => ?_) (fun h => ?_) | (refine c_nd rfl (fun h => ?_) (fun h => ?_) <;> (try simp only [List.length_map] at h)) | (refine c_d rfl (fun h => ?_) (fun h => ?_) <;> (try simp only [List.length_map] at h)) | refine c_nq rfl (fun h => ?_) (fun h => ?_) | refine c_q rfl (fun h => ?_) (fun h => ?_) | refine c_nb rfl (fun h => ?_) (fun h => ?_) | refine c_b rfl (fun h => ?_) (fun h => ?_) | refine And.intro rfl (Exists.intro _ (And.intro rfl ?_)) | refine Exists.intro _ (And.intro rfl ?_))
      · match j, hj with
        | 0, _ => exact .inr ⟨_, rfl, rfl⟩
        | 1, _ => exact .inl ⟨rfl, rfl⟩
      · exact frz_row rfl rfl (by rw [List.length_map, isG_len]; simp) (cP _)
end Go.Proofs.Ythpcjekmgohelaa.Ab

/- FUNCTIONS, 22: clause.For, lower.clauses, check.Peer. -/
namespace Go.Proofs.Ythpcjekmgohelaa.Ab
open Go Go.Proofs
set_option linter.unusedVariables false
set_option linter.unusedSimpArgs false
variable {G : GI}

def Cla.bare (c : Cla) : Cla := { c with any := true, pfx := Pfx.zero }
def Cla.off (c : Cla) (to : Pfx) : Bool := bif !c.any then !covers c.pfx to else false
def Cla.lets (c : Cla) : Bool := bif c.with_ == 0 then c.out == 0 else false
def forM (to : Pfx) : List Cla → List Cla
  | [] => []
  | c :: cs => bif c.off to then forM to cs else bif c.lets then [c.bare] else c.bare :: forM to cs
theorem forM_len (to : Pfx) : ∀ cs, (forM to cs).length ≤ cs.length
  | [] => by simp [forM]
  | c :: cs => by
    have := forM_len to cs
    unfold forM
    cases c.off to <;> cases c.lets <;> simp <;> omega
abbrev foE (cs acc : List Cla) (i : Nat) : Slots := [(10, .i .i64 (i : Nat)), (9, .i .i64 ((cs.map Cla.cells).length : Nat)), (8, .sl (cs.map Cla.cells)), (5, own (acc.map Cla.cells) 1), (3, .ptr 0 0)]
abbrev foH (to : Pfx) (acc : List Cla) : Heap := [.box to.cells, ownO 10 (acc.map Cla.cells)]

theorem clause_For_ev (cs : List Cla) (to : Pfx) (hl : cs.length ≤ 1000000) : EvP Try.prog G fn_clause_For [.sl (cs.map Cla.cells), to.av] (.sl ((forM to cs).map Cla.cells)) := by
  have c1 := clean_sl Cla.clean cs
  have cP : ∀ L : List Cla, cleanLL (L.map Cla.cells) = true := fun L => clean_rows Cla.clean _
  have lP : ∀ L : List Cla, ∀ r ∈ L.map Cla.cells, r.length = 10 := fun L => len_rows (f := Cla.cells) (fun _ => rfl) _
  refine evP c_clause_For rfl ?_
  (repeat' first | refine t_seq ?_ | refine t_reg ?_ | refine t_skip ?_ | refine t_scope ?_ | refine t_ret ?_ | refine t_exit ?_ | refine lit_t rfl ?_ | refine lit_f rfl ?_ | refine And.intro (And.intro rfl (Nat.le_of_ble_eq_true rfl)) ?_ | refine c_t rfl ?_ | refine c_f rfl ?_)
  refine t_range (cs.map Cla.cells).length (by simp; omega) (fun i E H => i ≤ (cs.map Cla.cells).length ∧ ∃ acc, acc ++ forM to (cs.drop i) = forM to cs ∧ acc.length ≤ i ∧ E = foE cs acc i ∧ H = foH to acc) (foE cs [] 0) (foH to []) ?_ ⟨Nat.zero_le _, [], rfl, Nat.le_refl _, rfl, rfl⟩ ?_ ?_ ?_
  · refine moveL [0, 9] rfl (by decide) ⟨.inr ⟨_, rfl, cvO_box to.clean⟩, .inl rfl, trivial⟩ ?_
    refine ⟨?_, ?_, ?_, ?_, ?_, trivial⟩ <;> (first | exact .cl _ rfl | exact .cl _ (by assumption) | exact cv_ptr (Nat.le_of_ble_eq_true rfl) rfl | exact .nilS | exact cv_own (Nat.le_of_ble_eq_true rfl) rfl | exact cv_row (Nat.le_of_ble_eq_true rfl) rfl | exact cv_mp (Nat.le_of_ble_eq_true rfl) rfl)
  · rintro i E H ⟨hi, acc, _, _, rfl, rfl⟩; exact ⟨hi, rfl, rfl⟩
  · rintro i E H hlt ⟨hi, acc, hacc, hal, rfl, rfl⟩
    have hlt' : i < cs.length := by simpa using hlt
    rw [List.drop_eq_getElem_cons hlt'] at hacc
    have c5 : (acc.map Cla.cells).length = acc.length := by simp
    (repeat' first | refine t_seq ?_ | refine t_reg ?_ | refine t_skip ?_ | refine t_scope ?_ | refine t_ret ?_ | refine t_exit ?_ | refine lit_t rfl ?_ | refine lit_f rfl ?_ | refine And.intro (And.intro rfl (Nat.le_of_ble_eq_true rfl)) ?_ | refine c_t rfl ?_ | refine c_f rfl ?_)
    refine And.intro (Int.natCast_nonneg i) (Exists.intro _ (And.intro (row_at hlt') (And.intro rfl ?_)))
    generalize cs[i] = c at hacc ⊢
    (repeat' first | refine t_seq ?_ | refine t_reg ?_ | refine t_skip ?_ | refine t_scope ?_ | refine t_ret ?_ | refine t_exit ?_ | refine lit_t rfl ?_ | refine lit_f rfl ?_ | refine And.intro (And.intro rfl (Nat.le_of_ble_eq_true rfl)) ?_ | refine c_t rfl ?_ | refine c_f rfl ?_ | (first | refine call_clean (prefix_Covers_ev c.pfx to) rfl ?_ | refine mv_as (v := own (acc.map Cla.cells) 1) rfl ?_ | (refine Exists.intro [_] (And.intro rfl (And.intro (all_one rfl) (app_one (acc.map Cla.cells) 1 rfl rfl (c5) ?_ ?_))); omega) | refine c_b (b := c.lets) rfl (fun h => ?_) (fun h => ?_)) | (refine sp_t (fun h => ?_) (fun h => ?_) <;> (try simp only [List.length_map] at h)) | (refine sp_f (fun h => ?_) (fun h => ?_) <;> (try simp only [List.length_map] at h)) | refine sq_t (fun h => ?_) (fun h => ?_) | refine sq_f (fun h => ?_) (fun h => ?_) | refine sb_t (fun h => ?_) (fun h => ?_) | refine sb_f (fun h => ?_) (fun h => ?_) | (refine c_nd rfl (fun h => ?_) (fun h => ?_) <;> (try simp only [List.length_map] at h)) | (refine c_d rfl (fun h => ?_) (fun h => ?_) <;> (try simp only [List.length_map] at h)) | refine c_nq rfl (fun h => ?_) (fun h => ?_) | refine c_q rfl (fun h => ?_) (fun h => ?_) | refine c_nb rfl (fun h => ?_) (fun h => ?_) | refine c_b rfl (fun h => ?_) (fun h => ?_) | refine And.intro rfl (Exists.intro _ (And.intro rfl ?_)) | refine Exists.intro _ (And.intro rfl ?_))
    · refine And.intro rfl ⟨foE cs acc (i + 1), foH to acc, moveL [0, 1] rfl (by decide) ⟨.inr ⟨_, rfl, cvO_box to.clean⟩, .inr ⟨_, rfl, cvO_own (cP _) (lP _)⟩, trivial⟩ ?_, hlt, acc, ?_, by omega, rfl, rfl⟩
      · refine ⟨?_, ?_, ?_, ?_, ?_, trivial⟩ <;> (first | exact .cl _ rfl | exact .cl _ (by assumption) | exact cv_ptr (Nat.le_of_ble_eq_true rfl) rfl | exact .nilS | exact cv_own (Nat.le_of_ble_eq_true rfl) rfl | exact cv_row (Nat.le_of_ble_eq_true rfl) rfl | exact cv_mp (Nat.le_of_ble_eq_true rfl) rfl)
      · rw [← hacc]
        have hoff : c.off to = true := by simp [Cla.off, *]
        simp only [forM, hoff, cond_true]
    · have hoff : c.off to = false := by simp [Cla.off, *]
      have hlet : c.lets = true := by simp [Cla.lets, *]
      have hres : forM to cs = acc ++ [c.bare] := by rw [← hacc]; simp only [forM, hoff, hlet, cond_false, cond_true]
      rw [hres]
      exact frz_row rfl (by rw [List.map_append]; rfl) (by simp) (cP _)
    · refine And.intro rfl ⟨foE cs (acc ++ [c.bare]) (i + 1), foH to (acc ++ [c.bare]), moveL [0, 3] rfl (by decide) ⟨.inr ⟨_, rfl, cvO_box to.clean⟩, .inr ⟨_, rfl, cvO_own_as (by rw [List.map_append]; rfl) (cP _) (lP _)⟩, trivial⟩ ?_, hlt, acc ++ [c.bare], ?_, by simp; omega, rfl, rfl⟩
      · refine ⟨?_, ?_, ?_, ?_, ?_, trivial⟩ <;> first | (first | exact .cl _ rfl | exact .cl _ (by assumption) | exact cv_ptr (Nat.le_of_ble_eq_true rfl) rfl | exact .nilS | exact cv_own (Nat.le_of_ble_eq_true rfl) rfl | exact cv_row (Nat.le_of_ble_eq_true rfl) rfl | exact cv_mp (Nat.le_of_ble_eq_true rfl) rfl) | exact cv_own_new (Nat.le_of_ble_eq_true rfl) (by simp) (by simp) rfl
      · rw [← hacc]
        have hoff : c.off to = false := by simp [Cla.off, *]
        have hlet : c.lets = false := by simp [Cla.lets, *]
        simp only [forM, hoff, hlet, cond_false, List.append_assoc]; rfl
    · refine And.intro rfl ⟨foE cs (acc ++ [c.bare]) (i + 1), foH to (acc ++ [c.bare]), moveL [0, 3] rfl (by decide) ⟨.inr ⟨_, rfl, cvO_box to.clean⟩, .inr ⟨_, rfl, cvO_own_as (by rw [List.map_append]; rfl) (cP _) (lP _)⟩, trivial⟩ ?_, hlt, acc ++ [c.bare], ?_, by simp; omega, rfl, rfl⟩
      · refine ⟨?_, ?_, ?_, ?_, ?_, trivial⟩ <;> first | (first | exact .cl _ rfl | exact .cl _ (by assumption) | exact cv_ptr (Nat.le_of_ble_eq_true rfl) rfl | exact .nilS | exact cv_own (Nat.le_of_ble_eq_true rfl) rfl | exact cv_row (Nat.le_of_ble_eq_true rfl) rfl | exact cv_mp (Nat.le_of_ble_eq_true rfl) rfl) | exact cv_own_new (Nat.le_of_ble_eq_true rfl) (by simp) (by simp) rfl
      · rw [← hacc]
        have hoff : c.off to = false := by simp [Cla.off, *]
        have hlet : c.lets = false := by simp [Cla.lets, *]
        simp only [forM, hoff, hlet, cond_false, List.append_assoc]; rfl
    · have hoff : c.off to = false := by simp [Cla.off, *]
      have hlet : c.lets = true := by simp [Cla.lets, *]
      have hres : forM to cs = acc ++ [c.bare] := by rw [← hacc]; simp only [forM, hoff, hlet, cond_false, cond_true]
      rw [hres]
      exact frz_row rfl (by rw [List.map_append]; rfl) (by simp) (cP _)
    · refine And.intro rfl ⟨foE cs (acc ++ [c.bare]) (i + 1), foH to (acc ++ [c.bare]), moveL [0, 3] rfl (by decide) ⟨.inr ⟨_, rfl, cvO_box to.clean⟩, .inr ⟨_, rfl, cvO_own_as (by rw [List.map_append]; rfl) (cP _) (lP _)⟩, trivial⟩ ?_, hlt, acc ++ [c.bare], ?_, by simp; omega, rfl, rfl⟩
      · refine ⟨?_, ?_, ?_, ?_, ?_, trivial⟩ <;> first | (first | exact .cl _ rfl | exact .cl _ (by assumption) | exact cv_ptr (Nat.le_of_ble_eq_true rfl) rfl | exact .nilS | exact cv_own (Nat.le_of_ble_eq_true rfl) rfl | exact cv_row (Nat.le_of_ble_eq_true rfl) rfl | exact cv_mp (Nat.le_of_ble_eq_true rfl) rfl) | exact cv_own_new (Nat.le_of_ble_eq_true rfl) (by simp) (by simp) rfl
      · rw [← hacc]
        have hoff : c.off to = false := by simp [Cla.off, *]
        have hlet : c.lets = false := by simp [Cla.lets, *]
        simp only [forM, hoff, hlet, cond_false, List.append_assoc]; rfl
    · refine And.intro rfl ⟨foE cs (acc ++ [c.bare]) (i + 1), foH to (acc ++ [c.bare]), moveL [0, 3] rfl (by decide) ⟨.inr ⟨_, rfl, cvO_box to.clean⟩, .inr ⟨_, rfl, cvO_own_as (by rw [List.map_append]; rfl) (cP _) (lP _)⟩, trivial⟩ ?_, hlt, acc ++ [c.bare], ?_, by simp; omega, rfl, rfl⟩
      · refine ⟨?_, ?_, ?_, ?_, ?_, trivial⟩ <;> first | (first | exact .cl _ rfl | exact .cl _ (by assumption) | exact cv_ptr (Nat.le_of_ble_eq_true rfl) rfl | exact .nilS | exact cv_own (Nat.le_of_ble_eq_true rfl) rfl | exact cv_row (Nat.le_of_ble_eq_true rfl) rfl | exact cv_mp (Nat.le_of_ble_eq_true rfl) rfl) | exact cv_own_new (Nat.le_of_ble_eq_true rfl) (by simp) (by simp) rfl
      · rw [← hacc]
        have hoff : c.off to = false := by simp [Cla.off, *]
        have hlet : c.lets = false := by simp [Cla.lets, *]
        simp only [forM, hoff, hlet, cond_false, List.append_assoc]; rfl
  · rintro E H ⟨hi, acc, hacc, hal, rfl, rfl⟩
    rw [show (cs.map Cla.cells).length = cs.length by simp, List.drop_length, show forM to [] = [] from rfl, List.append_nil] at hacc
    rw [← hacc]
    (repeat' first | refine t_seq ?_ | refine t_reg ?_ | refine t_skip ?_ | refine t_scope ?_ | refine t_ret ?_ | refine t_exit ?_ | refine lit_t rfl ?_ | refine lit_f rfl ?_ | refine And.intro (And.intro rfl (Nat.le_of_ble_eq_true rfl)) ?_ | refine c_t rfl ?_ | refine c_f rfl ?_ | (first | refine mv_as (v := own (acc.map Cla.cells) 1) rfl ?_) | (refine sp_t (fun h => ?_) (fun h => ?_) <;> (try simp only [List.length_map] at h)) | (refine sp_f (fun h => ?_) (fun h => ?_) <;> (try simp only [List.length_map] at h)) | refine sq_t (fun h => ?_) (fun h => ?_) | refine sq_f (fun h => ?_) (fun h => ?_) | refine sb_t (fun h => ?_) (fun h => ?_) | refine sb_f (fun h => ?_) (fun h => ?_) | (refine c_nd rfl (fun h => ?_) (fun h => ?_) <;> (try simp only [List.length_map] at h)) | (refine c_d rfl (fun h => ?_) (fun h => ?_) <;> (try simp only [List.length_map] at h)) | refine c_nq rfl (fun h => ?_) (fun h => ?_) | refine c_q rfl (fun h => ?_) (fun h => ?_) | refine c_nb rfl (fun h => ?_) (fun h => ?_) | refine c_b rfl (fun h => ?_) (fun h => ?_) | refine And.intro rfl (Exists.intro _ (And.intro rfl ?_)) | refine Exists.intro _ (And.intro rfl ?_))
    exact frz_own (rows := acc.map Cla.cells) (esz := 10) rfl (cP _)

def clausesM (ms : List Mapp) (name : List UInt8) (to : Pfx) : List Cla :=
  match ms.find? (fun m => m.name == name) with
  | some m => forM to m.cla
  | none => []
abbrev csE (ms : List Mapp) (name : List UInt8) (i : Nat) : Slots := [(12, .i .i64 (i : Nat)), (11, .i .i64 ((ms.map Mapp.cells).length : Nat)), (10, .sl (ms.map Mapp.cells)), (5, .ptr 1 0), (1, .s name)]
theorem lower_clauses_ev (c : Conf) (name : List UInt8) (to : Pfx) (hc : c.small) : EvP Try.prog G fn_lower_clauses [c.av, .s name, to.av] (.sl ((clausesM c.maps name to).map Cla.cells)) := by
  have c1 := clean_sl Mapp.clean c.maps
  have hms := hc.maps
  refine evP c_lower_clauses rfl ?_
  (repeat' first | refine t_seq ?_ | refine t_reg ?_ | refine t_skip ?_ | refine t_scope ?_ | refine t_ret ?_ | refine t_exit ?_ | refine lit_t rfl ?_ | refine lit_f rfl ?_ | refine And.intro (And.intro rfl (Nat.le_of_ble_eq_true rfl)) ?_ | refine c_t rfl ?_ | refine c_f rfl ?_)
  refine t_range (c.maps.map Mapp.cells).length (by simp; omega) (fun i E H => i ≤ (c.maps.map Mapp.cells).length ∧ clausesM c.maps name to = clausesM (c.maps.drop i) name to ∧ E = csE c.maps name i ∧ H = [.box c.cells, .box to.cells]) (csE c.maps name 0) [.box c.cells, .box to.cells] ?_ ⟨Nat.zero_le _, rfl, rfl, rfl⟩ ?_ ?_ ?_
  · refine moveL [0, 1] rfl (by decide) ⟨.inr ⟨_, rfl, cvO_box c.clean⟩, .inr ⟨_, rfl, cvO_box to.clean⟩, trivial⟩ ?_
    refine ⟨?_, ?_, ?_, ?_, ?_, trivial⟩ <;> (first | exact .cl _ rfl | exact .cl _ (by assumption) | exact cv_ptr (Nat.le_of_ble_eq_true rfl) rfl | exact .nilS | exact cv_own (Nat.le_of_ble_eq_true rfl) rfl | exact cv_row (Nat.le_of_ble_eq_true rfl) rfl | exact cv_mp (Nat.le_of_ble_eq_true rfl) rfl)
  · rintro i E H ⟨hi, _, rfl, rfl⟩; exact ⟨hi, rfl, rfl⟩
  · rintro i E H hlt ⟨hi, heq, rfl, rfl⟩
    have hlt' : i < c.maps.length := by simpa using hlt
    rw [List.drop_eq_getElem_cons hlt'] at heq
    have hcl := hc.cla _ (List.getElem_mem hlt')
    (repeat' first | refine t_seq ?_ | refine t_reg ?_ | refine t_skip ?_ | refine t_scope ?_ | refine t_ret ?_ | refine t_exit ?_ | refine lit_t rfl ?_ | refine lit_f rfl ?_ | refine And.intro (And.intro rfl (Nat.le_of_ble_eq_true rfl)) ?_ | refine c_t rfl ?_ | refine c_f rfl ?_)
    refine And.intro (Int.natCast_nonneg i) (Exists.intro _ (And.intro (row_at hlt') (And.intro rfl ?_)))
    generalize c.maps[i] = m at heq hcl ⊢
    have a1 : cleanAll [.sl (m.cla.map Cla.cells), to.av] = true := by
      simp only [cleanAll, List.all_cons, clean, clean_rows Cla.clean, Pfx.av, Pfx.clean]; rfl
    (repeat' first | refine t_seq ?_ | refine t_reg ?_ | refine t_skip ?_ | refine t_scope ?_ | refine t_ret ?_ | refine t_exit ?_ | refine lit_t rfl ?_ | refine lit_f rfl ?_ | refine And.intro (And.intro rfl (Nat.le_of_ble_eq_true rfl)) ?_ | refine c_t rfl ?_ | refine c_f rfl ?_ | (first | refine c_b (b := m.name == name) rfl (fun h => ?_) (fun h => ?_) | refine call_clean (clause_For_ev m.cla to (by omega)) a1 ?_) | (refine sp_t (fun h => ?_) (fun h => ?_) <;> (try simp only [List.length_map] at h)) | (refine sp_f (fun h => ?_) (fun h => ?_) <;> (try simp only [List.length_map] at h)) | refine sq_t (fun h => ?_) (fun h => ?_) | refine sq_f (fun h => ?_) (fun h => ?_) | refine sb_t (fun h => ?_) (fun h => ?_) | refine sb_f (fun h => ?_) (fun h => ?_) | (refine c_nd rfl (fun h => ?_) (fun h => ?_) <;> (try simp only [List.length_map] at h)) | (refine c_d rfl (fun h => ?_) (fun h => ?_) <;> (try simp only [List.length_map] at h)) | refine c_nq rfl (fun h => ?_) (fun h => ?_) | refine c_q rfl (fun h => ?_) (fun h => ?_) | refine c_nb rfl (fun h => ?_) (fun h => ?_) | refine c_b rfl (fun h => ?_) (fun h => ?_) | refine And.intro rfl (Exists.intro _ (And.intro rfl ?_)) | refine Exists.intro _ (And.intro rfl ?_))
    · rw [heq]
      simp only [clausesM, List.find?_cons, h]
      exact frz_clean (clean_sl Cla.clean _)
    · refine And.intro rfl ⟨csE c.maps name (i + 1), [.box c.cells, .box to.cells], moveL [0, 1] rfl (by decide) ⟨.inr ⟨_, rfl, cvO_box c.clean⟩, .inr ⟨_, rfl, cvO_box to.clean⟩, trivial⟩ ?_, hlt, ?_, rfl, rfl⟩
      · refine ⟨?_, ?_, ?_, ?_, ?_, trivial⟩ <;> (first | exact .cl _ rfl | exact .cl _ (by assumption) | exact cv_ptr (Nat.le_of_ble_eq_true rfl) rfl | exact .nilS | exact cv_own (Nat.le_of_ble_eq_true rfl) rfl | exact cv_row (Nat.le_of_ble_eq_true rfl) rfl | exact cv_mp (Nat.le_of_ble_eq_true rfl) rfl)
      · rw [heq]; simp only [clausesM, List.find?_cons, h]
  · rintro E H ⟨hi, heq, rfl, rfl⟩
    rw [heq, show (c.maps.map Mapp.cells).length = c.maps.length by simp, List.drop_length]
    (repeat' first | refine t_seq ?_ | refine t_reg ?_ | refine t_skip ?_ | refine t_scope ?_ | refine t_ret ?_ | refine t_exit ?_ | refine lit_t rfl ?_ | refine lit_f rfl ?_ | refine And.intro (And.intro rfl (Nat.le_of_ble_eq_true rfl)) ?_ | refine c_t rfl ?_ | refine c_f rfl ?_ | (refine sp_t (fun h => ?_) (fun h => ?_) <;> (try simp only [List.length_map] at h)) | (refine sp_f (fun h => ?_) (fun h => ?_) <;> (try simp only [List.length_map] at h)) | refine sq_t (fun h => ?_) (fun h => ?_) | refine sq_f (fun h => ?_) (fun h => ?_) | refine sb_t (fun h => ?_) (fun h => ?_) | refine sb_f (fun h => ?_) (fun h => ?_) | (refine c_nd rfl (fun h => ?_) (fun h => ?_) <;> (try simp only [List.length_map] at h)) | (refine c_d rfl (fun h => ?_) (fun h => ?_) <;> (try simp only [List.length_map] at h)) | refine c_nq rfl (fun h => ?_) (fun h => ?_) | refine c_q rfl (fun h => ?_) (fun h => ?_) | refine c_nb rfl (fun h => ?_) (fun h => ?_) | refine c_b rfl (fun h => ?_) (fun h => ?_) | refine And.intro (by omega) (Exists.intro _ (And.intro (row_atN (by omega)) (And.intro rfl ?_))) | refine And.intro rfl (Exists.intro _ (And.intro rfl ?_)) | refine Exists.intro _ (And.intro rfl ?_))
    rfl

def Lnk.zero : Lnk := ⟨[], 0, [], [], 0⟩
def peerM (r : Rou) (name : List UInt8) : Lnk × Bool :=
  match r.links.find? (fun l => l.peer == name) with
  | some l => (l, true)
  | none => (Lnk.zero, false)
def peerL (ls : List Lnk) (name : List UInt8) : Lnk × Bool :=
  match ls.find? (fun l => l.peer == name) with
  | some l => (l, true)
  | none => (Lnk.zero, false)
def Lnk.av (l : Lnk) : AVal := .agg l.cells
abbrev prE (ls : List Lnk) (name : List UInt8) (i : Nat) : Slots := [(11, .i .i64 (i : Nat)), (10, .i .i64 ((ls.map Lnk.cells).length : Nat)), (9, .sl (ls.map Lnk.cells)), (5, .b false), (4, .ptr 1 0), (1, .s name)]
theorem check_Peer_ev (r : Rou) (name : List UInt8) (hr : r.small) : EvP Try.prog G fn_check_Peer [.agg r.cells, .s name] (.tup [(peerM r name).1.av, .b (peerM r name).2]) := by
  have c1 := clean_sl Lnk.clean r.links
  have hls := hr.links
  have hpl : peerM r name = peerL r.links name := rfl
  rw [hpl]
  refine evP c_check_Peer rfl ?_
  (repeat' first | refine t_seq ?_ | refine t_reg ?_ | refine t_skip ?_ | refine t_scope ?_ | refine t_ret ?_ | refine t_exit ?_ | refine lit_t rfl ?_ | refine lit_f rfl ?_ | refine And.intro (And.intro rfl (Nat.le_of_ble_eq_true rfl)) ?_ | refine c_t rfl ?_ | refine c_f rfl ?_)
  refine t_range (r.links.map Lnk.cells).length (by simp; omega) (fun i E H => i ≤ (r.links.map Lnk.cells).length ∧ peerL r.links name = peerL (r.links.drop i) name ∧ E = prE r.links name i ∧ H = [.box r.cells, .box Lnk.zero.cells]) (prE r.links name 0) [.box r.cells, .box Lnk.zero.cells] ?_ ⟨Nat.zero_le _, rfl, rfl, rfl⟩ ?_ ?_ ?_
  · refine moveL [0, 1] rfl (by decide) ⟨.inr ⟨_, rfl, cvO_box r.clean⟩, .inr ⟨_, rfl, cvO_box Lnk.zero.clean⟩, trivial⟩ ?_
    refine ⟨?_, ?_, ?_, ?_, ?_, ?_, trivial⟩ <;> (first | exact .cl _ rfl | exact .cl _ (by assumption) | exact cv_ptr (Nat.le_of_ble_eq_true rfl) rfl | exact .nilS | exact cv_own (Nat.le_of_ble_eq_true rfl) rfl | exact cv_row (Nat.le_of_ble_eq_true rfl) rfl | exact cv_mp (Nat.le_of_ble_eq_true rfl) rfl)
  · rintro i E H ⟨hi, _, rfl, rfl⟩; exact ⟨hi, rfl, rfl⟩
  · rintro i E H hlt ⟨hi, heq, rfl, rfl⟩
    have hlt' : i < r.links.length := by simpa using hlt
    rw [List.drop_eq_getElem_cons hlt'] at heq
    (repeat' first | refine t_seq ?_ | refine t_reg ?_ | refine t_skip ?_ | refine t_scope ?_ | refine t_ret ?_ | refine t_exit ?_ | refine lit_t rfl ?_ | refine lit_f rfl ?_ | refine And.intro (And.intro rfl (Nat.le_of_ble_eq_true rfl)) ?_ | refine c_t rfl ?_ | refine c_f rfl ?_)
    refine And.intro (Int.natCast_nonneg i) (Exists.intro _ (And.intro (row_at hlt') (And.intro rfl ?_)))
    generalize r.links[i] = l at heq ⊢
    (repeat' first | refine t_seq ?_ | refine t_reg ?_ | refine t_skip ?_ | refine t_scope ?_ | refine t_ret ?_ | refine t_exit ?_ | refine lit_t rfl ?_ | refine lit_f rfl ?_ | refine And.intro (And.intro rfl (Nat.le_of_ble_eq_true rfl)) ?_ | refine c_t rfl ?_ | refine c_f rfl ?_ | (first | refine c_b (b := l.peer == name) rfl (fun h => ?_) (fun h => ?_)) | (refine sp_t (fun h => ?_) (fun h => ?_) <;> (try simp only [List.length_map] at h)) | (refine sp_f (fun h => ?_) (fun h => ?_) <;> (try simp only [List.length_map] at h)) | refine sq_t (fun h => ?_) (fun h => ?_) | refine sq_f (fun h => ?_) (fun h => ?_) | refine sb_t (fun h => ?_) (fun h => ?_) | refine sb_f (fun h => ?_) (fun h => ?_) | (refine c_nd rfl (fun h => ?_) (fun h => ?_) <;> (try simp only [List.length_map] at h)) | (refine c_d rfl (fun h => ?_) (fun h => ?_) <;> (try simp only [List.length_map] at h)) | refine c_nq rfl (fun h => ?_) (fun h => ?_) | refine c_q rfl (fun h => ?_) (fun h => ?_) | refine c_nb rfl (fun h => ?_) (fun h => ?_) | refine c_b rfl (fun h => ?_) (fun h => ?_) | refine And.intro rfl (Exists.intro _ (And.intro rfl ?_)) | refine Exists.intro _ (And.intro rfl ?_))
    · rw [heq]
      simp only [peerL, List.find?_cons, h]; rfl
    · refine And.intro rfl ⟨prE r.links name (i + 1), [.box r.cells, .box Lnk.zero.cells], moveL [0, 1] rfl (by decide) ⟨.inr ⟨_, rfl, cvO_box r.clean⟩, .inr ⟨_, rfl, cvO_box Lnk.zero.clean⟩, trivial⟩ ?_, hlt, ?_, rfl, rfl⟩
      · refine ⟨?_, ?_, ?_, ?_, ?_, ?_, trivial⟩ <;> (first | exact .cl _ rfl | exact .cl _ (by assumption) | exact cv_ptr (Nat.le_of_ble_eq_true rfl) rfl | exact .nilS | exact cv_own (Nat.le_of_ble_eq_true rfl) rfl | exact cv_row (Nat.le_of_ble_eq_true rfl) rfl | exact cv_mp (Nat.le_of_ble_eq_true rfl) rfl)
      · rw [heq]; simp only [peerL, List.find?_cons, h]
  · rintro E H ⟨hi, heq, rfl, rfl⟩
    rw [heq, show (r.links.map Lnk.cells).length = r.links.length by simp, List.drop_length]
    (repeat' first | refine t_seq ?_ | refine t_reg ?_ | refine t_skip ?_ | refine t_scope ?_ | refine t_ret ?_ | refine t_exit ?_ | refine lit_t rfl ?_ | refine lit_f rfl ?_ | refine And.intro (And.intro rfl (Nat.le_of_ble_eq_true rfl)) ?_ | refine c_t rfl ?_ | refine c_f rfl ?_ | (refine sp_t (fun h => ?_) (fun h => ?_) <;> (try simp only [List.length_map] at h)) | (refine sp_f (fun h => ?_) (fun h => ?_) <;> (try simp only [List.length_map] at h)) | refine sq_t (fun h => ?_) (fun h => ?_) | refine sq_f (fun h => ?_) (fun h => ?_) | refine sb_t (fun h => ?_) (fun h => ?_) | refine sb_f (fun h => ?_) (fun h => ?_) | (refine c_nd rfl (fun h => ?_) (fun h => ?_) <;> (try simp only [List.length_map] at h)) | (refine c_d rfl (fun h => ?_) (fun h => ?_) <;> (try simp only [List.length_map] at h)) | refine c_nq rfl (fun h => ?_) (fun h => ?_) | refine c_q rfl (fun h => ?_) (fun h => ?_) | refine c_nb rfl (fun h => ?_) (fun h => ?_) | refine c_b rfl (fun h => ?_) (fun h => ?_) | refine And.intro (by omega) (Exists.intro _ (And.intro (row_atN (by omega)) (And.intro rfl ?_))) | refine And.intro rfl (Exists.intro _ (And.intro rfl ?_)) | refine Exists.intro _ (And.intro rfl ?_))
    rfl
end Go.Proofs.Ythpcjekmgohelaa.Ab
