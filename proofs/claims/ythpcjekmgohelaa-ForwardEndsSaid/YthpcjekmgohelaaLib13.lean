/- FUNCTIONS, 10: steps in a graph. -/
import Derived.Test.YthpcjekmgohelaaLib12
set_option linter.unusedVariables false
set_option linter.unusedSimpArgs false
namespace Go.Proofs.Ythpcjekmgohelaa.Ab
open Go Go.Proofs
set_option linter.unusedVariables false
set_option linter.unusedSimpArgs false
variable {G : GI}

theorem stable_Choice_ev (n : Netw) (l : List Attr) (k : Int) (hn : n.ok) (hl : (l.length : Int) ≤ 9223372036854775807) : EvP Try.prog G fn_stable_Choice [n.av, .sl (l.map Attr.cells), .i .i64 k] (bif fixedM n k then Attr.origin else bestM (offersM n l k)).av := by
  have c1 : cleanAll [n.av, .i .i64 k] = true := by simp only [cleanAll, List.all_cons, clean, Netw.av, n.clean]; rfl
  have c2 : cleanAll [n.av, .sl (l.map Attr.cells), .i .i64 k] = true := by simp only [cleanAll, List.all_cons, clean, Netw.av, n.clean, clean_rows Attr.clean]; rfl
  have c3 : cleanAll [.sl ((offersM n l k).map Attr.cells)] = true := by simp only [cleanAll, List.all_cons, clean, clean_rows Attr.clean]; rfl
  have hlen : ((offersM n l k).length : Int) ≤ 9223372036854775807 := by
    unfold offersM; split
    · rename_i h
      rw [List.length_map, List.getD_eq_getElem?_getD, List.getElem?_eq_getElem (by omega)]
      have := hn.edge _ (List.getElem_mem (show k.toNat < n.edges.length by omega))
      simp only [Option.getD_some]; omega
    · simp
  refine evP c_stable_Choice rfl ?_
  (repeat' first | refine t_seq ?_ | refine t_reg ?_ | refine t_skip ?_ | refine t_scope ?_ | refine t_ret ?_ | refine t_exit ?_ | refine lit_t rfl ?_ | refine lit_f rfl ?_ | refine And.intro (And.intro rfl (Nat.le_of_ble_eq_true rfl)) ?_ | refine c_t rfl ?_ | refine c_f rfl ?_ | (refine sp_t (fun h => ?_) (fun h => ?_) <;> (try simp only [List.length_map] at h)) | (refine sp_f (fun h => ?_) (fun h => ?_) <;> (try simp only [List.length_map] at h)) | refine sq_t (fun h => ?_) (fun h => ?_) | refine sq_f (fun h => ?_) (fun h => ?_) | refine sb_t (fun h => ?_) (fun h => ?_) | refine sb_f (fun h => ?_) (fun h => ?_) | (refine c_nd rfl (fun h => ?_) (fun h => ?_) <;> (try simp only [List.length_map] at h)) | (refine c_d rfl (fun h => ?_) (fun h => ?_) <;> (try simp only [List.length_map] at h)) | refine c_nq rfl (fun h => ?_) (fun h => ?_) | refine c_q rfl (fun h => ?_) (fun h => ?_) | refine c_nb rfl (fun h => ?_) (fun h => ?_) | refine c_b rfl (fun h => ?_) (fun h => ?_) | refine And.intro (by omega) (Exists.intro _ (And.intro (row_atN (by omega)) (And.intro rfl ?_))) | (first | refine call_clean (stable_Fixed_ev n k) c1 ?_ | refine call_clean attr_Origin_ev rfl ?_ | refine call_clean (stable_Offers_ev n l k hn hl) c2 ?_ | refine call_clean (attr_Best_ev _ hlen) c3 ?_) | refine And.intro rfl (Exists.intro _ (And.intro rfl ?_)) | refine Exists.intro _ (And.intro rfl ?_))
  · rw [h]; rfl
  · rw [h]; rfl

def choiceM (n : Netw) (l : List Attr) (k : Int) : Attr := bif fixedM n k then Attr.origin else bestM (offersM n l k)

abbrev gcells (ns : List Int) : List AVal := [.sl (ns.map icells)]
theorem gcells_clean (ns : List Int) : cleanL (gcells ns) = true := by
  simp only [gcells, cleanL, clean, clean_rows (f := icells) (fun _ => rfl)]; rfl
def onB (to : List Bool) (x : Int) : Bool := decide (0 ≤ x ∧ x < to.length) && to.getD x.toNat false
def stepM (g : List (List Int)) (to : List Bool) : List Bool := g.map fun next => next.any (onB to)
/-- What stands there ahead of a node. -/
def stL (g : List (List Int)) (to : List Bool) (i : Nat) : List Bool := stepM (g.take i) to ++ List.replicate (g.length - i) false
theorem stL_len (g : List (List Int)) (to : List Bool) (i : Nat) (h : i ≤ g.length) : (stL g to i).length = g.length := by
  simp [stL, stepM]; omega
theorem stL_at (g : List (List Int)) (to : List Bool) (i : Nat) (h : i < g.length) : (stL g to i)[i]? = some false := by
  have hl : (stepM (g.take i) to).length = i := by simp [stepM]; omega
  unfold stL
  rw [List.getElem?_append_right (Nat.le_of_eq hl), hl, Nat.sub_self]
  obtain ⟨m, hm⟩ : ∃ m, g.length - i = m + 1 := ⟨g.length - i - 1, by omega⟩
  rw [hm]; rfl
theorem stL_zero (g : List (List Int)) (to : List Bool) (i : Nat) (h : i < g.length) : (stL g to i).set i (([] : List Int).any (onB to)) = stL g to i := by
  have h1 := stL_at g to i h
  obtain ⟨h2, h3⟩ := List.getElem?_eq_some_iff.1 h1
  show (stL g to i).set i false = _
  rw [← h3]; exact List.set_getElem_self h2
theorem stL_next (g : List (List Int)) (to : List Bool) (i : Nat) (h : i < g.length) : (stL g to i).set i (g[i].any (onB to)) = stL g to (i + 1) := by
  have hl : (stepM (g.take i) to).length = i := by simp [stepM]; omega
  unfold stL
  rw [List.set_append_right i _ (Nat.le_of_eq hl), hl, Nat.sub_self]
  obtain ⟨m, hm⟩ : ∃ m, g.length - i = m + 1 := ⟨g.length - i - 1, by omega⟩
  rw [hm, List.replicate_succ, List.set_cons_zero]
  have : g.length - (i + 1) = m := by omega
  rw [this]
  unfold stepM
  rw [List.take_succ_eq_append_getElem h, List.map_append, List.append_assoc]; rfl

theorem st_store {L : List Bool} {i : Nat} {acc V' V : Bool} (h : V' = V) : (L.set i V').map bcells = ((L.set i acc).map bcells).set ((i : Nat) : Int).toNat (bcells V) := by
  subst h
  rw [Int.toNat_natCast, set_map, List.set_set]
abbrev peE (g : List (List Int)) (to : List Bool) (i : Nat) : Slots := [(15, .i .i64 (i : Nat)), (14, .i .i64 ((g.map gcells).length : Nat)), (13, .sl (g.map gcells)), (5, .row 0 (g.map gcells).length), (1, .sl (to.map bcells))]
abbrev peF (g : List (List Int)) (to : List Bool) (i : Nat) (next : List Int) (j : Nat) : Slots := [(22, .i .i64 (j : Nat)), (21, .i .i64 ((next.map icells).length : Nat)), (20, .sl (next.map icells)), (6, .i .i64 (i : Nat)), (15, .i .i64 (i : Nat)), (14, .i .i64 ((g.map gcells).length : Nat)), (13, .sl (g.map gcells)), (5, .row 0 (g.map gcells).length), (1, .sl (to.map bcells))]
abbrev peH (g : List (List Int)) (L to : List Bool) : Heap := [.row 1 (L.map bcells) false]

theorem forward_step_ev (g : List (List Int)) (to : List Bool) (hg : (g.length : Int) ≤ 1000000) (hg' : ∀ next ∈ g, (next.length : Int) ≤ 9223372036854775807) (ht : (to.length : Int) ≤ 9223372036854775807) :
    EvP Try.prog G fn_forward_step [.sl (g.map gcells), .sl (to.map bcells)] (.sl ((stepM g to).map bcells)) := by
  have c1 := clean_sl gcells_clean g
  have c2 := clean_sl (f := bcells) (fun _ => rfl) to
  refine evP c_forward_step rfl ?_
  (repeat' first | refine t_seq ?_ | refine t_reg ?_ | refine t_skip ?_ | refine t_scope ?_ | refine t_ret ?_ | refine t_exit ?_ | refine lit_t rfl ?_ | refine lit_f rfl ?_ | refine And.intro (And.intro rfl (Nat.le_of_ble_eq_true rfl)) ?_ | refine c_t rfl ?_ | refine c_f rfl ?_)
  refine And.intro (And.intro rfl ?_) ?_
  
  · have : ((g.map gcells).length : Nat) = g.length := by simp
    exact ⟨by omega, by omega, by omega, rfl⟩
  (repeat' first | refine t_seq ?_ | refine t_reg ?_ | refine t_skip ?_ | refine t_scope ?_ | refine t_ret ?_ | refine t_exit ?_ | refine lit_t rfl ?_ | refine lit_f rfl ?_ | refine And.intro (And.intro rfl (Nat.le_of_ble_eq_true rfl)) ?_ | refine c_t rfl ?_ | refine c_f rfl ?_)
  refine t_range (g.map gcells).length (by simp; omega) (fun i E H => i ≤ (g.map gcells).length ∧ E = peE g to i ∧ H = peH g (stL g to i) to) (peE g to 0) (peH g (stL g to 0) to) ?_ ⟨Nat.zero_le _, rfl, rfl⟩ ?_ ?_ ?_
  · refine moveL [0] rfl (by decide) ?_ ?_
    · refine ⟨.inr ⟨_, rfl, cvO_row_as (by simp [stL, stepM, bcells]) (clean_rows (fun _ => rfl) _) (len_rows (f := bcells) (fun _ => rfl) _)⟩, trivial⟩
    · refine ⟨?_, ?_, ?_, ?_, ?_, trivial⟩ <;> first | (first | exact .cl _ rfl | exact .cl _ (by assumption) | exact cv_ptr (Nat.le_of_ble_eq_true rfl) rfl | exact .nilS | exact cv_own (Nat.le_of_ble_eq_true rfl) rfl | exact cv_row (Nat.le_of_ble_eq_true rfl) rfl | exact cv_mp (Nat.le_of_ble_eq_true rfl) rfl) | (refine cv_row_as (Nat.le_of_ble_eq_true rfl) rfl ?_; simp)
  · rintro i E H ⟨hi, rfl, rfl⟩; exact ⟨hi, rfl, rfl⟩
  · rintro i E H hlt ⟨hi, rfl, rfl⟩
    have hlt' : i < g.length := by simpa using hlt
    have hgi := hg' _ (List.getElem_mem hlt')
    have c3 := clean_sl (f := icells) (fun _ => rfl) g[i]
    have hL := stL_len g to i (by omega)
    (repeat' first | refine t_seq ?_ | refine t_reg ?_ | refine t_skip ?_ | refine t_scope ?_ | refine t_ret ?_ | refine t_exit ?_ | refine lit_t rfl ?_ | refine lit_f rfl ?_ | refine And.intro (And.intro rfl (Nat.le_of_ble_eq_true rfl)) ?_ | refine c_t rfl ?_ | refine c_f rfl ?_)
    refine And.intro (Int.natCast_nonneg i) (Exists.intro _ (And.intro (row_at hlt') (And.intro rfl ?_)))
    (repeat' first | refine t_seq ?_ | refine t_reg ?_ | refine t_skip ?_ | refine t_scope ?_ | refine t_ret ?_ | refine t_exit ?_ | refine lit_t rfl ?_ | refine lit_f rfl ?_ | refine And.intro (And.intro rfl (Nat.le_of_ble_eq_true rfl)) ?_ | refine c_t rfl ?_ | refine c_f rfl ?_ | (refine sp_t (fun h => ?_) (fun h => ?_) <;> (try simp only [List.length_map] at h)) | (refine sp_f (fun h => ?_) (fun h => ?_) <;> (try simp only [List.length_map] at h)) | refine sq_t (fun h => ?_) (fun h => ?_) | refine sq_f (fun h => ?_) (fun h => ?_) | refine sb_t (fun h => ?_) (fun h => ?_) | refine sb_f (fun h => ?_) (fun h => ?_) | (refine c_nd rfl (fun h => ?_) (fun h => ?_) <;> (try simp only [List.length_map] at h)) | (refine c_d rfl (fun h => ?_) (fun h => ?_) <;> (try simp only [List.length_map] at h)) | refine c_nq rfl (fun h => ?_) (fun h => ?_) | refine c_q rfl (fun h => ?_) (fun h => ?_) | refine c_nb rfl (fun h => ?_) (fun h => ?_) | refine c_b rfl (fun h => ?_) (fun h => ?_) | refine And.intro (by omega) (Exists.intro _ (And.intro (row_atN (by omega)) (And.intro rfl ?_))) | (fail) | refine And.intro rfl (Exists.intro _ (And.intro rfl ?_)) | refine Exists.intro _ (And.intro rfl ?_))
    refine t_range (g[i].map icells).length (by simp; omega) (fun j E H => j ≤ (g[i].map icells).length ∧ E = peF g to i g[i] j ∧ H = peH g ((stL g to i).set i ((g[i].take j).any (onB to))) to) (peF g to i g[i] 0) (peH g (stL g to i) to) ?_ ⟨Nat.zero_le _, rfl, by rw [List.take_zero, stL_zero g to i hlt']⟩ ?_ ?_ ?_
    · refine moveL [0] rfl (by decide) ?_ ?_
      · refine ⟨.inr ⟨_, rfl, cvO_row (clean_rows (fun _ => rfl) _) (len_rows (f := bcells) (fun _ => rfl) _)⟩, trivial⟩
      · refine ⟨?_, ?_, ?_, ?_, ?_, ?_, ?_, ?_, ?_, trivial⟩ <;> (first | exact .cl _ rfl | exact .cl _ (by assumption) | exact cv_ptr (Nat.le_of_ble_eq_true rfl) rfl | exact .nilS | exact cv_own (Nat.le_of_ble_eq_true rfl) rfl | exact cv_row (Nat.le_of_ble_eq_true rfl) rfl | exact cv_mp (Nat.le_of_ble_eq_true rfl) rfl)
    · rintro j E H ⟨hj, rfl, rfl⟩; exact ⟨hj, rfl, rfl⟩
    · rintro j E H hltj ⟨hj, rfl, rfl⟩
      have hltj' : j < g[i].length := by simpa using hltj
      have hnext : (g[i].take (j + 1)).any (onB to) = ((g[i].take j).any (onB to) || onB to g[i][j]) := by rw [List.take_succ_eq_append_getElem hltj', List.any_append]; simp
      (repeat' first | refine t_seq ?_ | refine t_reg ?_ | refine t_skip ?_ | refine t_scope ?_ | refine t_ret ?_ | refine t_exit ?_ | refine lit_t rfl ?_ | refine lit_f rfl ?_ | refine And.intro (And.intro rfl (Nat.le_of_ble_eq_true rfl)) ?_ | refine c_t rfl ?_ | refine c_f rfl ?_)
      refine And.intro (Int.natCast_nonneg j) (Exists.intro _ (And.intro (row_at hltj') (And.intro rfl ?_)))
      generalize g[i][j] = x at hnext ⊢
      generalize (g[i].take j).any (onB to) = acc at hnext ⊢
      have hat : (((stL g to i).set i acc).map bcells)[((i : Nat) : Int).toNat]? = some (bcells acc) := by simp [hL, hlt']
      have hlg : (g.map gcells).length = g.length := by simp
      have hto : (to.map bcells).length = to.length := by simp
      (repeat' first | refine t_seq ?_ | refine t_reg ?_ | refine t_skip ?_ | refine t_scope ?_ | refine t_ret ?_ | refine t_exit ?_ | refine lit_t rfl ?_ | refine lit_f rfl ?_ | refine And.intro (And.intro rfl (Nat.le_of_ble_eq_true rfl)) ?_ | refine c_t rfl ?_ | refine c_f rfl ?_ | (refine sp_t (fun h => ?_) (fun h => ?_) <;> (try simp only [List.length_map] at h)) | (refine sp_f (fun h => ?_) (fun h => ?_) <;> (try simp only [List.length_map] at h)) | refine sq_t (fun h => ?_) (fun h => ?_) | refine sq_f (fun h => ?_) (fun h => ?_) | refine sb_t (fun h => ?_) (fun h => ?_) | refine sb_f (fun h => ?_) (fun h => ?_) | (refine c_nd rfl (fun h => ?_) (fun h => ?_) <;> (try simp only [List.length_map] at h)) | (refine c_d rfl (fun h => ?_) (fun h => ?_) <;> (try simp only [List.length_map] at h)) | refine c_nq rfl (fun h => ?_) (fun h => ?_) | refine c_q rfl (fun h => ?_) (fun h => ?_) | refine c_nb rfl (fun h => ?_) (fun h => ?_) | refine c_b rfl (fun h => ?_) (fun h => ?_) | refine And.intro (by omega) (Exists.intro _ (And.intro (row_atN (by omega)) (And.intro rfl ?_))) | (first | refine And.intro rfl (Exists.intro _ (And.intro (hat) (Exists.intro _ (And.intro rfl ?_)))) | refine And.intro rfl (Exists.intro _ (And.intro (row_atN (by omega)) (Exists.intro _ (And.intro rfl ?_)))) | refine And.intro (And.intro rfl (And.intro rfl (Nat.le_of_ble_eq_true rfl))) (Exists.intro _ (And.intro (hat) ?_)) | refine And.intro (And.intro (by omega) (by omega)) ?_) | refine And.intro rfl (Exists.intro _ (And.intro rfl ?_)) | refine Exists.intro _ (And.intro rfl ?_))
      · refine And.intro rfl ⟨peF g to i g[i] (j + 1), peH g ((stL g to i).set i ((g[i].take (j + 1)).any (onB to))) to, moveL [0] rfl (by decide) ?_ ?_, hltj, rfl, rfl⟩
        · refine ⟨.inr ⟨_, rfl, cvO_row_as (st_store (V := true) (by rw [hnext]; simp [onB, *])) (clean_rows (fun _ => rfl) _) (len_rows (f := bcells) (fun _ => rfl) _)⟩, trivial⟩
        · refine ⟨?_, ?_, ?_, ?_, ?_, ?_, ?_, ?_, ?_, trivial⟩ <;> (first | exact .cl _ rfl | exact .cl _ (by assumption) | exact cv_ptr (Nat.le_of_ble_eq_true rfl) rfl | exact .nilS | exact cv_own (Nat.le_of_ble_eq_true rfl) rfl | exact cv_row (Nat.le_of_ble_eq_true rfl) rfl | exact cv_mp (Nat.le_of_ble_eq_true rfl) rfl)
      · refine And.intro rfl ⟨peF g to i g[i] (j + 1), peH g ((stL g to i).set i ((g[i].take (j + 1)).any (onB to))) to, moveL [0] rfl (by decide) ?_ ?_, hltj, rfl, rfl⟩
        · refine ⟨.inr ⟨_, rfl, cvO_row_as (st_store (V := to[x.toNat]) (by rw [hnext]; simp [onB, *])) (clean_rows (fun _ => rfl) _) (len_rows (f := bcells) (fun _ => rfl) _)⟩, trivial⟩
        · refine ⟨?_, ?_, ?_, ?_, ?_, ?_, ?_, ?_, ?_, trivial⟩ <;> (first | exact .cl _ rfl | exact .cl _ (by assumption) | exact cv_ptr (Nat.le_of_ble_eq_true rfl) rfl | exact .nilS | exact cv_own (Nat.le_of_ble_eq_true rfl) rfl | exact cv_row (Nat.le_of_ble_eq_true rfl) rfl | exact cv_mp (Nat.le_of_ble_eq_true rfl) rfl)
      · refine And.intro rfl ⟨peF g to i g[i] (j + 1), peH g ((stL g to i).set i ((g[i].take (j + 1)).any (onB to))) to, moveL [0] rfl (by decide) ?_ ?_, hltj, rfl, rfl⟩
        · refine ⟨.inr ⟨_, rfl, cvO_row_as (st_store (V := false) (by rw [hnext]; simp [onB, *])) (clean_rows (fun _ => rfl) _) (len_rows (f := bcells) (fun _ => rfl) _)⟩, trivial⟩
        · refine ⟨?_, ?_, ?_, ?_, ?_, ?_, ?_, ?_, ?_, trivial⟩ <;> (first | exact .cl _ rfl | exact .cl _ (by assumption) | exact cv_ptr (Nat.le_of_ble_eq_true rfl) rfl | exact .nilS | exact cv_own (Nat.le_of_ble_eq_true rfl) rfl | exact cv_row (Nat.le_of_ble_eq_true rfl) rfl | exact cv_mp (Nat.le_of_ble_eq_true rfl) rfl)
      · refine And.intro rfl ⟨peF g to i g[i] (j + 1), peH g ((stL g to i).set i ((g[i].take (j + 1)).any (onB to))) to, moveL [0] rfl (by decide) ?_ ?_, hltj, rfl, rfl⟩
        · refine ⟨.inr ⟨_, rfl, cvO_row_as (st_store (V := false) (by rw [hnext]; simp [onB, *])) (clean_rows (fun _ => rfl) _) (len_rows (f := bcells) (fun _ => rfl) _)⟩, trivial⟩
        · refine ⟨?_, ?_, ?_, ?_, ?_, ?_, ?_, ?_, ?_, trivial⟩ <;> (first | exact .cl _ rfl | exact .cl _ (by assumption) | exact cv_ptr (Nat.le_of_ble_eq_true rfl) rfl | exact .nilS | exact cv_own (Nat.le_of_ble_eq_true rfl) rfl | exact cv_row (Nat.le_of_ble_eq_true rfl) rfl | exact cv_mp (Nat.le_of_ble_eq_true rfl) rfl)
    · rintro E H ⟨hj, rfl, rfl⟩
      refine And.intro rfl ⟨peE g to (i + 1), peH g (stL g to (i + 1)) to, moveL [0] rfl (by decide) ?_ ?_, hlt, rfl, rfl⟩
      · refine ⟨.inr ⟨_, rfl, cvO_row_as (by rw [List.length_map, List.take_length, stL_next g to i hlt']) (clean_rows (fun _ => rfl) _) (len_rows (f := bcells) (fun _ => rfl) _)⟩, trivial⟩
      · refine ⟨?_, ?_, ?_, ?_, ?_, trivial⟩ <;> (first | exact .cl _ rfl | exact .cl _ (by assumption) | exact cv_ptr (Nat.le_of_ble_eq_true rfl) rfl | exact .nilS | exact cv_own (Nat.le_of_ble_eq_true rfl) rfl | exact cv_row (Nat.le_of_ble_eq_true rfl) rfl | exact cv_mp (Nat.le_of_ble_eq_true rfl) rfl)
  · rintro E H ⟨hi, rfl, rfl⟩
    (repeat' first | refine t_seq ?_ | refine t_reg ?_ | refine t_skip ?_ | refine t_scope ?_ | refine t_ret ?_ | refine t_exit ?_ | refine lit_t rfl ?_ | refine lit_f rfl ?_ | refine And.intro (And.intro rfl (Nat.le_of_ble_eq_true rfl)) ?_ | refine c_t rfl ?_ | refine c_f rfl ?_ | (refine sp_t (fun h => ?_) (fun h => ?_) <;> (try simp only [List.length_map] at h)) | (refine sp_f (fun h => ?_) (fun h => ?_) <;> (try simp only [List.length_map] at h)) | refine sq_t (fun h => ?_) (fun h => ?_) | refine sq_f (fun h => ?_) (fun h => ?_) | refine sb_t (fun h => ?_) (fun h => ?_) | refine sb_f (fun h => ?_) (fun h => ?_) | (refine c_nd rfl (fun h => ?_) (fun h => ?_) <;> (try simp only [List.length_map] at h)) | (refine c_d rfl (fun h => ?_) (fun h => ?_) <;> (try simp only [List.length_map] at h)) | refine c_nq rfl (fun h => ?_) (fun h => ?_) | refine c_q rfl (fun h => ?_) (fun h => ?_) | refine c_nb rfl (fun h => ?_) (fun h => ?_) | refine c_b rfl (fun h => ?_) (fun h => ?_) | refine And.intro (by omega) (Exists.intro _ (And.intro (row_atN (by omega)) (And.intro rfl ?_))) | refine And.intro rfl (Exists.intro _ (And.intro rfl ?_)) | refine Exists.intro _ (And.intro rfl ?_))
    have e1 : stL g to (g.map gcells).length = stepM g to := by simp [stL]
    have e2 : (stepM g to).length = (g.map gcells).length := by simp [stepM]
    exact frz_row rfl (by rw [e1]) (by rw [List.length_map, e2]) (clean_rows (fun _ => rfl) _)

/- THE SAME, where the nodes stand in a row that is still written. -/
abbrev seE (g : List (List Int)) (to : List Bool) (i : Nat) : Slots := [(15, .i .i64 (i : Nat)), (14, .i .i64 ((g.map gcells).length : Nat)), (13, .sl (g.map gcells)), (5, .row 1 (g.map gcells).length), (1, .row 0 (to.map bcells).length)]
abbrev seF (g : List (List Int)) (to : List Bool) (i : Nat) (next : List Int) (j : Nat) : Slots := [(22, .i .i64 (j : Nat)), (21, .i .i64 ((next.map icells).length : Nat)), (20, .sl (next.map icells)), (6, .i .i64 (i : Nat)), (15, .i .i64 (i : Nat)), (14, .i .i64 ((g.map gcells).length : Nat)), (13, .sl (g.map gcells)), (5, .row 1 (g.map gcells).length), (1, .row 0 (to.map bcells).length)]
abbrev seH (g : List (List Int)) (L to : List Bool) : Heap := [.row 1 (to.map bcells) false, .row 1 (L.map bcells) false]

theorem forward_step_evS (g : List (List Int)) (to : List Bool) (hg : (g.length : Int) ≤ 1000000) (hg' : ∀ next ∈ g, (next.length : Int) ≤ 9223372036854775807) :
    EvS Try.prog G fn_forward_step [.sl (g.map gcells), .row 0 (to.map bcells).length] [.row 1 (to.map bcells) false] (.row 1 (g.map gcells).length) [.row 1 (to.map bcells) false, .row 1 ((stepM g to).map bcells) false] := by
  have c1 := clean_sl gcells_clean g
  refine evS c_forward_step rfl ?_
  (repeat' first | refine t_seq ?_ | refine t_reg ?_ | refine t_skip ?_ | refine t_scope ?_ | refine t_ret ?_ | refine t_exit ?_ | refine lit_t rfl ?_ | refine lit_f rfl ?_ | refine And.intro (And.intro rfl (Nat.le_of_ble_eq_true rfl)) ?_ | refine c_t rfl ?_ | refine c_f rfl ?_)
  refine And.intro (And.intro rfl ?_) ?_
  
  · have : ((g.map gcells).length : Nat) = g.length := by simp
    exact ⟨by omega, by omega, by omega, rfl⟩
  (repeat' first | refine t_seq ?_ | refine t_reg ?_ | refine t_skip ?_ | refine t_scope ?_ | refine t_ret ?_ | refine t_exit ?_ | refine lit_t rfl ?_ | refine lit_f rfl ?_ | refine And.intro (And.intro rfl (Nat.le_of_ble_eq_true rfl)) ?_ | refine c_t rfl ?_ | refine c_f rfl ?_)
  refine t_range (g.map gcells).length (by simp; omega) (fun i E H => i ≤ (g.map gcells).length ∧ E = seE g to i ∧ H = seH g (stL g to i) to) (seE g to 0) (seH g (stL g to 0) to) ?_ ⟨Nat.zero_le _, rfl, rfl⟩ ?_ ?_ ?_
  · refine moveL [0, 1] rfl (by decide) ?_ ?_
    · refine ⟨.inr ⟨_, rfl, cvO_row (clean_rows (fun _ => rfl) _) (len_rows (f := bcells) (fun _ => rfl) _)⟩, .inr ⟨_, rfl, cvO_row_as (by simp [stL, stepM, bcells]) (clean_rows (fun _ => rfl) _) (len_rows (f := bcells) (fun _ => rfl) _)⟩, trivial⟩
    · refine ⟨?_, ?_, ?_, ?_, ?_, trivial⟩ <;> first | (first | exact .cl _ rfl | exact .cl _ (by assumption) | exact cv_ptr (Nat.le_of_ble_eq_true rfl) rfl | exact .nilS | exact cv_own (Nat.le_of_ble_eq_true rfl) rfl | exact cv_row (Nat.le_of_ble_eq_true rfl) rfl | exact cv_mp (Nat.le_of_ble_eq_true rfl) rfl) | (refine cv_row_as (Nat.le_of_ble_eq_true rfl) rfl ?_; simp)
  · rintro i E H ⟨hi, rfl, rfl⟩; exact ⟨hi, rfl, rfl⟩
  · rintro i E H hlt ⟨hi, rfl, rfl⟩
    have hlt' : i < g.length := by simpa using hlt
    have hgi := hg' _ (List.getElem_mem hlt')
    have c3 := clean_sl (f := icells) (fun _ => rfl) g[i]
    have hL := stL_len g to i (by omega)
    (repeat' first | refine t_seq ?_ | refine t_reg ?_ | refine t_skip ?_ | refine t_scope ?_ | refine t_ret ?_ | refine t_exit ?_ | refine lit_t rfl ?_ | refine lit_f rfl ?_ | refine And.intro (And.intro rfl (Nat.le_of_ble_eq_true rfl)) ?_ | refine c_t rfl ?_ | refine c_f rfl ?_)
    refine And.intro (Int.natCast_nonneg i) (Exists.intro _ (And.intro (row_at hlt') (And.intro rfl ?_)))
    (repeat' first | refine t_seq ?_ | refine t_reg ?_ | refine t_skip ?_ | refine t_scope ?_ | refine t_ret ?_ | refine t_exit ?_ | refine lit_t rfl ?_ | refine lit_f rfl ?_ | refine And.intro (And.intro rfl (Nat.le_of_ble_eq_true rfl)) ?_ | refine c_t rfl ?_ | refine c_f rfl ?_ | (refine sp_t (fun h => ?_) (fun h => ?_) <;> (try simp only [List.length_map] at h)) | (refine sp_f (fun h => ?_) (fun h => ?_) <;> (try simp only [List.length_map] at h)) | refine sq_t (fun h => ?_) (fun h => ?_) | refine sq_f (fun h => ?_) (fun h => ?_) | refine sb_t (fun h => ?_) (fun h => ?_) | refine sb_f (fun h => ?_) (fun h => ?_) | (refine c_nd rfl (fun h => ?_) (fun h => ?_) <;> (try simp only [List.length_map] at h)) | (refine c_d rfl (fun h => ?_) (fun h => ?_) <;> (try simp only [List.length_map] at h)) | refine c_nq rfl (fun h => ?_) (fun h => ?_) | refine c_q rfl (fun h => ?_) (fun h => ?_) | refine c_nb rfl (fun h => ?_) (fun h => ?_) | refine c_b rfl (fun h => ?_) (fun h => ?_) | refine And.intro (by omega) (Exists.intro _ (And.intro (row_atN (by omega)) (And.intro rfl ?_))) | (fail) | refine And.intro rfl (Exists.intro _ (And.intro rfl ?_)) | refine Exists.intro _ (And.intro rfl ?_))
    refine t_range (g[i].map icells).length (by simp; omega) (fun j E H => j ≤ (g[i].map icells).length ∧ E = seF g to i g[i] j ∧ H = seH g ((stL g to i).set i ((g[i].take j).any (onB to))) to) (seF g to i g[i] 0) (seH g (stL g to i) to) ?_ ⟨Nat.zero_le _, rfl, by rw [List.take_zero, stL_zero g to i hlt']⟩ ?_ ?_ ?_
    · refine moveL [0, 1] rfl (by decide) ?_ ?_
      · refine ⟨.inr ⟨_, rfl, cvO_row (clean_rows (fun _ => rfl) _) (len_rows (f := bcells) (fun _ => rfl) _)⟩, .inr ⟨_, rfl, cvO_row (clean_rows (fun _ => rfl) _) (len_rows (f := bcells) (fun _ => rfl) _)⟩, trivial⟩
      · refine ⟨?_, ?_, ?_, ?_, ?_, ?_, ?_, ?_, ?_, trivial⟩ <;> (first | exact .cl _ rfl | exact .cl _ (by assumption) | exact cv_ptr (Nat.le_of_ble_eq_true rfl) rfl | exact .nilS | exact cv_own (Nat.le_of_ble_eq_true rfl) rfl | exact cv_row (Nat.le_of_ble_eq_true rfl) rfl | exact cv_mp (Nat.le_of_ble_eq_true rfl) rfl)
    · rintro j E H ⟨hj, rfl, rfl⟩; exact ⟨hj, rfl, rfl⟩
    · rintro j E H hltj ⟨hj, rfl, rfl⟩
      have hltj' : j < g[i].length := by simpa using hltj
      have hnext : (g[i].take (j + 1)).any (onB to) = ((g[i].take j).any (onB to) || onB to g[i][j]) := by rw [List.take_succ_eq_append_getElem hltj', List.any_append]; simp
      (repeat' first | refine t_seq ?_ | refine t_reg ?_ | refine t_skip ?_ | refine t_scope ?_ | refine t_ret ?_ | refine t_exit ?_ | refine lit_t rfl ?_ | refine lit_f rfl ?_ | refine And.intro (And.intro rfl (Nat.le_of_ble_eq_true rfl)) ?_ | refine c_t rfl ?_ | refine c_f rfl ?_)
      refine And.intro (Int.natCast_nonneg j) (Exists.intro _ (And.intro (row_at hltj') (And.intro rfl ?_)))
      generalize g[i][j] = x at hnext ⊢
      generalize (g[i].take j).any (onB to) = acc at hnext ⊢
      have hat : (((stL g to i).set i acc).map bcells)[((i : Nat) : Int).toNat]? = some (bcells acc) := by simp [hL, hlt']
      have hlg : (g.map gcells).length = g.length := by simp
      have hto : (to.map bcells).length = to.length := by simp
      (repeat' first | refine t_seq ?_ | refine t_reg ?_ | refine t_skip ?_ | refine t_scope ?_ | refine t_ret ?_ | refine t_exit ?_ | refine lit_t rfl ?_ | refine lit_f rfl ?_ | refine And.intro (And.intro rfl (Nat.le_of_ble_eq_true rfl)) ?_ | refine c_t rfl ?_ | refine c_f rfl ?_ | (refine sp_t (fun h => ?_) (fun h => ?_) <;> (try simp only [List.length_map] at h)) | (refine sp_f (fun h => ?_) (fun h => ?_) <;> (try simp only [List.length_map] at h)) | refine sq_t (fun h => ?_) (fun h => ?_) | refine sq_f (fun h => ?_) (fun h => ?_) | refine sb_t (fun h => ?_) (fun h => ?_) | refine sb_f (fun h => ?_) (fun h => ?_) | (refine c_nd rfl (fun h => ?_) (fun h => ?_) <;> (try simp only [List.length_map] at h)) | (refine c_d rfl (fun h => ?_) (fun h => ?_) <;> (try simp only [List.length_map] at h)) | refine c_nq rfl (fun h => ?_) (fun h => ?_) | refine c_q rfl (fun h => ?_) (fun h => ?_) | refine c_nb rfl (fun h => ?_) (fun h => ?_) | refine c_b rfl (fun h => ?_) (fun h => ?_) | refine And.intro (by omega) (Exists.intro _ (And.intro (row_atN (by omega)) (And.intro rfl ?_))) | (first | refine And.intro rfl (Exists.intro _ (And.intro (hat) (Exists.intro _ (And.intro rfl ?_)))) | refine And.intro rfl (Exists.intro _ (And.intro (row_atN (by omega)) (Exists.intro _ (And.intro rfl ?_)))) | refine And.intro (And.intro rfl (And.intro rfl (Nat.le_of_ble_eq_true rfl))) (Exists.intro _ (And.intro (hat) ?_)) | refine And.intro (And.intro (by omega) (by omega)) ?_) | refine And.intro rfl (Exists.intro _ (And.intro rfl ?_)) | refine Exists.intro _ (And.intro rfl ?_))
      · refine And.intro rfl ⟨seF g to i g[i] (j + 1), seH g ((stL g to i).set i ((g[i].take (j + 1)).any (onB to))) to, moveL [0, 1] rfl (by decide) ?_ ?_, hltj, rfl, rfl⟩
        · refine ⟨.inr ⟨_, rfl, cvO_row (clean_rows (fun _ => rfl) _) (len_rows (f := bcells) (fun _ => rfl) _)⟩, .inr ⟨_, rfl, cvO_row_as (st_store (V := true) (by rw [hnext]; simp [onB, *])) (clean_rows (fun _ => rfl) _) (len_rows (f := bcells) (fun _ => rfl) _)⟩, trivial⟩
        · refine ⟨?_, ?_, ?_, ?_, ?_, ?_, ?_, ?_, ?_, trivial⟩ <;> (first | exact .cl _ rfl | exact .cl _ (by assumption) | exact cv_ptr (Nat.le_of_ble_eq_true rfl) rfl | exact .nilS | exact cv_own (Nat.le_of_ble_eq_true rfl) rfl | exact cv_row (Nat.le_of_ble_eq_true rfl) rfl | exact cv_mp (Nat.le_of_ble_eq_true rfl) rfl)
      · refine And.intro rfl ⟨seF g to i g[i] (j + 1), seH g ((stL g to i).set i ((g[i].take (j + 1)).any (onB to))) to, moveL [0, 1] rfl (by decide) ?_ ?_, hltj, rfl, rfl⟩
        · refine ⟨.inr ⟨_, rfl, cvO_row (clean_rows (fun _ => rfl) _) (len_rows (f := bcells) (fun _ => rfl) _)⟩, .inr ⟨_, rfl, cvO_row_as (st_store (V := to[x.toNat]) (by rw [hnext]; simp [onB, *])) (clean_rows (fun _ => rfl) _) (len_rows (f := bcells) (fun _ => rfl) _)⟩, trivial⟩
        · refine ⟨?_, ?_, ?_, ?_, ?_, ?_, ?_, ?_, ?_, trivial⟩ <;> (first | exact .cl _ rfl | exact .cl _ (by assumption) | exact cv_ptr (Nat.le_of_ble_eq_true rfl) rfl | exact .nilS | exact cv_own (Nat.le_of_ble_eq_true rfl) rfl | exact cv_row (Nat.le_of_ble_eq_true rfl) rfl | exact cv_mp (Nat.le_of_ble_eq_true rfl) rfl)
      · refine And.intro rfl ⟨seF g to i g[i] (j + 1), seH g ((stL g to i).set i ((g[i].take (j + 1)).any (onB to))) to, moveL [0, 1] rfl (by decide) ?_ ?_, hltj, rfl, rfl⟩
        · refine ⟨.inr ⟨_, rfl, cvO_row (clean_rows (fun _ => rfl) _) (len_rows (f := bcells) (fun _ => rfl) _)⟩, .inr ⟨_, rfl, cvO_row_as (st_store (V := false) (by rw [hnext]; simp [onB, *])) (clean_rows (fun _ => rfl) _) (len_rows (f := bcells) (fun _ => rfl) _)⟩, trivial⟩
        · refine ⟨?_, ?_, ?_, ?_, ?_, ?_, ?_, ?_, ?_, trivial⟩ <;> (first | exact .cl _ rfl | exact .cl _ (by assumption) | exact cv_ptr (Nat.le_of_ble_eq_true rfl) rfl | exact .nilS | exact cv_own (Nat.le_of_ble_eq_true rfl) rfl | exact cv_row (Nat.le_of_ble_eq_true rfl) rfl | exact cv_mp (Nat.le_of_ble_eq_true rfl) rfl)
      · refine And.intro rfl ⟨seF g to i g[i] (j + 1), seH g ((stL g to i).set i ((g[i].take (j + 1)).any (onB to))) to, moveL [0, 1] rfl (by decide) ?_ ?_, hltj, rfl, rfl⟩
        · refine ⟨.inr ⟨_, rfl, cvO_row (clean_rows (fun _ => rfl) _) (len_rows (f := bcells) (fun _ => rfl) _)⟩, .inr ⟨_, rfl, cvO_row_as (st_store (V := false) (by rw [hnext]; simp [onB, *])) (clean_rows (fun _ => rfl) _) (len_rows (f := bcells) (fun _ => rfl) _)⟩, trivial⟩
        · refine ⟨?_, ?_, ?_, ?_, ?_, ?_, ?_, ?_, ?_, trivial⟩ <;> (first | exact .cl _ rfl | exact .cl _ (by assumption) | exact cv_ptr (Nat.le_of_ble_eq_true rfl) rfl | exact .nilS | exact cv_own (Nat.le_of_ble_eq_true rfl) rfl | exact cv_row (Nat.le_of_ble_eq_true rfl) rfl | exact cv_mp (Nat.le_of_ble_eq_true rfl) rfl)
    · rintro E H ⟨hj, rfl, rfl⟩
      refine And.intro rfl ⟨seE g to (i + 1), seH g (stL g to (i + 1)) to, moveL [0, 1] rfl (by decide) ?_ ?_, hlt, rfl, rfl⟩
      · refine ⟨.inr ⟨_, rfl, cvO_row (clean_rows (fun _ => rfl) _) (len_rows (f := bcells) (fun _ => rfl) _)⟩, .inr ⟨_, rfl, cvO_row_as (by rw [List.length_map, List.take_length, stL_next g to i hlt']) (clean_rows (fun _ => rfl) _) (len_rows (f := bcells) (fun _ => rfl) _)⟩, trivial⟩
      · refine ⟨?_, ?_, ?_, ?_, ?_, trivial⟩ <;> (first | exact .cl _ rfl | exact .cl _ (by assumption) | exact cv_ptr (Nat.le_of_ble_eq_true rfl) rfl | exact .nilS | exact cv_own (Nat.le_of_ble_eq_true rfl) rfl | exact cv_row (Nat.le_of_ble_eq_true rfl) rfl | exact cv_mp (Nat.le_of_ble_eq_true rfl) rfl)
  · rintro E H ⟨hi, rfl, rfl⟩
    (repeat' first | refine t_seq ?_ | refine t_reg ?_ | refine t_skip ?_ | refine t_scope ?_ | refine t_ret ?_ | refine t_exit ?_ | refine lit_t rfl ?_ | refine lit_f rfl ?_ | refine And.intro (And.intro rfl (Nat.le_of_ble_eq_true rfl)) ?_ | refine c_t rfl ?_ | refine c_f rfl ?_ | (refine sp_t (fun h => ?_) (fun h => ?_) <;> (try simp only [List.length_map] at h)) | (refine sp_f (fun h => ?_) (fun h => ?_) <;> (try simp only [List.length_map] at h)) | refine sq_t (fun h => ?_) (fun h => ?_) | refine sq_f (fun h => ?_) (fun h => ?_) | refine sb_t (fun h => ?_) (fun h => ?_) | refine sb_f (fun h => ?_) (fun h => ?_) | (refine c_nd rfl (fun h => ?_) (fun h => ?_) <;> (try simp only [List.length_map] at h)) | (refine c_d rfl (fun h => ?_) (fun h => ?_) <;> (try simp only [List.length_map] at h)) | refine c_nq rfl (fun h => ?_) (fun h => ?_) | refine c_q rfl (fun h => ?_) (fun h => ?_) | refine c_nb rfl (fun h => ?_) (fun h => ?_) | refine c_b rfl (fun h => ?_) (fun h => ?_) | refine And.intro (by omega) (Exists.intro _ (And.intro (row_atN (by omega)) (And.intro rfl ?_))) | refine And.intro rfl (Exists.intro _ (And.intro rfl ?_)) | refine Exists.intro _ (And.intro rfl ?_))
    have e1 : stL g to (g.map gcells).length = stepM g to := by simp [stL]
    have e2 : (stepM g to).length = (g.map gcells).length := by simp [stepM]
    exact And.intro rfl (congrArg (fun L => [AObj.row 1 (to.map bcells) false, AObj.row 1 (L.map bcells) false]) e1)
end Go.Proofs.Ythpcjekmgohelaa.Ab

/- FUNCTIONS, 11: who reaches, who goes round. -/
namespace Go.Proofs.Ythpcjekmgohelaa.Ab
open Go Go.Proofs
set_option linter.unusedVariables false
set_option linter.unusedSimpArgs false
variable {G : GI}

def isM (n : Netw) (l : List Attr) : Bool := decide (l.length = n.origin.length) && (List.range l.length).all fun k => (l.getD k Attr.zero).same (choiceM n l k)
abbrev isE (n : Netw) (l : List Attr) (i : Nat) : Slots := [(14, .i .i64 (i : Nat)), (13, .i .i64 ((l.map Attr.cells).length : Nat)), (2, .ptr 0 0), (1, .sl (l.map Attr.cells))]
theorem netl_clean (n : Netw) (l : List Attr) (k : Int) : cleanAll [n.av, .sl (l.map Attr.cells), .i .i64 k] = true := by simp only [cleanAll, List.all_cons, clean, Netw.av, n.clean, clean_rows Attr.clean]; rfl

theorem stable_Is_ev (n : Netw) (l : List Attr) (hn : n.ok) (hl : (l.length : Int) ≤ 9223372036854775807) : EvP Try.prog G fn_stable_Is [n.av, .sl (l.map Attr.cells)] (.b (isM n l)) := by
  have c2 := clean_sl Attr.clean l
  refine evP c_stable_Is rfl ?_
  (repeat' first | refine t_seq ?_ | refine t_reg ?_ | refine t_skip ?_ | refine t_scope ?_ | refine t_ret ?_ | refine t_exit ?_ | refine lit_t rfl ?_ | refine lit_f rfl ?_ | refine And.intro (And.intro rfl (Nat.le_of_ble_eq_true rfl)) ?_ | refine c_t rfl ?_ | refine c_f rfl ?_ | (refine sp_t (fun h => ?_) (fun h => ?_) <;> (try simp only [List.length_map] at h)) | (refine sp_f (fun h => ?_) (fun h => ?_) <;> (try simp only [List.length_map] at h)) | refine sq_t (fun h => ?_) (fun h => ?_) | refine sq_f (fun h => ?_) (fun h => ?_) | refine sb_t (fun h => ?_) (fun h => ?_) | refine sb_f (fun h => ?_) (fun h => ?_) | (refine c_nd rfl (fun h => ?_) (fun h => ?_) <;> (try simp only [List.length_map] at h)) | (refine c_d rfl (fun h => ?_) (fun h => ?_) <;> (try simp only [List.length_map] at h)) | refine c_nq rfl (fun h => ?_) (fun h => ?_) | refine c_q rfl (fun h => ?_) (fun h => ?_) | refine c_nb rfl (fun h => ?_) (fun h => ?_) | refine c_b rfl (fun h => ?_) (fun h => ?_) | refine And.intro (by omega) (Exists.intro _ (And.intro (row_atN (by omega)) (And.intro rfl ?_))) | refine And.intro rfl (Exists.intro _ (And.intro rfl ?_)) | refine Exists.intro _ (And.intro rfl ?_))
  · have : isM n l = false := by
      have h' : ¬ l.length = n.origin.length := fun e => h (by simp [e])
      simp [isM, h']
    rw [this]; rfl
  have hlen : l.length = n.origin.length := by omega
  clear h
  refine t_range (l.map Attr.cells).length (by simp; omega) (fun i E H => i ≤ (l.map Attr.cells).length ∧ (∀ k, k < i → (l.getD k Attr.zero).same (choiceM n l k) = true) ∧ E = isE n l i ∧ H = [.box n.cells]) (isE n l 0) [.box n.cells] ?_ ⟨Nat.zero_le _, fun k hk => absurd hk (Nat.not_lt_zero k), rfl, rfl⟩ ?_ ?_ ?_
  · refine moveL [0] rfl (by decide) ⟨.inr ⟨_, rfl, cvO_box n.clean⟩, trivial⟩ ?_
    refine ⟨?_, ?_, ?_, ?_, trivial⟩ <;> (first | exact .cl _ rfl | exact .cl _ (by assumption) | exact cv_ptr (Nat.le_of_ble_eq_true rfl) rfl | exact .nilS | exact cv_own (Nat.le_of_ble_eq_true rfl) rfl | exact cv_row (Nat.le_of_ble_eq_true rfl) rfl | exact cv_mp (Nat.le_of_ble_eq_true rfl) rfl)
  · rintro i E H ⟨hi, _, rfl, rfl⟩; exact ⟨hi, rfl, rfl⟩
  · rintro i E H hlt ⟨hi, hall, rfl, rfl⟩
    have hlt' : i < l.length := by simpa using hlt
    have hg := getD_of (d := Attr.zero) hlt'
    (repeat' first | refine t_seq ?_ | refine t_reg ?_ | refine t_skip ?_ | refine t_scope ?_ | refine t_ret ?_ | refine t_exit ?_ | refine lit_t rfl ?_ | refine lit_f rfl ?_ | refine And.intro (And.intro rfl (Nat.le_of_ble_eq_true rfl)) ?_ | refine c_t rfl ?_ | refine c_f rfl ?_)
    refine And.intro (Int.natCast_nonneg i) (Exists.intro _ (And.intro (row_at hlt') (And.intro rfl ?_)))
    (repeat' first | refine t_seq ?_ | refine t_reg ?_ | refine t_skip ?_ | refine t_scope ?_ | refine t_ret ?_ | refine t_exit ?_ | refine lit_t rfl ?_ | refine lit_f rfl ?_ | refine And.intro (And.intro rfl (Nat.le_of_ble_eq_true rfl)) ?_ | refine c_t rfl ?_ | refine c_f rfl ?_ | (refine sp_t (fun h => ?_) (fun h => ?_) <;> (try simp only [List.length_map] at h)) | (refine sp_f (fun h => ?_) (fun h => ?_) <;> (try simp only [List.length_map] at h)) | refine sq_t (fun h => ?_) (fun h => ?_) | refine sq_f (fun h => ?_) (fun h => ?_) | refine sb_t (fun h => ?_) (fun h => ?_) | refine sb_f (fun h => ?_) (fun h => ?_) | (refine c_nd rfl (fun h => ?_) (fun h => ?_) <;> (try simp only [List.length_map] at h)) | (refine c_d rfl (fun h => ?_) (fun h => ?_) <;> (try simp only [List.length_map] at h)) | refine c_nq rfl (fun h => ?_) (fun h => ?_) | refine c_q rfl (fun h => ?_) (fun h => ?_) | refine c_nb rfl (fun h => ?_) (fun h => ?_) | refine c_b rfl (fun h => ?_) (fun h => ?_) | refine And.intro (by omega) (Exists.intro _ (And.intro (row_atN (by omega)) (And.intro rfl ?_))) | (first | refine call_clean (stable_Choice_ev n l (i : Nat) hn hl) (netl_clean n l _) ?_ | refine call_clean (attr_Same_ev l[i] (choiceM n l (i : Nat))) rfl ?_) | refine And.intro rfl (Exists.intro _ (And.intro rfl ?_)) | refine Exists.intro _ (And.intro rfl ?_))
    · have : isM n l = false := by
        unfold isM
        rw [Bool.and_eq_false_iff]
        right
        rw [List.all_eq_false]
        exact ⟨i, by simpa using hlt', by rw [hg, h]; simp⟩
      rw [this]; rfl
    · refine And.intro rfl ⟨isE n l (i + 1), [.box n.cells], moveL [0] rfl (by decide) ⟨.inr ⟨_, rfl, cvO_box n.clean⟩, trivial⟩ ?_, hlt, fun k hk => ?_, rfl, rfl⟩
      · refine ⟨?_, ?_, ?_, ?_, trivial⟩ <;> (first | exact .cl _ rfl | exact .cl _ (by assumption) | exact cv_ptr (Nat.le_of_ble_eq_true rfl) rfl | exact .nilS | exact cv_own (Nat.le_of_ble_eq_true rfl) rfl | exact cv_row (Nat.le_of_ble_eq_true rfl) rfl | exact cv_mp (Nat.le_of_ble_eq_true rfl) rfl)
      · by_cases e : k = i
        · subst e; rw [hg]; exact h
        · exact hall k (by omega)
  · rintro E H ⟨hi, hall, rfl, rfl⟩
    have : isM n l = true := by
      unfold isM
      rw [Bool.and_eq_true]
      refine ⟨by simp [hlen], List.all_eq_true.2 fun k hk => hall k (by simpa using hk)⟩
    rw [this]
    (repeat' first | refine t_seq ?_ | refine t_reg ?_ | refine t_skip ?_ | refine t_scope ?_ | refine t_ret ?_ | refine t_exit ?_ | refine lit_t rfl ?_ | refine lit_f rfl ?_ | refine And.intro (And.intro rfl (Nat.le_of_ble_eq_true rfl)) ?_ | refine c_t rfl ?_ | refine c_f rfl ?_ | (refine sp_t (fun h => ?_) (fun h => ?_) <;> (try simp only [List.length_map] at h)) | (refine sp_f (fun h => ?_) (fun h => ?_) <;> (try simp only [List.length_map] at h)) | refine sq_t (fun h => ?_) (fun h => ?_) | refine sq_f (fun h => ?_) (fun h => ?_) | refine sb_t (fun h => ?_) (fun h => ?_) | refine sb_f (fun h => ?_) (fun h => ?_) | (refine c_nd rfl (fun h => ?_) (fun h => ?_) <;> (try simp only [List.length_map] at h)) | (refine c_d rfl (fun h => ?_) (fun h => ?_) <;> (try simp only [List.length_map] at h)) | refine c_nq rfl (fun h => ?_) (fun h => ?_) | refine c_q rfl (fun h => ?_) (fun h => ?_) | refine c_nb rfl (fun h => ?_) (fun h => ?_) | refine c_b rfl (fun h => ?_) (fun h => ?_) | refine And.intro (by omega) (Exists.intro _ (And.intro (row_atN (by omega)) (And.intro rfl ?_))) | refine And.intro rfl (Exists.intro _ (And.intro rfl ?_)) | refine Exists.intro _ (And.intro rfl ?_))
    rfl

/-! ### lift.Same -/
structure Ans where
  reach : Bool
  loop : Bool
  hops : List Int
def Ans.cells (a : Ans) : List AVal := [.b a.reach, .b a.loop, .sl (a.hops.map icells)]
def Ans.av (a : Ans) : AVal := .agg a.cells
theorem Ans.clean (a : Ans) : cleanL a.cells = true := by
  simp only [Ans.cells, cleanL, Ab.clean, clean_rows (f := icells) (fun _ => rfl)]; rfl
def ansSame (a b : Ans) : Bool := decide (a.reach = b.reach) && (decide (a.loop = b.loop) && decide (a.hops = b.hops))
abbrev lsE (a b : Ans) (i : Nat) : Slots := [(30, .i .i64 (i : Nat)), (29, .i .i64 ((a.hops.map icells).length : Nat)), (3, .ptr 1 0), (2, .ptr 0 0)]
abbrev lsH (a b : Ans) : Heap := [.box a.cells, .box b.cells]

theorem lift_Same_ev (a b : Ans) (ha : (a.hops.length : Int) ≤ 9223372036854775807) : EvP Try.prog G fn_lift_Same [a.av, b.av] (.b (ansSame a b)) := by
  refine evP c_lift_Same rfl ?_
  (repeat' first | refine t_seq ?_ | refine t_reg ?_ | refine t_skip ?_ | refine t_scope ?_ | refine t_ret ?_ | refine t_exit ?_ | refine lit_t rfl ?_ | refine lit_f rfl ?_ | refine And.intro (And.intro rfl (Nat.le_of_ble_eq_true rfl)) ?_ | refine c_t rfl ?_ | refine c_f rfl ?_ | (refine sp_t (fun h => ?_) (fun h => ?_) <;> (try simp only [List.length_map] at h)) | (refine sp_f (fun h => ?_) (fun h => ?_) <;> (try simp only [List.length_map] at h)) | refine sq_t (fun h => ?_) (fun h => ?_) | refine sq_f (fun h => ?_) (fun h => ?_) | refine sb_t (fun h => ?_) (fun h => ?_) | refine sb_f (fun h => ?_) (fun h => ?_) | (refine c_nd rfl (fun h => ?_) (fun h => ?_) <;> (try simp only [List.length_map] at h)) | (refine c_d rfl (fun h => ?_) (fun h => ?_) <;> (try simp only [List.length_map] at h)) | refine c_nq rfl (fun h => ?_) (fun h => ?_) | refine c_q rfl (fun h => ?_) (fun h => ?_) | refine c_nb rfl (fun h => ?_) (fun h => ?_) | refine c_b rfl (fun h => ?_) (fun h => ?_) | refine And.intro (by omega) (Exists.intro _ (And.intro (row_atN (by omega)) (And.intro rfl ?_))) | refine And.intro rfl (Exists.intro _ (And.intro rfl ?_)) | refine Exists.intro _ (And.intro rfl ?_))
  · have h' : ¬ a.reach = b.reach := by simpa using h
    rw [show ansSame a b = false by simp [ansSame, h']]; rfl
  · have h' : ¬ a.loop = b.loop := by simpa using h
    rw [show ansSame a b = false by simp [ansSame, h']]; rfl
  · have : ansSame a b = false := by
      have hne : a.hops ≠ b.hops := fun e => h (by rw [e])
      simp [ansSame, hne]
    rw [this]; rfl
  have hr : a.reach = b.reach := by rename_i h1 _; simpa using h1
  have hlo : a.loop = b.loop := by rename_i h1; simpa using h1
  have hle : a.hops.length = b.hops.length := by omega
  have hM : ansSame a b = decide (a.hops = b.hops) := by simp [ansSame, hr, hlo]
  refine t_range (a.hops.map icells).length (by simp; omega) (fun i E H => i ≤ (a.hops.map icells).length ∧ a.hops.take i = b.hops.take i ∧ E = lsE a b i ∧ H = lsH a b) (lsE a b 0) (lsH a b) ?_ ⟨Nat.zero_le _, rfl, rfl, rfl⟩ ?_ ?_ ?_
  · refine moveL [0, 1] rfl (by decide) ⟨.inr ⟨_, rfl, cvO_box a.clean⟩, .inr ⟨_, rfl, cvO_box b.clean⟩, trivial⟩ ?_
    refine ⟨?_, ?_, ?_, ?_, trivial⟩ <;> (first | exact .cl _ rfl | exact .cl _ (by assumption) | exact cv_ptr (Nat.le_of_ble_eq_true rfl) rfl | exact .nilS | exact cv_own (Nat.le_of_ble_eq_true rfl) rfl | exact cv_row (Nat.le_of_ble_eq_true rfl) rfl | exact cv_mp (Nat.le_of_ble_eq_true rfl) rfl)
  · rintro i E H ⟨hi, _, rfl, rfl⟩; exact ⟨hi, rfl, rfl⟩
  · rintro i E H hlt ⟨hi, heq, rfl, rfl⟩
    have hlt' : i < a.hops.length := by simpa using hlt
    have hlt2 : i < b.hops.length := by omega
    (repeat' first | refine t_seq ?_ | refine t_reg ?_ | refine t_skip ?_ | refine t_scope ?_ | refine t_ret ?_ | refine t_exit ?_ | refine lit_t rfl ?_ | refine lit_f rfl ?_ | refine And.intro (And.intro rfl (Nat.le_of_ble_eq_true rfl)) ?_ | refine c_t rfl ?_ | refine c_f rfl ?_ | (refine sp_t (fun h => ?_) (fun h => ?_) <;> (try simp only [List.length_map] at h)) | (refine sp_f (fun h => ?_) (fun h => ?_) <;> (try simp only [List.length_map] at h)) | refine sq_t (fun h => ?_) (fun h => ?_) | refine sq_f (fun h => ?_) (fun h => ?_) | refine sb_t (fun h => ?_) (fun h => ?_) | refine sb_f (fun h => ?_) (fun h => ?_) | (refine c_nd rfl (fun h => ?_) (fun h => ?_) <;> (try simp only [List.length_map] at h)) | (refine c_d rfl (fun h => ?_) (fun h => ?_) <;> (try simp only [List.length_map] at h)) | refine c_nq rfl (fun h => ?_) (fun h => ?_) | refine c_q rfl (fun h => ?_) (fun h => ?_) | refine c_nb rfl (fun h => ?_) (fun h => ?_) | refine c_b rfl (fun h => ?_) (fun h => ?_) | refine And.intro (by omega) (Exists.intro _ (And.intro (row_atN (by omega)) (And.intro rfl ?_))) | (first | refine And.intro (Int.natCast_nonneg i) (Exists.intro _ (And.intro (row_at hlt') (And.intro rfl ?_))) | refine And.intro (Int.natCast_nonneg i) (Exists.intro _ (And.intro (row_at hlt2) (And.intro rfl ?_)))) | refine And.intro rfl (Exists.intro _ (And.intro rfl ?_)) | refine Exists.intro _ (And.intro rfl ?_))
    · have : ansSame a b = false := by
        rw [hM]
        refine decide_eq_false fun e => h ?_
        congr 1
      rw [this]; rfl
    · refine And.intro rfl ⟨lsE a b (i + 1), lsH a b, moveL [0, 1] rfl (by decide) ⟨.inr ⟨_, rfl, cvO_box a.clean⟩, .inr ⟨_, rfl, cvO_box b.clean⟩, trivial⟩ ?_, hlt, ?_, rfl, rfl⟩
      · refine ⟨?_, ?_, ?_, ?_, trivial⟩ <;> (first | exact .cl _ rfl | exact .cl _ (by assumption) | exact cv_ptr (Nat.le_of_ble_eq_true rfl) rfl | exact .nilS | exact cv_own (Nat.le_of_ble_eq_true rfl) rfl | exact cv_row (Nat.le_of_ble_eq_true rfl) rfl | exact cv_mp (Nat.le_of_ble_eq_true rfl) rfl)
      · have h' : a.hops[i] = b.hops[i] := h
        rw [List.take_succ_eq_append_getElem hlt', List.take_succ_eq_append_getElem hlt2, heq, h']
  · rintro E H ⟨hi, heq, rfl, rfl⟩
    have : ansSame a b = true := by
      rw [hM]
      simp only [List.length_map] at heq
      rw [List.take_length, hle, List.take_length] at heq
      exact decide_eq_true heq
    rw [this]
    (repeat' first | refine t_seq ?_ | refine t_reg ?_ | refine t_skip ?_ | refine t_scope ?_ | refine t_ret ?_ | refine t_exit ?_ | refine lit_t rfl ?_ | refine lit_f rfl ?_ | refine And.intro (And.intro rfl (Nat.le_of_ble_eq_true rfl)) ?_ | refine c_t rfl ?_ | refine c_f rfl ?_ | (refine sp_t (fun h => ?_) (fun h => ?_) <;> (try simp only [List.length_map] at h)) | (refine sp_f (fun h => ?_) (fun h => ?_) <;> (try simp only [List.length_map] at h)) | refine sq_t (fun h => ?_) (fun h => ?_) | refine sq_f (fun h => ?_) (fun h => ?_) | refine sb_t (fun h => ?_) (fun h => ?_) | refine sb_f (fun h => ?_) (fun h => ?_) | (refine c_nd rfl (fun h => ?_) (fun h => ?_) <;> (try simp only [List.length_map] at h)) | (refine c_d rfl (fun h => ?_) (fun h => ?_) <;> (try simp only [List.length_map] at h)) | refine c_nq rfl (fun h => ?_) (fun h => ?_) | refine c_q rfl (fun h => ?_) (fun h => ?_) | refine c_nb rfl (fun h => ?_) (fun h => ?_) | refine c_b rfl (fun h => ?_) (fun h => ?_) | refine And.intro (by omega) (Exists.intro _ (And.intro (row_atN (by omega)) (And.intro rfl ?_))) | refine And.intro rfl (Exists.intro _ (And.intro rfl ?_)) | refine Exists.intro _ (And.intro rfl ?_))
    rfl

/-! ### forward.Loops -/
def loopsM (g : List (List Int)) : Nat → List Bool
  | 0 => List.replicate g.length true
  | n + 1 => stepM g (loopsM g n)
theorem stepM_len (g : List (List Int)) (to : List Bool) : (stepM g to).length = g.length := by simp [stepM]
theorem loopsM_len (g : List (List Int)) : ∀ n, (loopsM g n).length = g.length
  | 0 => by simp [loopsM]
  | n + 1 => stepM_len g _
def trueL (n i : Nat) : List Bool := List.replicate i true ++ List.replicate (n - i) false
theorem trueL_set {n i : Nat} (h : i < n) : (trueL n i).set i true = trueL n (i + 1) := by
  unfold trueL
  have hl : (List.replicate i true).length = i := by simp
  rw [List.set_append_right i _ (Nat.le_of_eq hl), hl, Nat.sub_self]
  obtain ⟨m, hm⟩ : ∃ m, n - i = m + 1 := ⟨n - i - 1, by omega⟩
  have : n - (i + 1) = m := by omega
  rw [hm, this, List.replicate_succ, List.set_cons_zero, show i + 1 = i + 1 from rfl, List.replicate_succ', List.append_assoc]; rfl
theorem trueL_len {n i : Nat} (h : i ≤ n) : (trueL n i).length = n := by simp [trueL]; omega
theorem trueL_at {n i : Nat} (h : i < n) : (trueL n i)[i]? = some false := by
  unfold trueL
  have hl : (List.replicate i true).length = i := by simp
  rw [List.getElem?_append_right (Nat.le_of_eq hl), hl, Nat.sub_self]
  obtain ⟨m, hm⟩ : ∃ m, n - i = m + 1 := ⟨n - i - 1, by omega⟩
  rw [hm]; rfl
theorem rows_at {α : Type} {f : α → List AVal} {xs : List α} {i : Nat} {x : α} (h : xs[i]? = some x) : (xs.map f)[((i : Nat) : Int).toNat]? = some (f x) := by
  rw [Int.toNat_natCast, List.getElem?_map, h]; rfl
abbrev loE (g : List (List Int)) (i : Nat) : Slots := [(10, .i .i64 (i : Nat)), (9, .i .i64 ((g.map gcells).length : Nat)), (3, .row 0 (g.map gcells).length), (0, .sl (g.map gcells))]
abbrev loF (g : List (List Int)) (i : Nat) : Slots := [(19, .i .i64 (i : Nat)), (18, .i .i64 ((g.map gcells).length : Nat)), (3, .sl ((loopsM g i).map bcells)), (0, .sl (g.map gcells))]
structure GraphOk (g : List (List Int)) : Prop where
  len : (g.length : Int) ≤ 1000000
  row : ∀ next ∈ g, (next.length : Int) ≤ 9223372036854775807
theorem gb_clean (g : List (List Int)) (to : List Bool) : cleanAll [.sl (g.map gcells), .sl (to.map bcells)] = true := by
  simp only [cleanAll, List.all_cons, clean, clean_rows gcells_clean, clean_rows (f := bcells) (fun _ => rfl)]; rfl

theorem forward_Loops_ev (g : List (List Int)) (hg : GraphOk g) : EvP Try.prog G fn_forward_Loops [.sl (g.map gcells)] (.sl ((loopsM g g.length).map bcells)) := by
  have c1 := clean_sl gcells_clean g
  have hlg : (g.map gcells).length = g.length := by simp
  have hgl := hg.len
  refine evP c_forward_Loops rfl ?_
  (repeat' first | refine t_seq ?_ | refine t_reg ?_ | refine t_skip ?_ | refine t_scope ?_ | refine t_ret ?_ | refine t_exit ?_ | refine lit_t rfl ?_ | refine lit_f rfl ?_ | refine And.intro (And.intro rfl (Nat.le_of_ble_eq_true rfl)) ?_ | refine c_t rfl ?_ | refine c_f rfl ?_)
  refine And.intro (And.intro rfl ?_) ?_
  · exact ⟨by omega, by omega, by omega, rfl⟩
  (repeat' first | refine t_seq ?_ | refine t_reg ?_ | refine t_skip ?_ | refine t_scope ?_ | refine t_ret ?_ | refine t_exit ?_ | refine lit_t rfl ?_ | refine lit_f rfl ?_ | refine And.intro (And.intro rfl (Nat.le_of_ble_eq_true rfl)) ?_ | refine c_t rfl ?_ | refine c_f rfl ?_)
  refine t_range (g.map gcells).length (by omega) (fun i E H => i ≤ (g.map gcells).length ∧ E = loE g i ∧ H = [.row 1 ((trueL g.length i).map bcells) false]) (loE g 0) [.row 1 ((trueL g.length 0).map bcells) false] ?_ ⟨Nat.zero_le _, rfl, rfl⟩ ?_ ?_ ?_
  · refine moveL [0] rfl (by decide) ⟨.inr ⟨_, rfl, cvO_row_as (by simp [trueL, bcells]) (clean_rows (fun _ => rfl) _) (len_rows (f := bcells) (fun _ => rfl) _)⟩, trivial⟩ ?_
    refine ⟨?_, ?_, ?_, ?_, trivial⟩ <;> first | (first | exact .cl _ rfl | exact .cl _ (by assumption) | exact cv_ptr (Nat.le_of_ble_eq_true rfl) rfl | exact .nilS | exact cv_own (Nat.le_of_ble_eq_true rfl) rfl | exact cv_row (Nat.le_of_ble_eq_true rfl) rfl | exact cv_mp (Nat.le_of_ble_eq_true rfl) rfl) | (refine cv_row_as (Nat.le_of_ble_eq_true rfl) rfl ?_; simp)
  · rintro i E H ⟨hi, rfl, rfl⟩; exact ⟨hi, rfl, rfl⟩
  · rintro i E H hlt ⟨hi, rfl, rfl⟩
    have hlt' : i < g.length := by omega
    (repeat' first | refine t_seq ?_ | refine t_reg ?_ | refine t_skip ?_ | refine t_scope ?_ | refine t_ret ?_ | refine t_exit ?_ | refine lit_t rfl ?_ | refine lit_f rfl ?_ | refine And.intro (And.intro rfl (Nat.le_of_ble_eq_true rfl)) ?_ | refine c_t rfl ?_ | refine c_f rfl ?_ | (refine sp_t (fun h => ?_) (fun h => ?_) <;> (try simp only [List.length_map] at h)) | (refine sp_f (fun h => ?_) (fun h => ?_) <;> (try simp only [List.length_map] at h)) | refine sq_t (fun h => ?_) (fun h => ?_) | refine sq_f (fun h => ?_) (fun h => ?_) | refine sb_t (fun h => ?_) (fun h => ?_) | refine sb_f (fun h => ?_) (fun h => ?_) | (refine c_nd rfl (fun h => ?_) (fun h => ?_) <;> (try simp only [List.length_map] at h)) | (refine c_d rfl (fun h => ?_) (fun h => ?_) <;> (try simp only [List.length_map] at h)) | refine c_nq rfl (fun h => ?_) (fun h => ?_) | refine c_q rfl (fun h => ?_) (fun h => ?_) | refine c_nb rfl (fun h => ?_) (fun h => ?_) | refine c_b rfl (fun h => ?_) (fun h => ?_) | refine And.intro (by omega) (Exists.intro _ (And.intro (row_atN (by omega)) (And.intro rfl ?_))) | (first | refine And.intro (And.intro (by omega) (by omega)) ?_ | refine And.intro (And.intro rfl (And.intro rfl (Nat.le_of_ble_eq_true rfl))) (Exists.intro _ (And.intro (rows_at (trueL_at hlt')) ?_))) | refine And.intro rfl (Exists.intro _ (And.intro rfl ?_)) | refine Exists.intro _ (And.intro rfl ?_))
    refine And.intro rfl ⟨loE g (i + 1), [.row 1 ((trueL g.length (i + 1)).map bcells) false], moveL [0] rfl (by decide) ⟨.inr ⟨_, rfl, cvO_row_as (by rw [← trueL_set hlt']; exact (set_map (f := bcells)).symm) (clean_rows (fun _ => rfl) _) (len_rows (f := bcells) (fun _ => rfl) _)⟩, trivial⟩ ?_, hlt, rfl, rfl⟩
    refine ⟨?_, ?_, ?_, ?_, trivial⟩ <;> (first | exact .cl _ rfl | exact .cl _ (by assumption) | exact cv_ptr (Nat.le_of_ble_eq_true rfl) rfl | exact .nilS | exact cv_own (Nat.le_of_ble_eq_true rfl) rfl | exact cv_row (Nat.le_of_ble_eq_true rfl) rfl | exact cv_mp (Nat.le_of_ble_eq_true rfl) rfl)
  rintro E H ⟨hi, rfl, rfl⟩
  (repeat' first | refine t_seq ?_ | refine t_reg ?_ | refine t_skip ?_ | refine t_scope ?_ | refine t_ret ?_ | refine t_exit ?_ | refine lit_t rfl ?_ | refine lit_f rfl ?_ | refine And.intro (And.intro rfl (Nat.le_of_ble_eq_true rfl)) ?_ | refine c_t rfl ?_ | refine c_f rfl ?_ | (refine sp_t (fun h => ?_) (fun h => ?_) <;> (try simp only [List.length_map] at h)) | (refine sp_f (fun h => ?_) (fun h => ?_) <;> (try simp only [List.length_map] at h)) | refine sq_t (fun h => ?_) (fun h => ?_) | refine sq_f (fun h => ?_) (fun h => ?_) | refine sb_t (fun h => ?_) (fun h => ?_) | refine sb_f (fun h => ?_) (fun h => ?_) | (refine c_nd rfl (fun h => ?_) (fun h => ?_) <;> (try simp only [List.length_map] at h)) | (refine c_d rfl (fun h => ?_) (fun h => ?_) <;> (try simp only [List.length_map] at h)) | refine c_nq rfl (fun h => ?_) (fun h => ?_) | refine c_q rfl (fun h => ?_) (fun h => ?_) | refine c_nb rfl (fun h => ?_) (fun h => ?_) | refine c_b rfl (fun h => ?_) (fun h => ?_) | refine And.intro (by omega) (Exists.intro _ (And.intro (row_atN (by omega)) (And.intro rfl ?_))) | refine And.intro rfl (Exists.intro _ (And.intro rfl ?_)) | refine Exists.intro _ (And.intro rfl ?_))
  have c2 : ∀ i, clean (.sl ((loopsM g i).map bcells)) = true := fun i => clean_sl (f := bcells) (fun _ => rfl) _
  refine t_range (g.map gcells).length (by omega) (fun i E H => i ≤ (g.map gcells).length ∧ E = loF g i ∧ H = []) (loF g 0) [] ?_ ⟨Nat.zero_le _, rfl, rfl⟩ ?_ ?_ ?_
  · refine moveL [] rfl (by decide) trivial ?_
    refine ⟨?_, ?_, ?_, ?_, trivial⟩ <;> first | (first | exact .cl _ rfl | exact .cl _ (by assumption) | exact cv_ptr (Nat.le_of_ble_eq_true rfl) rfl | exact .nilS | exact cv_own (Nat.le_of_ble_eq_true rfl) rfl | exact cv_row (Nat.le_of_ble_eq_true rfl) rfl | exact cv_mp (Nat.le_of_ble_eq_true rfl) rfl) | skip
    exact cv_frz rfl (fun j o' h => by simp at h) (by rw [hlg]; simp [loopsM, trueL]) (by rw [List.length_map, trueL_len (by omega), hlg]) (clean_rows (fun _ => rfl) _) (len_rows (f := bcells) (fun _ => rfl) _)
  · rintro i E H ⟨hi, rfl, rfl⟩; exact ⟨hi, rfl, rfl⟩
  · rintro i E H hlt ⟨hi, rfl, rfl⟩
    have hll : ((loopsM g i).length : Int) ≤ 9223372036854775807 := by rw [loopsM_len]; omega
    (repeat' first | refine t_seq ?_ | refine t_reg ?_ | refine t_skip ?_ | refine t_scope ?_ | refine t_ret ?_ | refine t_exit ?_ | refine lit_t rfl ?_ | refine lit_f rfl ?_ | refine And.intro (And.intro rfl (Nat.le_of_ble_eq_true rfl)) ?_ | refine c_t rfl ?_ | refine c_f rfl ?_ | (refine sp_t (fun h => ?_) (fun h => ?_) <;> (try simp only [List.length_map] at h)) | (refine sp_f (fun h => ?_) (fun h => ?_) <;> (try simp only [List.length_map] at h)) | refine sq_t (fun h => ?_) (fun h => ?_) | refine sq_f (fun h => ?_) (fun h => ?_) | refine sb_t (fun h => ?_) (fun h => ?_) | refine sb_f (fun h => ?_) (fun h => ?_) | (refine c_nd rfl (fun h => ?_) (fun h => ?_) <;> (try simp only [List.length_map] at h)) | (refine c_d rfl (fun h => ?_) (fun h => ?_) <;> (try simp only [List.length_map] at h)) | refine c_nq rfl (fun h => ?_) (fun h => ?_) | refine c_q rfl (fun h => ?_) (fun h => ?_) | refine c_nb rfl (fun h => ?_) (fun h => ?_) | refine c_b rfl (fun h => ?_) (fun h => ?_) | refine And.intro (by omega) (Exists.intro _ (And.intro (row_atN (by omega)) (And.intro rfl ?_))) | (first | refine call_clean (forward_step_ev g (loopsM g i) hg.len hg.row hll) (gb_clean g _) ?_) | refine And.intro rfl (Exists.intro _ (And.intro rfl ?_)) | refine Exists.intro _ (And.intro rfl ?_))
    refine And.intro rfl ⟨loF g (i + 1), [], moveL [] rfl (by decide) trivial ?_, hlt, rfl, rfl⟩
    have c3 := c2 (i + 1)
    refine ⟨?_, ?_, ?_, ?_, trivial⟩ <;> (first | exact .cl _ rfl | exact .cl _ (by assumption) | exact cv_ptr (Nat.le_of_ble_eq_true rfl) rfl | exact .nilS | exact cv_own (Nat.le_of_ble_eq_true rfl) rfl | exact cv_row (Nat.le_of_ble_eq_true rfl) rfl | exact cv_mp (Nat.le_of_ble_eq_true rfl) rfl)
  · rintro E H ⟨hi, rfl, rfl⟩
    (repeat' first | refine t_seq ?_ | refine t_reg ?_ | refine t_skip ?_ | refine t_scope ?_ | refine t_ret ?_ | refine t_exit ?_ | refine lit_t rfl ?_ | refine lit_f rfl ?_ | refine And.intro (And.intro rfl (Nat.le_of_ble_eq_true rfl)) ?_ | refine c_t rfl ?_ | refine c_f rfl ?_ | (refine sp_t (fun h => ?_) (fun h => ?_) <;> (try simp only [List.length_map] at h)) | (refine sp_f (fun h => ?_) (fun h => ?_) <;> (try simp only [List.length_map] at h)) | refine sq_t (fun h => ?_) (fun h => ?_) | refine sq_f (fun h => ?_) (fun h => ?_) | refine sb_t (fun h => ?_) (fun h => ?_) | refine sb_f (fun h => ?_) (fun h => ?_) | (refine c_nd rfl (fun h => ?_) (fun h => ?_) <;> (try simp only [List.length_map] at h)) | (refine c_d rfl (fun h => ?_) (fun h => ?_) <;> (try simp only [List.length_map] at h)) | refine c_nq rfl (fun h => ?_) (fun h => ?_) | refine c_q rfl (fun h => ?_) (fun h => ?_) | refine c_nb rfl (fun h => ?_) (fun h => ?_) | refine c_b rfl (fun h => ?_) (fun h => ?_) | refine And.intro (by omega) (Exists.intro _ (And.intro (row_atN (by omega)) (And.intro rfl ?_))) | refine And.intro rfl (Exists.intro _ (And.intro rfl ?_)) | refine Exists.intro _ (And.intro rfl ?_))
    rw [← hlg]
    exact frz_clean (c2 _)
end Go.Proofs.Ythpcjekmgohelaa.Ab
