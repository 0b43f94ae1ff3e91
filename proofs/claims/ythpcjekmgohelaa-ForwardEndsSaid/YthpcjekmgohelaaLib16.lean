/- FUNCTIONS, 16: forward.Of. -/
import Derived.Test.YthpcjekmgohelaaLib15
set_option linter.unusedVariables false
set_option linter.unusedSimpArgs false
namespace Go.Proofs.Ythpcjekmgohelaa.Ab
open Go Go.Proofs
set_option linter.unusedVariables false
set_option linter.unusedSimpArgs false
variable {G : GI}

/-- What is sorted: nothing. -/
theorem sort_nil_ev : EvP Try.prog G fn_slices_Sort_int [.sl []] (.tup []) := by
  have h1 : EvP Try.prog G fn_slices_insertionSortOrdered_t [.sl [], .i .i64 0, .i .i64 0] (.tup []) := by
    refine evP c_slices_insertionSortOrdered_t rfl ?_
    (repeat' first | refine t_seq ?_ | refine t_reg ?_ | refine t_skip ?_ | refine t_scope ?_ | refine t_ret ?_ | refine t_exit ?_ | refine lit_t rfl ?_ | refine lit_f rfl ?_ | refine And.intro (And.intro rfl (Nat.le_of_ble_eq_true rfl)) ?_ | refine c_t rfl ?_ | refine c_f rfl ?_)
    refine t_block (t_loopM (fun _ E' H' => E' = _ ∧ H' = _) 0 _ _ (Move.refl _ _ _) ⟨rfl, rfl⟩ ?_)
    rintro n E H ⟨rfl, rfl⟩
    (repeat' first | refine t_seq ?_ | refine t_reg ?_ | refine t_skip ?_ | refine t_scope ?_ | refine t_ret ?_ | refine t_exit ?_ | refine lit_t rfl ?_ | refine lit_f rfl ?_ | refine And.intro (And.intro rfl (Nat.le_of_ble_eq_true rfl)) ?_ | refine c_t rfl ?_ | refine c_f rfl ?_)
    (repeat' first | refine t_seq ?_ | refine t_reg ?_ | refine t_skip ?_ | refine t_scope ?_ | refine t_ret ?_ | refine t_exit ?_ | refine lit_t rfl ?_ | refine lit_f rfl ?_ | refine And.intro (And.intro rfl (Nat.le_of_ble_eq_true rfl)) ?_ | refine c_t rfl ?_ | refine c_f rfl ?_ | (refine sp_t (fun h => ?_) (fun h => ?_) <;> (try simp only [List.length_map] at h)) | (refine sp_f (fun h => ?_) (fun h => ?_) <;> (try simp only [List.length_map] at h)) | refine sq_t (fun h => ?_) (fun h => ?_) | refine sq_f (fun h => ?_) (fun h => ?_) | refine sb_t (fun h => ?_) (fun h => ?_) | refine sb_f (fun h => ?_) (fun h => ?_) | (refine c_nd rfl (fun h => ?_) (fun h => ?_) <;> (try simp only [List.length_map] at h)) | (refine c_d rfl (fun h => ?_) (fun h => ?_) <;> (try simp only [List.length_map] at h)) | refine c_nq rfl (fun h => ?_) (fun h => ?_) | refine c_q rfl (fun h => ?_) (fun h => ?_) | refine c_nb rfl (fun h => ?_) (fun h => ?_) | refine c_b rfl (fun h => ?_) (fun h => ?_) | refine And.intro (by omega) (Exists.intro _ (And.intro (row_atN (by omega)) (And.intro rfl ?_))) | refine And.intro rfl (Exists.intro _ (And.intro rfl ?_)) | refine Exists.intro _ (And.intro rfl ?_))
    rfl
  have h2 : ∀ k, EvP Try.prog G fn_slices_pdqsortOrdered_t [.sl [], .i .i64 0, .i .i64 0, .i .i64 k] (.tup []) := by
    intro k
    refine evP c_slices_pdqsortOrdered_t rfl ?_
    (repeat' first | refine t_seq ?_ | refine t_reg ?_ | refine t_skip ?_ | refine t_scope ?_ | refine t_ret ?_ | refine t_exit ?_ | refine lit_t rfl ?_ | refine lit_f rfl ?_ | refine And.intro (And.intro rfl (Nat.le_of_ble_eq_true rfl)) ?_ | refine c_t rfl ?_ | refine c_f rfl ?_)
    refine t_block (t_loopM (fun _ E' H' => E' = _ ∧ H' = _) 0 _ _ (Move.refl _ _ _) ⟨rfl, rfl⟩ ?_)
    rintro n E H ⟨rfl, rfl⟩
    refine t_block ?_
    (repeat' first | refine t_seq ?_ | refine t_reg ?_ | refine t_skip ?_ | refine t_scope ?_ | refine t_ret ?_ | refine t_exit ?_ | refine lit_t rfl ?_ | refine lit_f rfl ?_ | refine And.intro (And.intro rfl (Nat.le_of_ble_eq_true rfl)) ?_ | refine c_t rfl ?_ | refine c_f rfl ?_ | (refine sp_t (fun h => ?_) (fun h => ?_) <;> (try simp only [List.length_map] at h)) | (refine sp_f (fun h => ?_) (fun h => ?_) <;> (try simp only [List.length_map] at h)) | refine sq_t (fun h => ?_) (fun h => ?_) | refine sq_f (fun h => ?_) (fun h => ?_) | refine sb_t (fun h => ?_) (fun h => ?_) | refine sb_f (fun h => ?_) (fun h => ?_) | (refine c_nd rfl (fun h => ?_) (fun h => ?_) <;> (try simp only [List.length_map] at h)) | (refine c_d rfl (fun h => ?_) (fun h => ?_) <;> (try simp only [List.length_map] at h)) | refine c_nq rfl (fun h => ?_) (fun h => ?_) | refine c_q rfl (fun h => ?_) (fun h => ?_) | refine c_nb rfl (fun h => ?_) (fun h => ?_) | refine c_b rfl (fun h => ?_) (fun h => ?_) | refine And.intro (by omega) (Exists.intro _ (And.intro (row_atN (by omega)) (And.intro rfl ?_))) | (first | refine call_clean h1 rfl ?_) | refine And.intro rfl (Exists.intro _ (And.intro rfl ?_)) | refine Exists.intro _ (And.intro rfl ?_))
    rfl
  refine evP c_slices_Sort_int rfl ?_
  (repeat' first | refine t_seq ?_ | refine t_reg ?_ | refine t_skip ?_ | refine t_scope ?_ | refine t_ret ?_ | refine t_exit ?_ | refine lit_t rfl ?_ | refine lit_f rfl ?_ | refine And.intro (And.intro rfl (Nat.le_of_ble_eq_true rfl)) ?_ | refine c_t rfl ?_ | refine c_f rfl ?_ | (refine sp_t (fun h => ?_) (fun h => ?_) <;> (try simp only [List.length_map] at h)) | (refine sp_f (fun h => ?_) (fun h => ?_) <;> (try simp only [List.length_map] at h)) | refine sq_t (fun h => ?_) (fun h => ?_) | refine sq_f (fun h => ?_) (fun h => ?_) | refine sb_t (fun h => ?_) (fun h => ?_) | refine sb_f (fun h => ?_) (fun h => ?_) | (refine c_nd rfl (fun h => ?_) (fun h => ?_) <;> (try simp only [List.length_map] at h)) | (refine c_d rfl (fun h => ?_) (fun h => ?_) <;> (try simp only [List.length_map] at h)) | refine c_nq rfl (fun h => ?_) (fun h => ?_) | refine c_q rfl (fun h => ?_) (fun h => ?_) | refine c_nb rfl (fun h => ?_) (fun h => ?_) | refine c_b rfl (fun h => ?_) (fun h => ?_) | refine And.intro (by omega) (Exists.intro _ (And.intro (row_atN (by omega)) (And.intro rfl ?_))) | (first | refine call_clean (bitsLen_ev 0 (by decide)) rfl ?_ | refine call_clean (h2 _) rfl ?_) | refine And.intro rfl (Exists.intro _ (And.intro rfl ?_)) | refine Exists.intro _ (And.intro rfl ?_))
  rfl

theorem flat_unit : flat (.tup []) = true := by simp [flat]

/-- Edges in the order of those from whom they come, up to twelve. -/
structure Netw.rise (n : Netw) : Prop where
  ord : ∀ es ∈ n.edges, (es.map Edg.from_).Pairwise (· < ·)
  few : ∀ es ∈ n.edges, es.length ≤ 12

def ofRow (n : Netw) (l : List Attr) (k : Nat) : List Int :=
  if n.origin.getD k false then [] else if k < n.static.length ∧ 0 ≤ n.static.getD k 0 then [n.static.getD k 0] else
  if k < l.length ∧ (l.getD k Attr.zero).ok = true then ((n.edges.getD k []).filter fun e => (offerOf l e).same (l.getD k Attr.zero)).map Edg.from_ else []
def ofM (n : Netw) (l : List Attr) : List (List Int) := (List.range n.origin.length).map (ofRow n l)
def ofPre (n : Netw) (l : List Attr) (i : Nat) : List AVal := (List.range i).map fun k => .sl ((ofRow n l k).map icells)
theorem ofPre_len (n : Netw) (l : List Attr) (i : Nat) : (ofPre n l i).length = i := by simp [ofPre]
theorem ofPre_stays (n : Netw) (l : List Attr) (i : Nat) : ∀ c ∈ ofPre n l i, Stays c := by
  intro c hc
  obtain ⟨k, _, rfl⟩ := List.mem_map.1 hc
  exact .inl (clean_sl (f := icells) (fun _ => rfl) _)
def ofRows (n : Netw) (l : List Attr) (i : Nat) : List (List AVal) := (ofPre n l i).map (fun c => [c]) ++ (List.replicate (n.origin.length - i) AVal.nilS).map fun c => [c]
theorem ofRows_at (n : Netw) (l : List Attr) (i : Nat) (h : i < n.origin.length) : ofRows n l i = R3 (ofPre n l i) .nilS (List.replicate (n.origin.length - (i + 1)) .nilS) := by
  obtain ⟨m, hm⟩ : ∃ m, n.origin.length - i = m + 1 := ⟨n.origin.length - i - 1, by omega⟩
  have : n.origin.length - (i + 1) = m := by omega
  unfold ofRows R3
  rw [hm, this, List.replicate_succ]; rfl
theorem ofRows_next (n : Netw) (l : List Attr) (i : Nat) (h : i < n.origin.length) : ofRows n l (i + 1) = R3 (ofPre n l i) (.sl ((ofRow n l i).map icells)) (List.replicate (n.origin.length - (i + 1)) .nilS) := by
  unfold ofRows R3 ofPre
  rw [List.range_succ, List.map_append, List.map_append, List.append_assoc]; rfl
theorem ofRows_zero (n : Netw) (l : List Attr) : ofRows n l 0 = List.replicate n.origin.length [.nilS] := by simp [ofRows, ofPre]
theorem ofRows_all (n : Netw) (l : List Attr) : ofRows n l n.origin.length = (ofM n l).map gcells := by simp [ofRows, ofPre, ofM, gcells]
theorem ofRows_len (n : Netw) (l : List Attr) (i : Nat) (h : i ≤ n.origin.length) : (ofRows n l i).length = n.origin.length := by simp [ofRows, ofPre]; omega

abbrev ooE (n : Netw) (l : List Attr) (i : Nat) : Slots := [(15, .i .i64 (i : Nat)), (14, .i .i64 ((n.origin.map bcells).length : Nat)), (5, .row 1 (n.origin.map bcells).length), (2, .ptr 0 0), (1, .sl (l.map Attr.cells))]
abbrev ooH (n : Netw) (l : List Attr) (i : Nat) : Heap := [.box n.cells, .row 1 (ofRows n l i) false]
abbrev ooF (n : Netw) (l : List Attr) (os : List Attr) (i j : Nat) : Slots := [(64, .i .i64 (j : Nat)), (63, .i .i64 ((os.map Attr.cells).length : Nat)), (62, .sl (os.map Attr.cells)), (6, .i .i64 (i : Nat)), (15, .i .i64 (i : Nat)), (14, .i .i64 ((n.origin.map bcells).length : Nat)), (5, .row 1 (n.origin.map bcells).length), (2, .ptr 0 0), (1, .sl (l.map Attr.cells))]
/-- The nodes found so far. -/
def ofFound (l : List Attr) (es : List Edg) (a : Attr) (j : Nat) : List Int := ((es.take j).filter fun e => (offerOf l e).same a).map Edg.from_
abbrev ooJ (n : Netw) (l : List Attr) (i : Nat) (fs : List Int) : Heap := [.box n.cells, .row 1 (R3 (ofPre n l i) (own (fs.map icells) 2) (List.replicate (n.origin.length - (i + 1)) .nilS)) false, ownO 1 (fs.map icells)]

set_option maxHeartbeats 2000000 in
theorem forward_Of_ev (n : Netw) (l : List Attr) (hn : n.ok) (hr : n.rise) (ho : (n.origin.length : Int) ≤ 1000000) (hl : (l.length : Int) ≤ 9223372036854775807) : EvP Try.prog G fn_forward_Of [n.av, .sl (l.map Attr.cells)] (.sl ((ofM n l).map gcells)) := by
  have c1 := clean_sl Attr.clean l
  have hlo : (n.origin.map bcells).length = n.origin.length := by simp
  refine evP c_forward_Of rfl ?_
  (repeat' first | refine t_seq ?_ | refine t_reg ?_ | refine t_skip ?_ | refine t_scope ?_ | refine t_ret ?_ | refine t_exit ?_ | refine lit_t rfl ?_ | refine lit_f rfl ?_ | refine And.intro (And.intro rfl (Nat.le_of_ble_eq_true rfl)) ?_ | refine c_t rfl ?_ | refine c_f rfl ?_)
  refine And.intro (And.intro rfl ?_) ?_
  · exact ⟨by omega, by omega, by omega, rfl⟩
  (repeat' first | refine t_seq ?_ | refine t_reg ?_ | refine t_skip ?_ | refine t_scope ?_ | refine t_ret ?_ | refine t_exit ?_ | refine lit_t rfl ?_ | refine lit_f rfl ?_ | refine And.intro (And.intro rfl (Nat.le_of_ble_eq_true rfl)) ?_ | refine c_t rfl ?_ | refine c_f rfl ?_)
  refine t_range (n.origin.map bcells).length (by omega) (fun i E H => i ≤ (n.origin.map bcells).length ∧ E = ooE n l i ∧ H = ooH n l i) (ooE n l 0) (ooH n l 0) ?_ ⟨Nat.zero_le _, rfl, rfl⟩ ?_ ?_ ?_
  · refine moveL [0, 1] rfl (by decide) ⟨.inr ⟨_, rfl, cvO_box n.clean⟩, .inr ⟨_, rfl, ?_⟩, trivial⟩ ?_
    · refine .row 1 _ _ false false (fun h => h) ?_ ?_ ?_
      · rw [ofRows_zero]; simp
      · rw [ofRows_zero]; intro r hr; rw [List.eq_of_mem_replicate hr]; rfl
      · intro i j hi hj
        rw [ofRows_zero] at hi ⊢
        have hj0 : j = 0 := by omega
        subst hj0
        have : ∀ n, i < n → (List.replicate n [AVal.nilS]).getD i [] = [.nilS] := fun n h => by
          rw [List.getD_eq_getElem?_getD, List.getElem?_replicate, if_pos h]; rfl
        rw [List.length_replicate] at hi
        rw [this _ hi, show (((n.origin.map bcells).length : Nat) : Int).toNat = n.origin.length by rw [Int.toNat_natCast, hlo], this _ hi]
        exact .nilS
    · refine ⟨?_, ?_, ?_, ?_, ?_, trivial⟩ <;> first | (first | exact .cl _ rfl | exact .cl _ (by assumption) | exact cv_ptr (Nat.le_of_ble_eq_true rfl) rfl | exact .nilS | exact cv_own (Nat.le_of_ble_eq_true rfl) rfl | exact cv_row (Nat.le_of_ble_eq_true rfl) rfl | exact cv_mp (Nat.le_of_ble_eq_true rfl) rfl) | exact cv_row_as (Nat.le_of_ble_eq_true rfl) rfl rfl
  · rintro i E H ⟨hi, rfl, rfl⟩; exact ⟨hi, rfl, rfl⟩
  · rintro i E H hlt ⟨hi, rfl, rfl⟩
    have hlt' : i < n.origin.length := by omega
    have hN := ofRows_next n l i hlt'
    have hA := ofRows_at n l i hlt'
    have hP := ofPre_len n l i
    have hS := ofPre_stays n l i
    have hgo := getD_of (d := false) hlt'
    -- what stands at the end of a round
    have fin : ∀ (E : Slots) (H : Heap) (v : AVal) (rows : List (List AVal)), look E 15 = .i .i64 (i : Nat) → look E 14 = .i .i64 ((n.origin.map bcells).length : Nat) → look E 5 = .row 1 (n.origin.map bcells).length → look E 2 = .ptr 0 0 → look E 1 = .sl (l.map Attr.cells) →
        H[0]? = some (.box n.cells) → H[1]? = some (.row 1 rows false) → rows = R3 (ofPre n l i) v (List.replicate (n.origin.length - (i + 1)) .nilS) →
        Cv (sOf [0, 1]) (· < (ooH n l (i + 1)).length) H (still [0, 1] (ooH n l (i + 1))) v (.sl ((ofRow n l i).map icells)) →
        look E 15 = .i .i64 (i : Nat) ∧ ∃ E' H', Move 0 ((15, .i .i64 ((i + 1 : Nat) : Int)) :: (99, .i .i64 ((i + 1 : Nat) : Int)) :: E) H E' H' ∧ i + 1 ≤ (n.origin.map bcells).length ∧ E' = ooE n l (i + 1) ∧ H' = ooH n l (i + 1) := by
      intro E H v rows e1 e2 e3 e4 e5 h1 h2 h3 h4
      refine ⟨e1, ooE n l (i + 1), ooH n l (i + 1), moveL [0, 1] rfl (by decide) ⟨.inr ⟨_, h1, cvO_box n.clean⟩, .inr ⟨_, h2, ?_⟩, trivial⟩ ?_, hlt, rfl, rfl⟩
      · rw [hN]; exact cvO_R3_as h3 hS stays_nil h4
      · refine ⟨.cl _ rfl, cv_as e2.symm rfl, ?_, ?_, cv_as e5.symm c1, trivial⟩
        · rw [show look ((15, AVal.i IntKind.i64 ((i + 1 : Nat) : Int)) :: (99, AVal.i IntKind.i64 ((i + 1 : Nat) : Int)) :: E) 5 = look E 5 from rfl, e3]; exact cv_row (Nat.le_of_ble_eq_true rfl) rfl
        · rw [show look ((15, AVal.i IntKind.i64 ((i + 1 : Nat) : Int)) :: (99, AVal.i IntKind.i64 ((i + 1 : Nat) : Int)) :: E) 2 = look E 2 from rfl, e4]; exact cv_ptr (Nat.le_of_ble_eq_true rfl) rfl
    have hatn : (ofRows n l i)[((i : Nat) : Int).toNat]? = some [.nilS] := by rw [hA]; exact R3_at hP
    have hnil : ofRow n l i = [] → Cv (sOf [0, 1]) (· < (ooH n l (i + 1)).length) (ooH n l i) (still [0, 1] (ooH n l (i + 1))) .nilS (.sl ((ofRow n l i).map icells)) := fun e => by rw [e]; exact .nil
    have hes : i < n.edges.length → ∀ a ∈ offersM n l (i : Nat), True := fun _ _ _ => trivial
    (repeat' first | refine t_seq ?_ | refine t_reg ?_ | refine t_skip ?_ | refine t_scope ?_ | refine t_ret ?_ | refine t_exit ?_ | refine lit_t rfl ?_ | refine lit_f rfl ?_ | refine And.intro (And.intro rfl (Nat.le_of_ble_eq_true rfl)) ?_ | refine c_t rfl ?_ | refine c_f rfl ?_ | (refine sp_t (fun h => ?_) (fun h => ?_) <;> (try simp only [List.length_map] at h)) | (refine sp_f (fun h => ?_) (fun h => ?_) <;> (try simp only [List.length_map] at h)) | refine sq_t (fun h => ?_) (fun h => ?_) | refine sq_f (fun h => ?_) (fun h => ?_) | refine sb_t (fun h => ?_) (fun h => ?_) | refine sb_f (fun h => ?_) (fun h => ?_) | (refine c_nd rfl (fun h => ?_) (fun h => ?_) <;> (try simp only [List.length_map] at h)) | (refine c_d rfl (fun h => ?_) (fun h => ?_) <;> (try simp only [List.length_map] at h)) | refine c_nq rfl (fun h => ?_) (fun h => ?_) | refine c_q rfl (fun h => ?_) (fun h => ?_) | refine c_nb rfl (fun h => ?_) (fun h => ?_) | refine c_b rfl (fun h => ?_) (fun h => ?_) | refine And.intro (by omega) (Exists.intro _ (And.intro (row_atN (by omega)) (And.intro rfl ?_))) | (first | refine t_block ?_ | refine And.intro (Int.natCast_nonneg i) (Exists.intro _ (And.intro (row_at hlt') (And.intro rfl ?_))) | refine And.intro (Int.natCast_nonneg i) (Exists.intro _ (And.intro (row_at (by omega)) (And.intro rfl ?_))) | refine And.intro (And.intro rfl (And.intro rfl (Nat.le_of_ble_eq_true rfl))) (Exists.intro _ (And.intro (hatn) ?_)) | refine And.intro (And.intro (by omega) (by omega)) ?_) | refine And.intro rfl (Exists.intro _ (And.intro rfl ?_)) | refine Exists.intro _ (And.intro rfl ?_))
    · have hrow : ofRow n l i = [] := by unfold ofRow; rw [if_pos (by rw [hgo]; exact h)]
      exact fin _ _ .nilS _ rfl rfl rfl rfl rfl rfl rfl hA (hnil hrow)
    · rename_i h1 h2
      simp only [Int.toNat_natCast] at h h1 h2
      have hrow : ofRow n l i = [n.static[i]] := by
        have e : n.static.getD i 0 = n.static[i] := getD_of (by omega)
        unfold ofRow; rw [if_neg (by rw [hgo, h1]; decide), if_pos ⟨by omega, by rw [e]; exact h⟩, e]
      exact fin _ _ (.sl [icells n.static[i]]) _ rfl rfl rfl rfl rfl rfl rfl (by rw [hA]; exact R3_set hP) (cv_as (by rw [hrow]; rfl) (by rw [hrow]; rfl))
    · rename_i h1 h2 h3 h4
      simp only [Int.toNat_natCast] at h h1 h2 h3 h4
      have hrow : ofRow n l i = ((n.edges.getD i []).filter fun e => (offerOf l e).same (l.getD i Attr.zero)).map Edg.from_ := by
        have e : n.static.getD i 0 = n.static[i] := getD_of (by omega)
        have e2 : l.getD i Attr.zero = l[i] := getD_of (by omega)
        unfold ofRow; rw [if_neg (by rw [hgo, h1]; decide), if_neg (by rw [e]; omega), if_pos ⟨by omega, by rw [e2]; exact h⟩]
      obtain ⟨es, hM, hE⟩ : ∃ es, offersM n l (i : Nat) = es.map (offerOf l) ∧ n.edges.getD i [] = es := by
        refine ⟨_, ?_, rfl⟩
        unfold offersM
        by_cases e : i < n.edges.length
        · rw [if_pos (by omega)]; rfl
        · rw [if_neg (by omega), List.getD_eq_getElem?_getD, List.getElem?_eq_none (by omega)]; rfl
      have hgl : l.getD i Attr.zero = l[i] := getD_of (by omega)
      have hes : ∀ j, j < es.length → ∃ hie : i < n.edges.length, n.edges[i] = es := by
        intro j hj
        by_cases e : i < n.edges.length
        · exact ⟨e, by rw [← hE]; exact (getD_of e).symm⟩
        · rw [List.getD_eq_getElem?_getD, List.getElem?_eq_none (by omega)] at hE
          simp only [Option.getD_none] at hE; subst hE; simp at hj
      have hfew : es.length ≤ 12 := by
        by_cases e : 0 < es.length
        · obtain ⟨hie, h'⟩ := hes 0 e
          exact hr.few es (h' ▸ List.getElem_mem hie)
        · omega
      have hrise : (es.map Edg.from_).Pairwise (· < ·) := by
        by_cases e : 0 < es.length
        · obtain ⟨hie, h'⟩ := hes 0 e
          exact hr.ord es (h' ▸ List.getElem_mem hie)
        · have h0 : es = [] := List.length_eq_zero_iff.1 (by omega)
          rw [h0]; exact List.Pairwise.nil
      have hrow' : ofRow n l i = (es.filter fun e => (offerOf l e).same l[i]).map Edg.from_ := by rw [hrow, hE, hgl]
      have hoff : EvP Try.prog G fn_stable_Offers [n.av, .sl (l.map Attr.cells), .i .i64 (i : Nat)] (.sl ((es.map (offerOf l)).map Attr.cells)) := hM ▸ stable_Offers_ev n l (i : Nat) hn hl
      have cO := clean_sl Attr.clean (es.map (offerOf l))
      have hlO : ((es.map (offerOf l)).map Attr.cells).length = es.length := by simp
      have hli : i < l.length := by omega
      (repeat' first | refine t_seq ?_ | refine t_reg ?_ | refine t_skip ?_ | refine t_scope ?_ | refine t_ret ?_ | refine t_exit ?_ | refine lit_t rfl ?_ | refine lit_f rfl ?_ | refine And.intro (And.intro rfl (Nat.le_of_ble_eq_true rfl)) ?_ | refine c_t rfl ?_ | refine c_f rfl ?_ | (refine sp_t (fun h => ?_) (fun h => ?_) <;> (try simp only [List.length_map] at h)) | (refine sp_f (fun h => ?_) (fun h => ?_) <;> (try simp only [List.length_map] at h)) | refine sq_t (fun h => ?_) (fun h => ?_) | refine sq_f (fun h => ?_) (fun h => ?_) | refine sb_t (fun h => ?_) (fun h => ?_) | refine sb_f (fun h => ?_) (fun h => ?_) | (refine c_nd rfl (fun h => ?_) (fun h => ?_) <;> (try simp only [List.length_map] at h)) | (refine c_d rfl (fun h => ?_) (fun h => ?_) <;> (try simp only [List.length_map] at h)) | refine c_nq rfl (fun h => ?_) (fun h => ?_) | refine c_q rfl (fun h => ?_) (fun h => ?_) | refine c_nb rfl (fun h => ?_) (fun h => ?_) | refine c_b rfl (fun h => ?_) (fun h => ?_) | refine And.intro (by omega) (Exists.intro _ (And.intro (row_atN (by omega)) (And.intro rfl ?_))) | (first | refine call_clean hoff (netl_clean n l _) ?_) | refine And.intro rfl (Exists.intro _ (And.intro rfl ?_)) | refine Exists.intro _ (And.intro rfl ?_))
      refine t_range ((es.map (offerOf l)).map Attr.cells).length (by omega) (fun j E H => j ≤ ((es.map (offerOf l)).map Attr.cells).length ∧ E = ooF n l (es.map (offerOf l)) i j ∧ H = ooJ n l i (ofFound l es l[i] j)) (ooF n l (es.map (offerOf l)) i 0) (ooJ n l i (ofFound l es l[i] 0)) ?_ ⟨Nat.zero_le _, rfl, rfl⟩ ?_ ?_ ?_
      · refine moveL [0, 1, 99] rfl (by decide) ⟨.inr ⟨_, rfl, cvO_box n.clean⟩, .inr ⟨_, rfl, cvO_R3_as hA hS stays_nil .nilS⟩, .inl rfl, trivial⟩ ?_
        refine ⟨?_, ?_, ?_, ?_, ?_, ?_, ?_, ?_, ?_, trivial⟩ <;> (first | exact .cl _ rfl | exact .cl _ (by assumption) | exact cv_ptr (Nat.le_of_ble_eq_true rfl) rfl | exact .nilS | exact cv_own (Nat.le_of_ble_eq_true rfl) rfl | exact cv_row (Nat.le_of_ble_eq_true rfl) rfl | exact cv_mp (Nat.le_of_ble_eq_true rfl) rfl)
      · rintro j E H ⟨hj, rfl, rfl⟩; exact ⟨hj, rfl, rfl⟩
      · rintro j E H hltj ⟨hj, rfl, rfl⟩
        have hltj' : j < es.length := by omega
        obtain ⟨hie, hes'⟩ := hes j hltj'
        have hoat : ((es.map (offerOf l)).map Attr.cells)[((j : Nat) : Int).toNat]? = some (offerOf l es[j]).cells := rows_at (f := Attr.cells) (by simp [hltj'])
        have hate : (n.edges.map ecells)[((i : Nat) : Int).toNat]? = some (ecells es) := by rw [row_at hie, hes']
        have hfl : ((ofFound l es l[i] j).map icells).length ≤ 12 := by
          unfold ofFound
          rw [List.length_map, List.length_map]
          exact Nat.le_trans (List.length_filter_le _ _) (Nat.le_trans (List.length_take_le _ _) (by omega))
        have hnext : ofFound l es l[i] (j + 1) = ofFound l es l[i] j ++ (if (offerOf l es[j]).same l[i] then [es[j].from_] else []) := by
          unfold ofFound
          rw [List.take_succ_eq_append_getElem hltj', List.filter_append, List.map_append]
          congr 1
          by_cases h0 : (offerOf l es[j]).same l[i] = true
          · rw [if_pos h0, List.filter_cons, if_pos h0]; rfl
          · rw [if_neg h0, List.filter_cons, if_neg h0]; rfl
        have hcl : ∀ fs : List Int, cleanLL (fs.map icells) = true := fun fs => clean_rows (fun _ => rfl) _
        have hcr : ∀ fs : List Int, ∀ r ∈ fs.map icells, r.length = 1 := fun fs => len_rows (f := icells) (fun _ => rfl) _
        (repeat' first | refine t_seq ?_ | refine t_reg ?_ | refine t_skip ?_ | refine t_scope ?_ | refine t_ret ?_ | refine t_exit ?_ | refine lit_t rfl ?_ | refine lit_f rfl ?_ | refine And.intro (And.intro rfl (Nat.le_of_ble_eq_true rfl)) ?_ | refine c_t rfl ?_ | refine c_f rfl ?_ | (first | refine And.intro (Int.natCast_nonneg j) (Exists.intro _ (And.intro hoat (And.intro rfl ?_))) | refine And.intro (Int.natCast_nonneg i) (Exists.intro _ (And.intro (row_at hli) (And.intro rfl ?_))) | refine And.intro (Int.natCast_nonneg i) (Exists.intro _ (And.intro hate (And.intro rfl ?_))) | refine And.intro (Int.natCast_nonneg j) (Exists.intro _ (And.intro (row_at hltj') (And.intro rfl ?_))) | refine call_clean (attr_Same_ev (offerOf l es[j]) l[i]) rfl ?_ | refine And.intro rfl (Exists.intro _ (And.intro (R3_at hP) (Exists.intro _ (And.intro rfl ?_)))) | refine frcV_go ?_ | (refine Exists.intro [_] (And.intro rfl (And.intro (all_one rfl) (app_one ((ofFound l es l[i] j).map icells) 2 rfl rfl (rfl) ?_ ?_))); omega) | refine And.intro (And.intro rfl (And.intro rfl (Nat.le_of_ble_eq_true rfl))) (Exists.intro _ (And.intro (R3_at hP) ?_)) | refine And.intro (And.intro (by omega) (by omega)) ?_) | (refine sp_t (fun h => ?_) (fun h => ?_) <;> (try simp only [List.length_map] at h)) | (refine sp_f (fun h => ?_) (fun h => ?_) <;> (try simp only [List.length_map] at h)) | refine sq_t (fun h => ?_) (fun h => ?_) | refine sq_f (fun h => ?_) (fun h => ?_) | refine sb_t (fun h => ?_) (fun h => ?_) | refine sb_f (fun h => ?_) (fun h => ?_) | (refine c_nd rfl (fun h => ?_) (fun h => ?_) <;> (try simp only [List.length_map] at h)) | (refine c_d rfl (fun h => ?_) (fun h => ?_) <;> (try simp only [List.length_map] at h)) | refine c_nq rfl (fun h => ?_) (fun h => ?_) | refine c_q rfl (fun h => ?_) (fun h => ?_) | refine c_nb rfl (fun h => ?_) (fun h => ?_) | refine c_b rfl (fun h => ?_) (fun h => ?_) | refine And.intro rfl (Exists.intro _ (And.intro rfl ?_)) | refine Exists.intro _ (And.intro rfl ?_))
        · have hnx : ofFound l es l[i] (j + 1) = ofFound l es l[i] j ++ [es[j].from_] := by rw [hnext, if_pos h]
          refine And.intro rfl ⟨ooF n l (es.map (offerOf l)) i (j + 1), ooJ n l i (ofFound l es l[i] (j + 1)), moveL [0, 1, 4] rfl (by decide) ⟨.inr ⟨_, rfl, cvO_box n.clean⟩, .inr ⟨_, rfl, cvO_R3_as (R3_set hP) hS stays_nil (cv_own_new (Nat.le_of_ble_eq_true rfl) (by rw [hnx]; simp) (by rw [hnx]; simp) rfl)⟩, .inr ⟨_, rfl, cvO_own_as (by rw [hnx, List.map_append]; rfl) (hcl _) (hcr _)⟩, trivial⟩ ?_, hltj, rfl, rfl⟩
          refine ⟨?_, ?_, ?_, ?_, ?_, ?_, ?_, ?_, ?_, trivial⟩ <;> (first | exact .cl _ rfl | exact .cl _ (by assumption) | exact cv_ptr (Nat.le_of_ble_eq_true rfl) rfl | exact .nilS | exact cv_own (Nat.le_of_ble_eq_true rfl) rfl | exact cv_row (Nat.le_of_ble_eq_true rfl) rfl | exact cv_mp (Nat.le_of_ble_eq_true rfl) rfl)
        · have hnx : ofFound l es l[i] (j + 1) = ofFound l es l[i] j := by rw [hnext, if_neg (by rw [h]; decide), List.append_nil]
          refine And.intro rfl ⟨ooF n l (es.map (offerOf l)) i (j + 1), ooJ n l i (ofFound l es l[i] (j + 1)), ?_, hltj, rfl, rfl⟩
          rw [hnx]
          refine moveL [0, 1, 2] rfl (by decide) ⟨.inr ⟨_, rfl, cvO_box n.clean⟩, .inr ⟨_, rfl, cvO_R3 hS stays_nil (cv_own (Nat.le_of_ble_eq_true rfl) rfl)⟩, .inr ⟨_, rfl, cvO_own (hcl _) (hcr _)⟩, trivial⟩ ?_
          refine ⟨?_, ?_, ?_, ?_, ?_, ?_, ?_, ?_, ?_, trivial⟩ <;> (first | exact .cl _ rfl | exact .cl _ (by assumption) | exact cv_ptr (Nat.le_of_ble_eq_true rfl) rfl | exact .nilS | exact cv_own (Nat.le_of_ble_eq_true rfl) rfl | exact cv_row (Nat.le_of_ble_eq_true rfl) rfl | exact cv_mp (Nat.le_of_ble_eq_true rfl) rfl)
      · rintro E H ⟨hj, rfl, rfl⟩
        have hcl : ∀ fs : List Int, cleanLL (fs.map icells) = true := fun fs => clean_rows (fun _ => rfl) _
        have hcr : ∀ fs : List Int, ∀ r ∈ fs.map icells, r.length = 1 := fun fs => len_rows (f := icells) (fun _ => rfl) _
        have hR : ofFound l es l[i] ((es.map (offerOf l)).map Attr.cells).length = ofRow n l i := by rw [hrow', hlO]; unfold ofFound; rw [List.take_length]
        have hRl : (ofRow n l i).length ≤ 12 := by
          rw [hrow', List.length_map]; exact Nat.le_trans (List.length_filter_le _ _) hfew
        have hRs : (ofRow n l i).Pairwise (· < ·) := by
          rw [hrow']
          exact hrise.sublist ((List.filter_sublist).map _)
        have hsrt : isG lessI (ofRow n l i) (ofRow n l i).length = ofRow n l i := isG_sorted (fun j hj => by
          have := List.pairwise_iff_getElem.1 hRs j (j + 1) (by omega) hj (by omega)
          exact decide_eq_false (by omega)) _ (Nat.le_refl _)
        have hsort := sort_evS (G := G) (ofRow n l i) ((ofRow n l i).map icells).length (by simp) hRl
        rw [hsrt] at hsort
        rw [hR]
        generalize ofRow n l i = R at hsort fin
        cases R with
        | nil =>
          (repeat' first | refine t_seq ?_ | refine t_reg ?_ | refine t_skip ?_ | refine t_scope ?_ | refine t_ret ?_ | refine t_exit ?_ | refine lit_t rfl ?_ | refine lit_f rfl ?_ | refine And.intro (And.intro rfl (Nat.le_of_ble_eq_true rfl)) ?_ | refine c_t rfl ?_ | refine c_f rfl ?_ | (first | refine And.intro rfl (Exists.intro _ (And.intro (R3_at hP) (Exists.intro _ (And.intro rfl ?_)))) | refine And.intro (And.intro (by omega) (by omega)) ?_) | (refine sp_t (fun h => ?_) (fun h => ?_) <;> (try simp only [List.length_map] at h)) | (refine sp_f (fun h => ?_) (fun h => ?_) <;> (try simp only [List.length_map] at h)) | refine sq_t (fun h => ?_) (fun h => ?_) | refine sq_f (fun h => ?_) (fun h => ?_) | refine sb_t (fun h => ?_) (fun h => ?_) | refine sb_f (fun h => ?_) (fun h => ?_) | (refine c_nd rfl (fun h => ?_) (fun h => ?_) <;> (try simp only [List.length_map] at h)) | (refine c_d rfl (fun h => ?_) (fun h => ?_) <;> (try simp only [List.length_map] at h)) | refine c_nq rfl (fun h => ?_) (fun h => ?_) | refine c_q rfl (fun h => ?_) (fun h => ?_) | refine c_nb rfl (fun h => ?_) (fun h => ?_) | refine c_b rfl (fun h => ?_) (fun h => ?_) | refine And.intro rfl (Exists.intro _ (And.intro rfl ?_)) | refine Exists.intro _ (And.intro rfl ?_))
          refine call_flat sort_nil_ev rfl flat_unit ?_
          (repeat' first | refine t_seq ?_ | refine t_reg ?_ | refine t_skip ?_ | refine t_scope ?_ | refine t_ret ?_ | refine t_exit ?_ | refine lit_t rfl ?_ | refine lit_f rfl ?_ | refine And.intro (And.intro rfl (Nat.le_of_ble_eq_true rfl)) ?_ | refine c_t rfl ?_ | refine c_f rfl ?_)
          exact fin _ _ (own (([] : List Int).map icells) 2) _ rfl rfl rfl rfl rfl rfl rfl rfl .nil
        | cons x xs =>
          (repeat' first | refine t_seq ?_ | refine t_reg ?_ | refine t_skip ?_ | refine t_scope ?_ | refine t_ret ?_ | refine t_exit ?_ | refine lit_t rfl ?_ | refine lit_f rfl ?_ | refine And.intro (And.intro rfl (Nat.le_of_ble_eq_true rfl)) ?_ | refine c_t rfl ?_ | refine c_f rfl ?_ | (first | refine And.intro rfl (Exists.intro _ (And.intro (R3_at hP) (Exists.intro _ (And.intro rfl ?_)))) | refine And.intro (And.intro (by omega) (by omega)) ?_ | refine call_heap (EvS.one 2 hsort rfl rfl (fun j hj => ?_) (hcl _) (hcr _) (hcl _) (hcr _) rfl) ?_) | (refine sp_t (fun h => ?_) (fun h => ?_) <;> (try simp only [List.length_map] at h)) | (refine sp_f (fun h => ?_) (fun h => ?_) <;> (try simp only [List.length_map] at h)) | refine sq_t (fun h => ?_) (fun h => ?_) | refine sq_f (fun h => ?_) (fun h => ?_) | refine sb_t (fun h => ?_) (fun h => ?_) | refine sb_f (fun h => ?_) (fun h => ?_) | (refine c_nd rfl (fun h => ?_) (fun h => ?_) <;> (try simp only [List.length_map] at h)) | (refine c_d rfl (fun h => ?_) (fun h => ?_) <;> (try simp only [List.length_map] at h)) | refine c_nq rfl (fun h => ?_) (fun h => ?_) | refine c_q rfl (fun h => ?_) (fun h => ?_) | refine c_nb rfl (fun h => ?_) (fun h => ?_) | refine c_b rfl (fun h => ?_) (fun h => ?_) | refine And.intro rfl (Exists.intro _ (And.intro rfl ?_)) | refine Exists.intro _ (And.intro rfl ?_))
          · match j, hj with
            | 0, _ => exact .inr ⟨_, rfl, rfl⟩
          · (repeat' first | refine t_seq ?_ | refine t_reg ?_ | refine t_skip ?_ | refine t_scope ?_ | refine t_ret ?_ | refine t_exit ?_ | refine lit_t rfl ?_ | refine lit_f rfl ?_ | refine And.intro (And.intro rfl (Nat.le_of_ble_eq_true rfl)) ?_ | refine c_t rfl ?_ | refine c_f rfl ?_)
            exact fin _ _ (own ((x :: xs).map icells) 2) _ rfl rfl rfl rfl rfl rfl rfl rfl (cv_frz rfl (still_of (by rfl) (by rfl)) rfl rfl (hcl _) (hcr _))
    · rename_i h1 h2 h3 h4
      simp only [Int.toNat_natCast] at h h1 h2 h3 h4
      have hrow : ofRow n l i = [] := by
        have e : n.static.getD i 0 = n.static[i] := getD_of (by omega)
        have e2 : l.getD i Attr.zero = l[i] := getD_of (by omega)
        unfold ofRow; rw [if_neg (by rw [hgo, h1]; decide), if_neg (by rw [e]; omega), if_neg (by rw [e2, h]; simp)]
      exact fin _ _ .nilS _ rfl rfl rfl rfl rfl rfl rfl hA (hnil hrow)
    · rename_i h1 h2 h3
      simp only [Int.toNat_natCast] at h h1 h2 h3
      have hrow : ofRow n l i = [] := by
        have e : n.static.getD i 0 = n.static[i] := getD_of (by omega)
        unfold ofRow; rw [if_neg (by rw [hgo, h1]; decide), if_neg (by rw [e]; omega), if_neg (by omega)]
      exact fin _ _ .nilS _ rfl rfl rfl rfl rfl rfl rfl hA (hnil hrow)
    · rename_i h1 h2 h3
      simp only [Int.toNat_natCast] at h h1 h2 h3
      have hrow : ofRow n l i = ((n.edges.getD i []).filter fun e => (offerOf l e).same (l.getD i Attr.zero)).map Edg.from_ := by
        have e2 : l.getD i Attr.zero = l[i] := getD_of (by omega)
        unfold ofRow; rw [if_neg (by rw [hgo, h1]; decide), if_neg (by omega), if_pos ⟨by omega, by rw [e2]; exact h⟩]
      obtain ⟨es, hM, hE⟩ : ∃ es, offersM n l (i : Nat) = es.map (offerOf l) ∧ n.edges.getD i [] = es := by
        refine ⟨_, ?_, rfl⟩
        unfold offersM
        by_cases e : i < n.edges.length
        · rw [if_pos (by omega)]; rfl
        · rw [if_neg (by omega), List.getD_eq_getElem?_getD, List.getElem?_eq_none (by omega)]; rfl
      have hgl : l.getD i Attr.zero = l[i] := getD_of (by omega)
      have hes : ∀ j, j < es.length → ∃ hie : i < n.edges.length, n.edges[i] = es := by
        intro j hj
        by_cases e : i < n.edges.length
        · exact ⟨e, by rw [← hE]; exact (getD_of e).symm⟩
        · rw [List.getD_eq_getElem?_getD, List.getElem?_eq_none (by omega)] at hE
          simp only [Option.getD_none] at hE; subst hE; simp at hj
      have hfew : es.length ≤ 12 := by
        by_cases e : 0 < es.length
        · obtain ⟨hie, h'⟩ := hes 0 e
          exact hr.few es (h' ▸ List.getElem_mem hie)
        · omega
      have hrise : (es.map Edg.from_).Pairwise (· < ·) := by
        by_cases e : 0 < es.length
        · obtain ⟨hie, h'⟩ := hes 0 e
          exact hr.ord es (h' ▸ List.getElem_mem hie)
        · have h0 : es = [] := List.length_eq_zero_iff.1 (by omega)
          rw [h0]; exact List.Pairwise.nil
      have hrow' : ofRow n l i = (es.filter fun e => (offerOf l e).same l[i]).map Edg.from_ := by rw [hrow, hE, hgl]
      have hoff : EvP Try.prog G fn_stable_Offers [n.av, .sl (l.map Attr.cells), .i .i64 (i : Nat)] (.sl ((es.map (offerOf l)).map Attr.cells)) := hM ▸ stable_Offers_ev n l (i : Nat) hn hl
      have cO := clean_sl Attr.clean (es.map (offerOf l))
      have hlO : ((es.map (offerOf l)).map Attr.cells).length = es.length := by simp
      have hli : i < l.length := by omega
      (repeat' first | refine t_seq ?_ | refine t_reg ?_ | refine t_skip ?_ | refine t_scope ?_ | refine t_ret ?_ | refine t_exit ?_ | refine lit_t rfl ?_ | refine lit_f rfl ?_ | refine And.intro (And.intro rfl (Nat.le_of_ble_eq_true rfl)) ?_ | refine c_t rfl ?_ | refine c_f rfl ?_ | (refine sp_t (fun h => ?_) (fun h => ?_) <;> (try simp only [List.length_map] at h)) | (refine sp_f (fun h => ?_) (fun h => ?_) <;> (try simp only [List.length_map] at h)) | refine sq_t (fun h => ?_) (fun h => ?_) | refine sq_f (fun h => ?_) (fun h => ?_) | refine sb_t (fun h => ?_) (fun h => ?_) | refine sb_f (fun h => ?_) (fun h => ?_) | (refine c_nd rfl (fun h => ?_) (fun h => ?_) <;> (try simp only [List.length_map] at h)) | (refine c_d rfl (fun h => ?_) (fun h => ?_) <;> (try simp only [List.length_map] at h)) | refine c_nq rfl (fun h => ?_) (fun h => ?_) | refine c_q rfl (fun h => ?_) (fun h => ?_) | refine c_nb rfl (fun h => ?_) (fun h => ?_) | refine c_b rfl (fun h => ?_) (fun h => ?_) | refine And.intro (by omega) (Exists.intro _ (And.intro (row_atN (by omega)) (And.intro rfl ?_))) | (first | refine call_clean hoff (netl_clean n l _) ?_) | refine And.intro rfl (Exists.intro _ (And.intro rfl ?_)) | refine Exists.intro _ (And.intro rfl ?_))
      refine t_range ((es.map (offerOf l)).map Attr.cells).length (by omega) (fun j E H => j ≤ ((es.map (offerOf l)).map Attr.cells).length ∧ E = ooF n l (es.map (offerOf l)) i j ∧ H = ooJ n l i (ofFound l es l[i] j)) (ooF n l (es.map (offerOf l)) i 0) (ooJ n l i (ofFound l es l[i] 0)) ?_ ⟨Nat.zero_le _, rfl, rfl⟩ ?_ ?_ ?_
      · refine moveL [0, 1, 99] rfl (by decide) ⟨.inr ⟨_, rfl, cvO_box n.clean⟩, .inr ⟨_, rfl, cvO_R3_as hA hS stays_nil .nilS⟩, .inl rfl, trivial⟩ ?_
        refine ⟨?_, ?_, ?_, ?_, ?_, ?_, ?_, ?_, ?_, trivial⟩ <;> (first | exact .cl _ rfl | exact .cl _ (by assumption) | exact cv_ptr (Nat.le_of_ble_eq_true rfl) rfl | exact .nilS | exact cv_own (Nat.le_of_ble_eq_true rfl) rfl | exact cv_row (Nat.le_of_ble_eq_true rfl) rfl | exact cv_mp (Nat.le_of_ble_eq_true rfl) rfl)
      · rintro j E H ⟨hj, rfl, rfl⟩; exact ⟨hj, rfl, rfl⟩
      · rintro j E H hltj ⟨hj, rfl, rfl⟩
        have hltj' : j < es.length := by omega
        obtain ⟨hie, hes'⟩ := hes j hltj'
        have hoat : ((es.map (offerOf l)).map Attr.cells)[((j : Nat) : Int).toNat]? = some (offerOf l es[j]).cells := rows_at (f := Attr.cells) (by simp [hltj'])
        have hate : (n.edges.map ecells)[((i : Nat) : Int).toNat]? = some (ecells es) := by rw [row_at hie, hes']
        have hfl : ((ofFound l es l[i] j).map icells).length ≤ 12 := by
          unfold ofFound
          rw [List.length_map, List.length_map]
          exact Nat.le_trans (List.length_filter_le _ _) (Nat.le_trans (List.length_take_le _ _) (by omega))
        have hnext : ofFound l es l[i] (j + 1) = ofFound l es l[i] j ++ (if (offerOf l es[j]).same l[i] then [es[j].from_] else []) := by
          unfold ofFound
          rw [List.take_succ_eq_append_getElem hltj', List.filter_append, List.map_append]
          congr 1
          by_cases h0 : (offerOf l es[j]).same l[i] = true
          · rw [if_pos h0, List.filter_cons, if_pos h0]; rfl
          · rw [if_neg h0, List.filter_cons, if_neg h0]; rfl
        have hcl : ∀ fs : List Int, cleanLL (fs.map icells) = true := fun fs => clean_rows (fun _ => rfl) _
        have hcr : ∀ fs : List Int, ∀ r ∈ fs.map icells, r.length = 1 := fun fs => len_rows (f := icells) (fun _ => rfl) _
        (repeat' first | refine t_seq ?_ | refine t_reg ?_ | refine t_skip ?_ | refine t_scope ?_ | refine t_ret ?_ | refine t_exit ?_ | refine lit_t rfl ?_ | refine lit_f rfl ?_ | refine And.intro (And.intro rfl (Nat.le_of_ble_eq_true rfl)) ?_ | refine c_t rfl ?_ | refine c_f rfl ?_ | (first | refine And.intro (Int.natCast_nonneg j) (Exists.intro _ (And.intro hoat (And.intro rfl ?_))) | refine And.intro (Int.natCast_nonneg i) (Exists.intro _ (And.intro (row_at hli) (And.intro rfl ?_))) | refine And.intro (Int.natCast_nonneg i) (Exists.intro _ (And.intro hate (And.intro rfl ?_))) | refine And.intro (Int.natCast_nonneg j) (Exists.intro _ (And.intro (row_at hltj') (And.intro rfl ?_))) | refine call_clean (attr_Same_ev (offerOf l es[j]) l[i]) rfl ?_ | refine And.intro rfl (Exists.intro _ (And.intro (R3_at hP) (Exists.intro _ (And.intro rfl ?_)))) | refine frcV_go ?_ | (refine Exists.intro [_] (And.intro rfl (And.intro (all_one rfl) (app_one ((ofFound l es l[i] j).map icells) 2 rfl rfl (rfl) ?_ ?_))); omega) | refine And.intro (And.intro rfl (And.intro rfl (Nat.le_of_ble_eq_true rfl))) (Exists.intro _ (And.intro (R3_at hP) ?_)) | refine And.intro (And.intro (by omega) (by omega)) ?_) | (refine sp_t (fun h => ?_) (fun h => ?_) <;> (try simp only [List.length_map] at h)) | (refine sp_f (fun h => ?_) (fun h => ?_) <;> (try simp only [List.length_map] at h)) | refine sq_t (fun h => ?_) (fun h => ?_) | refine sq_f (fun h => ?_) (fun h => ?_) | refine sb_t (fun h => ?_) (fun h => ?_) | refine sb_f (fun h => ?_) (fun h => ?_) | (refine c_nd rfl (fun h => ?_) (fun h => ?_) <;> (try simp only [List.length_map] at h)) | (refine c_d rfl (fun h => ?_) (fun h => ?_) <;> (try simp only [List.length_map] at h)) | refine c_nq rfl (fun h => ?_) (fun h => ?_) | refine c_q rfl (fun h => ?_) (fun h => ?_) | refine c_nb rfl (fun h => ?_) (fun h => ?_) | refine c_b rfl (fun h => ?_) (fun h => ?_) | refine And.intro rfl (Exists.intro _ (And.intro rfl ?_)) | refine Exists.intro _ (And.intro rfl ?_))
        · have hnx : ofFound l es l[i] (j + 1) = ofFound l es l[i] j ++ [es[j].from_] := by rw [hnext, if_pos h]
          refine And.intro rfl ⟨ooF n l (es.map (offerOf l)) i (j + 1), ooJ n l i (ofFound l es l[i] (j + 1)), moveL [0, 1, 4] rfl (by decide) ⟨.inr ⟨_, rfl, cvO_box n.clean⟩, .inr ⟨_, rfl, cvO_R3_as (R3_set hP) hS stays_nil (cv_own_new (Nat.le_of_ble_eq_true rfl) (by rw [hnx]; simp) (by rw [hnx]; simp) rfl)⟩, .inr ⟨_, rfl, cvO_own_as (by rw [hnx, List.map_append]; rfl) (hcl _) (hcr _)⟩, trivial⟩ ?_, hltj, rfl, rfl⟩
          refine ⟨?_, ?_, ?_, ?_, ?_, ?_, ?_, ?_, ?_, trivial⟩ <;> (first | exact .cl _ rfl | exact .cl _ (by assumption) | exact cv_ptr (Nat.le_of_ble_eq_true rfl) rfl | exact .nilS | exact cv_own (Nat.le_of_ble_eq_true rfl) rfl | exact cv_row (Nat.le_of_ble_eq_true rfl) rfl | exact cv_mp (Nat.le_of_ble_eq_true rfl) rfl)
        · have hnx : ofFound l es l[i] (j + 1) = ofFound l es l[i] j := by rw [hnext, if_neg (by rw [h]; decide), List.append_nil]
          refine And.intro rfl ⟨ooF n l (es.map (offerOf l)) i (j + 1), ooJ n l i (ofFound l es l[i] (j + 1)), ?_, hltj, rfl, rfl⟩
          rw [hnx]
          refine moveL [0, 1, 2] rfl (by decide) ⟨.inr ⟨_, rfl, cvO_box n.clean⟩, .inr ⟨_, rfl, cvO_R3 hS stays_nil (cv_own (Nat.le_of_ble_eq_true rfl) rfl)⟩, .inr ⟨_, rfl, cvO_own (hcl _) (hcr _)⟩, trivial⟩ ?_
          refine ⟨?_, ?_, ?_, ?_, ?_, ?_, ?_, ?_, ?_, trivial⟩ <;> (first | exact .cl _ rfl | exact .cl _ (by assumption) | exact cv_ptr (Nat.le_of_ble_eq_true rfl) rfl | exact .nilS | exact cv_own (Nat.le_of_ble_eq_true rfl) rfl | exact cv_row (Nat.le_of_ble_eq_true rfl) rfl | exact cv_mp (Nat.le_of_ble_eq_true rfl) rfl)
      · rintro E H ⟨hj, rfl, rfl⟩
        have hcl : ∀ fs : List Int, cleanLL (fs.map icells) = true := fun fs => clean_rows (fun _ => rfl) _
        have hcr : ∀ fs : List Int, ∀ r ∈ fs.map icells, r.length = 1 := fun fs => len_rows (f := icells) (fun _ => rfl) _
        have hR : ofFound l es l[i] ((es.map (offerOf l)).map Attr.cells).length = ofRow n l i := by rw [hrow', hlO]; unfold ofFound; rw [List.take_length]
        have hRl : (ofRow n l i).length ≤ 12 := by
          rw [hrow', List.length_map]; exact Nat.le_trans (List.length_filter_le _ _) hfew
        have hRs : (ofRow n l i).Pairwise (· < ·) := by
          rw [hrow']
          exact hrise.sublist ((List.filter_sublist).map _)
        have hsrt : isG lessI (ofRow n l i) (ofRow n l i).length = ofRow n l i := isG_sorted (fun j hj => by
          have := List.pairwise_iff_getElem.1 hRs j (j + 1) (by omega) hj (by omega)
          exact decide_eq_false (by omega)) _ (Nat.le_refl _)
        have hsort := sort_evS (G := G) (ofRow n l i) ((ofRow n l i).map icells).length (by simp) hRl
        rw [hsrt] at hsort
        rw [hR]
        generalize ofRow n l i = R at hsort fin
        cases R with
        | nil =>
          (repeat' first | refine t_seq ?_ | refine t_reg ?_ | refine t_skip ?_ | refine t_scope ?_ | refine t_ret ?_ | refine t_exit ?_ | refine lit_t rfl ?_ | refine lit_f rfl ?_ | refine And.intro (And.intro rfl (Nat.le_of_ble_eq_true rfl)) ?_ | refine c_t rfl ?_ | refine c_f rfl ?_ | (first | refine And.intro rfl (Exists.intro _ (And.intro (R3_at hP) (Exists.intro _ (And.intro rfl ?_)))) | refine And.intro (And.intro (by omega) (by omega)) ?_) | (refine sp_t (fun h => ?_) (fun h => ?_) <;> (try simp only [List.length_map] at h)) | (refine sp_f (fun h => ?_) (fun h => ?_) <;> (try simp only [List.length_map] at h)) | refine sq_t (fun h => ?_) (fun h => ?_) | refine sq_f (fun h => ?_) (fun h => ?_) | refine sb_t (fun h => ?_) (fun h => ?_) | refine sb_f (fun h => ?_) (fun h => ?_) | (refine c_nd rfl (fun h => ?_) (fun h => ?_) <;> (try simp only [List.length_map] at h)) | (refine c_d rfl (fun h => ?_) (fun h => ?_) <;> (try simp only [List.length_map] at h)) | refine c_nq rfl (fun h => ?_) (fun h => ?_) | refine c_q rfl (fun h => ?_) (fun h => ?_) | refine c_nb rfl (fun h => ?_) (fun h => ?_) | refine c_b rfl (fun h => ?_) (fun h => ?_) | refine And.intro rfl (Exists.intro _ (And.intro rfl ?_)) | refine Exists.intro _ (And.intro rfl ?_))
          refine call_flat sort_nil_ev rfl flat_unit ?_
          (repeat' first | refine t_seq ?_ | refine t_reg ?_ | refine t_skip ?_ | refine t_scope ?_ | refine t_ret ?_ | refine t_exit ?_ | refine lit_t rfl ?_ | refine lit_f rfl ?_ | refine And.intro (And.intro rfl (Nat.le_of_ble_eq_true rfl)) ?_ | refine c_t rfl ?_ | refine c_f rfl ?_)
          exact fin _ _ (own (([] : List Int).map icells) 2) _ rfl rfl rfl rfl rfl rfl rfl rfl .nil
        | cons x xs =>
          (repeat' first | refine t_seq ?_ | refine t_reg ?_ | refine t_skip ?_ | refine t_scope ?_ | refine t_ret ?_ | refine t_exit ?_ | refine lit_t rfl ?_ | refine lit_f rfl ?_ | refine And.intro (And.intro rfl (Nat.le_of_ble_eq_true rfl)) ?_ | refine c_t rfl ?_ | refine c_f rfl ?_ | (first | refine And.intro rfl (Exists.intro _ (And.intro (R3_at hP) (Exists.intro _ (And.intro rfl ?_)))) | refine And.intro (And.intro (by omega) (by omega)) ?_ | refine call_heap (EvS.one 2 hsort rfl rfl (fun j hj => ?_) (hcl _) (hcr _) (hcl _) (hcr _) rfl) ?_) | (refine sp_t (fun h => ?_) (fun h => ?_) <;> (try simp only [List.length_map] at h)) | (refine sp_f (fun h => ?_) (fun h => ?_) <;> (try simp only [List.length_map] at h)) | refine sq_t (fun h => ?_) (fun h => ?_) | refine sq_f (fun h => ?_) (fun h => ?_) | refine sb_t (fun h => ?_) (fun h => ?_) | refine sb_f (fun h => ?_) (fun h => ?_) | (refine c_nd rfl (fun h => ?_) (fun h => ?_) <;> (try simp only [List.length_map] at h)) | (refine c_d rfl (fun h => ?_) (fun h => ?_) <;> (try simp only [List.length_map] at h)) | refine c_nq rfl (fun h => ?_) (fun h => ?_) | refine c_q rfl (fun h => ?_) (fun h => ?_) | refine c_nb rfl (fun h => ?_) (fun h => ?_) | refine c_b rfl (fun h => ?_) (fun h => ?_) | refine And.intro rfl (Exists.intro _ (And.intro rfl ?_)) | refine Exists.intro _ (And.intro rfl ?_))
          · match j, hj with
            | 0, _ => exact .inr ⟨_, rfl, rfl⟩
          · (repeat' first | refine t_seq ?_ | refine t_reg ?_ | refine t_skip ?_ | refine t_scope ?_ | refine t_ret ?_ | refine t_exit ?_ | refine lit_t rfl ?_ | refine lit_f rfl ?_ | refine And.intro (And.intro rfl (Nat.le_of_ble_eq_true rfl)) ?_ | refine c_t rfl ?_ | refine c_f rfl ?_)
            exact fin _ _ (own ((x :: xs).map icells) 2) _ rfl rfl rfl rfl rfl rfl rfl rfl (cv_frz rfl (still_of (by rfl) (by rfl)) rfl rfl (hcl _) (hcr _))
    · rename_i h1 h2 h3
      simp only [Int.toNat_natCast] at h h1 h2 h3
      have hrow : ofRow n l i = [] := by
        have e2 : l.getD i Attr.zero = l[i] := getD_of (by omega)
        unfold ofRow; rw [if_neg (by rw [hgo, h1]; decide), if_neg (by omega), if_neg (by rw [e2, h]; simp)]
      exact fin _ _ .nilS _ rfl rfl rfl rfl rfl rfl rfl hA (hnil hrow)
    · rename_i h1 h2
      simp only [Int.toNat_natCast] at h h1 h2
      have hrow : ofRow n l i = [] := by
        unfold ofRow; rw [if_neg (by rw [hgo, h1]; decide), if_neg (by omega), if_neg (by omega)]
      exact fin _ _ .nilS _ rfl rfl rfl rfl rfl rfl rfl hA (hnil hrow)
  · rintro E H ⟨hi, rfl, rfl⟩
    (repeat' first | refine t_seq ?_ | refine t_reg ?_ | refine t_skip ?_ | refine t_scope ?_ | refine t_ret ?_ | refine t_exit ?_ | refine lit_t rfl ?_ | refine lit_f rfl ?_ | refine And.intro (And.intro rfl (Nat.le_of_ble_eq_true rfl)) ?_ | refine c_t rfl ?_ | refine c_f rfl ?_ | (refine sp_t (fun h => ?_) (fun h => ?_) <;> (try simp only [List.length_map] at h)) | (refine sp_f (fun h => ?_) (fun h => ?_) <;> (try simp only [List.length_map] at h)) | refine sq_t (fun h => ?_) (fun h => ?_) | refine sq_f (fun h => ?_) (fun h => ?_) | refine sb_t (fun h => ?_) (fun h => ?_) | refine sb_f (fun h => ?_) (fun h => ?_) | (refine c_nd rfl (fun h => ?_) (fun h => ?_) <;> (try simp only [List.length_map] at h)) | (refine c_d rfl (fun h => ?_) (fun h => ?_) <;> (try simp only [List.length_map] at h)) | refine c_nq rfl (fun h => ?_) (fun h => ?_) | refine c_q rfl (fun h => ?_) (fun h => ?_) | refine c_nb rfl (fun h => ?_) (fun h => ?_) | refine c_b rfl (fun h => ?_) (fun h => ?_) | refine And.intro (by omega) (Exists.intro _ (And.intro (row_atN (by omega)) (And.intro rfl ?_))) | refine And.intro rfl (Exists.intro _ (And.intro rfl ?_)) | refine Exists.intro _ (And.intro rfl ?_))
    refine frz_row (rows' := (ofM n l).map gcells) rfl (by rw [hlo, ofRows_all]) (by simp [ofM]) (clean_rows gcells_clean _)
end Go.Proofs.Ythpcjekmgohelaa.Ab
