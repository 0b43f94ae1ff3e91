/- FUNCTIONS, 30: ForwardOf. -/
import Derived.Test.YthpcjekmgohelaaLib22
import Derived.Test.YthpcjekmgohelaaLib17
set_option linter.unusedVariables false
set_option linter.unusedSimpArgs false
namespace Go.Proofs.Ythpcjekmgohelaa.Ab
open Go Go.Proofs
set_option linter.unusedVariables false
set_option linter.unusedSimpArgs false

theorem net_lens (s : Shp) (to : Pfx) : (netM (confM s) to).static.length = s.n ∧ (netM (confM s) to).edges.length = s.n := by simp [netM, confM]

/-! ### Sets of numbers -/
def encB (M : List Int) : List (AVal × AVal) := M.map fun k => (.i .i64 k, .b true)
theorem encB_len (M : List Int) : (encB M).length = M.length := by simp [encB]
theorem putM_B (k : Int) : ∀ M : List Int, k ∉ M → putM (.leaf .int) (.i .i64 k) (.b true) (encB M) = some (encB (M ++ [k]))
  | [], _ => rfl
  | m :: M, h => by
    have ih := putM_B k M fun hm => h (.tail _ hm)
    have hne : (k == m) = false := by simp only [beq_eq_false_iff_ne]; rintro rfl; exact h (.head _)
    simp only [encB] at ih
    simp only [encB, List.map_cons, List.cons_append, putM, eqA, leafEq, if_true, hne, ih]
    rfl
theorem findM_B (k : Int) : ∀ M : List Int, k ∈ M → findM (.leaf .int) (.i .i64 k) (encB M) = some (some (.b true))
  | m :: M, h => by
    simp only [encB, List.map_cons, findM, eqA, leafEq, if_true]
    by_cases e : k = m
    · subst e; simp
    · have hne : (k == m) = false := by simp only [beq_eq_false_iff_ne]; exact e
      rw [hne]
      rcases List.mem_cons.1 h with h | h
      · exact absurd h e
      · exact findM_B k M h
theorem cvO_mapB {σ : Nat → Nat} {ok : Nat → Prop} {H : Heap} {fr : Nat → Prop} (M : List Int) : CvO σ ok H fr (.map (encB M)) (.map (encB M)) := by
  refine .map _ _ rfl fun j hj => ?_
  have hj' : j < M.length := by simpa [encB] using hj
  have : (encB M).getD j (.u, .u) = (.i .i64 M[j], .b true) := by
    rw [List.getD_eq_getElem?_getD]; simp [encB, hj']
  rw [this]
  exact ⟨.cl _ rfl, .cl _ rfl⟩
theorem cvO_mapB_as {σ : Nat → Nat} {ok : Nat → Prop} {H : Heap} {fr : Nat → Prop} {M M' : List Int} (e : M = M') : CvO σ ok H fr (.map (encB M)) (.map (encB M')) := e ▸ cvO_mapB M

variable {G : GI}
abbrev p1E (rounds : Int) (many r : Nat) : Slots := [(13, .i .i64 (r : Nat)), (12, .row 1 many), (9, .ptr 0 0), (3, .i .u8 rounds)]
abbrev p1F (rounds : Int) (many r k : Nat) : Slots := [(47, .i .i64 (k : Nat)), (46, .i .i64 (many : Nat)), (13, .i .i64 (r : Nat)), (12, .row 1 many), (9, .ptr 0 0), (3, .i .u8 rounds)]
abbrev p1G (L : List Attr) : Slots := [(12, .sl (L.map Attr.cells)), (9, .ptr 0 0)]
abbrev p2E (n : Netw) (L : List Attr) (i : Nat) : Slots := [(68, .i .i64 (i : Nat)), (67, .i .i64 ((L.map Attr.cells).length : Nat)), (15, .sl ((ofM n L).map gcells)), (12, .sl (L.map Attr.cells)), (9, .ptr 0 0)]
abbrev p3E (n : Netw) (L : List Attr) (i : Nat) : Slots := [(16, .i .i64 (i : Nat)), (17, .mp 1), (68, .i .i64 (i : Nat)), (67, .i .i64 ((L.map Attr.cells).length : Nat)), (15, .sl ((ofM n L).map gcells)), (12, .sl (L.map Attr.cells)), (9, .ptr 0 0)]
abbrev p3H (n : Netw) (M : List Int) : Heap := [.box n.cells, .map (encB M)]
abbrev p4E (n : Netw) (L os : List Attr) (i j : Nat) : Slots := (110, .i .i64 (j : Nat)) :: (109, .i .i64 ((os.map Attr.cells).length : Nat)) :: (108, .sl (os.map Attr.cells)) :: p3E n L i
abbrev p5E (n : Netw) (L : List Attr) (R : List Int) (i j : Nat) : Slots := (145, .i .i64 (j : Nat)) :: (144, .i .i64 ((R.map icells).length : Nat)) :: (143, .sl (R.map icells)) :: p3E n L i

set_option maxHeartbeats 2000000 in
theorem law_ForwardOf_true {a0 a1 a2 a3 : AVal} (h0 : hasA true pt_Shape a0) (h1 : hasA false pt_uint8 a1) (h2 : hasA false pt_s_uint16 a2) (h3 : hasA false pt_uint8 a3) :
    EvP Try.prog G fn_maquettelaw21_ForwardOf [a0, a1, a2, a3] (.b true) := by
  obtain ⟨s, rfl, hs⟩ := shape_of h0
  obtain ⟨which, rfl, hw⟩ := u8_of h1
  obtain ⟨ns, rfl⟩ := su16_of h2
  obtain ⟨rounds, rfl, hr⟩ := u8_of h3
  clear h0 h1 h2 h3
  have ca : cleanAll [s.av, .i .u8 which] = true := by simp only [cleanAll, List.all_cons, Shp.av, clean, s.clean]; rfl
  have hnet := law15_Net_ev (G := G) s which hs hw
  refine evP c_maquettelaw21_ForwardOf rfl ?_
  by_cases hz : (classesM (confM s)).length = 0
  · unfold netOf at hnet
    rw [if_pos hz] at hnet
    (repeat' first | refine t_seq ?_ | refine t_reg ?_ | refine t_skip ?_ | refine t_scope ?_ | refine t_ret ?_ | refine t_exit ?_ | refine lit_t rfl ?_ | refine lit_f rfl ?_ | refine And.intro (And.intro rfl (Nat.le_of_ble_eq_true rfl)) ?_ | refine c_t rfl ?_ | refine c_f rfl ?_ | (first | refine call_clean law21_awake_ev rfl ?_ | refine call_clean hnet ca ?_) | (refine sp_t (fun h => ?_) (fun h => ?_) <;> (try simp only [List.length_map] at h)) | (refine sp_f (fun h => ?_) (fun h => ?_) <;> (try simp only [List.length_map] at h)) | refine sq_t (fun h => ?_) (fun h => ?_) | refine sq_f (fun h => ?_) (fun h => ?_) | refine sb_t (fun h => ?_) (fun h => ?_) | refine sb_f (fun h => ?_) (fun h => ?_) | (refine c_nd rfl (fun h => ?_) (fun h => ?_) <;> (try simp only [List.length_map] at h)) | (refine c_d rfl (fun h => ?_) (fun h => ?_) <;> (try simp only [List.length_map] at h)) | refine c_nq rfl (fun h => ?_) (fun h => ?_) | refine c_q rfl (fun h => ?_) (fun h => ?_) | refine c_nb rfl (fun h => ?_) (fun h => ?_) | refine c_b rfl (fun h => ?_) (fun h => ?_) | refine And.intro rfl (Exists.intro _ (And.intro rfl ?_)) | refine Exists.intro _ (And.intro rfl ?_))
    rfl
  · unfold netOf at hnet
    rw [if_neg hz] at hnet
    have hn := net_ok s hs (toM s which)
    have hri := net_rise s hs (toM s which)
    have hnl := net_len s (toM s which)
    have hnl2 := net_lens s (toM s which)
    have hn8 := shp_n s hs
    generalize netM (confM s) (toM s which) = n at hnet hn hri hnl hnl2
    have hlo : (n.origin.map bcells).length = s.n := by simp [hnl]
    have cu : ∀ x, cleanAll [.sl (ns.map ucells), .i .i64 x] = true := fun x => by
      simp only [cleanAll, List.all_cons, clean, clean_rows (f := ucells) (fun _ => rfl)]; rfl
    have cA : ∀ L : List Attr, cleanLL (L.map Attr.cells) = true := fun L => clean_rows Attr.clean _
    have lA : ∀ L : List Attr, ∀ r ∈ L.map Attr.cells, r.length = 4 := fun L => len_rows (f := Attr.cells) (fun _ => rfl) _
    have hsome := law15_Some_evS (G := G) ns (n.origin.map bcells).length (by omega)
    (repeat' first | refine t_seq ?_ | refine t_reg ?_ | refine t_skip ?_ | refine t_scope ?_ | refine t_ret ?_ | refine t_exit ?_ | refine lit_t rfl ?_ | refine lit_f rfl ?_ | refine And.intro (And.intro rfl (Nat.le_of_ble_eq_true rfl)) ?_ | refine c_t rfl ?_ | refine c_f rfl ?_ | (first | refine call_clean law21_awake_ev rfl ?_ | refine call_clean hnet ca ?_ | refine call_heap (EvS.fresh hsome (cu _) (cA _) (lA _)) ?_) | (refine sp_t (fun h => ?_) (fun h => ?_) <;> (try simp only [List.length_map] at h)) | (refine sp_f (fun h => ?_) (fun h => ?_) <;> (try simp only [List.length_map] at h)) | refine sq_t (fun h => ?_) (fun h => ?_) | refine sq_f (fun h => ?_) (fun h => ?_) | refine sb_t (fun h => ?_) (fun h => ?_) | refine sb_f (fun h => ?_) (fun h => ?_) | (refine c_nd rfl (fun h => ?_) (fun h => ?_) <;> (try simp only [List.length_map] at h)) | (refine c_d rfl (fun h => ?_) (fun h => ?_) <;> (try simp only [List.length_map] at h)) | refine c_nq rfl (fun h => ?_) (fun h => ?_) | refine c_q rfl (fun h => ?_) (fun h => ?_) | refine c_nb rfl (fun h => ?_) (fun h => ?_) | refine c_b rfl (fun h => ?_) (fun h => ?_) | refine And.intro rfl (Exists.intro _ (And.intro rfl ?_)) | refine Exists.intro _ (And.intro rfl ?_))
    generalize hmany : (n.origin.map bcells).length = many at hlo
    generalize hL0 : someM ns many = L0
    have hL0l : L0.length = many := by rw [← hL0]; simp [someM]
    have hrr0 := Int.tmod_nonneg 6 hr.1
    have hrr1 := Int.tmod_lt_of_pos rounds (show (0 : Int) < 6 by decide)
    have hwr : IntKind.i64.wrap (rounds.tmod 6) = rounds.tmod 6 := w64 (by omega) (by omega)
    have hfz : ∀ (L : List Attr) (k : Nat), L.length = many → frzAll (l1H n L) [n.av, .row 1 many, .i .i64 (k : Nat)] = some [n.av, .sl (L.map Attr.cells), .i .i64 (k : Nat)] := by
      intro L k hL
      have f1 : frz (l1H n L) n.av = some n.av := frz_clean (by simp only [Netw.av, clean, n.clean])
      have f2 : frz (l1H n L) (.row 1 many) = some (.sl (L.map Attr.cells)) := frz_row rfl rfl (by rw [List.length_map]; exact hL) (cA L)
      have f3 : frz (l1H n L) (.i .i64 (k : Nat)) = some (.i .i64 (k : Nat)) := frz_clean rfl
      simp only [frzAll, f1, f2, f3]
    refine t_block (t_loopM (fun w E H => ∃ r : Nat, (r : Int) ≤ rounds.tmod 6 ∧ w = (rounds.tmod 6 - r).toNat ∧ E = p1E rounds many r ∧ H = l1H n (learnM n L0 r)) _ (p1E rounds many 0) (l1H n (learnM n L0 0)) ?_ ⟨0, by omega, rfl, rfl, rfl⟩ ?_)
    · refine moveL [1, 3] rfl (by decide) ⟨.inr ⟨_, rfl, cvO_box n.clean⟩, .inr ⟨_, rfl, cvO_row_as rfl (cA _) (lA _)⟩, trivial⟩ ?_
      refine ⟨?_, ?_, ?_, ?_, trivial⟩ <;> (first | exact .cl _ rfl | exact .cl _ (by assumption) | exact cv_ptr (Nat.le_of_ble_eq_true rfl) rfl | exact .nilS | exact cv_own (Nat.le_of_ble_eq_true rfl) rfl | exact cv_row (Nat.le_of_ble_eq_true rfl) rfl | exact cv_mp (Nat.le_of_ble_eq_true rfl) rfl)
    rintro w E H ⟨r, hrl, rfl, rfl, rfl⟩
    refine t_seq (t_seq (t_reg ?_))
    refine And.intro rfl (And.intro (by decide) ?_)
    refine c_d rfl (fun h => ?_) (fun h => ?_)
    · rw [hwr] at h
      refine t_skip ?_
      refine t_seq (t_block ?_)
      (repeat' first | refine t_seq ?_ | refine t_reg ?_ | refine t_skip ?_ | refine t_scope ?_ | refine t_ret ?_ | refine t_exit ?_ | refine lit_t rfl ?_ | refine lit_f rfl ?_ | refine And.intro (And.intro rfl (Nat.le_of_ble_eq_true rfl)) ?_ | refine c_t rfl ?_ | refine c_f rfl ?_)
      generalize hLr : learnM n L0 r = L
      have hLl : L.length = many := by rw [← hLr, learnM_len]; exact hL0l
      refine t_range many (by omega) (fun k E H => k ≤ many ∧ E = p1F rounds many r k ∧ H = l1H n (stepL n L k)) (p1F rounds many r 0) (l1H n (stepL n L 0)) ?_ ⟨Nat.zero_le _, rfl, rfl⟩ ?_ ?_ ?_
      · refine moveL [0, 1] rfl (by decide) ⟨.inr ⟨_, rfl, cvO_box n.clean⟩, .inr ⟨_, rfl, cvO_row_as rfl (cA _) (lA _)⟩, trivial⟩ ?_
        refine ⟨?_, ?_, ?_, ?_, ?_, ?_, trivial⟩ <;> (first | exact .cl _ rfl | exact .cl _ (by assumption) | exact cv_ptr (Nat.le_of_ble_eq_true rfl) rfl | exact .nilS | exact cv_own (Nat.le_of_ble_eq_true rfl) rfl | exact cv_row (Nat.le_of_ble_eq_true rfl) rfl | exact cv_mp (Nat.le_of_ble_eq_true rfl) rfl)
      · rintro k E H ⟨hi, rfl, rfl⟩; exact ⟨hi, rfl, rfl⟩
      · rintro k E H hlt ⟨hi, rfl, rfl⟩
        have hKl : (stepL n L k).length = many := by rw [stepL_len]; exact hLl
        have hnx : stepL n L (k + 1) = (stepL n L k).set k (choiceM n (stepL n L k) (k : Int)) := rfl
        generalize stepL n L k = K at hKl hnx ⊢
        have hch := stable_Choice_ev (G := G) n K (k : Nat) hn (by omega)
        have hat := rows_at (f := Attr.cells) (List.getElem?_eq_getElem (show k < K.length by omega))
        (repeat' first | refine t_seq ?_ | refine t_reg ?_ | refine t_skip ?_ | refine t_scope ?_ | refine t_ret ?_ | refine t_exit ?_ | refine lit_t rfl ?_ | refine lit_f rfl ?_ | refine And.intro (And.intro rfl (Nat.le_of_ble_eq_true rfl)) ?_ | refine c_t rfl ?_ | refine c_f rfl ?_ | (first | refine call_flat hch (hfz K k hKl) (flat_attr _) ?_ | refine And.intro (And.intro rfl (And.intro rfl (Nat.le_of_ble_eq_true rfl))) (Exists.intro _ (And.intro (hat) ?_)) | refine And.intro (And.intro (by omega) (by omega)) ?_) | (refine sp_t (fun h => ?_) (fun h => ?_) <;> (try simp only [List.length_map] at h)) | (refine sp_f (fun h => ?_) (fun h => ?_) <;> (try simp only [List.length_map] at h)) | refine sq_t (fun h => ?_) (fun h => ?_) | refine sq_f (fun h => ?_) (fun h => ?_) | refine sb_t (fun h => ?_) (fun h => ?_) | refine sb_f (fun h => ?_) (fun h => ?_) | (refine c_nd rfl (fun h => ?_) (fun h => ?_) <;> (try simp only [List.length_map] at h)) | (refine c_d rfl (fun h => ?_) (fun h => ?_) <;> (try simp only [List.length_map] at h)) | refine c_nq rfl (fun h => ?_) (fun h => ?_) | refine c_q rfl (fun h => ?_) (fun h => ?_) | refine c_nb rfl (fun h => ?_) (fun h => ?_) | refine c_b rfl (fun h => ?_) (fun h => ?_) | refine And.intro rfl (Exists.intro _ (And.intro rfl ?_)) | refine Exists.intro _ (And.intro rfl ?_))
        refine And.intro rfl ⟨p1F rounds many r (k + 1), l1H n (stepL n L (k + 1)), moveL [0, 1] rfl (by decide) ⟨.inr ⟨_, rfl, cvO_box n.clean⟩, .inr ⟨_, rfl, cvO_row_as (by rw [hnx]; exact (set_map (f := Attr.cells)).symm) (cA _) (lA _)⟩, trivial⟩ ?_, hlt, rfl, rfl⟩
        refine ⟨?_, ?_, ?_, ?_, ?_, ?_, trivial⟩ <;> (first | exact .cl _ rfl | exact .cl _ (by assumption) | exact cv_ptr (Nat.le_of_ble_eq_true rfl) rfl | exact .nilS | exact cv_own (Nat.le_of_ble_eq_true rfl) rfl | exact cv_row (Nat.le_of_ble_eq_true rfl) rfl | exact cv_mp (Nat.le_of_ble_eq_true rfl) rfl)
      · rintro E H ⟨hi, rfl, rfl⟩
        have hwr1 : IntKind.i64.wrap ((r : Nat) + 1) = ((r + 1 : Nat) : Int) := by rw [w64 (by omega) (by omega)]; rfl
        (repeat' first | refine t_seq ?_ | refine t_reg ?_ | refine t_skip ?_ | refine t_scope ?_ | refine t_ret ?_ | refine t_exit ?_ | refine lit_t rfl ?_ | refine lit_f rfl ?_ | refine And.intro (And.intro rfl (Nat.le_of_ble_eq_true rfl)) ?_ | refine c_t rfl ?_ | refine c_f rfl ?_)
        refine ⟨_, p1E rounds many (r + 1), l1H n (learnM n L0 (r + 1)), ?_, moveL [0, 1] rfl (by decide) ⟨.inr ⟨_, rfl, cvO_box n.clean⟩, .inr ⟨_, rfl, cvO_row_as ?_ (cA _) (lA _)⟩, trivial⟩ ?_, r + 1, by omega, rfl, rfl, rfl⟩
        · omega
        · rw [learnM, hLr, hLl]
        · refine ⟨?_, ?_, ?_, ?_, trivial⟩ <;> first | (first | exact .cl _ rfl | exact .cl _ (by assumption) | exact cv_ptr (Nat.le_of_ble_eq_true rfl) rfl | exact .nilS | exact cv_own (Nat.le_of_ble_eq_true rfl) rfl | exact cv_row (Nat.le_of_ble_eq_true rfl) rfl | exact cv_mp (Nat.le_of_ble_eq_true rfl) rfl) | exact cv_i hwr1.symm
    · generalize hLr : learnM n L0 r = L
      have hLl : L.length = many := by rw [← hLr, learnM_len]; exact hL0l
      refine t_exit ?_
      have cL := clean_sl Attr.clean L
      refine t_move (E' := p1G L) (H' := [AObj.box n.cells]) (moveL [0] rfl (by decide) ⟨.inr ⟨_, rfl, cvO_box n.clean⟩, trivial⟩ ?_) ?_
      · refine ⟨?_, ?_, trivial⟩ <;> first | (first | exact .cl _ rfl | exact .cl _ (by assumption) | exact cv_ptr (Nat.le_of_ble_eq_true rfl) rfl | exact .nilS | exact cv_own (Nat.le_of_ble_eq_true rfl) rfl | exact cv_row (Nat.le_of_ble_eq_true rfl) rfl | exact cv_mp (Nat.le_of_ble_eq_true rfl) rfl) | skip
        exact cv_frz rfl (still_of (by rfl) (by rfl)) rfl (by rw [List.length_map]; exact hLl) (cA _) (lA _)
      have hMl : (L.length : Int) ≤ 9223372036854775807 := by omega
      have ho : (n.origin.length : Int) ≤ 1000000 := by omega
      have hgl := ofM_len n L
      have b2 : cleanAll [n.av, .sl (L.map Attr.cells)] = true := by simp only [cleanAll, List.all_cons, clean, Netw.av, n.clean, clean_rows Attr.clean]; rfl
      have cM := clean_sl gcells_clean (ofM n L)
      (repeat' first | refine t_seq ?_ | refine t_reg ?_ | refine t_skip ?_ | refine t_scope ?_ | refine t_ret ?_ | refine t_exit ?_ | refine lit_t rfl ?_ | refine lit_f rfl ?_ | refine And.intro (And.intro rfl (Nat.le_of_ble_eq_true rfl)) ?_ | refine c_t rfl ?_ | refine c_f rfl ?_ | (first | refine call_clean (forward_Of_ev n L hn hri ho hMl) b2 ?_) | (refine sp_t (fun h => ?_) (fun h => ?_) <;> (try simp only [List.length_map] at h)) | (refine sp_f (fun h => ?_) (fun h => ?_) <;> (try simp only [List.length_map] at h)) | refine sq_t (fun h => ?_) (fun h => ?_) | refine sq_f (fun h => ?_) (fun h => ?_) | refine sb_t (fun h => ?_) (fun h => ?_) | refine sb_f (fun h => ?_) (fun h => ?_) | (refine c_nd rfl (fun h => ?_) (fun h => ?_) <;> (try simp only [List.length_map] at h)) | (refine c_d rfl (fun h => ?_) (fun h => ?_) <;> (try simp only [List.length_map] at h)) | refine c_nq rfl (fun h => ?_) (fun h => ?_) | refine c_q rfl (fun h => ?_) (fun h => ?_) | refine c_nb rfl (fun h => ?_) (fun h => ?_) | refine c_b rfl (fun h => ?_) (fun h => ?_) | refine And.intro rfl (Exists.intro _ (And.intro rfl ?_)) | refine Exists.intro _ (And.intro rfl ?_))
      · exfalso; omega
      refine t_range (L.map Attr.cells).length (by rw [List.length_map]; omega) (fun i E H => i ≤ (L.map Attr.cells).length ∧ E = p2E n L i ∧ H = [.box n.cells]) (p2E n L 0) [.box n.cells] ?_ ⟨Nat.zero_le _, rfl, rfl⟩ ?_ ?_ ?_
      · refine moveL [0] rfl (by decide) ⟨.inr ⟨_, rfl, cvO_box n.clean⟩, trivial⟩ ?_
        refine ⟨?_, ?_, ?_, ?_, ?_, trivial⟩ <;> (first | exact .cl _ rfl | exact .cl _ (by assumption) | exact cv_ptr (Nat.le_of_ble_eq_true rfl) rfl | exact .nilS | exact cv_own (Nat.le_of_ble_eq_true rfl) rfl | exact cv_row (Nat.le_of_ble_eq_true rfl) rfl | exact cv_mp (Nat.le_of_ble_eq_true rfl) rfl)
      · rintro i E H ⟨hi, rfl, rfl⟩; exact ⟨hi, rfl, rfl⟩
      · rintro i E H hlt ⟨hi, rfl, rfl⟩
        rw [List.length_map] at hlt
        have o0 : i < n.origin.length := by omega
        have s0 : i < n.static.length := by omega
        have e0 : i < n.edges.length := by omega
        have l0 : i < L.length := by omega
        have hgo : n.origin.getD i false = n.origin[i] := getD_of o0
        have hgs : n.static.getD i 0 = n.static[i] := getD_of s0
        have hgL : L.getD i Attr.zero = L[i] := getD_of l0
        have hge : n.edges.getD i [] = n.edges[i] := getD_of e0
        obtain ⟨es, hes⟩ : ∃ es, n.edges[i] = es := ⟨_, rfl⟩
        have hmem : es ∈ n.edges := hes ▸ List.getElem_mem e0
        have hrise := hri.ord es hmem
        have hfew := hri.few es hmem
        have hate : (n.edges.map ecells)[((i : Nat) : Int).toNat]? = some (ecells es) := by rw [row_at e0, hes]
        have hatg : ((ofM n L).map gcells)[((i : Nat) : Int).toNat]? = some (gcells (ofRow n L i)) := rows_at (f := gcells) (by simp [ofM, o0])
        have hRs : (ofRow n L i).Pairwise (· < ·) := by
          unfold ofRow
          split
          · exact List.Pairwise.nil
          split
          · exact List.pairwise_singleton _ _
          split
          · rw [hge, hes]; exact hrise.sublist ((List.filter_sublist).map _)
          · exact List.Pairwise.nil
        have hRl : (ofRow n L i).length ≤ 12 := ofM_row n L hri _ (List.mem_map.2 ⟨i, List.mem_range.2 o0, rfl⟩)
        (repeat' first | refine t_seqr ?_ | refine t_skip ?_ | refine t_scope ?_ | refine t_ret ?_ | refine t_exit ?_ | refine lit_t rfl ?_ | refine lit_f rfl ?_ | refine And.intro (And.intro rfl (Nat.le_of_ble_eq_true rfl)) ?_ | refine c_t rfl ?_ | refine c_f rfl ?_ | (fail))
        refine t_cut (fun E H => E = p3E n L i ∧ H = p3H n (ofRow n L i)) ?_ ?_
        · have fin : ∀ (E : Slots) (H : Heap) (M : List Int), M = ofRow n L i → look E 16 = .i .i64 (i : Nat) → look E 17 = .mp 1 → look E 68 = .i .i64 (i : Nat) → look E 67 = .i .i64 ((L.map Attr.cells).length : Nat) → look E 15 = .sl ((ofM n L).map gcells) → look E 12 = .sl (L.map Attr.cells) → look E 9 = .ptr 0 0 → H[0]? = some (.box n.cells) → H[1]? = some (.map (encB M)) →
              ∃ E' H', Move 0 E H E' H' ∧ E' = p3E n L i ∧ H' = p3H n (ofRow n L i) := by
            intro E H M hM g1 g2 g3 g4 g5 g6 g7 k0 k1
            refine ⟨p3E n L i, p3H n (ofRow n L i), moveL [0, 1] rfl (by decide) ⟨.inr ⟨_, k0, cvO_box n.clean⟩, .inr ⟨_, k1, cvO_mapB_as hM⟩, trivial⟩ ?_, rfl, rfl⟩
            have cL' := clean_sl Attr.clean L
            exact ⟨cv_as g1.symm rfl, (by show Cv _ _ _ _ (look E 17) _; rw [g2]; exact cv_mp (Nat.le_of_ble_eq_true rfl) rfl), cv_as g3.symm rfl, cv_as g4.symm rfl, cv_as g5.symm cM, cv_as g6.symm cL', (by show Cv _ _ _ _ (look E 9) _; rw [g7]; exact cv_ptr (Nat.le_of_ble_eq_true rfl) rfl), trivial⟩
          cases hor : n.origin[i] with
          | true =>
            have hato : (n.origin.map bcells)[((i : Nat) : Int).toNat]? = some [.b true] := by rw [row_at o0, hor]; rfl
            have hrow : [] = ofRow n L i := by unfold ofRow; rw [if_pos (by rw [hgo]; exact hor)]
            (repeat' first | refine t_seq ?_ | refine t_reg ?_ | refine t_skip ?_ | refine t_scope ?_ | refine t_ret ?_ | refine t_exit ?_ | refine lit_t rfl ?_ | refine lit_f rfl ?_ | refine And.intro (And.intro rfl (Nat.le_of_ble_eq_true rfl)) ?_ | refine c_t rfl ?_ | refine c_f rfl ?_ | (first | refine And.intro (Int.natCast_nonneg i) (Exists.intro _ (And.intro hato (And.intro rfl ?_)))) | (refine sp_t (fun h => ?_) (fun h => ?_) <;> (try simp only [List.length_map] at h)) | (refine sp_f (fun h => ?_) (fun h => ?_) <;> (try simp only [List.length_map] at h)) | refine sq_t (fun h => ?_) (fun h => ?_) | refine sq_f (fun h => ?_) (fun h => ?_) | refine sb_t (fun h => ?_) (fun h => ?_) | refine sb_f (fun h => ?_) (fun h => ?_) | (refine c_nd rfl (fun h => ?_) (fun h => ?_) <;> (try simp only [List.length_map] at h)) | (refine c_d rfl (fun h => ?_) (fun h => ?_) <;> (try simp only [List.length_map] at h)) | refine c_nq rfl (fun h => ?_) (fun h => ?_) | refine c_q rfl (fun h => ?_) (fun h => ?_) | refine c_nb rfl (fun h => ?_) (fun h => ?_) | refine c_b rfl (fun h => ?_) (fun h => ?_) | refine And.intro rfl (Exists.intro _ (And.intro rfl ?_)) | refine Exists.intro _ (And.intro rfl ?_))
            exact fin _ _ [] hrow rfl rfl rfl rfl rfl rfl rfl rfl rfl
          | false =>
            have hato : (n.origin.map bcells)[((i : Nat) : Int).toNat]? = some [.b false] := by rw [row_at o0, hor]; rfl
            have hno : ¬ n.origin.getD i false = true := by rw [hgo, hor]; decide
            (repeat' first | refine t_seq ?_ | refine t_reg ?_ | refine t_skip ?_ | refine t_scope ?_ | refine t_ret ?_ | refine t_exit ?_ | refine lit_t rfl ?_ | refine lit_f rfl ?_ | refine And.intro (And.intro rfl (Nat.le_of_ble_eq_true rfl)) ?_ | refine c_t rfl ?_ | refine c_f rfl ?_ | (first | refine And.intro (Int.natCast_nonneg i) (Exists.intro _ (And.intro hato (And.intro rfl ?_))) | refine And.intro (Int.natCast_nonneg i) (Exists.intro _ (And.intro (row_at s0) (And.intro rfl ?_))) | refine And.intro (Int.natCast_nonneg i) (Exists.intro _ (And.intro (row_at l0) (And.intro rfl ?_))) | refine Exists.intro _ (And.intro (putM_B _ [] List.not_mem_nil) ?_) | refine frcH_go ?_) | (refine sp_t (fun h => ?_) (fun h => ?_) <;> (try simp only [List.length_map] at h)) | (refine sp_f (fun h => ?_) (fun h => ?_) <;> (try simp only [List.length_map] at h)) | refine sq_t (fun h => ?_) (fun h => ?_) | refine sq_f (fun h => ?_) (fun h => ?_) | refine sb_t (fun h => ?_) (fun h => ?_) | refine sb_f (fun h => ?_) (fun h => ?_) | (refine c_nd rfl (fun h => ?_) (fun h => ?_) <;> (try simp only [List.length_map] at h)) | (refine c_d rfl (fun h => ?_) (fun h => ?_) <;> (try simp only [List.length_map] at h)) | refine c_nq rfl (fun h => ?_) (fun h => ?_) | refine c_q rfl (fun h => ?_) (fun h => ?_) | refine c_nb rfl (fun h => ?_) (fun h => ?_) | refine c_b rfl (fun h => ?_) (fun h => ?_) | refine And.intro rfl (Exists.intro _ (And.intro rfl ?_)) | refine Exists.intro _ (And.intro rfl ?_))
            · rename_i hst
              have hrow : [n.static[i]] = ofRow n L i := by
                unfold ofRow; rw [if_neg hno, if_pos ⟨s0, by rw [hgs]; simpa using h⟩, hgs]
              exact fin _ _ [n.static[i]] hrow rfl rfl rfl rfl rfl rfl rfl rfl rfl
            · rename_i hst
              have hrow : ofRow n L i = (es.filter fun e => (offerOf L e).same L[i]).map Edg.from_ := by
                unfold ofRow; rw [if_neg hno, if_neg (by rw [hgs]; omega), if_pos ⟨l0, by rw [hgL]; exact h⟩, hge, hes, hgL]
              have hM : offersM n L (i : Nat) = es.map (offerOf L) := by unfold offersM; rw [if_pos ⟨by omega, by omega⟩, Int.toNat_natCast, hge, hes]
              have hoff : EvP Try.prog G fn_stable_Offers [n.av, .sl (L.map Attr.cells), .i .i64 (i : Nat)] (.sl ((es.map (offerOf L)).map Attr.cells)) := hM ▸ stable_Offers_ev n L (i : Nat) hn hMl
              have cO := clean_sl Attr.clean (es.map (offerOf L))
              have hlO : ((es.map (offerOf L)).map Attr.cells).length = es.length := by simp
              have cL' := clean_sl Attr.clean L
              (repeat' first | refine t_seq ?_ | refine t_reg ?_ | refine t_skip ?_ | refine t_scope ?_ | refine t_ret ?_ | refine t_exit ?_ | refine lit_t rfl ?_ | refine lit_f rfl ?_ | refine And.intro (And.intro rfl (Nat.le_of_ble_eq_true rfl)) ?_ | refine c_t rfl ?_ | refine c_f rfl ?_ | (first | refine call_clean hoff (netl_clean n L _) ?_) | (refine sp_t (fun h => ?_) (fun h => ?_) <;> (try simp only [List.length_map] at h)) | (refine sp_f (fun h => ?_) (fun h => ?_) <;> (try simp only [List.length_map] at h)) | refine sq_t (fun h => ?_) (fun h => ?_) | refine sq_f (fun h => ?_) (fun h => ?_) | refine sb_t (fun h => ?_) (fun h => ?_) | refine sb_f (fun h => ?_) (fun h => ?_) | (refine c_nd rfl (fun h => ?_) (fun h => ?_) <;> (try simp only [List.length_map] at h)) | (refine c_d rfl (fun h => ?_) (fun h => ?_) <;> (try simp only [List.length_map] at h)) | refine c_nq rfl (fun h => ?_) (fun h => ?_) | refine c_q rfl (fun h => ?_) (fun h => ?_) | refine c_nb rfl (fun h => ?_) (fun h => ?_) | refine c_b rfl (fun h => ?_) (fun h => ?_) | refine And.intro rfl (Exists.intro _ (And.intro rfl ?_)) | refine Exists.intro _ (And.intro rfl ?_))
              refine t_range ((es.map (offerOf L)).map Attr.cells).length (by omega) (fun j E H => j ≤ ((es.map (offerOf L)).map Attr.cells).length ∧ E = p4E n L (es.map (offerOf L)) i j ∧ H = p3H n (ofFound L es L[i] j)) (p4E n L (es.map (offerOf L)) i 0) (p3H n (ofFound L es L[i] 0)) ?_ ⟨Nat.zero_le _, rfl, rfl⟩ ?_ ?_ ?_
              · refine moveL [0, 1] rfl (by decide) ⟨.inr ⟨_, rfl, cvO_box n.clean⟩, .inr ⟨_, rfl, cvO_mapB_as (M := []) rfl⟩, trivial⟩ ?_
                refine ⟨?_, ?_, ?_, ?_, ?_, ?_, ?_, ?_, ?_, ?_, trivial⟩ <;> (first | exact .cl _ rfl | exact .cl _ (by assumption) | exact cv_ptr (Nat.le_of_ble_eq_true rfl) rfl | exact .nilS | exact cv_own (Nat.le_of_ble_eq_true rfl) rfl | exact cv_row (Nat.le_of_ble_eq_true rfl) rfl | exact cv_mp (Nat.le_of_ble_eq_true rfl) rfl)
              · rintro j E H ⟨hj, rfl, rfl⟩; exact ⟨hj, rfl, rfl⟩
              · rintro j E H hltj ⟨hj, rfl, rfl⟩
                have hltj' : j < es.length := by omega
                have hoat : ((es.map (offerOf L)).map Attr.cells)[((j : Nat) : Int).toNat]? = some (offerOf L es[j]).cells := rows_at (f := Attr.cells) (by simp [hltj'])
                have hnext : ofFound L es L[i] (j + 1) = ofFound L es L[i] j ++ (if (offerOf L es[j]).same L[i] then [es[j].from_] else []) := by
                  unfold ofFound
                  rw [List.take_succ_eq_append_getElem hltj', List.filter_append, List.map_append]
                  congr 1
                  by_cases h0 : (offerOf L es[j]).same L[i] = true
                  · rw [if_pos h0, List.filter_cons, if_pos h0]; rfl
                  · rw [if_neg h0, List.filter_cons, if_neg h0]; rfl
                have hnin : es[j].from_ ∉ ofFound L es L[i] j := by
                  intro hx
                  obtain ⟨e, he, hfe⟩ := List.mem_map.1 hx
                  obtain ⟨q, hq, rfl⟩ := List.mem_iff_getElem.1 (List.mem_filter.1 he).1
                  have hq' : q < j := by rw [List.length_take] at hq; omega
                  have := List.pairwise_iff_getElem.1 hrise q j (by rw [List.length_map]; omega) (by rw [List.length_map]; exact hltj') hq'
                  rw [List.getElem_map, List.getElem_map] at this
                  rw [List.getElem_take] at hfe
                  omega
                generalize ofFound L es L[i] j = M at hnext hnin ⊢
                have hput := putM_B es[j].from_ M hnin
                (repeat' first | refine t_seq ?_ | refine t_reg ?_ | refine t_skip ?_ | refine t_scope ?_ | refine t_ret ?_ | refine t_exit ?_ | refine lit_t rfl ?_ | refine lit_f rfl ?_ | refine And.intro (And.intro rfl (Nat.le_of_ble_eq_true rfl)) ?_ | refine c_t rfl ?_ | refine c_f rfl ?_ | (first | refine And.intro (Int.natCast_nonneg j) (Exists.intro _ (And.intro hoat (And.intro rfl ?_))) | refine And.intro (Int.natCast_nonneg i) (Exists.intro _ (And.intro (row_at l0) (And.intro rfl ?_))) | refine And.intro (Int.natCast_nonneg i) (Exists.intro _ (And.intro hate (And.intro rfl ?_))) | refine And.intro (Int.natCast_nonneg j) (Exists.intro _ (And.intro (row_at hltj') (And.intro rfl ?_))) | refine call_clean (attr_Same_ev (offerOf L es[j]) L[i]) rfl ?_ | refine Exists.intro _ (And.intro hput ?_) | refine frcH_go ?_) | (refine sp_t (fun h => ?_) (fun h => ?_) <;> (try simp only [List.length_map] at h)) | (refine sp_f (fun h => ?_) (fun h => ?_) <;> (try simp only [List.length_map] at h)) | refine sq_t (fun h => ?_) (fun h => ?_) | refine sq_f (fun h => ?_) (fun h => ?_) | refine sb_t (fun h => ?_) (fun h => ?_) | refine sb_f (fun h => ?_) (fun h => ?_) | (refine c_nd rfl (fun h => ?_) (fun h => ?_) <;> (try simp only [List.length_map] at h)) | (refine c_d rfl (fun h => ?_) (fun h => ?_) <;> (try simp only [List.length_map] at h)) | refine c_nq rfl (fun h => ?_) (fun h => ?_) | refine c_q rfl (fun h => ?_) (fun h => ?_) | refine c_nb rfl (fun h => ?_) (fun h => ?_) | refine c_b rfl (fun h => ?_) (fun h => ?_) | refine And.intro rfl (Exists.intro _ (And.intro rfl ?_)) | refine Exists.intro _ (And.intro rfl ?_))
                · have hnx : M ++ [es[j].from_] = ofFound L es L[i] (j + 1) := by rw [hnext, if_pos h]
                  refine And.intro rfl ⟨p4E n L (es.map (offerOf L)) i (j + 1), p3H n (ofFound L es L[i] (j + 1)), moveL [0, 1] rfl (by decide) ⟨.inr ⟨_, rfl, cvO_box n.clean⟩, .inr ⟨_, rfl, cvO_mapB_as hnx⟩, trivial⟩ ?_, hltj, rfl, rfl⟩
                  refine ⟨?_, ?_, ?_, ?_, ?_, ?_, ?_, ?_, ?_, ?_, trivial⟩ <;> (first | exact .cl _ rfl | exact .cl _ (by assumption) | exact cv_ptr (Nat.le_of_ble_eq_true rfl) rfl | exact .nilS | exact cv_own (Nat.le_of_ble_eq_true rfl) rfl | exact cv_row (Nat.le_of_ble_eq_true rfl) rfl | exact cv_mp (Nat.le_of_ble_eq_true rfl) rfl)
                · have hnx : M = ofFound L es L[i] (j + 1) := by rw [hnext, if_neg (by rw [h]; decide), List.append_nil]
                  refine And.intro rfl ⟨p4E n L (es.map (offerOf L)) i (j + 1), p3H n (ofFound L es L[i] (j + 1)), moveL [0, 1] rfl (by decide) ⟨.inr ⟨_, rfl, cvO_box n.clean⟩, .inr ⟨_, rfl, cvO_mapB_as hnx⟩, trivial⟩ ?_, hltj, rfl, rfl⟩
                  refine ⟨?_, ?_, ?_, ?_, ?_, ?_, ?_, ?_, ?_, ?_, trivial⟩ <;> (first | exact .cl _ rfl | exact .cl _ (by assumption) | exact cv_ptr (Nat.le_of_ble_eq_true rfl) rfl | exact .nilS | exact cv_own (Nat.le_of_ble_eq_true rfl) rfl | exact cv_row (Nat.le_of_ble_eq_true rfl) rfl | exact cv_mp (Nat.le_of_ble_eq_true rfl) rfl)
              · rintro E H ⟨hj, rfl, rfl⟩
                exact fin _ _ (ofFound L es L[i] ((es.map (offerOf L)).map Attr.cells).length) (by rw [hrow]; unfold ofFound; rw [hlO, List.take_length]) rfl rfl rfl rfl rfl rfl rfl rfl rfl
            · rename_i hst
              have hrow : [] = ofRow n L i := by
                unfold ofRow; rw [if_neg hno, if_neg (by rw [hgs]; omega), if_neg (by rw [hgL, h]; simp)]
              exact fin _ _ [] hrow rfl rfl rfl rfl rfl rfl rfl rfl rfl
        rintro E H ⟨rfl, rfl⟩
        have hBl : ((encB (ofRow n L i)).length : Int) = ((ofRow n L i).map icells).length := by rw [encB_len, List.length_map]
        generalize ofRow n L i = R at hatg hRs hRl hBl ⊢
        have cRR := clean_sl (f := icells) (fun _ => rfl) R
        (repeat' first | refine t_seq ?_ | refine t_reg ?_ | refine t_skip ?_ | refine t_scope ?_ | refine t_ret ?_ | refine t_exit ?_ | refine lit_t rfl ?_ | refine lit_f rfl ?_ | refine And.intro (And.intro rfl (Nat.le_of_ble_eq_true rfl)) ?_ | refine c_t rfl ?_ | refine c_f rfl ?_ | (first | refine And.intro (Int.natCast_nonneg i) (Exists.intro _ (And.intro hatg (And.intro rfl ?_)))) | (refine sp_t (fun h => ?_) (fun h => ?_) <;> (try simp only [List.length_map] at h)) | (refine sp_f (fun h => ?_) (fun h => ?_) <;> (try simp only [List.length_map] at h)) | refine sq_t (fun h => ?_) (fun h => ?_) | refine sq_f (fun h => ?_) (fun h => ?_) | refine sb_t (fun h => ?_) (fun h => ?_) | refine sb_f (fun h => ?_) (fun h => ?_) | (refine c_nd rfl (fun h => ?_) (fun h => ?_) <;> (try simp only [List.length_map] at h)) | (refine c_d rfl (fun h => ?_) (fun h => ?_) <;> (try simp only [List.length_map] at h)) | refine c_nq rfl (fun h => ?_) (fun h => ?_) | refine c_q rfl (fun h => ?_) (fun h => ?_) | refine c_nb rfl (fun h => ?_) (fun h => ?_) | refine c_b rfl (fun h => ?_) (fun h => ?_) | refine And.intro rfl (Exists.intro _ (And.intro rfl ?_)) | refine Exists.intro _ (And.intro rfl ?_))
        · exfalso; simp only [encB_len, List.length_map] at h; first | exact h trivial | exact h rfl
        refine t_range (R.map icells).length (by rw [List.length_map]; omega) (fun j E H => j ≤ (R.map icells).length ∧ E = p5E n L R i j ∧ H = p3H n R) (p5E n L R i 0) (p3H n R) ?_ ⟨Nat.zero_le _, rfl, rfl⟩ ?_ ?_ ?_
        · refine moveL [0, 1] rfl (by decide) ⟨.inr ⟨_, rfl, cvO_box n.clean⟩, .inr ⟨_, rfl, cvO_mapB _⟩, trivial⟩ ?_
          refine ⟨?_, ?_, ?_, ?_, ?_, ?_, ?_, ?_, ?_, ?_, trivial⟩ <;> (first | exact .cl _ rfl | exact .cl _ (by assumption) | exact cv_ptr (Nat.le_of_ble_eq_true rfl) rfl | exact .nilS | exact cv_own (Nat.le_of_ble_eq_true rfl) rfl | exact cv_row (Nat.le_of_ble_eq_true rfl) rfl | exact cv_mp (Nat.le_of_ble_eq_true rfl) rfl)
        · rintro j E H ⟨hj, rfl, rfl⟩; exact ⟨hj, rfl, rfl⟩
        · rintro j E H hltj ⟨hj, rfl, rfl⟩
          rw [List.length_map] at hltj
          have hf := findM_B R[j] R (List.getElem_mem hltj)
          have hjw : 0 < j → IntKind.i64.wrap ((j : Nat) - 1) = ((j - 1 : Nat) : Int) := fun h => by rw [w64 (by omega) (by omega)]; omega
          by_cases hj0 : 0 < j
          · have hjw := hjw hj0
            have hj1 : 0 ≤ IntKind.i64.wrap ((j : Nat) - 1) := by rw [hjw]; omega
            have hj2 : (R.map icells)[(IntKind.i64.wrap ((j : Nat) - 1)).toNat]? = some (icells (R[j - 1]'(by omega))) := by rw [hjw]; exact row_at (by omega)
            have hlts := List.pairwise_iff_getElem.1 hRs (j - 1) j (by omega) hltj (by omega)
            (repeat' first | refine t_seq ?_ | refine t_reg ?_ | refine t_skip ?_ | refine t_scope ?_ | refine t_ret ?_ | refine t_exit ?_ | refine lit_t rfl ?_ | refine lit_f rfl ?_ | refine And.intro (And.intro rfl (Nat.le_of_ble_eq_true rfl)) ?_ | refine c_t rfl ?_ | refine c_f rfl ?_ | (first | refine And.intro (Int.natCast_nonneg j) (Exists.intro _ (And.intro (row_at hltj) (And.intro rfl ?_))) | refine Exists.intro _ (And.intro hf (lk_some ?_)) | refine And.intro (Int.natCast_nonneg i) (Exists.intro _ (And.intro hatg (And.intro rfl ?_))) | refine And.intro hj1 (Exists.intro _ (And.intro hj2 (And.intro rfl ?_)))) | (refine sp_t (fun h => ?_) (fun h => ?_) <;> (try simp only [List.length_map] at h)) | (refine sp_f (fun h => ?_) (fun h => ?_) <;> (try simp only [List.length_map] at h)) | refine sq_t (fun h => ?_) (fun h => ?_) | refine sq_f (fun h => ?_) (fun h => ?_) | refine sb_t (fun h => ?_) (fun h => ?_) | refine sb_f (fun h => ?_) (fun h => ?_) | (refine c_nd rfl (fun h => ?_) (fun h => ?_) <;> (try simp only [List.length_map] at h)) | (refine c_d rfl (fun h => ?_) (fun h => ?_) <;> (try simp only [List.length_map] at h)) | refine c_nq rfl (fun h => ?_) (fun h => ?_) | refine c_q rfl (fun h => ?_) (fun h => ?_) | refine c_nb rfl (fun h => ?_) (fun h => ?_) | refine c_b rfl (fun h => ?_) (fun h => ?_) | refine And.intro rfl (Exists.intro _ (And.intro rfl ?_)) | refine Exists.intro _ (And.intro rfl ?_))
            · exfalso; omega
            · refine And.intro rfl ⟨p5E n L R i (j + 1), p3H n R, moveL [0, 1] rfl (by decide) ⟨.inr ⟨_, rfl, cvO_box n.clean⟩, .inr ⟨_, rfl, cvO_mapB _⟩, trivial⟩ ?_, by rw [List.length_map]; omega, rfl, rfl⟩
              refine ⟨?_, ?_, ?_, ?_, ?_, ?_, ?_, ?_, ?_, ?_, trivial⟩ <;> (first | exact .cl _ rfl | exact .cl _ (by assumption) | exact cv_ptr (Nat.le_of_ble_eq_true rfl) rfl | exact .nilS | exact cv_own (Nat.le_of_ble_eq_true rfl) rfl | exact cv_row (Nat.le_of_ble_eq_true rfl) rfl | exact cv_mp (Nat.le_of_ble_eq_true rfl) rfl)
            · exfalso; omega
          · (repeat' first | refine t_seq ?_ | refine t_reg ?_ | refine t_skip ?_ | refine t_scope ?_ | refine t_ret ?_ | refine t_exit ?_ | refine lit_t rfl ?_ | refine lit_f rfl ?_ | refine And.intro (And.intro rfl (Nat.le_of_ble_eq_true rfl)) ?_ | refine c_t rfl ?_ | refine c_f rfl ?_ | (first | refine And.intro (Int.natCast_nonneg j) (Exists.intro _ (And.intro (row_at hltj) (And.intro rfl ?_))) | refine Exists.intro _ (And.intro hf (lk_some ?_)) | refine And.intro (Int.natCast_nonneg i) (Exists.intro _ (And.intro hatg (And.intro rfl ?_)))) | (refine sp_t (fun h => ?_) (fun h => ?_) <;> (try simp only [List.length_map] at h)) | (refine sp_f (fun h => ?_) (fun h => ?_) <;> (try simp only [List.length_map] at h)) | refine sq_t (fun h => ?_) (fun h => ?_) | refine sq_f (fun h => ?_) (fun h => ?_) | refine sb_t (fun h => ?_) (fun h => ?_) | refine sb_f (fun h => ?_) (fun h => ?_) | (refine c_nd rfl (fun h => ?_) (fun h => ?_) <;> (try simp only [List.length_map] at h)) | (refine c_d rfl (fun h => ?_) (fun h => ?_) <;> (try simp only [List.length_map] at h)) | refine c_nq rfl (fun h => ?_) (fun h => ?_) | refine c_q rfl (fun h => ?_) (fun h => ?_) | refine c_nb rfl (fun h => ?_) (fun h => ?_) | refine c_b rfl (fun h => ?_) (fun h => ?_) | refine And.intro rfl (Exists.intro _ (And.intro rfl ?_)) | refine Exists.intro _ (And.intro rfl ?_))
            · exfalso; omega
            · refine And.intro rfl ⟨p5E n L R i (j + 1), p3H n R, moveL [0, 1] rfl (by decide) ⟨.inr ⟨_, rfl, cvO_box n.clean⟩, .inr ⟨_, rfl, cvO_mapB _⟩, trivial⟩ ?_, by rw [List.length_map]; omega, rfl, rfl⟩
              refine ⟨?_, ?_, ?_, ?_, ?_, ?_, ?_, ?_, ?_, ?_, trivial⟩ <;> (first | exact .cl _ rfl | exact .cl _ (by assumption) | exact cv_ptr (Nat.le_of_ble_eq_true rfl) rfl | exact .nilS | exact cv_own (Nat.le_of_ble_eq_true rfl) rfl | exact cv_row (Nat.le_of_ble_eq_true rfl) rfl | exact cv_mp (Nat.le_of_ble_eq_true rfl) rfl)
        · rintro E H ⟨hj, rfl, rfl⟩
          refine And.intro rfl ⟨p2E n L (i + 1), [.box n.cells], moveL [0] rfl (by decide) ⟨.inr ⟨_, rfl, cvO_box n.clean⟩, trivial⟩ ?_, by rw [List.length_map]; omega, rfl, rfl⟩
          refine ⟨?_, ?_, ?_, ?_, ?_, trivial⟩ <;> (first | exact .cl _ rfl | exact .cl _ (by assumption) | exact cv_ptr (Nat.le_of_ble_eq_true rfl) rfl | exact .nilS | exact cv_own (Nat.le_of_ble_eq_true rfl) rfl | exact cv_row (Nat.le_of_ble_eq_true rfl) rfl | exact cv_mp (Nat.le_of_ble_eq_true rfl) rfl)
      · rintro E H ⟨hi, rfl, rfl⟩
        (repeat' first | refine t_seq ?_ | refine t_reg ?_ | refine t_skip ?_ | refine t_scope ?_ | refine t_ret ?_ | refine t_exit ?_ | refine lit_t rfl ?_ | refine lit_f rfl ?_ | refine And.intro (And.intro rfl (Nat.le_of_ble_eq_true rfl)) ?_ | refine c_t rfl ?_ | refine c_f rfl ?_ | (refine sp_t (fun h => ?_) (fun h => ?_) <;> (try simp only [List.length_map] at h)) | (refine sp_f (fun h => ?_) (fun h => ?_) <;> (try simp only [List.length_map] at h)) | refine sq_t (fun h => ?_) (fun h => ?_) | refine sq_f (fun h => ?_) (fun h => ?_) | refine sb_t (fun h => ?_) (fun h => ?_) | refine sb_f (fun h => ?_) (fun h => ?_) | (refine c_nd rfl (fun h => ?_) (fun h => ?_) <;> (try simp only [List.length_map] at h)) | (refine c_d rfl (fun h => ?_) (fun h => ?_) <;> (try simp only [List.length_map] at h)) | refine c_nq rfl (fun h => ?_) (fun h => ?_) | refine c_q rfl (fun h => ?_) (fun h => ?_) | refine c_nb rfl (fun h => ?_) (fun h => ?_) | refine c_b rfl (fun h => ?_) (fun h => ?_) | refine And.intro (by omega) (Exists.intro _ (And.intro (row_atN (by omega)) (And.intro rfl ?_))) | refine And.intro rfl (Exists.intro _ (And.intro rfl ?_)) | refine Exists.intro _ (And.intro rfl ?_))
        rfl
end Go.Proofs.Ythpcjekmgohelaa.Ab

/- PLAIN LAWS, 1: of graphs: who reaches, in how many steps. No program in sight. -/
namespace Go.Proofs.Ythpcjekmgohelaa.Ab
open Go Go.Proofs
set_option linter.unusedVariables false
set_option linter.unusedSimpArgs false

theorem getB_none {L : List Bool} {k : Nat} (h : ¬ k < L.length) : L.getD k false = false := by
  rw [List.getD_eq_getElem?_getD, List.getElem?_eq_none (by omega)]; rfl
theorem onB_eq (to : List Bool) (x : Int) : onB to x = (decide (0 ≤ x) && to.getD x.toNat false) := by
  unfold onB
  by_cases h : 0 ≤ x
  · by_cases e : x < to.length
    · simp [h, e]
    · have : to.getD x.toNat false = false := getB_none (by omega)
      rw [this]; simp
  · simp [h]
theorem stepM_at (g : List (List Int)) (to : List Bool) (k : Nat) : (stepM g to).getD k false = (g.getD k []).any (onB to) := by
  by_cases h : k < g.length
  · rw [getD_of (by rw [stepM_len]; exact h), getD_of h]; simp [stepM]
  · rw [getB_none (by rw [stepM_len]; exact h), List.getD_eq_getElem?_getD, List.getElem?_eq_none (by omega)]; rfl
theorem stepM_true {g : List (List Int)} {to : List Bool} {k : Nat} : (stepM g to).getD k false = true ↔ ∃ x ∈ g.getD k [], 0 ≤ x ∧ to.getD x.toNat false = true := by
  rw [stepM_at, List.any_eq_true]
  simp only [onB_eq, Bool.and_eq_true, decide_eq_true_eq]
theorem reach_succ (g : List (List Int)) (to : List Bool) (m k : Nat) : (reachM g to (m + 1)).getD k false = ((reachM g to m).getD k false || (stepM g (reachM g to m)).getD k false) := by
  by_cases h : k < g.length
  · have h1 : k < (reachM g to (m + 1)).length := by rw [reachM_len]; exact h
    rw [getD_of h1, getD_of (by rw [reachM_len]; exact h), getD_of (by rw [stepM_len]; exact h)]
    simp [reachM]
  · rw [getB_none (by rw [reachM_len]; exact h), getB_none (by rw [reachM_len]; exact h), getB_none (by rw [stepM_len]; exact h)]; rfl
theorem reach_now (g : List (List Int)) (to : List Bool) : ∀ m k, (reachM g to m).getD k false = true ↔ ∃ j, j ≤ m ∧ (nowM g to j).getD k false = true
  | 0, k => by
    constructor
    · intro h; exact ⟨0, Nat.le_refl _, h⟩
    · rintro ⟨j, hj, h⟩
      obtain rfl : j = 0 := by omega
      exact h
  | m + 1, k => by
    rw [reach_succ, Bool.or_eq_true, stepM_true]
    constructor
    · rintro (h | ⟨x, hx, h0, h⟩)
      · obtain ⟨j, hj, h⟩ := (reach_now g to m k).1 h
        exact ⟨j, by omega, h⟩
      · obtain ⟨j, hj, h⟩ := (reach_now g to m _).1 h
        exact ⟨j + 1, by omega, stepM_true.2 ⟨x, hx, h0, h⟩⟩
    · rintro ⟨j, hj, h⟩
      by_cases e : j ≤ m
      · exact .inl ((reach_now g to m k).2 ⟨j, e, h⟩)
      · obtain rfl : j = m + 1 := by omega
        obtain ⟨x, hx, h0, h⟩ := stepM_true.1 (show (stepM g (nowM g to m)).getD k false = true from h)
        exact .inr ⟨x, hx, h0, (reach_now g to m _).2 ⟨m, Nat.le_refl _, h⟩⟩

theorem count_or : ∀ (A S : List Bool), A.length = S.length → (List.zipWith (· || ·) A S = A) ∨ A.count true + 1 ≤ (List.zipWith (· || ·) A S).count true
  | [], [], _ => .inl rfl
  | a :: A, s :: S, h => by
    have hl : A.length = S.length := by simpa using h
    have hle : ∀ (A S : List Bool), A.length = S.length → A.count true ≤ (List.zipWith (· || ·) A S).count true := by
      intro A
      induction A with
      | nil => intro S _; simp
      | cons a A ih =>
        intro S h
        cases S with
        | nil => simp at h
        | cons s S =>
          have := ih S (by simpa using h)
          cases a <;> cases s <;> simp [List.count_cons] <;> omega
    have h2 := hle A S hl
    rcases count_or A S hl with h1 | h1
    · cases a <;> cases s
      · left; simp [h1]
      · right; simp [List.count_cons]; omega
      · left; simp [h1]
      · left; simp [h1]
    · right
      cases a <;> cases s <;> simp [List.count_cons] <;> omega
theorem reach_same {g : List (List Int)} {to : List Bool} {i : Nat} (h : reachM g to (i + 1) = reachM g to i) : ∀ d, reachM g to (i + d) = reachM g to i
  | 0 => rfl
  | d + 1 => by
    have ih := reach_same h d
    have h1 : reachM g to (i + d + 1) = List.zipWith (· || ·) (reachM g to (i + d)) (stepM g (reachM g to (i + d))) := rfl
    rw [ih] at h1
    exact h1.trans h
theorem reach_chain (g : List (List Int)) (to : List Bool) : ∀ m, (∃ i, i < m ∧ reachM g to (i + 1) = reachM g to i) ∨ (reachM g to 0).count true + m ≤ (reachM g to m).count true
  | 0 => .inr (by simp)
  | m + 1 => by
    rcases reach_chain g to m with ⟨i, hi, h⟩ | h
    · exact .inl ⟨i, by omega, h⟩
    · rcases count_or (reachM g to m) (stepM g (reachM g to m)) (by rw [reachM_len, stepM_len]) with h1 | h1
      · exact .inl ⟨m, by omega, h1⟩
      · refine .inr ?_
        show _ ≤ (List.zipWith (· || ·) (reachM g to m) (stepM g (reachM g to m))).count true
        omega
theorem now_none {g : List (List Int)} {to : List Bool} (h : ∀ k, (nowM g to 0).getD k false = false) : ∀ j k, (nowM g to j).getD k false = false
  | 0, k => h k
  | j + 1, k => by
    rw [Bool.eq_false_iff]
    intro hc
    obtain ⟨x, _, _, hx⟩ := stepM_true.1 (show (stepM g (nowM g to j)).getD k false = true from hc)
    rw [now_none h j] at hx; cases hx
/-- Who is come to in some number of steps is come to in a number below that of nodes. -/
theorem now_few {g : List (List Int)} {to : List Bool} {j k : Nat} (hk : k < g.length) (h : (nowM g to j).getD k false = true) : ∃ i, i < g.length ∧ (nowM g to i).getD k false = true := by
  have hc0 : 1 ≤ (reachM g to 0).count true := by
    by_cases e : ∀ q, (nowM g to 0).getD q false = false
    · rw [now_none e] at h; cases h
    · simp only [Classical.not_forall, Bool.not_eq_false] at e
      obtain ⟨q, hq⟩ := e
      have hq' : q < (nowM g to 0).length := by
        by_cases e : q < (nowM g to 0).length
        · exact e
        · rw [getB_none e] at hq; cases hq
      rw [getD_of hq'] at hq
      exact List.count_pos_iff.2 (hq ▸ List.getElem_mem hq')
  have hle : (reachM g to g.length).count true ≤ g.length := by
    have := List.count_le_length (a := true) (l := reachM g to g.length)
    rwa [reachM_len] at this
  rcases reach_chain g to g.length with ⟨i, hi, hs⟩ | h1
  · have hR : (reachM g to i).getD k false = true := by
      by_cases e : j ≤ i
      · exact (reach_now g to i k).2 ⟨j, e, h⟩
      · have := (reach_now g to (i + (j - i)) k).2 ⟨j, by omega, h⟩
        rwa [reach_same hs] at this
    obtain ⟨q, hq, h⟩ := (reach_now g to i k).1 hR
    exact ⟨q, by omega, h⟩
  · omega
theorem hops_mem {g : List (List Int)} {to : List Bool} {c k : Nat} {x : Int} : x ∈ hopsUp g to c k ↔ ∃ m : Nat, m < c ∧ (nowM g to m).getD k false = true ∧ x = m := by
  unfold hopsUp
  simp only [List.mem_map, List.mem_filter, List.mem_range]
  constructor
  · rintro ⟨m, ⟨h1, h2⟩, rfl⟩; exact ⟨m, h1, h2, rfl⟩
  · rintro ⟨m, h1, h2, rfl⟩; exact ⟨m, ⟨h1, h2⟩, rfl⟩
theorem hops_rise (g : List (List Int)) (to : List Bool) (c k : Nat) : (hopsUp g to c k).Pairwise (· < ·) := by
  unfold hopsUp
  refine List.pairwise_map.2 ((List.Pairwise.filter _ List.pairwise_lt_range).imp fun h => ?_)
  exact Int.ofNat_lt.2 h
theorem hops_reach {g : List (List Int)} {to : List Bool} {c k : Nat} (hk : k < g.length) (hc : g.length < c) : (reachM g to g.length).getD k false = true ↔ 0 < (hopsUp g to c k).length := by
  rw [reach_now, List.length_pos_iff_exists_mem]
  constructor
  · rintro ⟨j, hj, h⟩
    exact ⟨j, hops_mem.2 ⟨j, by omega, h, rfl⟩⟩
  · rintro ⟨x, hx⟩
    obtain ⟨m, hm, h, rfl⟩ := hops_mem.1 hx
    obtain ⟨i, hi, h⟩ := now_few hk h
    exact ⟨i, by omega, h⟩
theorem hops_first {g : List (List Int)} {to : List Bool} {c k : Nat} (hk : k < g.length) (hc : g.length < c) (h0 : 0 < (hopsUp g to c k).length) : (hopsUp g to c k)[0] < (g.length : Int) := by
  obtain ⟨m, hm, h, _⟩ := hops_mem.1 (List.getElem_mem h0)
  obtain ⟨i, hi, h⟩ := now_few hk h
  obtain ⟨q, hq, he⟩ := List.mem_iff_getElem.1 (hops_mem.2 ⟨i, by omega, h, rfl⟩ : (i : Int) ∈ hopsUp g to c k)
  by_cases e : q = 0
  · subst e; rw [he]; omega
  · have := List.pairwise_iff_getElem.1 (hops_rise g to c k) 0 q h0 hq (by omega)
    omega
/-- A node that sends nowhere and is where one goes. -/
theorem hops_here {g : List (List Int)} {to : List Bool} {c k : Nat} (hk : k < g.length) (hg : g.getD k [] = []) (ht : to.getD k false = true) : hopsUp g to (c + 1) k = [0] := by
  have h0 : (nowM g to 0).getD k false = true := by
    have hk2 : k < to.length := by
      by_cases e : k < to.length
      · exact e
      · rw [getB_none e] at ht; cases ht
    rw [getD_of hk2] at ht
    show (startL to g.length).getD k false = true
    unfold startL
    rw [List.getD_eq_getElem?_getD, List.getElem?_append_left (by simp; omega), List.getElem?_take_of_lt hk, List.getElem?_eq_getElem hk2]
    exact ht
  have hs : ∀ m, (nowM g to (m + 1)).getD k false = false := fun m => by
    show (stepM g (nowM g to m)).getD k false = false
    rw [stepM_at, hg]; rfl
  unfold hopsUp
  rw [List.range_succ_eq_map, List.filter_cons, if_pos h0, List.filter_map]
  have : (List.range c).filter ((fun m => (nowM g to m).getD k false) ∘ Nat.succ) = [] := by
    rw [List.filter_eq_nil_iff]
    intro m _
    show ¬ (nowM g to (m + 1)).getD k false = true
    rw [hs]; decide
  rw [this]; rfl
theorem loops_here {g : List (List Int)} {k : Nat} (hk : k < g.length) (hg : g.getD k [] = []) : (loopsM g g.length).getD k false = false := by
  obtain ⟨m, hm⟩ : ∃ m, g.length = m + 1 := ⟨g.length - 1, by omega⟩
  rw [hm]
  show (stepM g (loopsM g m)).getD k false = false
  rw [stepM_at, hg]; rfl
end Go.Proofs.Ythpcjekmgohelaa.Ab
