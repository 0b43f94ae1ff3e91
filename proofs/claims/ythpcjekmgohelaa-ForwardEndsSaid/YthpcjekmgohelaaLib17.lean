/- FUNCTIONS, 17: lift.Answers, lift.Up, routes by numbers. -/
import Derived.Test.YthpcjekmgohelaaLib16
import Derived.Test.YthpcjekmgohelaaLib15
set_option linter.unusedVariables false
set_option linter.unusedSimpArgs false
namespace Go.Proofs.Ythpcjekmgohelaa.Ab
open Go Go.Proofs
set_option linter.unusedVariables false
set_option linter.unusedSimpArgs false
variable {G : GI}

/-! ### A list that is filled place by place -/
def fillL {α : Type} (f : Nat → α) (z : α) (n i : Nat) : List α := (List.range n).map fun k => if k < i then f k else z
theorem fillL_len {α : Type} (f : Nat → α) (z : α) (n i : Nat) : (fillL f z n i).length = n := by simp [fillL]
theorem fillL_zero {α : Type} (f : Nat → α) (z : α) (n : Nat) : fillL f z n 0 = List.replicate n z := by
  refine List.ext_getElem (by simp [fillL]) fun k h1 h2 => by simp [fillL]
theorem fillL_all {α : Type} (f : Nat → α) (z : α) (n : Nat) : fillL f z n n = (List.range n).map f := by
  refine List.map_congr_left fun k hk => ?_
  rw [if_pos (by simpa using hk)]
theorem fillL_at {α : Type} (f : Nat → α) (z : α) (n i : Nat) (h : i < n) : (fillL f z n i)[i]? = some z := by simp [fillL, h]
theorem fillL_set {α : Type} (f : Nat → α) (z : α) (n i : Nat) : (fillL f z n i).set i (f i) = fillL f z n (i + 1) := by
  refine List.ext_getElem (by simp [fillL]) fun k h1 h2 => ?_
  by_cases e : k = i
  · subst e; simp [fillL]
  · rw [List.getElem_set_ne (fun h => e h.symm)]
    have : (k < i + 1) = (k < i) := by simp; omega
    simp only [fillL, List.getElem_map, List.getElem_range, this]
theorem fillL_skip {α : Type} (f : Nat → α) (z : α) (n i : Nat) (h : f i = z) : fillL f z n (i + 1) = fillL f z n i := by
  refine List.map_congr_left fun k _ => ?_
  by_cases e : k = i
  · subst e; simp [h]
  · have : (k < i + 1) = (k < i) := by simp; omega
    simp only [this]

/-! ### Some -/
def ucells (x : Int) : List AVal := [.i .u16 x]
def someA (x : Int) : Attr := if 0 < x.tmod 4 then ⟨true, IntKind.i64.wrap (100 + IntKind.i64.wrap ((IntKind.i64.wrap (x.tmod 4)).tdiv 3)), IntKind.i64.wrap ((IntKind.u16.wrap (x.tdiv 64)).tmod 16), IntKind.u8.wrap ((IntKind.u16.wrap (x.tdiv 4)).tmod 16)⟩ else Attr.zero
def someK (ns : List Int) (k : Nat) : Attr := if k < ns.length then someA (ns.getD k 0) else Attr.zero
def someM (ns : List Int) (many : Nat) : List Attr := (List.range many).map (someK ns)
abbrev smE (ns : List Int) (many i : Nat) : Slots := [(11, .i .i64 (i : Nat)), (10, .i .i64 (many : Nat)), (5, .row 0 many), (0, .sl (ns.map ucells))]

theorem law15_Some_ev (ns : List Int) (many : Nat) (hm : many ≤ 1000000) : EvP Try.prog G fn_maquettelaw15_Some [.sl (ns.map ucells), .i .i64 (many : Nat)] (.sl ((someM ns many).map Attr.cells)) := by
  have c1 := clean_sl (f := ucells) (fun _ => rfl) ns
  have cA : ∀ L : List Attr, cleanLL (L.map Attr.cells) = true := fun L => clean_rows Attr.clean _
  have lA : ∀ L : List Attr, ∀ r ∈ L.map Attr.cells, r.length = 4 := fun L => len_rows (f := Attr.cells) (fun _ => rfl) _
  refine evP c_maquettelaw15_Some rfl ?_
  (repeat' first | refine t_seq ?_ | refine t_reg ?_ | refine t_skip ?_ | refine t_scope ?_ | refine t_ret ?_ | refine t_exit ?_ | refine lit_t rfl ?_ | refine lit_f rfl ?_ | refine And.intro (And.intro rfl (Nat.le_of_ble_eq_true rfl)) ?_ | refine c_t rfl ?_ | refine c_f rfl ?_)
  refine And.intro (And.intro rfl ?_) ?_
  · exact ⟨by omega, by omega, by omega, rfl⟩
  (repeat' first | refine t_seq ?_ | refine t_reg ?_ | refine t_skip ?_ | refine t_scope ?_ | refine t_ret ?_ | refine t_exit ?_ | refine lit_t rfl ?_ | refine lit_f rfl ?_ | refine And.intro (And.intro rfl (Nat.le_of_ble_eq_true rfl)) ?_ | refine c_t rfl ?_ | refine c_f rfl ?_)
  refine t_range many (by omega) (fun i E H => i ≤ many ∧ E = smE ns many i ∧ H = [.row 4 ((fillL (someK ns) Attr.zero many i).map Attr.cells) false]) (smE ns many 0) [.row 4 ((fillL (someK ns) Attr.zero many 0).map Attr.cells) false] ?_ ⟨Nat.zero_le _, rfl, rfl⟩ ?_ ?_ ?_
  · refine moveL [0] rfl (by decide) ⟨.inr ⟨_, rfl, cvO_row_as (by rw [fillL_zero]; simp; exact .inr rfl) (cA _) (lA _)⟩, trivial⟩ ?_
    refine ⟨?_, ?_, ?_, ?_, trivial⟩ <;> first | (first | exact .cl _ rfl | exact .cl _ (by assumption) | exact cv_ptr (Nat.le_of_ble_eq_true rfl) rfl | exact .nilS | exact cv_own (Nat.le_of_ble_eq_true rfl) rfl | exact cv_row (Nat.le_of_ble_eq_true rfl) rfl | exact cv_mp (Nat.le_of_ble_eq_true rfl) rfl) | exact cv_row_as (Nat.le_of_ble_eq_true rfl) rfl rfl
  · rintro i E H ⟨hi, rfl, rfl⟩; exact ⟨hi, rfl, rfl⟩
  · rintro i E H hlt ⟨hi, rfl, rfl⟩
    have hat := rows_at (f := Attr.cells) (fillL_at (someK ns) Attr.zero many i hlt)
    have hset := fillL_set (someK ns) Attr.zero many i
    have hskip := fillL_skip (someK ns) Attr.zero many i
    (repeat' first | refine t_seq ?_ | refine t_reg ?_ | refine t_skip ?_ | refine t_scope ?_ | refine t_ret ?_ | refine t_exit ?_ | refine lit_t rfl ?_ | refine lit_f rfl ?_ | refine And.intro (And.intro rfl (Nat.le_of_ble_eq_true rfl)) ?_ | refine c_t rfl ?_ | refine c_f rfl ?_ | (first | refine And.intro (Int.natCast_nonneg i) (Exists.intro _ (And.intro (row_at (by omega)) (And.intro rfl ?_))) | refine And.intro rfl (And.intro (by decide) ?_) | refine And.intro (And.intro rfl (And.intro rfl (Nat.le_of_ble_eq_true rfl))) (Exists.intro _ (And.intro (hat) ?_)) | refine And.intro (And.intro (by omega) (by omega)) ?_) | (refine sp_t (fun h => ?_) (fun h => ?_) <;> (try simp only [List.length_map] at h)) | (refine sp_f (fun h => ?_) (fun h => ?_) <;> (try simp only [List.length_map] at h)) | refine sq_t (fun h => ?_) (fun h => ?_) | refine sq_f (fun h => ?_) (fun h => ?_) | refine sb_t (fun h => ?_) (fun h => ?_) | refine sb_f (fun h => ?_) (fun h => ?_) | (refine c_nd rfl (fun h => ?_) (fun h => ?_) <;> (try simp only [List.length_map] at h)) | (refine c_d rfl (fun h => ?_) (fun h => ?_) <;> (try simp only [List.length_map] at h)) | refine c_nq rfl (fun h => ?_) (fun h => ?_) | refine c_q rfl (fun h => ?_) (fun h => ?_) | refine c_nb rfl (fun h => ?_) (fun h => ?_) | refine c_b rfl (fun h => ?_) (fun h => ?_) | refine And.intro rfl (Exists.intro _ (And.intro rfl ?_)) | refine Exists.intro _ (And.intro rfl ?_))
    · rename_i h1
      have hk : someK ns i = ⟨true, IntKind.i64.wrap (100 + IntKind.i64.wrap ((IntKind.i64.wrap (ns[i].tmod 4)).tdiv 3)), IntKind.i64.wrap ((IntKind.u16.wrap (ns[i].tdiv 64)).tmod 16), IntKind.u8.wrap ((IntKind.u16.wrap (ns[i].tdiv 4)).tmod 16)⟩ := by
        unfold someK
        rw [if_pos (by omega), getD_of (by omega), someA, if_pos (by exact h)]
      rw [hk] at hset
      refine And.intro rfl ⟨smE ns many (i + 1), [.row 4 ((fillL (someK ns) Attr.zero many (i + 1)).map Attr.cells) false], moveL [0] rfl (by decide) ⟨.inr ⟨_, rfl, cvO_row_as (by rw [← hset]; exact (set_map (f := Attr.cells)).symm) (cA _) (lA _)⟩, trivial⟩ ?_, hlt, rfl, rfl⟩
      refine ⟨?_, ?_, ?_, ?_, trivial⟩ <;> (first | exact .cl _ rfl | exact .cl _ (by assumption) | exact cv_ptr (Nat.le_of_ble_eq_true rfl) rfl | exact .nilS | exact cv_own (Nat.le_of_ble_eq_true rfl) rfl | exact cv_row (Nat.le_of_ble_eq_true rfl) rfl | exact cv_mp (Nat.le_of_ble_eq_true rfl) rfl)
    · rename_i h1
      have hk : someK ns i = Attr.zero := by
        unfold someK
        rw [if_pos (by omega), getD_of (by omega), someA, if_neg (by exact h)]
      refine And.intro rfl ⟨smE ns many (i + 1), [.row 4 ((fillL (someK ns) Attr.zero many (i + 1)).map Attr.cells) false], moveL [0] rfl (by decide) ⟨.inr ⟨_, rfl, cvO_row_as (by rw [hskip hk]) (cA _) (lA _)⟩, trivial⟩ ?_, hlt, rfl, rfl⟩
      refine ⟨?_, ?_, ?_, ?_, trivial⟩ <;> (first | exact .cl _ rfl | exact .cl _ (by assumption) | exact cv_ptr (Nat.le_of_ble_eq_true rfl) rfl | exact .nilS | exact cv_own (Nat.le_of_ble_eq_true rfl) rfl | exact cv_row (Nat.le_of_ble_eq_true rfl) rfl | exact cv_mp (Nat.le_of_ble_eq_true rfl) rfl)
    · have hk : someK ns i = Attr.zero := by
        unfold someK
        rw [if_neg (by omega)]
      refine And.intro rfl ⟨smE ns many (i + 1), [.row 4 ((fillL (someK ns) Attr.zero many (i + 1)).map Attr.cells) false], moveL [0] rfl (by decide) ⟨.inr ⟨_, rfl, cvO_row_as (by rw [hskip hk]) (cA _) (lA _)⟩, trivial⟩ ?_, hlt, rfl, rfl⟩
      refine ⟨?_, ?_, ?_, ?_, trivial⟩ <;> (first | exact .cl _ rfl | exact .cl _ (by assumption) | exact cv_ptr (Nat.le_of_ble_eq_true rfl) rfl | exact .nilS | exact cv_own (Nat.le_of_ble_eq_true rfl) rfl | exact cv_row (Nat.le_of_ble_eq_true rfl) rfl | exact cv_mp (Nat.le_of_ble_eq_true rfl) rfl)
  · rintro E H ⟨hi, rfl, rfl⟩
    (repeat' first | refine t_seq ?_ | refine t_reg ?_ | refine t_skip ?_ | refine t_scope ?_ | refine t_ret ?_ | refine t_exit ?_ | refine lit_t rfl ?_ | refine lit_f rfl ?_ | refine And.intro (And.intro rfl (Nat.le_of_ble_eq_true rfl)) ?_ | refine c_t rfl ?_ | refine c_f rfl ?_ | (refine sp_t (fun h => ?_) (fun h => ?_) <;> (try simp only [List.length_map] at h)) | (refine sp_f (fun h => ?_) (fun h => ?_) <;> (try simp only [List.length_map] at h)) | refine sq_t (fun h => ?_) (fun h => ?_) | refine sq_f (fun h => ?_) (fun h => ?_) | refine sb_t (fun h => ?_) (fun h => ?_) | refine sb_f (fun h => ?_) (fun h => ?_) | (refine c_nd rfl (fun h => ?_) (fun h => ?_) <;> (try simp only [List.length_map] at h)) | (refine c_d rfl (fun h => ?_) (fun h => ?_) <;> (try simp only [List.length_map] at h)) | refine c_nq rfl (fun h => ?_) (fun h => ?_) | refine c_q rfl (fun h => ?_) (fun h => ?_) | refine c_nb rfl (fun h => ?_) (fun h => ?_) | refine c_b rfl (fun h => ?_) (fun h => ?_) | refine And.intro (by omega) (Exists.intro _ (And.intro (row_atN (by omega)) (And.intro rfl ?_))) | refine And.intro rfl (Exists.intro _ (And.intro rfl ?_)) | refine Exists.intro _ (And.intro rfl ?_))
    exact frz_row rfl (by rw [fillL_all]; rfl) (by simp [someM]) (cA _)

/-! ### Answers -/
theorem ofM_len (n : Netw) (l : List Attr) : (ofM n l).length = n.origin.length := by simp [ofM]
theorem ofM_row (n : Netw) (l : List Attr) (hr : n.rise) : ∀ next ∈ ofM n l, next.length ≤ 12 := by
  intro next hx
  obtain ⟨k, _, rfl⟩ := List.mem_map.1 hx
  unfold ofRow
  split
  · simp
  · split
    · simp
    · split
      · rw [List.length_map]
        refine Nat.le_trans (List.length_filter_le _ _) ?_
        by_cases e : k < n.edges.length
        · rw [getD_of e]; exact hr.few _ (List.getElem_mem e)
        · rw [List.getD_eq_getElem?_getD, List.getElem?_eq_none (by omega)]; simp
      · simp
theorem ofM_ok (n : Netw) (l : List Attr) (hr : n.rise) (ho : (n.origin.length : Int) ≤ 1000000) : GraphOk (ofM n l) := ⟨by rw [ofM_len]; exact ho, fun next hx => by have := ofM_row n l hr next hx; omega⟩
def ansK (n : Netw) (l : List Attr) (most : Int) (k : Nat) : Ans := ⟨(reachM (ofM n l) n.origin (ofM n l).length).getD k false, (loopsM (ofM n l) (ofM n l).length).getD k false, (hopsM (ofM n l) n.origin most).getD k []⟩
def answersM (n : Netw) (l : List Attr) (most : Int) : List Ans := (List.range (ofM n l).length).map (ansK n l most)
abbrev anR (n : Netw) (l : List Attr) (most : Int) (i : Nat) : List (List AVal) := ((List.range i).map (ansK n l most)).map Ans.cells
abbrev anE (n : Netw) (l : List Attr) (most : Int) (i : Nat) : Slots := [(29, .i .i64 (i : Nat)), (28, .i .i64 (((ofM n l).map gcells).length : Nat)), (11, own (anR n l most i) 0), (10, .sl ((loopsM (ofM n l) (ofM n l).length).map bcells)), (9, .sl ((reachM (ofM n l) n.origin (ofM n l).length).map bcells)), (8, .sl ((hopsM (ofM n l) n.origin most).map gcells))]

theorem lift_Answers_ev (n : Netw) (l : List Attr) (most : Int) (hn : n.ok) (hr : n.rise) (ho : (n.origin.length : Int) ≤ 1000000) (hl : (l.length : Int) ≤ 9223372036854775807) : EvP Try.prog G fn_lift_Answers [n.av, .sl (l.map Attr.cells), .i .i64 most] (.sl ((answersM n l most).map Ans.cells)) := by
  have hg := ofM_ok n l hr ho
  have hgl := ofM_len n l
  have a1 : cleanAll [n.av, .sl (l.map Attr.cells)] = true := by simp only [cleanAll, List.all_cons, clean, Netw.av, n.clean, clean_rows Attr.clean]; rfl
  have a2 : cleanAll [.sl ((ofM n l).map gcells), .sl (n.origin.map bcells), .i .i64 most] = true := by simp only [cleanAll, List.all_cons, clean, clean_rows gcells_clean, clean_rows (f := bcells) (fun _ => rfl)]; rfl
  have a3 : cleanAll [.sl ((ofM n l).map gcells)] = true := by simp only [cleanAll, List.all_cons, clean, clean_rows gcells_clean]; rfl
  have cB : ∀ L : List Bool, clean (.sl (L.map bcells)) = true := fun L => clean_sl (f := bcells) (fun _ => rfl) L
  have cH : ∀ L : List (List Int), clean (.sl (L.map gcells)) = true := fun L => clean_sl gcells_clean L
  have cA : ∀ i, cleanLL (anR n l most i) = true := fun i => clean_rows Ans.clean _
  have lA : ∀ i, ∀ r ∈ anR n l most i, r.length = 3 := fun i => len_rows (f := Ans.cells) (fun _ => rfl) _
  refine evP c_lift_Answers rfl ?_
  (repeat' first | refine t_seq ?_ | refine t_reg ?_ | refine t_skip ?_ | refine t_scope ?_ | refine t_ret ?_ | refine t_exit ?_ | refine lit_t rfl ?_ | refine lit_f rfl ?_ | refine And.intro (And.intro rfl (Nat.le_of_ble_eq_true rfl)) ?_ | refine c_t rfl ?_ | refine c_f rfl ?_ | (first | refine call_clean (forward_Of_ev n l hn hr ho hl) a1 ?_ | refine call_clean (forward_Hops_ev (ofM n l) n.origin most hg) a2 ?_ | refine call_clean (forward_Reach_ev (ofM n l) n.origin hg) (gb_clean _ _) ?_ | refine call_clean (forward_Loops_ev (ofM n l) hg) a3 ?_) | (refine sp_t (fun h => ?_) (fun h => ?_) <;> (try simp only [List.length_map] at h)) | (refine sp_f (fun h => ?_) (fun h => ?_) <;> (try simp only [List.length_map] at h)) | refine sq_t (fun h => ?_) (fun h => ?_) | refine sq_f (fun h => ?_) (fun h => ?_) | refine sb_t (fun h => ?_) (fun h => ?_) | refine sb_f (fun h => ?_) (fun h => ?_) | (refine c_nd rfl (fun h => ?_) (fun h => ?_) <;> (try simp only [List.length_map] at h)) | (refine c_d rfl (fun h => ?_) (fun h => ?_) <;> (try simp only [List.length_map] at h)) | refine c_nq rfl (fun h => ?_) (fun h => ?_) | refine c_q rfl (fun h => ?_) (fun h => ?_) | refine c_nb rfl (fun h => ?_) (fun h => ?_) | refine c_b rfl (fun h => ?_) (fun h => ?_) | refine And.intro rfl (Exists.intro _ (And.intro rfl ?_)) | refine Exists.intro _ (And.intro rfl ?_))
  have hL : ((ofM n l).map gcells).length = n.origin.length := by simp [hgl]
  refine t_range ((ofM n l).map gcells).length (by omega) (fun i E H => i ≤ ((ofM n l).map gcells).length ∧ E = anE n l most i ∧ H = [ownO 3 (anR n l most i)]) (anE n l most 0) [ownO 3 (anR n l most 0)] ?_ ⟨Nat.zero_le _, rfl, rfl⟩ ?_ ?_ ?_
  · refine moveL [9] rfl (by decide) ⟨.inl rfl, trivial⟩ ?_
    refine ⟨?_, ?_, ?_, ?_, ?_, ?_, trivial⟩ <;> first | (first | exact .cl _ rfl | exact .cl _ (by assumption) | exact cv_ptr (Nat.le_of_ble_eq_true rfl) rfl | exact .nilS | exact cv_own (Nat.le_of_ble_eq_true rfl) rfl | exact cv_row (Nat.le_of_ble_eq_true rfl) rfl | exact cv_mp (Nat.le_of_ble_eq_true rfl) rfl) | exact .cl _ (cB _) | exact .cl _ (cH _)
  · rintro i E H ⟨hi, rfl, rfl⟩; exact ⟨hi, rfl, rfl⟩
  · rintro i E H hlt ⟨hi, rfl, rfl⟩
    have r1 : i < (reachM (ofM n l) n.origin (ofM n l).length).length := by rw [reachM_len]; omega
    have r2 : i < (loopsM (ofM n l) (ofM n l).length).length := by rw [loopsM_len]; omega
    have r3 : i < (hopsM (ofM n l) n.origin most).length := by simp [hopsM]; omega
    have hk : ansK n l most i = ⟨(reachM (ofM n l) n.origin (ofM n l).length)[i], (loopsM (ofM n l) (ofM n l).length)[i], (hopsM (ofM n l) n.origin most)[i]⟩ := by
      unfold ansK; rw [getD_of r1, getD_of r2, getD_of r3]
    have hstep : anR n l most (i + 1) = anR n l most i ++ [(ansK n l most i).cells] := by
      simp only [anR, List.range_succ, List.map_append, List.map_cons, List.map_nil]
    have c5 : (anR n l most i).length = i := by simp
    rw [hk] at hstep
    (repeat' first | refine t_seq ?_ | refine t_reg ?_ | refine t_skip ?_ | refine t_scope ?_ | refine t_ret ?_ | refine t_exit ?_ | refine lit_t rfl ?_ | refine lit_f rfl ?_ | refine And.intro (And.intro rfl (Nat.le_of_ble_eq_true rfl)) ?_ | refine c_t rfl ?_ | refine c_f rfl ?_ | (first | refine mv_as (v := own (anR n l most i) 0) rfl ?_ | refine And.intro (Int.natCast_nonneg i) (Exists.intro _ (And.intro (row_at r1) (And.intro rfl ?_))) | refine And.intro (Int.natCast_nonneg i) (Exists.intro _ (And.intro (row_at r2) (And.intro rfl ?_))) | refine And.intro (Int.natCast_nonneg i) (Exists.intro _ (And.intro (row_at r3) (And.intro rfl ?_))) | (refine Exists.intro [_] (And.intro rfl (And.intro (all_one rfl) (app_one (anR n l most i) 0 rfl rfl (c5) ?_ ?_))); omega)) | (refine sp_t (fun h => ?_) (fun h => ?_) <;> (try simp only [List.length_map] at h)) | (refine sp_f (fun h => ?_) (fun h => ?_) <;> (try simp only [List.length_map] at h)) | refine sq_t (fun h => ?_) (fun h => ?_) | refine sq_f (fun h => ?_) (fun h => ?_) | refine sb_t (fun h => ?_) (fun h => ?_) | refine sb_f (fun h => ?_) (fun h => ?_) | (refine c_nd rfl (fun h => ?_) (fun h => ?_) <;> (try simp only [List.length_map] at h)) | (refine c_d rfl (fun h => ?_) (fun h => ?_) <;> (try simp only [List.length_map] at h)) | refine c_nq rfl (fun h => ?_) (fun h => ?_) | refine c_q rfl (fun h => ?_) (fun h => ?_) | refine c_nb rfl (fun h => ?_) (fun h => ?_) | refine c_b rfl (fun h => ?_) (fun h => ?_) | refine And.intro rfl (Exists.intro _ (And.intro rfl ?_)) | refine Exists.intro _ (And.intro rfl ?_))
    refine And.intro rfl ⟨anE n l most (i + 1), [ownO 3 (anR n l most (i + 1))], moveL [1] rfl (by decide) ⟨.inr ⟨_, rfl, cvO_own_as (by rw [hstep]; rfl) (cA _) (lA _)⟩, trivial⟩ ?_, hlt, rfl, rfl⟩
    refine ⟨?_, ?_, ?_, ?_, ?_, ?_, trivial⟩ <;> first | (first | exact .cl _ rfl | exact .cl _ (by assumption) | exact cv_ptr (Nat.le_of_ble_eq_true rfl) rfl | exact .nilS | exact cv_own (Nat.le_of_ble_eq_true rfl) rfl | exact cv_row (Nat.le_of_ble_eq_true rfl) rfl | exact cv_mp (Nat.le_of_ble_eq_true rfl) rfl) | exact .cl _ (cB _) | exact .cl _ (cH _) | exact cv_own_new (Nat.le_of_ble_eq_true rfl) (by rw [hstep]; simp) (by rw [hstep, List.length_append, c5]; rfl) rfl
  · rintro E H ⟨hi, rfl, rfl⟩
    (repeat' first | refine t_seq ?_ | refine t_reg ?_ | refine t_skip ?_ | refine t_scope ?_ | refine t_ret ?_ | refine t_exit ?_ | refine lit_t rfl ?_ | refine lit_f rfl ?_ | refine And.intro (And.intro rfl (Nat.le_of_ble_eq_true rfl)) ?_ | refine c_t rfl ?_ | refine c_f rfl ?_ | (first | refine mv_as (v := own (anR n l most ((ofM n l).map gcells).length) 0) rfl ?_) | (refine sp_t (fun h => ?_) (fun h => ?_) <;> (try simp only [List.length_map] at h)) | (refine sp_f (fun h => ?_) (fun h => ?_) <;> (try simp only [List.length_map] at h)) | refine sq_t (fun h => ?_) (fun h => ?_) | refine sq_f (fun h => ?_) (fun h => ?_) | refine sb_t (fun h => ?_) (fun h => ?_) | refine sb_f (fun h => ?_) (fun h => ?_) | (refine c_nd rfl (fun h => ?_) (fun h => ?_) <;> (try simp only [List.length_map] at h)) | (refine c_d rfl (fun h => ?_) (fun h => ?_) <;> (try simp only [List.length_map] at h)) | refine c_nq rfl (fun h => ?_) (fun h => ?_) | refine c_q rfl (fun h => ?_) (fun h => ?_) | refine c_nb rfl (fun h => ?_) (fun h => ?_) | refine c_b rfl (fun h => ?_) (fun h => ?_) | refine And.intro rfl (Exists.intro _ (And.intro rfl ?_)) | refine Exists.intro _ (And.intro rfl ?_))
    refine (frz_own (rows := anR n l most ((ofM n l).map gcells).length) (esz := 3) rfl (cA _)).trans ?_
    unfold anR answersM
    rw [hL, hgl]
end Go.Proofs.Ythpcjekmgohelaa.Ab

/- ABSTRACT RUNS, 35: rows to which a row is joined that holds numbers. -/
namespace Go.Proofs.Ythpcjekmgohelaa.Ab
open Go Go.RowKit
set_option linter.unusedSimpArgs false
set_option linter.unusedVariables false

section
variable {σ : Nat → Nat} {ok : Nat → Prop} {H : Heap} {fr : Nat → Prop}
theorem getD_snoc {R : List (List AVal)} {r : List AVal} {i : Nat} (h : i < (R ++ [r]).length) : (R ++ [r]).getD i [] = if h : i < R.length then R[i] else r := by
  rw [List.getD_eq_getElem?_getD]
  by_cases e : i < R.length
  · rw [dif_pos e, List.getElem?_append_left e, List.getElem?_eq_getElem e]; rfl
  · rw [dif_neg e, List.getElem?_append_right (by omega)]
    have : i - R.length = 0 := by simp at h; omega
    rw [this]; rfl
theorem cvO_snoc {R rows' : List (List AVal)} {r r' : List AVal} {esz : Nat} (e : rows' = R ++ [r']) (hc : cleanLL R = true) (hr : ∀ q ∈ R, q.length = esz) (hcv : CvL σ ok H fr r r') (hl : r'.length = esz) :
    CvO σ ok H fr (.row esz (R ++ [r]) false) (ownO esz rows') := by
  subst e
  rw [ownO_ne (by simp)]
  refine .row esz _ _ false false (fun h => h) (by simp) ?_ fun i j hi hj => ?_
  · intro q hq
    rcases List.mem_append.1 hq with hq | hq
    · exact hr q hq
    · rw [List.mem_singleton.1 hq]; exact hl
  · rw [getD_snoc (by simpa using hi), getD_snoc hi]
    by_cases e : i < R.length
    · rw [dif_pos e, dif_pos e]
      rw [cleanLL_all] at hc
      exact .cl _ (all_getD (List.all_eq_true.1 hc _ (List.getElem_mem e)) (by rw [hr _ (List.getElem_mem e)]; exact hj))
    · rw [dif_neg e, dif_neg e]
      exact hcv.get j (by rw [hl]; exact hj)
end
section
variable {P : Program} {G : GI} {m0 : Nat} {E : Slots} {H : Heap} {Q : AExit → Slots → Heap → Prop}
theorem t_seqr {ops : List LOper} {y : LCode} (h : vcR P G ops E H fun E' H' => Trip P G m0 y E' H' Q) : Trip P G m0 (.seq (.reg ops) y) E H Q := t_seq (t_reg h)
/-- What holds between two pieces of code. -/
theorem t_cut {x y : LCode} (I : Slots → Heap → Prop) (hx : Trip P G m0 x E H (andThen (fun E' H' => ∃ E'' H'', Move m0 E' H' E'' H'' ∧ I E'' H'') Q)) (hy : ∀ E H, I E H → Trip P G m0 y E H Q) : Trip P G m0 (.seq x y) E H Q := by
  refine t_seq (t_mono hx ?_)
  intro x E' H' hq
  cases x with
  | normal =>
    obtain ⟨E'', H'', h1, h2⟩ := hq
    exact t_move h1 (hy E'' H'' h2)
  | exit id => exact hq
  | ret => exact hq
end
theorem lk_some {w : AVal} {A : AVal → Prop} {B : Prop} (h : A w) : (∀ v, some w = some v → A v) ∧ (some w = none → B) := ⟨fun v hv => (by cases hv; exact h), fun hv => (by cases hv)⟩
theorem lk_none {A : AVal → Prop} {B : Prop} (h : B) : (∀ v, (none : Option AVal) = some v → A v) ∧ ((none : Option AVal) = none → B) := ⟨fun v hv => (by cases hv), fun _ => h⟩
theorem frz_own3 {H : Heap} {A B D : List (List AVal)} {ea eb ed i j k : Nat} (hA : H[i]? = some (ownO ea A)) (hB : H[j]? = some (ownO eb B)) (hD : H[k]? = some (ownO ed D)) (cA : cleanLL A = true) (cB : cleanLL B = true) (cD : cleanLL D = true) :
    frz H (.agg [own A i, own B j, own D k]) = some (.agg [.sl A, .sl B, .sl D]) := by
  have h0 : clean (.agg [own A i, own B j, own D k]) = false := by
    have : clean (own A i) = false := by cases A <;> rfl
    simp only [clean, cleanL, this, Bool.false_and]
  have t : ∀ {rows : List (List AVal)} {esz id : Nat}, H[id]? = some (ownO esz rows) → thaw H (own rows id) = .sl rows := by
    intro rows esz id ho
    cases rows with
    | nil => rfl
    | cons r rs => simp only [own, thaw, ho, ownO, List.length_cons, if_true]
  have h1 : thaw H (.agg [own A i, own B j, own D k]) = .agg [.sl A, .sl B, .sl D] := by simp only [thaw, thawL, t hA, t hB, t hD]
  have h2 : clean (.agg [.sl A, .sl B, .sl D]) = true := by simp only [clean, cleanL, cA, cB, cD]; rfl
  unfold frz
  rw [h0, h1, thaw_clean _ _ h2, thaw_clean _ _ h2]
  simp only [h2, Bool.false_eq_true, if_false, if_true]

/-- A call whose arguments lead to no row of the heap. -/
theorem call_nil {P : Program} {G : GI} {f : FuncId} {args args' : List AVal} {r : AVal} {H : Heap} {K : AVal → Heap → Prop} (hev : EvP P G f args' r) (hf : frzAll H args = some args') (hx : args.foldl fix H = H) (h : frcV r fun r => K r H) : vcCall P G true f args H K := by
  refine .inl ⟨args', r, hev, hf, ?_⟩
  cases hc : (cleanAll args || flat r) with
  | true => exact .inl ⟨rfl, h⟩
  | false =>
    refine .inr ⟨rfl, rfl, ?_⟩
    rw [frcV_eq] at h ⊢
    rw [frcH_eq, hx]; exact h
/-- The same, where a value comes back that has no memory, or none is led to. -/
theorem call_frz {P : Program} {G : GI} {f : FuncId} {args args' : List AVal} {r : AVal} {H : Heap} {K : AVal → Heap → Prop} (hev : EvP P G f args' r) (hf : frzAll H args = some args') (hc : (cleanAll args || flat r) = false) (h : frcV r fun r => frcH (args.foldl fix H) fun H' => K r H') : vcCall P G true f args H K :=
  .inl ⟨args', r, hev, hf, .inr ⟨hc, rfl, h⟩⟩
end Go.Proofs.Ythpcjekmgohelaa.Ab

/- FUNCTIONS, 18: lift.Up. -/
namespace Go.Proofs.Ythpcjekmgohelaa.Ab
open Go Go.Proofs
set_option linter.unusedVariables false
set_option linter.unusedSimpArgs false
variable {G : GI}

def Ans.zero : Ans := ⟨false, false, []⟩
def upK (az : List Ans) (x : Int) : Ans := if 0 ≤ x ∧ x < az.length then az.getD x.toNat Ans.zero else Ans.zero
def upM (b : List Int) (az : List Ans) : List Ans := b.map (upK az)
abbrev upR (b : List Int) (az : List Ans) (i : Nat) : List (List AVal) := ((b.take i).map (upK az)).map Ans.cells
abbrev upE (b : List Int) (az : List Ans) (i : Nat) : Slots := [(11, .i .i64 (i : Nat)), (10, .i .i64 ((b.map icells).length : Nat)), (9, .sl (b.map icells)), (5, own (upR b az i) 0), (1, .sl (az.map Ans.cells))]

theorem lift_Up_ev (b : List Int) (az : List Ans) (hb : (b.length : Int) ≤ 1000000) (ha : ∀ a ∈ az, (a.hops.length : Int) ≤ 1000000) : EvP Try.prog G fn_lift_Up [.sl (b.map icells), .sl (az.map Ans.cells)] (.sl ((upM b az).map Ans.cells)) := by
  have c1 := clean_sl (f := icells) (fun _ => rfl) b
  have c2 := clean_sl Ans.clean az
  have cA : ∀ i, cleanLL (upR b az i) = true := fun i => clean_rows Ans.clean _
  have lA : ∀ i, ∀ r ∈ upR b az i, r.length = 3 := fun i => len_rows (f := Ans.cells) (fun _ => rfl) _
  have hcl : ∀ fs : List Int, cleanLL (fs.map icells) = true := fun fs => clean_rows (fun _ => rfl) _
  have hcr : ∀ fs : List Int, ∀ r ∈ fs.map icells, r.length = 1 := fun fs => len_rows (f := icells) (fun _ => rfl) _
  refine evP c_lift_Up rfl ?_
  (repeat' first | refine t_seq ?_ | refine t_reg ?_ | refine t_skip ?_ | refine t_scope ?_ | refine t_ret ?_ | refine t_exit ?_ | refine lit_t rfl ?_ | refine lit_f rfl ?_ | refine And.intro (And.intro rfl (Nat.le_of_ble_eq_true rfl)) ?_ | refine c_t rfl ?_ | refine c_f rfl ?_)
  refine t_range (b.map icells).length (by simp; omega) (fun i E H => i ≤ (b.map icells).length ∧ E = upE b az i ∧ H = [ownO 3 (upR b az i)]) (upE b az 0) [ownO 3 (upR b az 0)] ?_ ⟨Nat.zero_le _, rfl, rfl⟩ ?_ ?_ ?_
  · refine moveL [9] rfl (by decide) ⟨.inl rfl, trivial⟩ ?_
    refine ⟨?_, ?_, ?_, ?_, ?_, trivial⟩ <;> (first | exact .cl _ rfl | exact .cl _ (by assumption) | exact cv_ptr (Nat.le_of_ble_eq_true rfl) rfl | exact .nilS | exact cv_own (Nat.le_of_ble_eq_true rfl) rfl | exact cv_row (Nat.le_of_ble_eq_true rfl) rfl | exact cv_mp (Nat.le_of_ble_eq_true rfl) rfl)
  · rintro i E H ⟨hi, rfl, rfl⟩; exact ⟨hi, rfl, rfl⟩
  · rintro i E H hlt ⟨hi, rfl, rfl⟩
    have hlt' : i < b.length := by simpa using hlt
    have hstep : upR b az (i + 1) = upR b az i ++ [(upK az b[i]).cells] := by
      simp only [upR, List.take_succ_eq_append_getElem hlt', List.map_append]; rfl
    have c5 : (upR b az i).length = i := by simp; omega
    (repeat' first | refine t_seq ?_ | refine t_reg ?_ | refine t_skip ?_ | refine t_scope ?_ | refine t_ret ?_ | refine t_exit ?_ | refine lit_t rfl ?_ | refine lit_f rfl ?_ | refine And.intro (And.intro rfl (Nat.le_of_ble_eq_true rfl)) ?_ | refine c_t rfl ?_ | refine c_f rfl ?_)
    refine And.intro (Int.natCast_nonneg i) (Exists.intro _ (And.intro (row_at hlt') (And.intro rfl ?_)))
    generalize b[i] = x at hstep ⊢
    (repeat' first | refine t_seq ?_ | refine t_reg ?_ | refine t_skip ?_ | refine t_scope ?_ | refine t_ret ?_ | refine t_exit ?_ | refine lit_t rfl ?_ | refine lit_f rfl ?_ | refine And.intro (And.intro rfl (Nat.le_of_ble_eq_true rfl)) ?_ | refine c_t rfl ?_ | refine c_f rfl ?_ | (first | refine And.intro (by omega) (Exists.intro _ (And.intro (row_atN (by omega)) (And.intro rfl ?_))) | refine mv_as (v := own (upR b az i) 0) rfl ?_ | (refine Exists.intro [_] (And.intro rfl (And.intro (all_one rfl) (app_one (upR b az i) 0 rfl rfl (c5) ?_ ?_))); omega)) | (refine sp_t (fun h => ?_) (fun h => ?_) <;> (try simp only [List.length_map] at h)) | (refine sp_f (fun h => ?_) (fun h => ?_) <;> (try simp only [List.length_map] at h)) | refine sq_t (fun h => ?_) (fun h => ?_) | refine sq_f (fun h => ?_) (fun h => ?_) | refine sb_t (fun h => ?_) (fun h => ?_) | refine sb_f (fun h => ?_) (fun h => ?_) | (refine c_nd rfl (fun h => ?_) (fun h => ?_) <;> (try simp only [List.length_map] at h)) | (refine c_d rfl (fun h => ?_) (fun h => ?_) <;> (try simp only [List.length_map] at h)) | refine c_nq rfl (fun h => ?_) (fun h => ?_) | refine c_q rfl (fun h => ?_) (fun h => ?_) | refine c_nb rfl (fun h => ?_) (fun h => ?_) | refine c_b rfl (fun h => ?_) (fun h => ?_) | refine And.intro rfl (Exists.intro _ (And.intro rfl ?_)) | refine Exists.intro _ (And.intro rfl ?_))
    · rename_i h0
      have hxl : x.toNat < az.length := by omega
      have hk : upK az x = az[x.toNat] := by unfold upK; rw [if_pos ⟨h0, h⟩, getD_of hxl]
      rw [hk] at hstep
      have hal := ha _ (List.getElem_mem hxl)
      generalize az[x.toNat] = a at hstep hal ⊢
      obtain ⟨re, lo, hops⟩ := a
      refine And.intro (hcr hops) ?_
      cases hops with
      | nil =>
        refine And.intro (fun _ => ?_) (fun hne => absurd rfl hne)
        (repeat' first | refine t_seq ?_ | refine t_reg ?_ | refine t_skip ?_ | refine t_scope ?_ | refine t_ret ?_ | refine t_exit ?_ | refine lit_t rfl ?_ | refine lit_f rfl ?_ | refine And.intro (And.intro rfl (Nat.le_of_ble_eq_true rfl)) ?_ | refine c_t rfl ?_ | refine c_f rfl ?_ | (first | refine mv_as (v := own (upR b az i) 0) rfl ?_ | (refine Exists.intro [_] (And.intro rfl (And.intro (all_one rfl) (app_one (upR b az i) 0 rfl rfl (c5) ?_ ?_))); omega)) | (refine sp_t (fun h => ?_) (fun h => ?_) <;> (try simp only [List.length_map] at h)) | (refine sp_f (fun h => ?_) (fun h => ?_) <;> (try simp only [List.length_map] at h)) | refine sq_t (fun h => ?_) (fun h => ?_) | refine sq_f (fun h => ?_) (fun h => ?_) | refine sb_t (fun h => ?_) (fun h => ?_) | refine sb_f (fun h => ?_) (fun h => ?_) | (refine c_nd rfl (fun h => ?_) (fun h => ?_) <;> (try simp only [List.length_map] at h)) | (refine c_d rfl (fun h => ?_) (fun h => ?_) <;> (try simp only [List.length_map] at h)) | refine c_nq rfl (fun h => ?_) (fun h => ?_) | refine c_q rfl (fun h => ?_) (fun h => ?_) | refine c_nb rfl (fun h => ?_) (fun h => ?_) | refine c_b rfl (fun h => ?_) (fun h => ?_) | refine And.intro rfl (Exists.intro _ (And.intro rfl ?_)) | refine Exists.intro _ (And.intro rfl ?_))
        refine And.intro rfl ⟨upE b az (i + 1), [ownO 3 (upR b az (i + 1))], moveL [2] rfl (by decide) ⟨.inr ⟨_, rfl, cvO_snoc hstep (cA _) (lA _) ⟨.cl _ rfl, .cl _ rfl, .nil, trivial⟩ rfl⟩, trivial⟩ ?_, hlt, rfl, rfl⟩; refine ⟨?_, ?_, ?_, ?_, ?_, trivial⟩ <;> first | (first | exact .cl _ rfl | exact .cl _ (by assumption) | exact cv_ptr (Nat.le_of_ble_eq_true rfl) rfl | exact .nilS | exact cv_own (Nat.le_of_ble_eq_true rfl) rfl | exact cv_row (Nat.le_of_ble_eq_true rfl) rfl | exact cv_mp (Nat.le_of_ble_eq_true rfl) rfl) | exact cv_own_new (Nat.le_of_ble_eq_true rfl) (by rw [hstep]; simp) (by rw [hstep, List.length_append, c5]; rfl) rfl
      | cons q qs =>
        have hal' : ((q :: qs).length : Int) ≤ 1000000 := hal
        have hb1 : ((q :: qs).map icells).length ≤ 1000000 := by rw [List.length_map]; omega
        refine And.intro (fun hne => absurd hne (List.cons_ne_nil _ _)) (fun _ => And.intro (And.intro (show ((q :: qs).map icells).length * 8 ≤ 140737488355328 by omega) (show ((q :: qs).map icells).length ≤ 9223372036854775807 by omega)) ?_)
        (repeat' first | refine t_seq ?_ | refine t_reg ?_ | refine t_skip ?_ | refine t_scope ?_ | refine t_ret ?_ | refine t_exit ?_ | refine lit_t rfl ?_ | refine lit_f rfl ?_ | refine And.intro (And.intro rfl (Nat.le_of_ble_eq_true rfl)) ?_ | refine c_t rfl ?_ | refine c_f rfl ?_ | (first | refine mv_as (v := own (upR b az i) 0) rfl ?_ | (refine Exists.intro [_] (And.intro rfl (And.intro (all_one rfl) (app_one (upR b az i) 0 rfl rfl (c5) ?_ ?_))); omega)) | (refine sp_t (fun h => ?_) (fun h => ?_) <;> (try simp only [List.length_map] at h)) | (refine sp_f (fun h => ?_) (fun h => ?_) <;> (try simp only [List.length_map] at h)) | refine sq_t (fun h => ?_) (fun h => ?_) | refine sq_f (fun h => ?_) (fun h => ?_) | refine sb_t (fun h => ?_) (fun h => ?_) | refine sb_f (fun h => ?_) (fun h => ?_) | (refine c_nd rfl (fun h => ?_) (fun h => ?_) <;> (try simp only [List.length_map] at h)) | (refine c_d rfl (fun h => ?_) (fun h => ?_) <;> (try simp only [List.length_map] at h)) | refine c_nq rfl (fun h => ?_) (fun h => ?_) | refine c_q rfl (fun h => ?_) (fun h => ?_) | refine c_nb rfl (fun h => ?_) (fun h => ?_) | refine c_b rfl (fun h => ?_) (fun h => ?_) | refine And.intro rfl (Exists.intro _ (And.intro rfl ?_)) | refine Exists.intro _ (And.intro rfl ?_))
        refine And.intro rfl ⟨upE b az (i + 1), [ownO 3 (upR b az (i + 1))], moveL [3] rfl (by decide) ⟨.inr ⟨_, rfl, cvO_snoc hstep (cA _) (lA _) ⟨.cl _ rfl, .cl _ rfl, cv_frz rfl (still_of (by rfl) (by rfl)) rfl rfl (hcl (q :: qs)) (hcr (q :: qs)), trivial⟩ rfl⟩, trivial⟩ ?_, hlt, rfl, rfl⟩; refine ⟨?_, ?_, ?_, ?_, ?_, trivial⟩ <;> first | (first | exact .cl _ rfl | exact .cl _ (by assumption) | exact cv_ptr (Nat.le_of_ble_eq_true rfl) rfl | exact .nilS | exact cv_own (Nat.le_of_ble_eq_true rfl) rfl | exact cv_row (Nat.le_of_ble_eq_true rfl) rfl | exact cv_mp (Nat.le_of_ble_eq_true rfl) rfl) | exact cv_own_new (Nat.le_of_ble_eq_true rfl) (by rw [hstep]; simp) (by rw [hstep, List.length_append, c5]; rfl) rfl
    · have hk : upK az x = Ans.zero := by unfold upK; rw [if_neg (by omega)]
      rw [hk] at hstep
      refine And.intro rfl ⟨upE b az (i + 1), [ownO 3 (upR b az (i + 1))], moveL [2] rfl (by decide) ⟨.inr ⟨_, rfl, cvO_snoc hstep (cA _) (lA _) ⟨.cl _ rfl, .cl _ rfl, .nil, trivial⟩ rfl⟩, trivial⟩ ?_, hlt, rfl, rfl⟩; refine ⟨?_, ?_, ?_, ?_, ?_, trivial⟩ <;> first | (first | exact .cl _ rfl | exact .cl _ (by assumption) | exact cv_ptr (Nat.le_of_ble_eq_true rfl) rfl | exact .nilS | exact cv_own (Nat.le_of_ble_eq_true rfl) rfl | exact cv_row (Nat.le_of_ble_eq_true rfl) rfl | exact cv_mp (Nat.le_of_ble_eq_true rfl) rfl) | exact cv_own_new (Nat.le_of_ble_eq_true rfl) (by rw [hstep]; simp) (by rw [hstep, List.length_append, c5]; rfl) rfl
    · have hk : upK az x = Ans.zero := by unfold upK; rw [if_neg (by omega)]
      rw [hk] at hstep
      refine And.intro rfl ⟨upE b az (i + 1), [ownO 3 (upR b az (i + 1))], moveL [2] rfl (by decide) ⟨.inr ⟨_, rfl, cvO_snoc hstep (cA _) (lA _) ⟨.cl _ rfl, .cl _ rfl, .nil, trivial⟩ rfl⟩, trivial⟩ ?_, hlt, rfl, rfl⟩; refine ⟨?_, ?_, ?_, ?_, ?_, trivial⟩ <;> first | (first | exact .cl _ rfl | exact .cl _ (by assumption) | exact cv_ptr (Nat.le_of_ble_eq_true rfl) rfl | exact .nilS | exact cv_own (Nat.le_of_ble_eq_true rfl) rfl | exact cv_row (Nat.le_of_ble_eq_true rfl) rfl | exact cv_mp (Nat.le_of_ble_eq_true rfl) rfl) | exact cv_own_new (Nat.le_of_ble_eq_true rfl) (by rw [hstep]; simp) (by rw [hstep, List.length_append, c5]; rfl) rfl
  · rintro E H ⟨hi, rfl, rfl⟩
    (repeat' first | refine t_seq ?_ | refine t_reg ?_ | refine t_skip ?_ | refine t_scope ?_ | refine t_ret ?_ | refine t_exit ?_ | refine lit_t rfl ?_ | refine lit_f rfl ?_ | refine And.intro (And.intro rfl (Nat.le_of_ble_eq_true rfl)) ?_ | refine c_t rfl ?_ | refine c_f rfl ?_ | (first | refine mv_as (v := own (upR b az (b.map icells).length) 0) rfl ?_) | (refine sp_t (fun h => ?_) (fun h => ?_) <;> (try simp only [List.length_map] at h)) | (refine sp_f (fun h => ?_) (fun h => ?_) <;> (try simp only [List.length_map] at h)) | refine sq_t (fun h => ?_) (fun h => ?_) | refine sq_f (fun h => ?_) (fun h => ?_) | refine sb_t (fun h => ?_) (fun h => ?_) | refine sb_f (fun h => ?_) (fun h => ?_) | (refine c_nd rfl (fun h => ?_) (fun h => ?_) <;> (try simp only [List.length_map] at h)) | (refine c_d rfl (fun h => ?_) (fun h => ?_) <;> (try simp only [List.length_map] at h)) | refine c_nq rfl (fun h => ?_) (fun h => ?_) | refine c_q rfl (fun h => ?_) (fun h => ?_) | refine c_nb rfl (fun h => ?_) (fun h => ?_) | refine c_b rfl (fun h => ?_) (fun h => ?_) | refine And.intro rfl (Exists.intro _ (And.intro rfl ?_)) | refine Exists.intro _ (And.intro rfl ?_))
    refine (frz_own (rows := upR b az (b.map icells).length) (esz := 3) rfl (cA _)).trans ?_
    unfold upR upM
    simp
end Go.Proofs.Ythpcjekmgohelaa.Ab

/- FUNCTIONS, 19: configurations; the destinations of one. -/
namespace Go.Proofs.Ythpcjekmgohelaa.Ab
open Go Go.Proofs
set_option linter.unusedVariables false
set_option linter.unusedSimpArgs false
variable {G : GI}

structure Lnk where
  peer : List UInt8
  cost : Int
  imp : List UInt8
  exp : List UInt8
  at_ : Int
def Lnk.cells (l : Lnk) : List AVal := [.s l.peer, .i .i64 l.cost, .s l.imp, .s l.exp, .i .i64 l.at_]
theorem Lnk.clean (l : Lnk) : cleanL l.cells = true := rfl
theorem Sta.clean (s : Sta) : cleanL s.cells = true := rfl
theorem Pfx.clean (p : Pfx) : cleanL p.cells = true := rfl
structure Rou where
  name : List UInt8
  nets : List Pfx
  links : List Lnk
  statics : List Sta
  at_ : Int
def Rou.cells (r : Rou) : List AVal := [.s r.name, .sl (r.nets.map Pfx.cells), .sl (r.links.map Lnk.cells), .sl (r.statics.map Sta.cells), .i .i64 r.at_]
theorem Rou.clean (r : Rou) : cleanL r.cells = true := by
  simp only [Rou.cells, cleanL, Ab.clean, clean_rows Pfx.clean, clean_rows Lnk.clean, clean_rows Sta.clean]; rfl
structure Mapp where
  name : List UInt8
  cla : List Cla
  at_ : Int
def Mapp.cells (m : Mapp) : List AVal := [.s m.name, .sl (m.cla.map Cla.cells), .i .i64 m.at_]
theorem Mapp.clean (m : Mapp) : cleanL m.cells = true := by
  simp only [Mapp.cells, cleanL, Ab.clean, clean_rows Cla.clean]; rfl
structure Conf where
  maps : List Mapp
  routers : List Rou
def Conf.cells (c : Conf) : List AVal := [.sl (c.maps.map Mapp.cells), .sl (c.routers.map Rou.cells)]
def Conf.av (c : Conf) : AVal := .agg c.cells
theorem Conf.clean (c : Conf) : cleanL c.cells = true := by
  simp only [Conf.cells, cleanL, Ab.clean, clean_rows Mapp.clean, clean_rows Rou.clean]; rfl
/-- Sizes that are small. -/
structure Rou.small (r : Rou) : Prop where
  nets : r.nets.length ≤ 1000
  links : r.links.length ≤ 1000
  statics : r.statics.length ≤ 1000
structure Conf.small (c : Conf) : Prop where
  maps : c.maps.length ≤ 1000
  routers : c.routers.length ≤ 1000
  cla : ∀ m ∈ c.maps, m.cla.length ≤ 1000
  rou : ∀ r ∈ c.routers, r.small

/-! ### Is a prefix there? -/
def pfxEq (p q : Pfx) : Bool := (p.addr == q.addr) && ((p.bits == q.bits) && true)
def idxF (p : Pfx) : List Pfx → Nat → Int
  | [], _ => -1
  | q :: qs, i => bif pfxEq p q then (i : Int) else idxF p qs (i + 1)
theorem idxF_any (p : Pfx) : ∀ (L : List Pfx) (i : Nat), decide (0 ≤ idxF p L i) = L.any (pfxEq p)
  | [], i => rfl
  | q :: qs, i => by
    cases h : pfxEq p q with
    | true => simp only [idxF, h, cond_true, List.any_cons, Bool.true_or]; exact decide_eq_true (by omega)
    | false => simp only [idxF, h, cond_false, List.any_cons, Bool.false_or]; exact idxF_any p qs (i + 1)
abbrev ixE (L : List Pfx) (i : Nat) : Slots := [(8, .i .i64 (i : Nat)), (7, .i .i64 ((L.map Pfx.cells).length : Nat)), (3, .ptr 0 0), (0, .sl (L.map Pfx.cells))]
theorem pl_clean (L : List Pfx) (p : Pfx) : cleanAll [.sl (L.map Pfx.cells), p.av] = true := by
  simp only [cleanAll, List.all_cons, clean, clean_rows Pfx.clean, Pfx.av, Pfx.clean]; rfl

theorem slices_Index_ev (L : List Pfx) (p : Pfx) (hl : (L.length : Int) ≤ 9223372036854775807) : EvP Try.prog G fn_slices_Index_Prefix [.sl (L.map Pfx.cells), p.av] (.i .i64 (idxF p L 0)) := by
  have c1 := clean_sl Pfx.clean L
  refine evP c_slices_Index_Prefix rfl ?_
  (repeat' first | refine t_seq ?_ | refine t_reg ?_ | refine t_skip ?_ | refine t_scope ?_ | refine t_ret ?_ | refine t_exit ?_ | refine lit_t rfl ?_ | refine lit_f rfl ?_ | refine And.intro (And.intro rfl (Nat.le_of_ble_eq_true rfl)) ?_ | refine c_t rfl ?_ | refine c_f rfl ?_)
  refine t_range (L.map Pfx.cells).length (by simp; omega) (fun i E H => i ≤ (L.map Pfx.cells).length ∧ idxF p L 0 = idxF p (L.drop i) i ∧ E = ixE L i ∧ H = [.box p.cells]) (ixE L 0) [.box p.cells] ?_ ⟨Nat.zero_le _, rfl, rfl, rfl⟩ ?_ ?_ ?_
  · refine moveL [0] rfl (by decide) ⟨.inr ⟨_, rfl, cvO_box p.clean⟩, trivial⟩ ?_
    refine ⟨?_, ?_, ?_, ?_, trivial⟩ <;> (first | exact .cl _ rfl | exact .cl _ (by assumption) | exact cv_ptr (Nat.le_of_ble_eq_true rfl) rfl | exact .nilS | exact cv_own (Nat.le_of_ble_eq_true rfl) rfl | exact cv_row (Nat.le_of_ble_eq_true rfl) rfl | exact cv_mp (Nat.le_of_ble_eq_true rfl) rfl)
  · rintro i E H ⟨hi, _, rfl, rfl⟩; exact ⟨hi, rfl, rfl⟩
  · rintro i E H hlt ⟨hi, hidx, rfl, rfl⟩
    have hlt' : i < L.length := by simpa using hlt
    rw [List.drop_eq_getElem_cons hlt'] at hidx
    (repeat' first | refine t_seq ?_ | refine t_reg ?_ | refine t_skip ?_ | refine t_scope ?_ | refine t_ret ?_ | refine t_exit ?_ | refine lit_t rfl ?_ | refine lit_f rfl ?_ | refine And.intro (And.intro rfl (Nat.le_of_ble_eq_true rfl)) ?_ | refine c_t rfl ?_ | refine c_f rfl ?_ | (first | refine And.intro (Int.natCast_nonneg i) (Exists.intro _ (And.intro (row_at hlt') (And.intro rfl ?_))) | refine c_b (b := pfxEq p L[i]) rfl (fun h => ?_) (fun h => ?_)) | (refine sp_t (fun h => ?_) (fun h => ?_) <;> (try simp only [List.length_map] at h)) | (refine sp_f (fun h => ?_) (fun h => ?_) <;> (try simp only [List.length_map] at h)) | refine sq_t (fun h => ?_) (fun h => ?_) | refine sq_f (fun h => ?_) (fun h => ?_) | refine sb_t (fun h => ?_) (fun h => ?_) | refine sb_f (fun h => ?_) (fun h => ?_) | (refine c_nd rfl (fun h => ?_) (fun h => ?_) <;> (try simp only [List.length_map] at h)) | (refine c_d rfl (fun h => ?_) (fun h => ?_) <;> (try simp only [List.length_map] at h)) | refine c_nq rfl (fun h => ?_) (fun h => ?_) | refine c_q rfl (fun h => ?_) (fun h => ?_) | refine c_nb rfl (fun h => ?_) (fun h => ?_) | refine c_b rfl (fun h => ?_) (fun h => ?_) | refine And.intro rfl (Exists.intro _ (And.intro rfl ?_)) | refine Exists.intro _ (And.intro rfl ?_))
    · rw [hidx]
      simp only [idxF, h, cond_true]; rfl
    · refine And.intro rfl ⟨ixE L (i + 1), [.box p.cells], moveL [0] rfl (by decide) ⟨.inr ⟨_, rfl, cvO_box p.clean⟩, trivial⟩ ?_, hlt, ?_, rfl, rfl⟩
      · refine ⟨?_, ?_, ?_, ?_, trivial⟩ <;> (first | exact .cl _ rfl | exact .cl _ (by assumption) | exact cv_ptr (Nat.le_of_ble_eq_true rfl) rfl | exact .nilS | exact cv_own (Nat.le_of_ble_eq_true rfl) rfl | exact cv_row (Nat.le_of_ble_eq_true rfl) rfl | exact cv_mp (Nat.le_of_ble_eq_true rfl) rfl)
      · rw [hidx]; simp only [idxF, h, cond_false]
  · rintro E H ⟨hi, hidx, rfl, rfl⟩
    rw [hidx, show (L.map Pfx.cells).length = L.length by simp, List.drop_length]
    (repeat' first | refine t_seq ?_ | refine t_reg ?_ | refine t_skip ?_ | refine t_scope ?_ | refine t_ret ?_ | refine t_exit ?_ | refine lit_t rfl ?_ | refine lit_f rfl ?_ | refine And.intro (And.intro rfl (Nat.le_of_ble_eq_true rfl)) ?_ | refine c_t rfl ?_ | refine c_f rfl ?_ | (refine sp_t (fun h => ?_) (fun h => ?_) <;> (try simp only [List.length_map] at h)) | (refine sp_f (fun h => ?_) (fun h => ?_) <;> (try simp only [List.length_map] at h)) | refine sq_t (fun h => ?_) (fun h => ?_) | refine sq_f (fun h => ?_) (fun h => ?_) | refine sb_t (fun h => ?_) (fun h => ?_) | refine sb_f (fun h => ?_) (fun h => ?_) | (refine c_nd rfl (fun h => ?_) (fun h => ?_) <;> (try simp only [List.length_map] at h)) | (refine c_d rfl (fun h => ?_) (fun h => ?_) <;> (try simp only [List.length_map] at h)) | refine c_nq rfl (fun h => ?_) (fun h => ?_) | refine c_q rfl (fun h => ?_) (fun h => ?_) | refine c_nb rfl (fun h => ?_) (fun h => ?_) | refine c_b rfl (fun h => ?_) (fun h => ?_) | refine And.intro (by omega) (Exists.intro _ (And.intro (row_atN (by omega)) (And.intro rfl ?_))) | refine And.intro rfl (Exists.intro _ (And.intro rfl ?_)) | refine Exists.intro _ (And.intro rfl ?_))
    rfl
theorem slices_Contains_ev (L : List Pfx) (p : Pfx) (hl : (L.length : Int) ≤ 9223372036854775807) : EvP Try.prog G fn_slices_Contains_Prefix [.sl (L.map Pfx.cells), p.av] (.b (L.any (pfxEq p))) := by
  refine evP c_slices_Contains_Prefix rfl ?_
  (repeat' first | refine t_seq ?_ | refine t_reg ?_ | refine t_skip ?_ | refine t_scope ?_ | refine t_ret ?_ | refine t_exit ?_ | refine lit_t rfl ?_ | refine lit_f rfl ?_ | refine And.intro (And.intro rfl (Nat.le_of_ble_eq_true rfl)) ?_ | refine c_t rfl ?_ | refine c_f rfl ?_ | (first | refine call_clean (slices_Index_ev L p hl) (pl_clean L p) ?_) | (refine sp_t (fun h => ?_) (fun h => ?_) <;> (try simp only [List.length_map] at h)) | (refine sp_f (fun h => ?_) (fun h => ?_) <;> (try simp only [List.length_map] at h)) | refine sq_t (fun h => ?_) (fun h => ?_) | refine sq_f (fun h => ?_) (fun h => ?_) | refine sb_t (fun h => ?_) (fun h => ?_) | refine sb_f (fun h => ?_) (fun h => ?_) | (refine c_nd rfl (fun h => ?_) (fun h => ?_) <;> (try simp only [List.length_map] at h)) | (refine c_d rfl (fun h => ?_) (fun h => ?_) <;> (try simp only [List.length_map] at h)) | refine c_nq rfl (fun h => ?_) (fun h => ?_) | refine c_q rfl (fun h => ?_) (fun h => ?_) | refine c_nb rfl (fun h => ?_) (fun h => ?_) | refine c_b rfl (fun h => ?_) (fun h => ?_) | refine And.intro rfl (Exists.intro _ (And.intro rfl ?_)) | refine Exists.intro _ (And.intro rfl ?_))
  exact congrArg some (congrArg AVal.b (idxF_any p L 0))

/-! ### The order of prefixes -/
def pfxLess (a b : Pfx) : Bool := bif decide (a.addr < b.addr) then true else (bif a.addr == b.addr then decide (a.bits < b.bits) else false)
theorem prefix_Less_ev (a b : Pfx) : EvP Try.prog G fn_prefix_Less [a.av, b.av] (.b (pfxLess a b)) := by
  refine evP c_prefix_Less rfl ?_
  (repeat' first | refine t_seq ?_ | refine t_reg ?_ | refine t_skip ?_ | refine t_scope ?_ | refine t_ret ?_ | refine t_exit ?_ | refine lit_t rfl ?_ | refine lit_f rfl ?_ | refine And.intro (And.intro rfl (Nat.le_of_ble_eq_true rfl)) ?_ | refine c_t rfl ?_ | refine c_f rfl ?_ | (refine sp_t (fun h => ?_) (fun h => ?_) <;> (try simp only [List.length_map] at h)) | (refine sp_f (fun h => ?_) (fun h => ?_) <;> (try simp only [List.length_map] at h)) | refine sq_t (fun h => ?_) (fun h => ?_) | refine sq_f (fun h => ?_) (fun h => ?_) | refine sb_t (fun h => ?_) (fun h => ?_) | refine sb_f (fun h => ?_) (fun h => ?_) | (refine c_nd rfl (fun h => ?_) (fun h => ?_) <;> (try simp only [List.length_map] at h)) | (refine c_d rfl (fun h => ?_) (fun h => ?_) <;> (try simp only [List.length_map] at h)) | refine c_nq rfl (fun h => ?_) (fun h => ?_) | refine c_q rfl (fun h => ?_) (fun h => ?_) | refine c_nb rfl (fun h => ?_) (fun h => ?_) | refine c_b rfl (fun h => ?_) (fun h => ?_) | refine And.intro (by omega) (Exists.intro _ (And.intro (row_atN (by omega)) (And.intro rfl ?_))) | refine And.intro rfl (Exists.intro _ (And.intro rfl ?_)) | refine Exists.intro _ (And.intro rfl ?_))
  · (refine congrArg some (congrArg AVal.b ?_); simp [pfxLess, *])
  · refine congrArg some (congrArg AVal.b ?_)
    rename_i h1
    simp [pfxLess, h]
  · refine congrArg some (congrArg AVal.b ?_)
    rename_i h1
    simp [pfxLess, h, h1]
def cmpM (a b : Pfx) : Int := bif pfxEq a b then 0 else bif pfxLess a b then -1 else 1
theorem lower_cmp_ev (a b : Pfx) : EvP Try.prog G fn_lower_Classes_1 [a.av, b.av] (.i .i64 (cmpM a b)) := by
  refine evP c_lower_Classes_1 rfl ?_
  (repeat' first | refine t_seq ?_ | refine t_reg ?_ | refine t_skip ?_ | refine t_scope ?_ | refine t_ret ?_ | refine t_exit ?_ | refine lit_t rfl ?_ | refine lit_f rfl ?_ | refine And.intro (And.intro rfl (Nat.le_of_ble_eq_true rfl)) ?_ | refine c_t rfl ?_ | refine c_f rfl ?_ | (first | refine t_block ?_ | refine c_b (b := pfxEq a b) rfl (fun h => ?_) (fun h => ?_) | refine call_clean (prefix_Less_ev a b) rfl ?_) | (refine sp_t (fun h => ?_) (fun h => ?_) <;> (try simp only [List.length_map] at h)) | (refine sp_f (fun h => ?_) (fun h => ?_) <;> (try simp only [List.length_map] at h)) | refine sq_t (fun h => ?_) (fun h => ?_) | refine sq_f (fun h => ?_) (fun h => ?_) | refine sb_t (fun h => ?_) (fun h => ?_) | refine sb_f (fun h => ?_) (fun h => ?_) | (refine c_nd rfl (fun h => ?_) (fun h => ?_) <;> (try simp only [List.length_map] at h)) | (refine c_d rfl (fun h => ?_) (fun h => ?_) <;> (try simp only [List.length_map] at h)) | refine c_nq rfl (fun h => ?_) (fun h => ?_) | refine c_q rfl (fun h => ?_) (fun h => ?_) | refine c_nb rfl (fun h => ?_) (fun h => ?_) | refine c_b rfl (fun h => ?_) (fun h => ?_) | refine And.intro rfl (Exists.intro _ (And.intro rfl ?_)) | refine Exists.intro _ (And.intro rfl ?_))
  · simp only [cmpM, h, cond_true]; rfl
  · rename_i h1
    simp only [cmpM, h1, h, cond_true, cond_false]; rfl
  · rename_i h1
    simp only [cmpM, h1, h, cond_false]; rfl
end Go.Proofs.Ythpcjekmgohelaa.Ab
