/- FUNCTIONS, 25: rows of clauses, names. -/
import Derived.Test.YthpcjekmgohelaaLib19
import Derived.Test.YthpcjekmgohelaaLib17
set_option linter.unusedVariables false
set_option linter.unusedSimpArgs false
namespace Go.Proofs.Ythpcjekmgohelaa.Ab
open Go Go.Proofs
set_option linter.unusedVariables false
set_option linter.unusedSimpArgs false
variable {G : GI}

def clausesOf (rs : List Rul) : List Cla := (rs.take 5).map clauseM
abbrev ccR (rs : List Rul) (i : Nat) : List (List AVal) := (((rs.take i).take 5).map clauseM).map Cla.cells
abbrev ccE (rs : List Rul) (i : Nat) : Slots := [(8, .i .i64 (i : Nat)), (7, .i .i64 ((rs.map Rul.cells).length : Nat)), (6, .sl (rs.map Rul.cells)), (3, own (ccR rs i) 0)]
theorem law07_Clauses_ev (rs : List Rul) (hr : ∀ r ∈ rs, r.ok) (hl : (rs.length : Int) ≤ 9223372036854775807) : EvP Try.prog G fn_maquettelaw07_Clauses [.sl (rs.map Rul.cells)] (.sl ((clausesOf rs).map Cla.cells)) := by
  have c1 := clean_sl Rul.clean rs
  have cP : ∀ i, cleanLL (ccR rs i) = true := fun i => clean_rows Cla.clean _
  have lP : ∀ i, ∀ r ∈ ccR rs i, r.length = 10 := fun i => len_rows (f := Cla.cells) (fun _ => rfl) _
  refine evP c_maquettelaw07_Clauses rfl ?_
  (repeat' first | refine t_seq ?_ | refine t_reg ?_ | refine t_skip ?_ | refine t_scope ?_ | refine t_ret ?_ | refine t_exit ?_ | refine lit_t rfl ?_ | refine lit_f rfl ?_ | refine And.intro (And.intro rfl (Nat.le_of_ble_eq_true rfl)) ?_ | refine c_t rfl ?_ | refine c_f rfl ?_)
  refine t_range (rs.map Rul.cells).length (by simp; omega) (fun i E H => i ≤ (rs.map Rul.cells).length ∧ E = ccE rs i ∧ H = [ownO 10 (ccR rs i)]) (ccE rs 0) [ownO 10 (ccR rs 0)] ?_ ⟨Nat.zero_le _, rfl, rfl⟩ ?_ ?_ ?_
  · refine moveL [9] rfl (by decide) ⟨.inl rfl, trivial⟩ ?_
    refine ⟨?_, ?_, ?_, ?_, trivial⟩ <;> first | (first | exact .cl _ rfl | exact .cl _ (by assumption) | exact cv_ptr (Nat.le_of_ble_eq_true rfl) rfl | exact .nilS | exact cv_own (Nat.le_of_ble_eq_true rfl) rfl | exact cv_row (Nat.le_of_ble_eq_true rfl) rfl | exact cv_mp (Nat.le_of_ble_eq_true rfl) rfl) | exact .nilS
  · rintro i E H ⟨hi, rfl, rfl⟩; exact ⟨hi, rfl, rfl⟩
  · rintro i E H hlt ⟨hi, rfl, rfl⟩
    have hlt' : i < rs.length := by simpa using hlt
    have hok := hr _ (List.getElem_mem hlt')
    have c5 : i < 5 → (ccR rs i).length = i := fun h => by simp; omega
    have hs1 : i < 5 → ccR rs (i + 1) = ccR rs i ++ [(clauseM rs[i]).cells] := by
      intro h
      unfold ccR
      rw [List.take_of_length_le (l := rs.take (i + 1)) (by simp; omega), List.take_of_length_le (l := rs.take i) (by simp; omega), List.take_succ_eq_append_getElem hlt', List.map_append, List.map_append]; rfl
    have hs2 : ¬ i < 5 → ccR rs (i + 1) = ccR rs i := by
      intro h
      unfold ccR
      rw [List.take_take, List.take_take, Nat.min_eq_left (by omega), Nat.min_eq_left (by omega)]
    (repeat' first | refine t_seq ?_ | refine t_reg ?_ | refine t_skip ?_ | refine t_scope ?_ | refine t_ret ?_ | refine t_exit ?_ | refine lit_t rfl ?_ | refine lit_f rfl ?_ | refine And.intro (And.intro rfl (Nat.le_of_ble_eq_true rfl)) ?_ | refine c_t rfl ?_ | refine c_f rfl ?_)
    refine And.intro (Int.natCast_nonneg i) (Exists.intro _ (And.intro (row_at hlt') (And.intro rfl ?_)))
    generalize rs[i] = r at hok hs1 ⊢
    (repeat' first | refine t_seq ?_ | refine t_reg ?_ | refine t_skip ?_ | refine t_scope ?_ | refine t_ret ?_ | refine t_exit ?_ | refine lit_t rfl ?_ | refine lit_f rfl ?_ | refine And.intro (And.intro rfl (Nat.le_of_ble_eq_true rfl)) ?_ | refine c_t rfl ?_ | refine c_f rfl ?_)
    refine Exists.intro _ (And.intro rfl ?_)
    (repeat' first | refine t_seq ?_ | refine t_reg ?_ | refine t_skip ?_ | refine t_scope ?_ | refine t_ret ?_ | refine t_exit ?_ | refine lit_t rfl ?_ | refine lit_f rfl ?_ | refine And.intro (And.intro rfl (Nat.le_of_ble_eq_true rfl)) ?_ | refine c_t rfl ?_ | refine c_f rfl ?_)
    refine c_d rfl (fun h => ?_) (fun h => ?_)
    · have h5 : i < 5 := by omega
      have hs := hs1 h5
      have cc := c5 h5
      (repeat' first | refine t_seq ?_ | refine t_reg ?_ | refine t_skip ?_ | refine t_scope ?_ | refine t_ret ?_ | refine t_exit ?_ | refine lit_t rfl ?_ | refine lit_f rfl ?_ | refine And.intro (And.intro rfl (Nat.le_of_ble_eq_true rfl)) ?_ | refine c_t rfl ?_ | refine c_f rfl ?_ | (first | refine mv_as (v := own (ccR rs i) 0) rfl ?_ | refine call_clean (rule_Clause_ev r hok) rfl ?_ | (refine Exists.intro [_] (And.intro rfl (And.intro (all_one rfl) (app_one (ccR rs i) 0 rfl rfl (cc) ?_ ?_))); omega)) | (refine sp_t (fun h => ?_) (fun h => ?_) <;> (try simp only [List.length_map] at h)) | (refine sp_f (fun h => ?_) (fun h => ?_) <;> (try simp only [List.length_map] at h)) | refine sq_t (fun h => ?_) (fun h => ?_) | refine sq_f (fun h => ?_) (fun h => ?_) | refine sb_t (fun h => ?_) (fun h => ?_) | refine sb_f (fun h => ?_) (fun h => ?_) | (refine c_nd rfl (fun h => ?_) (fun h => ?_) <;> (try simp only [List.length_map] at h)) | (refine c_d rfl (fun h => ?_) (fun h => ?_) <;> (try simp only [List.length_map] at h)) | refine c_nq rfl (fun h => ?_) (fun h => ?_) | refine c_q rfl (fun h => ?_) (fun h => ?_) | refine c_nb rfl (fun h => ?_) (fun h => ?_) | refine c_b rfl (fun h => ?_) (fun h => ?_) | refine And.intro rfl (Exists.intro _ (And.intro rfl ?_)) | refine Exists.intro _ (And.intro rfl ?_))
      refine And.intro rfl ⟨ccE rs (i + 1), [ownO 10 (ccR rs (i + 1))], moveL [2] rfl (by decide) ⟨.inr ⟨_, rfl, cvO_own_as (by rw [hs]; rfl) (cP _) (lP _)⟩, trivial⟩ ?_, hlt, rfl, rfl⟩
      refine ⟨?_, ?_, ?_, ?_, trivial⟩ <;> first | (first | exact .cl _ rfl | exact .cl _ (by assumption) | exact cv_ptr (Nat.le_of_ble_eq_true rfl) rfl | exact .nilS | exact cv_own (Nat.le_of_ble_eq_true rfl) rfl | exact cv_row (Nat.le_of_ble_eq_true rfl) rfl | exact cv_mp (Nat.le_of_ble_eq_true rfl) rfl) | exact cv_own_new (Nat.le_of_ble_eq_true rfl) (by rw [hs]; simp) (by rw [hs, List.length_append, cc]; rfl) rfl
    · have hs := hs2 (by omega)
      (repeat' first | refine t_seq ?_ | refine t_reg ?_ | refine t_skip ?_ | refine t_scope ?_ | refine t_ret ?_ | refine t_exit ?_ | refine lit_t rfl ?_ | refine lit_f rfl ?_ | refine And.intro (And.intro rfl (Nat.le_of_ble_eq_true rfl)) ?_ | refine c_t rfl ?_ | refine c_f rfl ?_ | (refine sp_t (fun h => ?_) (fun h => ?_) <;> (try simp only [List.length_map] at h)) | (refine sp_f (fun h => ?_) (fun h => ?_) <;> (try simp only [List.length_map] at h)) | refine sq_t (fun h => ?_) (fun h => ?_) | refine sq_f (fun h => ?_) (fun h => ?_) | refine sb_t (fun h => ?_) (fun h => ?_) | refine sb_f (fun h => ?_) (fun h => ?_) | (refine c_nd rfl (fun h => ?_) (fun h => ?_) <;> (try simp only [List.length_map] at h)) | (refine c_d rfl (fun h => ?_) (fun h => ?_) <;> (try simp only [List.length_map] at h)) | refine c_nq rfl (fun h => ?_) (fun h => ?_) | refine c_q rfl (fun h => ?_) (fun h => ?_) | refine c_nb rfl (fun h => ?_) (fun h => ?_) | refine c_b rfl (fun h => ?_) (fun h => ?_) | refine And.intro (by omega) (Exists.intro _ (And.intro (row_atN (by omega)) (And.intro rfl ?_))) | refine And.intro rfl (Exists.intro _ (And.intro rfl ?_)) | refine Exists.intro _ (And.intro rfl ?_))
      refine And.intro rfl ⟨ccE rs (i + 1), [ownO 10 (ccR rs (i + 1))], ?_, hlt, rfl, rfl⟩
      unfold ccE
      rw [hs]
      refine moveL [0] rfl (by decide) ⟨.inr ⟨_, rfl, cvO_own (cP _) (lP _)⟩, trivial⟩ ?_
      refine ⟨?_, ?_, ?_, ?_, trivial⟩ <;> (first | exact .cl _ rfl | exact .cl _ (by assumption) | exact cv_ptr (Nat.le_of_ble_eq_true rfl) rfl | exact .nilS | exact cv_own (Nat.le_of_ble_eq_true rfl) rfl | exact cv_row (Nat.le_of_ble_eq_true rfl) rfl | exact cv_mp (Nat.le_of_ble_eq_true rfl) rfl)
  · rintro E H ⟨hi, rfl, rfl⟩
    (repeat' first | refine t_seq ?_ | refine t_reg ?_ | refine t_skip ?_ | refine t_scope ?_ | refine t_ret ?_ | refine t_exit ?_ | refine lit_t rfl ?_ | refine lit_f rfl ?_ | refine And.intro (And.intro rfl (Nat.le_of_ble_eq_true rfl)) ?_ | refine c_t rfl ?_ | refine c_f rfl ?_ | (first | refine mv_as (v := own (ccR rs (rs.map Rul.cells).length) 0) rfl ?_) | (refine sp_t (fun h => ?_) (fun h => ?_) <;> (try simp only [List.length_map] at h)) | (refine sp_f (fun h => ?_) (fun h => ?_) <;> (try simp only [List.length_map] at h)) | refine sq_t (fun h => ?_) (fun h => ?_) | refine sq_f (fun h => ?_) (fun h => ?_) | refine sb_t (fun h => ?_) (fun h => ?_) | refine sb_f (fun h => ?_) (fun h => ?_) | (refine c_nd rfl (fun h => ?_) (fun h => ?_) <;> (try simp only [List.length_map] at h)) | (refine c_d rfl (fun h => ?_) (fun h => ?_) <;> (try simp only [List.length_map] at h)) | refine c_nq rfl (fun h => ?_) (fun h => ?_) | refine c_q rfl (fun h => ?_) (fun h => ?_) | refine c_nb rfl (fun h => ?_) (fun h => ?_) | refine c_b rfl (fun h => ?_) (fun h => ?_) | refine And.intro rfl (Exists.intro _ (And.intro rfl ?_)) | refine Exists.intro _ (And.intro rfl ?_))
    refine (frz_own (rows := ccR rs (rs.map Rul.cells).length) (esz := 10) rfl (cP _)).trans ?_
    unfold ccR clausesOf
    rw [List.length_map, List.take_length]

/-! ### Names -/
def chrN (k : Nat) : List UInt8 := [UInt8.ofNat (97 + k)]
def nameR (k : Nat) : List UInt8 := [114, UInt8.ofNat (97 + k)]
def nameMp (k : Nat) : List UInt8 := [109, UInt8.ofNat (97 + k)]
theorem chr_enc : ∀ k, k < 8 → (Utf8.encode (IntKind.i32.wrap (IntKind.i64.wrap (97 + ((k : Nat) : Int))))).data.toList = chrN k := by decide
theorem law07_Name_ev (k : Nat) (hk : k < 8) : EvP Try.prog G fn_maquettelaw07_Name [.i .i64 (k : Nat)] (.s (nameR k)) := by
  refine evP c_maquettelaw07_Name rfl ?_
  have e := chr_enc k hk
  (repeat' first | refine t_seq ?_ | refine t_reg ?_ | refine t_skip ?_ | refine t_scope ?_ | refine t_ret ?_ | refine t_exit ?_ | refine lit_t rfl ?_ | refine lit_f rfl ?_ | refine And.intro (And.intro rfl (Nat.le_of_ble_eq_true rfl)) ?_ | refine c_t rfl ?_ | refine c_f rfl ?_)
  refine And.intro ?_ ?_
  · show ((([114] : List UInt8).length + (Utf8.encode (IntKind.i32.wrap (IntKind.i64.wrap (97 + ((k : Nat) : Int))))).data.toList.length : Nat) : Int) ≤ _
    rw [e]; show ((1 + 1 : Nat) : Int) ≤ _; decide
  (repeat' first | refine t_seq ?_ | refine t_reg ?_ | refine t_skip ?_ | refine t_scope ?_ | refine t_ret ?_ | refine t_exit ?_ | refine lit_t rfl ?_ | refine lit_f rfl ?_ | refine And.intro (And.intro rfl (Nat.le_of_ble_eq_true rfl)) ?_ | refine c_t rfl ?_ | refine c_f rfl ?_ | (refine sp_t (fun h => ?_) (fun h => ?_) <;> (try simp only [List.length_map] at h)) | (refine sp_f (fun h => ?_) (fun h => ?_) <;> (try simp only [List.length_map] at h)) | refine sq_t (fun h => ?_) (fun h => ?_) | refine sq_f (fun h => ?_) (fun h => ?_) | refine sb_t (fun h => ?_) (fun h => ?_) | refine sb_f (fun h => ?_) (fun h => ?_) | (refine c_nd rfl (fun h => ?_) (fun h => ?_) <;> (try simp only [List.length_map] at h)) | (refine c_d rfl (fun h => ?_) (fun h => ?_) <;> (try simp only [List.length_map] at h)) | refine c_nq rfl (fun h => ?_) (fun h => ?_) | refine c_q rfl (fun h => ?_) (fun h => ?_) | refine c_nb rfl (fun h => ?_) (fun h => ?_) | refine c_b rfl (fun h => ?_) (fun h => ?_) | refine And.intro (by omega) (Exists.intro _ (And.intro (row_atN (by omega)) (And.intro rfl ?_))) | refine And.intro rfl (Exists.intro _ (And.intro rfl ?_)) | refine Exists.intro _ (And.intro rfl ?_))
  refine congrArg some (congrArg AVal.s ?_)
  show [114] ++ (Utf8.encode (IntKind.i32.wrap (IntKind.i64.wrap (97 + ((k : Nat) : Int))))).data.toList = _
  rw [e]; rfl

structure Shp where
  routers : Int
  links : List Int
  maps : List (List Rul)
  names : List Int
  nets : List Int
  ways : List Int
def rulesC (rs : List Rul) : List AVal := [.sl (rs.map Rul.cells)]
def Shp.cells (s : Shp) : List AVal := [.i .u8 s.routers, .sl (s.links.map u8cells), .sl (s.maps.map rulesC), .sl (s.names.map u8cells), .sl (s.nets.map u8cells), .sl (s.ways.map u8cells)]
def Shp.av (s : Shp) : AVal := .agg s.cells
theorem rulesC_clean (rs : List Rul) : cleanL (rulesC rs) = true := by simp only [rulesC, cleanL, clean, clean_rows Rul.clean]; rfl
theorem Shp.clean (s : Shp) : cleanL s.cells = true := by
  simp only [Shp.cells, cleanL, Ab.clean, clean_rows (f := u8cells) (fun _ => rfl), clean_rows rulesC_clean]; rfl
def U8s (l : List Int) : Prop := (l.length : Int) ≤ 9223372036854775807 ∧ ∀ x ∈ l, 0 ≤ x ∧ x ≤ 255
structure Shp.ok (s : Shp) : Prop where
  routers : 0 ≤ s.routers ∧ s.routers ≤ 255
  links : U8s s.links
  maps : (s.maps.length : Int) ≤ 9223372036854775807
  rules : ∀ rs ∈ s.maps, (rs.length : Int) ≤ 9223372036854775807 ∧ ∀ r ∈ rs, r.ok
  names : U8s s.names
  nets : U8s s.nets
  ways : U8s s.ways
theorem number_ok {l : List Int} (h : U8s l) {k : Int} (hk : 0 ≤ k) : 0 ≤ number l k ∧ number l k ≤ 255 := by
  unfold number
  by_cases e : l.length = 0
  · rw [if_pos e]; omega
  · rw [if_neg e]
    have h1 := Int.tmod_lt_of_pos k (show (0 : Int) < (l.length : Nat) by omega)
    have h2 := Int.tmod_nonneg (l.length : Nat) hk
    have hlt : (k.tmod (l.length : Nat)).toNat < l.length := by omega
    rw [getD_of hlt]
    have := h.2 _ (List.getElem_mem hlt)
    rw [w64 (by omega) (by omega)]; exact this

/-- Which of the maps is named. -/
def mapIx (s : Shp) (n : Int) : Option Nat :=
  if min s.maps.length 4 = 0 ∨ 0 < n.tmod 3 then none else some (((n.tdiv 3).tmod (min s.maps.length 4 : Nat)).toNat)
def mappedM (s : Shp) (n : Int) : List UInt8 :=
  match mapIx s n with
  | some q => nameMp q
  | none => []
theorem mapIx_lt (s : Shp) (n : Int) (hn : 0 ≤ n) {q : Nat} (h : mapIx s n = some q) : q < min s.maps.length 4 := by
  unfold mapIx at h
  split at h
  · simp at h
  · rename_i hne
    simp only [Option.some.injEq] at h
    have hpos : 0 < min s.maps.length 4 := by
      rcases Nat.eq_zero_or_pos (min s.maps.length 4) with h0 | h0
      · exact absurd (.inl h0) hne
      · exact h0
    have h1 := Int.tmod_lt_of_pos (n.tdiv 3) (show (0 : Int) < ((min s.maps.length 4 : Nat) : Int) by omega)
    have h2 := Int.tmod_nonneg ((min s.maps.length 4 : Nat) : Int) (Int.tdiv_nonneg hn (by decide : (0 : Int) ≤ 3))
    omega
theorem law07_mapped_ev (s : Shp) (n : Int) (hs : s.ok) (h0 : 0 ≤ n) (h1 : n ≤ 255) : EvP Try.prog G fn_maquettelaw07_Shape_mapped [s.av, .i .i64 n] (.s (mappedM s n)) := by
  refine evP c_maquettelaw07_Shape_mapped rfl ?_
  have hmin : (if (4 : Int) < ((s.maps.map rulesC).length : Nat) then (4 : Int) else ((s.maps.map rulesC).length : Nat)) = ((min s.maps.length 4 : Nat) : Int) := by
    rw [List.length_map]; split <;> omega
  (repeat' first | refine t_seq ?_ | refine t_reg ?_ | refine t_skip ?_ | refine t_scope ?_ | refine t_ret ?_ | refine t_exit ?_ | refine lit_t rfl ?_ | refine lit_f rfl ?_ | refine And.intro (And.intro rfl (Nat.le_of_ble_eq_true rfl)) ?_ | refine c_t rfl ?_ | refine c_f rfl ?_ | (first | refine And.intro rfl (And.intro (by decide) ?_)) | (refine sp_t (fun h => ?_) (fun h => ?_) <;> (try simp only [List.length_map] at h)) | (refine sp_f (fun h => ?_) (fun h => ?_) <;> (try simp only [List.length_map] at h)) | refine sq_t (fun h => ?_) (fun h => ?_) | refine sq_f (fun h => ?_) (fun h => ?_) | refine sb_t (fun h => ?_) (fun h => ?_) | refine sb_f (fun h => ?_) (fun h => ?_) | (refine c_nd rfl (fun h => ?_) (fun h => ?_) <;> (try simp only [List.length_map] at h)) | (refine c_d rfl (fun h => ?_) (fun h => ?_) <;> (try simp only [List.length_map] at h)) | refine c_nq rfl (fun h => ?_) (fun h => ?_) | refine c_q rfl (fun h => ?_) (fun h => ?_) | refine c_nb rfl (fun h => ?_) (fun h => ?_) | refine c_b rfl (fun h => ?_) (fun h => ?_) | refine And.intro rfl (Exists.intro _ (And.intro rfl ?_)) | refine Exists.intro _ (And.intro rfl ?_))
  · have h' : min s.maps.length 4 = 0 := by
      simp only [List.length_map] at hmin
      rw [hmin] at h; omega
    have e : mappedM s n = [] := by unfold mappedM mapIx; rw [if_pos (.inl h')]
    rw [e]; rfl
  · have e : mappedM s n = [] := by unfold mappedM mapIx; rw [if_pos (.inr h)]
    rw [e]; rfl
  · rename_i h1
    have h2 : ¬ (if (4 : Int) < ((s.maps.map rulesC).length : Nat) then (4 : Int) else ((s.maps.map rulesC).length : Nat)) = 0 := by simp only [List.length_map]; exact h1
    have hne : ¬ (min s.maps.length 4 = 0 ∨ 0 < n.tmod 3) := by
      rw [hmin] at h2
      intro h3
      rcases h3 with h3 | h3
      · omega
      · exact h h3
    have hix : mapIx s n = some (((n.tdiv 3).tmod (min s.maps.length 4 : Nat)).toNat) := by unfold mapIx; rw [if_neg hne]
    have hlt := mapIx_lt s n h0 hix
    have hnn := Int.tmod_nonneg ((min s.maps.length 4 : Nat) : Int) (Int.tdiv_nonneg h0 (by decide : (0 : Int) ≤ 3))
    have hq : (IntKind.i64.wrap (n.tdiv 3)).tmod (if (4 : Int) < ((s.maps.map rulesC).length : Nat) then (4 : Int) else ((s.maps.map rulesC).length : Nat)) = (((n.tdiv 3).tmod (min s.maps.length 4 : Nat)).toNat : Nat) := by
      have : n.tdiv 3 = n / 3 := Int.tdiv_eq_ediv_of_nonneg h0
      rw [hmin, w64 (by omega) (by omega), Int.toNat_of_nonneg hnn]
    have e : mappedM s n = nameMp (((n.tdiv 3).tmod (min s.maps.length 4 : Nat)).toNat) := by unfold mappedM; rw [hix]
    rw [e]
    generalize ((n.tdiv 3).tmod (min s.maps.length 4 : Nat)).toNat = q at hq hlt ⊢
    have ec := chr_enc q (by omega)
    rw [← hq] at ec
    refine And.intro rfl (And.intro h2 ?_)
    (repeat' first | refine t_seq ?_ | refine t_reg ?_ | refine t_skip ?_ | refine t_scope ?_ | refine t_ret ?_ | refine t_exit ?_ | refine lit_t rfl ?_ | refine lit_f rfl ?_ | refine And.intro (And.intro rfl (Nat.le_of_ble_eq_true rfl)) ?_ | refine c_t rfl ?_ | refine c_f rfl ?_)
    refine And.intro ?_ ?_
    · show ((([109] : List UInt8).length + (Utf8.encode (IntKind.i32.wrap (IntKind.i64.wrap (97 + (IntKind.i64.wrap (n.tdiv 3)).tmod (if (4 : Int) < ((s.maps.map rulesC).length : Nat) then (4 : Int) else ((s.maps.map rulesC).length : Nat)))))).data.toList.length : Nat) : Int) ≤ _
      rw [ec]; show ((1 + 1 : Nat) : Int) ≤ _; decide
    (repeat' first | refine t_seq ?_ | refine t_reg ?_ | refine t_skip ?_ | refine t_scope ?_ | refine t_ret ?_ | refine t_exit ?_ | refine lit_t rfl ?_ | refine lit_f rfl ?_ | refine And.intro (And.intro rfl (Nat.le_of_ble_eq_true rfl)) ?_ | refine c_t rfl ?_ | refine c_f rfl ?_ | (refine sp_t (fun h => ?_) (fun h => ?_) <;> (try simp only [List.length_map] at h)) | (refine sp_f (fun h => ?_) (fun h => ?_) <;> (try simp only [List.length_map] at h)) | refine sq_t (fun h => ?_) (fun h => ?_) | refine sq_f (fun h => ?_) (fun h => ?_) | refine sb_t (fun h => ?_) (fun h => ?_) | refine sb_f (fun h => ?_) (fun h => ?_) | (refine c_nd rfl (fun h => ?_) (fun h => ?_) <;> (try simp only [List.length_map] at h)) | (refine c_d rfl (fun h => ?_) (fun h => ?_) <;> (try simp only [List.length_map] at h)) | refine c_nq rfl (fun h => ?_) (fun h => ?_) | refine c_q rfl (fun h => ?_) (fun h => ?_) | refine c_nb rfl (fun h => ?_) (fun h => ?_) | refine c_b rfl (fun h => ?_) (fun h => ?_) | refine And.intro (by omega) (Exists.intro _ (And.intro (row_atN (by omega)) (And.intro rfl ?_))) | refine And.intro rfl (Exists.intro _ (And.intro rfl ?_)) | refine Exists.intro _ (And.intro rfl ?_))
    refine congrArg some (congrArg AVal.s ?_)
    show [109] ++ (Utf8.encode (IntKind.i32.wrap (IntKind.i64.wrap (97 + (IntKind.i64.wrap (n.tdiv 3)).tmod (if (4 : Int) < ((s.maps.map rulesC).length : Nat) then (4 : Int) else ((s.maps.map rulesC).length : Nat)))))).data.toList = _
    rw [ec]; rfl
end Go.Proofs.Ythpcjekmgohelaa.Ab

/- ABSTRACT RUNS, 36: loops that count. -/
namespace Go.Proofs.Ythpcjekmgohelaa.Ab
open Go Go.RowKit
set_option linter.unusedSimpArgs false
set_option linter.unusedVariables false
section
variable {P : Program} {G : GI} {m0 : Nat} {E : Slots} {H : Heap} {Q : AExit → Slots → Heap → Prop}

/-- How a round of a counting loop ends. -/
def roundF (B : Nat) (m0 ti a1 a2 i : Nat) (I : Nat → Slots → Heap → Prop) (Q : AExit → Slots → Heap → Prop) : AExit → Slots → Heap → Prop
  | .normal, E, H => look E ti = .i .i64 (i : Nat) ∧ ∃ E' H', Move m0 ((ti, .i .i64 ((i + 1 : Nat) : Int)) :: (a2, .i .i64 ((i + 1 : Nat) : Int)) :: (a1, .i .i64 (i : Nat)) :: E) H E' H' ∧ I (i + 1) E' H'
  | .exit j, E, H => bif Nat.beq j B then Q .normal E H else Q (.exit j) E H
  | .ret, E, H => Q .ret E H

/-- 'for i := ..; i < n; i++'. -/
theorem t_for {B B' c1 c2 tc ti tn a1 a2 : Nat} {ek1 ek2 : EK} {body : LCode} (i0 N : Nat) (hN : (N : Int) ≤ 9223372036854775807) (hd1 : Nat.beq c2 c1 = false) (hd2 : Nat.beq c1 tn = false) (I : Nat → Slots → Heap → Prop) (E0 : Slots) (H0 : Heap) (hm : Move m0 E H E0 H0) (h0 : I i0 E0 H0)
    (hI : ∀ i E H, I i E H → i ≤ N ∧ look E ti = .i .i64 (i : Nat) ∧ look E tn = .i .i64 (N : Nat))
    (hbody : ∀ i E H, i < N → I i E H → Trip P G m0 body ((tc, .b true) :: (tc, .b true) :: (c2, .i .i64 (N : Nat)) :: (c1, .i .i64 (i : Nat)) :: E) H (behind B' (roundF B m0 ti a1 a2 i I Q)))
    (hexit : ∀ E H, I N E H → Q .normal ((tc, .b false) :: (tc, .b false) :: (c2, .i .i64 (N : Nat)) :: (c1, .i .i64 (N : Nat)) :: E) H) :
    Trip P G m0 (.block B (.loop (.seq (.seq (.reg [⟨some c1, .mv (.t ti), none⟩, ⟨some c2, .mv (.t tn), none⟩, ⟨some tc, .bin .lss ek1 (.t c1) (.t c2), none⟩]) (.cond (.t tc) .skip (.exit B))) (.seq (.block B' body) (.reg [⟨some a1, .mv (.t ti), none⟩, ⟨some a2, .bin .add ek2 (.t a1) (.c (.i .i64 1)), none⟩, ⟨some ti, .mv (.t a2), none⟩]))))) E H Q := by
  refine t_block (t_loopM (fun n E H => ∃ i, n = N - i ∧ I i E H) (N - i0) E0 H0 hm ⟨i0, rfl, h0⟩ ?_)
  rintro n E H ⟨i, rfl, hi⟩
  obtain ⟨hle, hti, htn⟩ := hI i E H hi
  refine t_seq (t_seq (t_reg ?_))
  show vcO P G _ E H _
  simp only [vcO, vcOp, LOp.heapy, cond_false, vcP, gv, hti, htn, look, Nat.beq_refl, hd1, hd2, cond_true, vcBin, binA, intBin, if_true, frc, put, vcR, Bool.false_eq_true, if_false]
  simp only [andThen]
  by_cases hlt : i < N
  · have hd : decide ((i : Int) < (N : Int)) = true := by simpa using hlt
    rw [hd]
    refine t_cond (t := true) (by simp [look]) (fun _ => t_skip ?_) (fun h => by cases h)
    simp only [andThen]
    refine t_seq (t_block (t_mono (hbody i E H hlt hi) ?_))
    have hend : ∀ E' H', look E' ti = .i .i64 (i : Nat) → (∃ E'' H'', Move m0 ((ti, .i .i64 ((i + 1 : Nat) : Int)) :: (a2, .i .i64 ((i + 1 : Nat) : Int)) :: (a1, .i .i64 (i : Nat)) :: E') H' E'' H'' ∧ I (i + 1) E'' H'') →
        Trip P G m0 (.reg [⟨some a1, .mv (.t ti), none⟩, ⟨some a2, .bin .add ek2 (.t a1) (.c (.i .i64 1)), none⟩, ⟨some ti, .mv (.t a2), none⟩]) E' H' (andThen (fun E' H' => ∃ n' E'' H'', n' < N - i ∧ Move m0 E' H' E'' H'' ∧ ∃ i, n' = N - i ∧ I i E'' H'') (behind B Q)) := by
      intro E' H' h1 ⟨E'', H'', h2, h3⟩
      refine t_reg ?_
      have hw : IntKind.i64.wrap ((i : Nat) + 1) = ((i + 1 : Nat) : Int) := by rw [w64 (by omega) (by omega)]; rfl
      show vcO P G _ E' H' _
      simp only [vcO, vcOp, LOp.heapy, cond_false, vcP, gv, h1, look, Nat.beq_refl, cond_true, vcBin, binA, intBin, if_true, frc, put, vcR, hw]
      exact ⟨N - (i + 1), E'', H'', by omega, h2, i + 1, rfl, h3⟩
    intro x E' H' hx
    cases x with
    | normal => exact hend E' H' hx.1 hx.2
    | exit j =>
      simp only [behind] at hx
      cases hj : Nat.beq j B' with
      | true => rw [hj] at hx; simp only [behind, hj, cond_true] at hx ⊢; exact hend E' H' hx.1 hx.2
      | false => rw [hj] at hx; simp only [behind, hj, cond_false, roundF, andThen] at hx ⊢; exact hx
    | ret => exact hx
  · have : i = N := by omega
    subst this
    have hd : decide ((i : Int) < (i : Int)) = false := by simp
    rw [hd]
    refine t_cond (t := false) (by simp [look]) (fun h => by cases h) (fun _ => t_exit ?_)
    simp only [andThen, behind, Nat.beq_refl, cond_true]
    exact hexit E H hi
end
theorem frz_own2 {H : Heap} {A B : List (List AVal)} {ea eb i j : Nat} (hA : H[i]? = some (ownO ea A)) (hB : H[j]? = some (ownO eb B)) (cA : cleanLL A = true) (cB : cleanLL B = true) :
    frz H (.agg [own A i, own B j]) = some (.agg [.sl A, .sl B]) := by
  have h0 : clean (.agg [own A i, own B j]) = false := by
    have : clean (own A i) = false := by cases A <;> rfl
    simp only [clean, cleanL, this, Bool.false_and]
  have t : ∀ {rows : List (List AVal)} {esz id : Nat}, H[id]? = some (ownO esz rows) → thaw H (own rows id) = .sl rows := by
    intro rows esz id ho
    cases rows with
    | nil => rfl
    | cons r rs => simp only [own, thaw, ho, ownO, List.length_cons, if_true]
  have h1 : thaw H (.agg [own A i, own B j]) = .agg [.sl A, .sl B] := by simp only [thaw, thawL, t hA, t hB]
  have h2 : clean (.agg [.sl A, .sl B]) = true := by simp only [clean, cleanL, cA, cB]; rfl
  unfold frz
  rw [h0, h1, thaw_clean _ _ h2, thaw_clean _ _ h2]
  simp only [h2, Bool.false_eq_true, if_false, if_true]
end Go.Proofs.Ythpcjekmgohelaa.Ab
