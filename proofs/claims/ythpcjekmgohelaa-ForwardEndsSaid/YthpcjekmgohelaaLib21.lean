/- FUNCTIONS, 26: a shape's configuration. -/
import Derived.Test.YthpcjekmgohelaaLib20
set_option linter.unusedVariables false
set_option linter.unusedSimpArgs false
namespace Go.Proofs.Ythpcjekmgohelaa.Ab
open Go Go.Proofs
set_option linter.unusedVariables false
set_option linter.unusedSimpArgs false
variable {G : GI}

theorem wu8 {x : Int} (h : 0 ≤ x ∧ x ≤ 255) : IntKind.u8.wrap x = x := by
  unfold IntKind.wrap
  simp [IntKind.bits, IntKind.signed]
  omega
def linkIx (N k j : Nat) : Nat := min j k * N + max j k
def netsK (s : Shp) (k : Nat) : List Pfx := if k = 0 ∨ (number s.nets k).tmod 4 = 0 then [makeM (number s.nets k)] else []
def lnkK (s : Shp) (N k j : Nat) : Option Lnk :=
  if j ≠ k ∧ (0 < (number s.links (linkIx N k j)).tmod 3 ∨ j = k + 1 ∨ k = j + 1) then
    some ⟨nameR j, 1 + ((number s.links (linkIx N k j)).tdiv 3).tmod 3, mappedM s (number s.names ((k * N + j : Nat) : Int)), mappedM s ((number s.names ((k * N + j : Nat) : Int)).tdiv 12), 0⟩ else none
def linksK (s : Shp) (N k : Nat) : List Lnk := (List.range N).filterMap (lnkK s N k)
def staK (s : Shp) (N k : Nat) : List Sta :=
  if (number s.ways k).tmod 5 = 4 ∧ 0 < (linksK s N k).length then
    [⟨makeM (number s.ways k), ((linksK s N k).getD (((number s.ways k).tdiv 8).tmod ((linksK s N k).length : Nat)).toNat Lnk.zero).peer, 0⟩] else []
def rouK (s : Shp) (N k : Nat) : Rou := ⟨nameR k, netsK s k, linksK s N k, staK s N k, 0⟩
def mapK (s : Shp) (k : Nat) : Mapp := ⟨nameMp k, clausesOf (s.maps.getD k []), 0⟩
def Shp.n (s : Shp) : Nat := (s.routers.tmod 8).toNat
def confM (s : Shp) : Conf := ⟨(List.range (min s.maps.length 4)).map (mapK s), (List.range s.n).map (rouK s s.n)⟩

abbrev z2 : AObj := .box [.nilS, .nilS]
abbrev cfM (s : Shp) (i : Nat) : List (List AVal) := ((List.range (min i 4)).map (mapK s)).map Mapp.cells
abbrev cfR (s : Shp) (k : Nat) : List (List AVal) := ((List.range k).map (rouK s s.n)).map Rou.cells
abbrev cfH (s : Shp) (M R : List (List AVal)) : Heap := [.box s.cells, z2, .box [own M 3, own R 4], ownO 3 M, ownO 5 R]
abbrev cfE (s : Shp) (i : Nat) : Slots := [(17, .i .i64 (i : Nat)), (16, .i .i64 ((s.maps.map rulesC).length : Nat)), (15, .sl (s.maps.map rulesC)), (3, .ptr 2 0), (2, .ptr 1 0), (1, .ptr 0 0)]
abbrev cgE (s : Shp) (k : Nat) : Slots := [(7, .i .i64 (k : Nat)), (6, .i .i64 (s.n : Nat)), (3, .ptr 2 0), (2, .ptr 1 0), (1, .ptr 0 0)]
/-- Behind the nets. -/
abbrev chE (s : Shp) (k : Nat) : Slots := [(8, .ptr 5 0), (7, .i .i64 (k : Nat)), (6, .i .i64 (s.n : Nat)), (3, .ptr 2 0), (2, .ptr 1 0), (1, .ptr 0 0)]
abbrev chH (s : Shp) (M R : List (List AVal)) (k : Nat) : Heap := cfH s M R ++ [.box [.s (nameR k), .sl ((netsK s k).map Pfx.cells), .nilS, .nilS, .i .i64 0]]
/-- Among the links. -/
abbrev ciE (s : Shp) (k j : Nat) : Slots := (10, .i .i64 (j : Nat)) :: chE s k
abbrev ciL (s : Shp) (k j : Nat) : List (List AVal) := ((List.range j).filterMap (lnkK s s.n k)).map Lnk.cells
abbrev ciH (s : Shp) (M R : List (List AVal)) (k j : Nat) : Heap := cfH s M R ++ [.box [.s (nameR k), .sl ((netsK s k).map Pfx.cells), own (ciL s k j) 6, .nilS, .i .i64 0], ownO 5 (ciL s k j)]
/-- Behind the ways. -/
abbrev cjH (s : Shp) (M R : List (List AVal)) (k : Nat) : Heap := cfH s M R ++ [.box (rouK s s.n k).cells]
theorem cvO_z2 {σ : Nat → Nat} {ok : Nat → Prop} {H : Heap} {fr : Nat → Prop} : CvO σ ok H fr z2 z2 := cvO_boxL ⟨.nilS, .nilS, trivial⟩

set_option maxHeartbeats 4000000 in
theorem law07_Config_ev (s : Shp) (hs : s.ok) : EvP Try.prog G fn_maquettelaw07_Shape_Config [s.av] (confM s).av := by
  have cM : ∀ L : List Mapp, cleanLL (L.map Mapp.cells) = true := fun L => clean_rows Mapp.clean _
  have lM : ∀ L : List Mapp, ∀ r ∈ L.map Mapp.cells, r.length = 3 := fun L => len_rows (f := Mapp.cells) (fun _ => rfl) _
  have cR : ∀ L : List Rou, cleanLL (L.map Rou.cells) = true := fun L => clean_rows Rou.clean _
  have lR : ∀ L : List Rou, ∀ r ∈ L.map Rou.cells, r.length = 5 := fun L => len_rows (f := Rou.cells) (fun _ => rfl) _
  have cL : ∀ L : List Lnk, cleanLL (L.map Lnk.cells) = true := fun L => clean_rows Lnk.clean _
  have lL : ∀ L : List Lnk, ∀ r ∈ L.map Lnk.cells, r.length = 5 := fun L => len_rows (f := Lnk.cells) (fun _ => rfl) _
  have cms := clean_sl rulesC_clean s.maps
  have hml := hs.maps
  refine evP c_maquettelaw07_Shape_Config rfl ?_
  (repeat' first | refine t_seq ?_ | refine t_reg ?_ | refine t_skip ?_ | refine t_scope ?_ | refine t_ret ?_ | refine t_exit ?_ | refine lit_t rfl ?_ | refine lit_f rfl ?_ | refine And.intro (And.intro rfl (Nat.le_of_ble_eq_true rfl)) ?_ | refine c_t rfl ?_ | refine c_f rfl ?_)
  refine t_range (s.maps.map rulesC).length (by simp; omega) (fun i E H => i ≤ (s.maps.map rulesC).length ∧ E = cfE s i ∧ H = cfH s (cfM s i) []) (cfE s 0) (cfH s [] []) ?_ ⟨Nat.zero_le _, rfl, rfl⟩ ?_ ?_ ?_
  · refine moveL [0, 1, 2, 98, 99] rfl (by decide) ⟨.inr ⟨_, rfl, cvO_box s.clean⟩, .inr ⟨_, rfl, cvO_z2⟩, .inr ⟨_, rfl, cvO_z2⟩, .inl rfl, .inl rfl, trivial⟩ ?_
    refine ⟨?_, ?_, ?_, ?_, ?_, ?_, trivial⟩ <;> (first | exact .cl _ rfl | exact .cl _ (by assumption) | exact cv_ptr (Nat.le_of_ble_eq_true rfl) rfl | exact .nilS | exact cv_own (Nat.le_of_ble_eq_true rfl) rfl | exact cv_row (Nat.le_of_ble_eq_true rfl) rfl | exact cv_mp (Nat.le_of_ble_eq_true rfl) rfl)
  · rintro i E H ⟨hi, rfl, rfl⟩; exact ⟨hi, rfl, rfl⟩
  · rintro i E H hlt ⟨hi, rfl, rfl⟩
    have hlt' : i < s.maps.length := by simpa using hlt
    have hru := hs.rules _ (List.getElem_mem hlt')
    have hgm := getD_of (d := []) hlt'
    have c5 : i < 4 → (cfM s i).length = i := fun h => by simp; omega
    have hs1 : i < 4 → cfM s (i + 1) = cfM s i ++ [(mapK s i).cells] := by
      intro h
      unfold cfM
      rw [Nat.min_eq_left (by omega), Nat.min_eq_left (by omega), List.range_succ, List.map_append, List.map_append]; rfl
    have hs2 : ¬ i < 4 → cfM s (i + 1) = cfM s i := by
      intro h
      unfold cfM
      rw [Nat.min_eq_right (by omega), Nat.min_eq_right (by omega)]
    have hat : (s.maps.map rulesC)[((i : Nat) : Int).toNat]? = some (rulesC s.maps[i]) := row_at hlt'
    have a1 : cleanAll [.sl (s.maps[i].map Rul.cells)] = true := by simp only [cleanAll, List.all_cons, clean, clean_rows Rul.clean]; rfl
    (repeat' first | refine t_seq ?_ | refine t_reg ?_ | refine t_skip ?_ | refine t_scope ?_ | refine t_ret ?_ | refine t_exit ?_ | refine lit_t rfl ?_ | refine lit_f rfl ?_ | refine And.intro (And.intro rfl (Nat.le_of_ble_eq_true rfl)) ?_ | refine c_t rfl ?_ | refine c_f rfl ?_)
    refine And.intro (Int.natCast_nonneg i) (Exists.intro _ (And.intro hat (And.intro rfl ?_)))
    (repeat' first | refine t_seq ?_ | refine t_reg ?_ | refine t_skip ?_ | refine t_scope ?_ | refine t_ret ?_ | refine t_exit ?_ | refine lit_t rfl ?_ | refine lit_f rfl ?_ | refine And.intro (And.intro rfl (Nat.le_of_ble_eq_true rfl)) ?_ | refine c_t rfl ?_ | refine c_f rfl ?_)
    refine Exists.intro _ (And.intro rfl ?_)
    (repeat' first | refine t_seq ?_ | refine t_reg ?_ | refine t_skip ?_ | refine t_scope ?_ | refine t_ret ?_ | refine t_exit ?_ | refine lit_t rfl ?_ | refine lit_f rfl ?_ | refine And.intro (And.intro rfl (Nat.le_of_ble_eq_true rfl)) ?_ | refine c_t rfl ?_ | refine c_f rfl ?_)
    refine c_d rfl (fun h => ?_) (fun h => ?_)
    · have h4 : i < 4 := by omega
      have hs := hs1 h4
      have cc := c5 h4
      have ec := chr_enc i (by omega)
      (repeat' first | refine t_seq ?_ | refine t_reg ?_ | refine t_skip ?_ | refine t_scope ?_ | refine t_ret ?_ | refine t_exit ?_ | refine lit_t rfl ?_ | refine lit_f rfl ?_ | refine And.intro (And.intro rfl (Nat.le_of_ble_eq_true rfl)) ?_ | refine c_t rfl ?_ | refine c_f rfl ?_ | (first | refine fld_as (v := own (cfM s i) 3) rfl rfl rfl ?_ | (refine And.intro (show ((([109] : List UInt8).length + (Utf8.encode (IntKind.i32.wrap (IntKind.i64.wrap (97 + ((i : Nat) : Int))))).data.toList.length : Nat) : Int) ≤ _ from ?_) ?_; (rw [ec]; show ((1 + 1 : Nat) : Int) ≤ _; decide)) | refine call_clean (law07_Clauses_ev s.maps[i] hru.2 hru.1) a1 ?_ | (refine Exists.intro [_] (And.intro rfl (And.intro (all_one rfl) (app_one (cfM s i) 3 rfl rfl (cc) ?_ ?_))); omega)) | (refine sp_t (fun h => ?_) (fun h => ?_) <;> (try simp only [List.length_map] at h)) | (refine sp_f (fun h => ?_) (fun h => ?_) <;> (try simp only [List.length_map] at h)) | refine sq_t (fun h => ?_) (fun h => ?_) | refine sq_f (fun h => ?_) (fun h => ?_) | refine sb_t (fun h => ?_) (fun h => ?_) | refine sb_f (fun h => ?_) (fun h => ?_) | (refine c_nd rfl (fun h => ?_) (fun h => ?_) <;> (try simp only [List.length_map] at h)) | (refine c_d rfl (fun h => ?_) (fun h => ?_) <;> (try simp only [List.length_map] at h)) | refine c_nq rfl (fun h => ?_) (fun h => ?_) | refine c_q rfl (fun h => ?_) (fun h => ?_) | refine c_nb rfl (fun h => ?_) (fun h => ?_) | refine c_b rfl (fun h => ?_) (fun h => ?_) | refine And.intro rfl (Exists.intro _ (And.intro rfl ?_)) | refine Exists.intro _ (And.intro rfl ?_))
      refine And.intro rfl ⟨cfE s (i + 1), cfH s (cfM s (i + 1)) [], moveL [0, 1, 2, 5, 4] rfl (by decide) ⟨.inr ⟨_, rfl, cvO_box s.clean⟩, .inr ⟨_, rfl, cvO_z2⟩, .inr ⟨_, rfl, cvO_boxL ⟨cv_own_new (Nat.le_of_ble_eq_true rfl) (by rw [hs]; simp) (by rw [hs, List.length_append, cc]; rfl) rfl, .nilS, trivial⟩⟩, .inr ⟨_, rfl, cvO_own_as ?_ (cM _) (lM _)⟩, .inl rfl, trivial⟩ ?_, hlt, rfl, rfl⟩
      · rw [hs]
        refine congrArg (fun x => cfM s i ++ [x]) ?_
        show _ = [AVal.s ([109] ++ (Utf8.encode (IntKind.i32.wrap (IntKind.i64.wrap (97 + ((i : Nat) : Int))))).data.toList), .sl ((clausesOf s.maps[i]).map Cla.cells), .i .i64 0]
        rw [ec]; unfold mapK; rw [hgm]; rfl
      · refine ⟨?_, ?_, ?_, ?_, ?_, ?_, trivial⟩ <;> (first | exact .cl _ rfl | exact .cl _ (by assumption) | exact cv_ptr (Nat.le_of_ble_eq_true rfl) rfl | exact .nilS | exact cv_own (Nat.le_of_ble_eq_true rfl) rfl | exact cv_row (Nat.le_of_ble_eq_true rfl) rfl | exact cv_mp (Nat.le_of_ble_eq_true rfl) rfl)
    · have hs := hs2 (by omega)
      (repeat' first | refine t_seq ?_ | refine t_reg ?_ | refine t_skip ?_ | refine t_scope ?_ | refine t_ret ?_ | refine t_exit ?_ | refine lit_t rfl ?_ | refine lit_f rfl ?_ | refine And.intro (And.intro rfl (Nat.le_of_ble_eq_true rfl)) ?_ | refine c_t rfl ?_ | refine c_f rfl ?_ | (refine sp_t (fun h => ?_) (fun h => ?_) <;> (try simp only [List.length_map] at h)) | (refine sp_f (fun h => ?_) (fun h => ?_) <;> (try simp only [List.length_map] at h)) | refine sq_t (fun h => ?_) (fun h => ?_) | refine sq_f (fun h => ?_) (fun h => ?_) | refine sb_t (fun h => ?_) (fun h => ?_) | refine sb_f (fun h => ?_) (fun h => ?_) | (refine c_nd rfl (fun h => ?_) (fun h => ?_) <;> (try simp only [List.length_map] at h)) | (refine c_d rfl (fun h => ?_) (fun h => ?_) <;> (try simp only [List.length_map] at h)) | refine c_nq rfl (fun h => ?_) (fun h => ?_) | refine c_q rfl (fun h => ?_) (fun h => ?_) | refine c_nb rfl (fun h => ?_) (fun h => ?_) | refine c_b rfl (fun h => ?_) (fun h => ?_) | refine And.intro (by omega) (Exists.intro _ (And.intro (row_atN (by omega)) (And.intro rfl ?_))) | refine And.intro rfl (Exists.intro _ (And.intro rfl ?_)) | refine Exists.intro _ (And.intro rfl ?_))
      refine And.intro rfl ⟨cfE s (i + 1), cfH s (cfM s (i + 1)) [], ?_, hlt, rfl, rfl⟩
      rw [hs]
      refine moveL [0, 1, 2, 3, 4] rfl (by decide) ⟨.inr ⟨_, rfl, cvO_box s.clean⟩, .inr ⟨_, rfl, cvO_z2⟩, .inr ⟨_, rfl, cvO_boxL ⟨cv_own (Nat.le_of_ble_eq_true rfl) rfl, .nilS, trivial⟩⟩, .inr ⟨_, rfl, cvO_own (cM _) (lM _)⟩, .inl rfl, trivial⟩ ?_
      refine ⟨?_, ?_, ?_, ?_, ?_, ?_, trivial⟩ <;> (first | exact .cl _ rfl | exact .cl _ (by assumption) | exact cv_ptr (Nat.le_of_ble_eq_true rfl) rfl | exact .nilS | exact cv_own (Nat.le_of_ble_eq_true rfl) rfl | exact cv_row (Nat.le_of_ble_eq_true rfl) rfl | exact cv_mp (Nat.le_of_ble_eq_true rfl) rfl)
  rintro E H ⟨hi, rfl, rfl⟩
  have hMM : cfM s (s.maps.map rulesC).length = ((confM s).maps).map Mapp.cells := by simp [cfM, confM]
  rw [hMM]
  generalize hM : ((confM s).maps).map Mapp.cells = M
  have kM : cleanLL M = true := by rw [← hM]; exact cM _
  have qM : ∀ r ∈ M, r.length = 3 := by rw [← hM]; exact lM _
  have hr0 := Int.tmod_nonneg 8 hs.routers.1
  have hr1 := Int.tmod_lt_of_pos s.routers (show (0 : Int) < 8 by decide)
  have hn8 : s.n < 8 := by unfold Shp.n; omega
  have hw : IntKind.i64.wrap (s.routers.tmod 8) = (s.n : Nat) := by rw [w64 (by omega) (by omega)]; unfold Shp.n; omega
  (repeat' first | refine t_seq ?_ | refine t_reg ?_ | refine t_skip ?_ | refine t_scope ?_ | refine t_ret ?_ | refine t_exit ?_ | refine lit_t rfl ?_ | refine lit_f rfl ?_ | refine And.intro (And.intro rfl (Nat.le_of_ble_eq_true rfl)) ?_ | refine c_t rfl ?_ | refine c_f rfl ?_ | (first | refine And.intro rfl (And.intro (by decide) ?_)) | (refine sp_t (fun h => ?_) (fun h => ?_) <;> (try simp only [List.length_map] at h)) | (refine sp_f (fun h => ?_) (fun h => ?_) <;> (try simp only [List.length_map] at h)) | refine sq_t (fun h => ?_) (fun h => ?_) | refine sq_f (fun h => ?_) (fun h => ?_) | refine sb_t (fun h => ?_) (fun h => ?_) | refine sb_f (fun h => ?_) (fun h => ?_) | (refine c_nd rfl (fun h => ?_) (fun h => ?_) <;> (try simp only [List.length_map] at h)) | (refine c_d rfl (fun h => ?_) (fun h => ?_) <;> (try simp only [List.length_map] at h)) | refine c_nq rfl (fun h => ?_) (fun h => ?_) | refine c_q rfl (fun h => ?_) (fun h => ?_) | refine c_nb rfl (fun h => ?_) (fun h => ?_) | refine c_b rfl (fun h => ?_) (fun h => ?_) | refine And.intro rfl (Exists.intro _ (And.intro rfl ?_)) | refine Exists.intro _ (And.intro rfl ?_))
  refine t_for 0 s.n (by omega) ?_ ?_ (fun k E H => k ≤ s.n ∧ E = cgE s k ∧ H = cfH s M (cfR s k)) (cgE s 0) (cfH s M []) ?_ ⟨Nat.zero_le _, rfl, rfl⟩ ?_ ?_ ?_
  · rfl
  · rfl
  · refine moveL [0, 1, 2, 3, 4] rfl (by decide) ⟨.inr ⟨_, rfl, cvO_box s.clean⟩, .inr ⟨_, rfl, cvO_z2⟩, .inr ⟨_, rfl, cvO_boxL ⟨cv_own (Nat.le_of_ble_eq_true rfl) rfl, .nilS, trivial⟩⟩, .inr ⟨_, rfl, cvO_own kM qM⟩, .inl rfl, trivial⟩ ?_
    refine ⟨?_, ?_, ?_, ?_, ?_, trivial⟩ <;> first | (first | exact .cl _ rfl | exact .cl _ (by assumption) | exact cv_ptr (Nat.le_of_ble_eq_true rfl) rfl | exact .nilS | exact cv_own (Nat.le_of_ble_eq_true rfl) rfl | exact cv_row (Nat.le_of_ble_eq_true rfl) rfl | exact cv_mp (Nat.le_of_ble_eq_true rfl) rfl) | exact cv_i hw.symm
  · rintro k E H ⟨hi, rfl, rfl⟩; exact ⟨hi, rfl, rfl⟩
  · rintro k E H hlt ⟨hi, rfl, rfl⟩
    have hkn : k < 8 := by omega
    have nuc : ∀ (l : List Int) (x : Int), cleanAll [.sl (l.map u8cells), .i .i64 x] = true := fun l x => by
      simp only [cleanAll, List.all_cons, clean, clean_rows (f := u8cells) (fun _ => rfl)]; rfl
    have hk0 : (0 : Int) ≤ (k : Nat) := by omega
    have hvb := number_ok hs.nets hk0
    have hmk : EvP Try.prog G fn_maquettelaw05_Make [.i .u8 (IntKind.u8.wrap (number s.nets (k : Nat)))] (makeM (number s.nets (k : Nat))).av := by
      rw [wu8 hvb]; exact law05_Make_ev _ hvb.1 hvb.2
    have kR := cR ((List.range k).map (rouK s s.n))
    have qR := lR ((List.range k).map (rouK s s.n))
    have hnets : ∀ q ∈ netsK s k, True := fun _ _ => trivial
    have cP : ∀ L : List Pfx, cleanLL (L.map Pfx.cells) = true := fun L => clean_rows Pfx.clean _
    have lP : ∀ L : List Pfx, ∀ r ∈ L.map Pfx.cells, r.length = 2 := fun L => len_rows (f := Pfx.cells) (fun _ => rfl) _
    have cS : ∀ L : List Sta, cleanLL (L.map Sta.cells) = true := fun L => clean_rows Sta.clean _
    have lS : ∀ L : List Sta, ∀ r ∈ L.map Sta.cells, r.length = 4 := fun L => len_rows (f := Sta.cells) (fun _ => rfl) _
    (repeat' first | refine t_seqr ?_ | refine t_skip ?_ | refine t_scope ?_ | refine t_ret ?_ | refine t_exit ?_ | refine lit_t rfl ?_ | refine lit_f rfl ?_ | refine And.intro (And.intro rfl (Nat.le_of_ble_eq_true rfl)) ?_ | refine c_t rfl ?_ | refine c_f rfl ?_ | (first | refine call_clean (law07_Name_ev k hkn) rfl ?_))
    refine t_cut (fun E H => E = chE s k ∧ H = chH s M (cfR s k) k) ?_ ?_
    · (repeat' first | refine t_seq ?_ | refine t_reg ?_ | refine t_skip ?_ | refine t_scope ?_ | refine t_ret ?_ | refine t_exit ?_ | refine lit_t rfl ?_ | refine lit_f rfl ?_ | refine And.intro (And.intro rfl (Nat.le_of_ble_eq_true rfl)) ?_ | refine c_t rfl ?_ | refine c_f rfl ?_ | (first | refine And.intro rfl (And.intro (by decide) ?_) | refine call_clean (maquettelaw07_number_ev s.nets (k : Nat) hk0 hs.nets.1) (nuc _ _) ?_ | refine call_clean hmk rfl ?_ | refine Exists.intro [_] (And.intro rfl (And.intro (all_one rfl) (And.intro (fun h => absurd h (List.cons_ne_nil _ _)) (fun _ => And.intro (And.intro (Nat.le_of_ble_eq_true rfl) (Nat.le_of_ble_eq_true rfl)) ?_))))) | (refine sp_t (fun h => ?_) (fun h => ?_) <;> (try simp only [List.length_map] at h)) | (refine sp_f (fun h => ?_) (fun h => ?_) <;> (try simp only [List.length_map] at h)) | refine sq_t (fun h => ?_) (fun h => ?_) | refine sq_f (fun h => ?_) (fun h => ?_) | refine sb_t (fun h => ?_) (fun h => ?_) | refine sb_f (fun h => ?_) (fun h => ?_) | (refine c_nd rfl (fun h => ?_) (fun h => ?_) <;> (try simp only [List.length_map] at h)) | (refine c_d rfl (fun h => ?_) (fun h => ?_) <;> (try simp only [List.length_map] at h)) | refine c_nq rfl (fun h => ?_) (fun h => ?_) | refine c_q rfl (fun h => ?_) (fun h => ?_) | refine c_nb rfl (fun h => ?_) (fun h => ?_) | refine c_b rfl (fun h => ?_) (fun h => ?_) | refine And.intro rfl (Exists.intro _ (And.intro rfl ?_)) | refine Exists.intro _ (And.intro rfl ?_))
      · have hn : netsK s k = [makeM (number s.nets (k : Nat))] := by unfold netsK; rw [if_pos (.inl (by omega))]
        refine ⟨chE s k, chH s M (cfR s k) k, moveL [0, 1, 2, 3, 4, 5] rfl (by decide) ⟨.inr ⟨_, rfl, cvO_box s.clean⟩, .inr ⟨_, rfl, cvO_z2⟩, .inr ⟨_, rfl, cvO_boxL ⟨cv_own (Nat.le_of_ble_eq_true rfl) rfl, cv_own (Nat.le_of_ble_eq_true rfl) rfl, trivial⟩⟩, .inr ⟨_, rfl, cvO_own kM qM⟩, .inr ⟨_, rfl, cvO_own (cR _) (lR _)⟩, .inr ⟨_, rfl, cvO_boxL ⟨.cl _ rfl, cv_frz rfl (still_of (by rfl) (by rfl)) (by rw [hn]; rfl) rfl (cP _) (lP _), .nilS, .nilS, .cl _ rfl, trivial⟩⟩, trivial⟩ ?_, rfl, rfl⟩
        refine ⟨?_, ?_, ?_, ?_, ?_, ?_, trivial⟩ <;> (first | exact .cl _ rfl | exact .cl _ (by assumption) | exact cv_ptr (Nat.le_of_ble_eq_true rfl) rfl | exact .nilS | exact cv_own (Nat.le_of_ble_eq_true rfl) rfl | exact cv_row (Nat.le_of_ble_eq_true rfl) rfl | exact cv_mp (Nat.le_of_ble_eq_true rfl) rfl)
      · have hn : netsK s k = [makeM (number s.nets (k : Nat))] := by unfold netsK; rw [if_pos (.inr h)]
        refine ⟨chE s k, chH s M (cfR s k) k, moveL [0, 1, 2, 3, 4, 5] rfl (by decide) ⟨.inr ⟨_, rfl, cvO_box s.clean⟩, .inr ⟨_, rfl, cvO_z2⟩, .inr ⟨_, rfl, cvO_boxL ⟨cv_own (Nat.le_of_ble_eq_true rfl) rfl, cv_own (Nat.le_of_ble_eq_true rfl) rfl, trivial⟩⟩, .inr ⟨_, rfl, cvO_own kM qM⟩, .inr ⟨_, rfl, cvO_own (cR _) (lR _)⟩, .inr ⟨_, rfl, cvO_boxL ⟨.cl _ rfl, cv_frz rfl (still_of (by rfl) (by rfl)) (by rw [hn]; rfl) rfl (cP _) (lP _), .nilS, .nilS, .cl _ rfl, trivial⟩⟩, trivial⟩ ?_, rfl, rfl⟩
        refine ⟨?_, ?_, ?_, ?_, ?_, ?_, trivial⟩ <;> (first | exact .cl _ rfl | exact .cl _ (by assumption) | exact cv_ptr (Nat.le_of_ble_eq_true rfl) rfl | exact .nilS | exact cv_own (Nat.le_of_ble_eq_true rfl) rfl | exact cv_row (Nat.le_of_ble_eq_true rfl) rfl | exact cv_mp (Nat.le_of_ble_eq_true rfl) rfl)
      · rename_i h1
        have hn : netsK s k = [] := by
          unfold netsK
          rw [if_neg]
          intro h2
          rcases h2 with h2 | h2
          · exact h1 (by omega)
          · exact h h2
        refine ⟨chE s k, chH s M (cfR s k) k, moveL [0, 1, 2, 3, 4, 5] rfl (by decide) ⟨.inr ⟨_, rfl, cvO_box s.clean⟩, .inr ⟨_, rfl, cvO_z2⟩, .inr ⟨_, rfl, cvO_boxL ⟨cv_own (Nat.le_of_ble_eq_true rfl) rfl, cv_own (Nat.le_of_ble_eq_true rfl) rfl, trivial⟩⟩, .inr ⟨_, rfl, cvO_own kM qM⟩, .inr ⟨_, rfl, cvO_own (cR _) (lR _)⟩, .inr ⟨_, rfl, cvO_boxL ⟨.cl _ rfl, by rw [hn]; exact .nil, .nilS, .nilS, .cl _ rfl, trivial⟩⟩, trivial⟩ ?_, rfl, rfl⟩
        refine ⟨?_, ?_, ?_, ?_, ?_, ?_, trivial⟩ <;> (first | exact .cl _ rfl | exact .cl _ (by assumption) | exact cv_ptr (Nat.le_of_ble_eq_true rfl) rfl | exact .nilS | exact cv_own (Nat.le_of_ble_eq_true rfl) rfl | exact cv_row (Nat.le_of_ble_eq_true rfl) rfl | exact cv_mp (Nat.le_of_ble_eq_true rfl) rfl)
    rintro E H ⟨rfl, rfl⟩
    (repeat' first | refine t_seq ?_ | refine t_reg ?_ | refine t_skip ?_ | refine t_scope ?_ | refine t_ret ?_ | refine t_exit ?_ | refine lit_t rfl ?_ | refine lit_f rfl ?_ | refine And.intro (And.intro rfl (Nat.le_of_ble_eq_true rfl)) ?_ | refine c_t rfl ?_ | refine c_f rfl ?_)
    have cnet := clean_sl Pfx.clean (netsK s k)
    refine t_for 0 s.n (by omega) ?_ ?_ (fun j E H => j ≤ s.n ∧ E = ciE s k j ∧ H = ciH s M (cfR s k) k j) (ciE s k 0) (ciH s M (cfR s k) k 0) ?_ ⟨Nat.zero_le _, rfl, rfl⟩ ?_ ?_ ?_
    · rfl
    · rfl
    · refine moveL [0, 1, 2, 3, 4, 5, 99] rfl (by decide) ⟨.inr ⟨_, rfl, cvO_box s.clean⟩, .inr ⟨_, rfl, cvO_z2⟩, .inr ⟨_, rfl, cvO_boxL ⟨cv_own (Nat.le_of_ble_eq_true rfl) rfl, cv_own (Nat.le_of_ble_eq_true rfl) rfl, trivial⟩⟩, .inr ⟨_, rfl, cvO_own kM qM⟩, .inr ⟨_, rfl, cvO_own (cR _) (lR _)⟩, .inr ⟨_, rfl, cvO_boxL ⟨.cl _ rfl, .cl _ cnet, .nilS, .nilS, .cl _ rfl, trivial⟩⟩, .inl rfl, trivial⟩ ?_
      refine ⟨?_, ?_, ?_, ?_, ?_, ?_, ?_, trivial⟩ <;> (first | exact .cl _ rfl | exact .cl _ (by assumption) | exact cv_ptr (Nat.le_of_ble_eq_true rfl) rfl | exact .nilS | exact cv_own (Nat.le_of_ble_eq_true rfl) rfl | exact cv_row (Nat.le_of_ble_eq_true rfl) rfl | exact cv_mp (Nat.le_of_ble_eq_true rfl) rfl)
    · rintro j E H ⟨hj, rfl, rfl⟩; exact ⟨hj, rfl, rfl⟩
    · rintro j E H hltj ⟨hj, rfl, rfl⟩
      have hjn : j < 8 := by omega
      have hix : IntKind.i64.wrap (IntKind.i64.wrap ((if (k : Int) < (j : Int) then (k : Int) else (j : Int)) * ((s.n : Nat) : Int)) + (if (k : Int) > (j : Int) then (k : Int) else (j : Int))) = ((linkIx s.n k j : Nat) : Int) := by
        have e1 : (if (k : Int) < (j : Int) then (k : Int) else (j : Int)) = ((min j k : Nat) : Int) := by split <;> omega
        have e2 : (if (k : Int) > (j : Int) then (k : Int) else (j : Int)) = ((max j k : Nat) : Int) := by split <;> omega
        have e3 : ((min j k : Nat) : Int) * ((s.n : Nat) : Int) = ((min j k * s.n : Nat) : Int) := by rw [Int.natCast_mul]
        have e4 : min j k * s.n ≤ 64 := Nat.le_trans (Nat.mul_le_mul (show min j k ≤ 8 by omega) (show s.n ≤ 8 by omega)) (by decide)
        rw [e1, e2, e3]
        unfold linkIx
        generalize min j k * s.n = p at e4 ⊢
        rw [w64 (n := (p : Int)) (by omega) (by omega), w64 (by omega) (by omega)]; omega
      have hiy : IntKind.i64.wrap (IntKind.i64.wrap (((k : Nat) : Int) * ((s.n : Nat) : Int)) + ((j : Nat) : Int)) = ((k * s.n + j : Nat) : Int) := by
        have e3 : ((k : Nat) : Int) * ((s.n : Nat) : Int) = ((k * s.n : Nat) : Int) := by rw [Int.natCast_mul]
        have e4 : k * s.n ≤ 64 := Nat.le_trans (Nat.mul_le_mul (show k ≤ 8 by omega) (show s.n ≤ 8 by omega)) (by decide)
        rw [e3]
        generalize k * s.n = p at e4 ⊢
        rw [w64 (n := (p : Int)) (by omega) (by omega), w64 (by omega) (by omega)]; omega
      have hnl : EvP Try.prog G fn_maquettelaw07_number [.sl (s.links.map u8cells), .i .i64 (IntKind.i64.wrap (IntKind.i64.wrap ((if (k : Int) < (j : Int) then (k : Int) else (j : Int)) * ((s.n : Nat) : Int)) + (if (k : Int) > (j : Int) then (k : Int) else (j : Int))))] (.i .i64 (number s.links ((linkIx s.n k j : Nat) : Int))) := by
        rw [hix]; exact maquettelaw07_number_ev s.links _ (by omega) hs.links.1
      have hnn : EvP Try.prog G fn_maquettelaw07_number [.sl (s.names.map u8cells), .i .i64 (IntKind.i64.wrap (IntKind.i64.wrap (((k : Nat) : Int) * ((s.n : Nat) : Int)) + ((j : Nat) : Int)))] (.i .i64 (number s.names ((k * s.n + j : Nat) : Int))) := by
        rw [hiy]; exact maquettelaw07_number_ev s.names _ (by omega) hs.names.1
      have hlb := number_ok hs.links (show (0 : Int) ≤ ((linkIx s.n k j : Nat) : Int) by omega)
      have hvn := number_ok hs.names (show (0 : Int) ≤ ((k * s.n + j : Nat) : Int) by omega)
      have hd12 : IntKind.i64.wrap ((number s.names ((k * s.n + j : Nat) : Int)).tdiv 12) = (number s.names ((k * s.n + j : Nat) : Int)).tdiv 12 := by
        rw [Int.tdiv_eq_ediv_of_nonneg hvn.1, w64 (by omega) (by omega)]
      have hmp1 := law07_mapped_ev (G := G) s _ hs hvn.1 hvn.2
      have hmp2 : EvP Try.prog G fn_maquettelaw07_Shape_mapped [s.av, .i .i64 (IntKind.i64.wrap ((number s.names ((k * s.n + j : Nat) : Int)).tdiv 12))] (.s (mappedM s ((number s.names ((k * s.n + j : Nat) : Int)).tdiv 12))) := by
        rw [hd12]; exact law07_mapped_ev s _ hs (by rw [Int.tdiv_eq_ediv_of_nonneg hvn.1]; omega) (by rw [Int.tdiv_eq_ediv_of_nonneg hvn.1]; omega)
      have hcost : IntKind.i64.wrap (1 + (IntKind.i64.wrap ((number s.links ((linkIx s.n k j : Nat) : Int)).tdiv 3)).tmod 3) = 1 + ((number s.links ((linkIx s.n k j : Nat) : Int)).tdiv 3).tmod 3 := by
        rw [Int.tdiv_eq_ediv_of_nonneg hlb.1, w64 (n := number s.links ((linkIx s.n k j : Nat) : Int) / 3) (by omega) (by omega), Int.tmod_eq_emod_of_nonneg (by omega), w64 (by omega) (by omega)]
      have hwk : IntKind.i64.wrap ((k : Nat) + 1) = ((k + 1 : Nat) : Int) := by rw [w64 (by omega) (by omega)]; rfl
      have hwj : IntKind.i64.wrap ((j : Nat) + 1) = ((j + 1 : Nat) : Int) := by rw [w64 (by omega) (by omega)]; rfl
      have sc : ∀ x : Int, cleanAll [s.av, .i .i64 x] = true := fun x => by simp only [cleanAll, List.all_cons, Shp.av, clean, s.clean]; rfl
      have hsome : (j ≠ k ∧ (0 < (number s.links ((linkIx s.n k j : Nat) : Int)).tmod 3 ∨ j = k + 1 ∨ k = j + 1)) → ciL s k (j + 1) = ciL s k j ++ [Lnk.cells ⟨nameR j, 1 + ((number s.links ((linkIx s.n k j : Nat) : Int)).tdiv 3).tmod 3, mappedM s (number s.names ((k * s.n + j : Nat) : Int)), mappedM s ((number s.names ((k * s.n + j : Nat) : Int)).tdiv 12), 0⟩] := by
        intro hc
        unfold ciL
        rw [List.range_succ, List.filterMap_append, List.map_append]
        congr 1
        have : lnkK s s.n k j = some ⟨nameR j, 1 + ((number s.links ((linkIx s.n k j : Nat) : Int)).tdiv 3).tmod 3, mappedM s (number s.names ((k * s.n + j : Nat) : Int)), mappedM s ((number s.names ((k * s.n + j : Nat) : Int)).tdiv 12), 0⟩ := by unfold lnkK; rw [if_pos hc]
        simp only [List.filterMap_cons, this, List.filterMap_nil, List.map_cons, List.map_nil]
      have hnone : ¬ (j ≠ k ∧ (0 < (number s.links ((linkIx s.n k j : Nat) : Int)).tmod 3 ∨ j = k + 1 ∨ k = j + 1)) → ciL s k (j + 1) = ciL s k j := by
        intro hc
        unfold ciL
        rw [List.range_succ, List.filterMap_append]
        have : lnkK s s.n k j = none := by unfold lnkK; rw [if_neg hc]
        simp only [List.filterMap_cons, this, List.filterMap_nil, List.append_nil]
      have hLl : (ciL s k j).length ≤ 8 := by
        unfold ciL
        rw [List.length_map]
        exact Nat.le_trans (List.length_filterMap_le _ _) (by simp; omega)
      (repeat' first | refine t_seq ?_ | refine t_reg ?_ | refine t_skip ?_ | refine t_scope ?_ | refine t_ret ?_ | refine t_exit ?_ | refine lit_t rfl ?_ | refine lit_f rfl ?_ | refine And.intro (And.intro rfl (Nat.le_of_ble_eq_true rfl)) ?_ | refine c_t rfl ?_ | refine c_f rfl ?_ | (first | refine And.intro rfl (And.intro (by decide) ?_) | refine call_clean hnl (nuc _ _) ?_ | refine call_clean hnn (nuc _ _) ?_ | refine fld_as (v := own (ciL s k j) 6) rfl rfl rfl ?_ | refine call_clean (law07_Name_ev j hjn) rfl ?_ | refine call_clean hmp1 (sc _) ?_ | refine call_clean hmp2 (sc _) ?_ | (refine Exists.intro [_] (And.intro rfl (And.intro (all_one rfl) (app_one (ciL s k j) 6 rfl rfl (rfl) ?_ ?_))); omega)) | (refine sp_t (fun h => ?_) (fun h => ?_) <;> (try simp only [List.length_map] at h)) | (refine sp_f (fun h => ?_) (fun h => ?_) <;> (try simp only [List.length_map] at h)) | refine sq_t (fun h => ?_) (fun h => ?_) | refine sq_f (fun h => ?_) (fun h => ?_) | refine sb_t (fun h => ?_) (fun h => ?_) | refine sb_f (fun h => ?_) (fun h => ?_) | (refine c_nd rfl (fun h => ?_) (fun h => ?_) <;> (try simp only [List.length_map] at h)) | (refine c_d rfl (fun h => ?_) (fun h => ?_) <;> (try simp only [List.length_map] at h)) | refine c_nq rfl (fun h => ?_) (fun h => ?_) | refine c_q rfl (fun h => ?_) (fun h => ?_) | refine c_nb rfl (fun h => ?_) (fun h => ?_) | refine c_b rfl (fun h => ?_) (fun h => ?_) | refine And.intro rfl (Exists.intro _ (And.intro rfl ?_)) | refine Exists.intro _ (And.intro rfl ?_))
      · have hc : (j ≠ k ∧ (0 < (number s.links ((linkIx s.n k j : Nat) : Int)).tmod 3 ∨ j = k + 1 ∨ k = j + 1)) := by
          rename_i h1
          refine ⟨fun e => ?_, .inl h⟩
          subst e; simp at h1
        refine And.intro rfl ⟨ciE s k (j + 1), ciH s M (cfR s k) k (j + 1), moveL [0, 1, 2, 3, 4, 5, 7] rfl (by decide) ⟨.inr ⟨_, rfl, cvO_box s.clean⟩, .inr ⟨_, rfl, cvO_z2⟩, .inr ⟨_, rfl, cvO_boxL ⟨cv_own (Nat.le_of_ble_eq_true rfl) rfl, cv_own (Nat.le_of_ble_eq_true rfl) rfl, trivial⟩⟩, .inr ⟨_, rfl, cvO_own kM qM⟩, .inr ⟨_, rfl, cvO_own kR qR⟩, .inr ⟨_, rfl, cvO_boxL ⟨.cl _ rfl, .cl _ cnet, cv_own_new (Nat.le_of_ble_eq_true rfl) (by rw [hsome hc]; simp) (by rw [hsome hc, List.length_append]; rfl) rfl, .nilS, .cl _ rfl, trivial⟩⟩, .inr ⟨_, rfl, cvO_own_as ?_ (cL _) (lL _)⟩, trivial⟩ ?_, hltj, rfl, rfl⟩
        · rw [hsome hc]
          refine congrArg (fun x => ciL s k j ++ [x]) ?_
          rw [← hcost]; rfl
        · refine ⟨?_, ?_, ?_, ?_, ?_, ?_, ?_, trivial⟩ <;> (first | exact .cl _ rfl | exact .cl _ (by assumption) | exact cv_ptr (Nat.le_of_ble_eq_true rfl) rfl | exact .nilS | exact cv_own (Nat.le_of_ble_eq_true rfl) rfl | exact cv_row (Nat.le_of_ble_eq_true rfl) rfl | exact cv_mp (Nat.le_of_ble_eq_true rfl) rfl)
      · have hc : (j ≠ k ∧ (0 < (number s.links ((linkIx s.n k j : Nat) : Int)).tmod 3 ∨ j = k + 1 ∨ k = j + 1)) := by
          rw [hwk] at h
          exact ⟨by omega, .inr (.inl (by omega))⟩
        refine And.intro rfl ⟨ciE s k (j + 1), ciH s M (cfR s k) k (j + 1), moveL [0, 1, 2, 3, 4, 5, 7] rfl (by decide) ⟨.inr ⟨_, rfl, cvO_box s.clean⟩, .inr ⟨_, rfl, cvO_z2⟩, .inr ⟨_, rfl, cvO_boxL ⟨cv_own (Nat.le_of_ble_eq_true rfl) rfl, cv_own (Nat.le_of_ble_eq_true rfl) rfl, trivial⟩⟩, .inr ⟨_, rfl, cvO_own kM qM⟩, .inr ⟨_, rfl, cvO_own kR qR⟩, .inr ⟨_, rfl, cvO_boxL ⟨.cl _ rfl, .cl _ cnet, cv_own_new (Nat.le_of_ble_eq_true rfl) (by rw [hsome hc]; simp) (by rw [hsome hc, List.length_append]; rfl) rfl, .nilS, .cl _ rfl, trivial⟩⟩, .inr ⟨_, rfl, cvO_own_as ?_ (cL _) (lL _)⟩, trivial⟩ ?_, hltj, rfl, rfl⟩
        · rw [hsome hc]
          refine congrArg (fun x => ciL s k j ++ [x]) ?_
          rw [← hcost]; rfl
        · refine ⟨?_, ?_, ?_, ?_, ?_, ?_, ?_, trivial⟩ <;> (first | exact .cl _ rfl | exact .cl _ (by assumption) | exact cv_ptr (Nat.le_of_ble_eq_true rfl) rfl | exact .nilS | exact cv_own (Nat.le_of_ble_eq_true rfl) rfl | exact cv_row (Nat.le_of_ble_eq_true rfl) rfl | exact cv_mp (Nat.le_of_ble_eq_true rfl) rfl)
      · have hc : (j ≠ k ∧ (0 < (number s.links ((linkIx s.n k j : Nat) : Int)).tmod 3 ∨ j = k + 1 ∨ k = j + 1)) := by
          rw [hwj] at h
          exact ⟨by omega, .inr (.inr (by omega))⟩
        refine And.intro rfl ⟨ciE s k (j + 1), ciH s M (cfR s k) k (j + 1), moveL [0, 1, 2, 3, 4, 5, 7] rfl (by decide) ⟨.inr ⟨_, rfl, cvO_box s.clean⟩, .inr ⟨_, rfl, cvO_z2⟩, .inr ⟨_, rfl, cvO_boxL ⟨cv_own (Nat.le_of_ble_eq_true rfl) rfl, cv_own (Nat.le_of_ble_eq_true rfl) rfl, trivial⟩⟩, .inr ⟨_, rfl, cvO_own kM qM⟩, .inr ⟨_, rfl, cvO_own kR qR⟩, .inr ⟨_, rfl, cvO_boxL ⟨.cl _ rfl, .cl _ cnet, cv_own_new (Nat.le_of_ble_eq_true rfl) (by rw [hsome hc]; simp) (by rw [hsome hc, List.length_append]; rfl) rfl, .nilS, .cl _ rfl, trivial⟩⟩, .inr ⟨_, rfl, cvO_own_as ?_ (cL _) (lL _)⟩, trivial⟩ ?_, hltj, rfl, rfl⟩
        · rw [hsome hc]
          refine congrArg (fun x => ciL s k j ++ [x]) ?_
          rw [← hcost]; rfl
        · refine ⟨?_, ?_, ?_, ?_, ?_, ?_, ?_, trivial⟩ <;> (first | exact .cl _ rfl | exact .cl _ (by assumption) | exact cv_ptr (Nat.le_of_ble_eq_true rfl) rfl | exact .nilS | exact cv_own (Nat.le_of_ble_eq_true rfl) rfl | exact cv_row (Nat.le_of_ble_eq_true rfl) rfl | exact cv_mp (Nat.le_of_ble_eq_true rfl) rfl)
      · have hc : ¬ (j ≠ k ∧ (0 < (number s.links ((linkIx s.n k j : Nat) : Int)).tmod 3 ∨ j = k + 1 ∨ k = j + 1)) := by
          rename_i h1 h2
          rw [hwj] at h; rw [hwk] at h2
          rintro ⟨q1, q2 | q2 | q2⟩
          · exact h1 q2
          · exact h2 (by omega)
          · exact h (by omega)
        refine And.intro rfl ⟨ciE s k (j + 1), ciH s M (cfR s k) k (j + 1), ?_, hltj, rfl, rfl⟩
        unfold ciH
        rw [hnone hc]
        refine moveL [0, 1, 2, 3, 4, 5, 6] rfl (by decide) ⟨.inr ⟨_, rfl, cvO_box s.clean⟩, .inr ⟨_, rfl, cvO_z2⟩, .inr ⟨_, rfl, cvO_boxL ⟨cv_own (Nat.le_of_ble_eq_true rfl) rfl, cv_own (Nat.le_of_ble_eq_true rfl) rfl, trivial⟩⟩, .inr ⟨_, rfl, cvO_own kM qM⟩, .inr ⟨_, rfl, cvO_own kR qR⟩, .inr ⟨_, rfl, cvO_boxL ⟨.cl _ rfl, .cl _ cnet, cv_own (Nat.le_of_ble_eq_true rfl) rfl, .nilS, .cl _ rfl, trivial⟩⟩, .inr ⟨_, rfl, cvO_own (cL _) (lL _)⟩, trivial⟩ ?_
        refine ⟨?_, ?_, ?_, ?_, ?_, ?_, ?_, trivial⟩ <;> (first | exact .cl _ rfl | exact .cl _ (by assumption) | exact cv_ptr (Nat.le_of_ble_eq_true rfl) rfl | exact .nilS | exact cv_own (Nat.le_of_ble_eq_true rfl) rfl | exact cv_row (Nat.le_of_ble_eq_true rfl) rfl | exact cv_mp (Nat.le_of_ble_eq_true rfl) rfl)
      · have hc : ¬ (j ≠ k ∧ (0 < (number s.links ((linkIx s.n k j : Nat) : Int)).tmod 3 ∨ j = k + 1 ∨ k = j + 1)) := by
          have : (j : Int) = (k : Int) := by simpa using h
          rintro ⟨q1, _⟩; omega
        refine And.intro rfl ⟨ciE s k (j + 1), ciH s M (cfR s k) k (j + 1), ?_, hltj, rfl, rfl⟩
        unfold ciH
        rw [hnone hc]
        refine moveL [0, 1, 2, 3, 4, 5, 6] rfl (by decide) ⟨.inr ⟨_, rfl, cvO_box s.clean⟩, .inr ⟨_, rfl, cvO_z2⟩, .inr ⟨_, rfl, cvO_boxL ⟨cv_own (Nat.le_of_ble_eq_true rfl) rfl, cv_own (Nat.le_of_ble_eq_true rfl) rfl, trivial⟩⟩, .inr ⟨_, rfl, cvO_own kM qM⟩, .inr ⟨_, rfl, cvO_own kR qR⟩, .inr ⟨_, rfl, cvO_boxL ⟨.cl _ rfl, .cl _ cnet, cv_own (Nat.le_of_ble_eq_true rfl) rfl, .nilS, .cl _ rfl, trivial⟩⟩, .inr ⟨_, rfl, cvO_own (cL _) (lL _)⟩, trivial⟩ ?_
        refine ⟨?_, ?_, ?_, ?_, ?_, ?_, ?_, trivial⟩ <;> (first | exact .cl _ rfl | exact .cl _ (by assumption) | exact cv_ptr (Nat.le_of_ble_eq_true rfl) rfl | exact .nilS | exact cv_own (Nat.le_of_ble_eq_true rfl) rfl | exact cv_row (Nat.le_of_ble_eq_true rfl) rfl | exact cv_mp (Nat.le_of_ble_eq_true rfl) rfl)
    · rintro E H ⟨hj, rfl, rfl⟩
      have hLk : ciL s k s.n = (linksK s s.n k).map Lnk.cells := rfl
      have clk := clean_sl Lnk.clean (linksK s s.n k)
      have hwb := number_ok hs.ways hk0
      have hmw : EvP Try.prog G fn_maquettelaw05_Make [.i .u8 (IntKind.u8.wrap (number s.ways (k : Nat)))] (makeM (number s.ways (k : Nat))).av := by
        rw [wu8 hwb]; exact law05_Make_ev _ hwb.1 hwb.2
      refine t_move (E' := chE s k) (H' := cfH s M (cfR s k) ++ [AObj.box [AVal.s (nameR k), AVal.sl ((netsK s k).map Pfx.cells), AVal.sl ((linksK s s.n k).map Lnk.cells), AVal.nilS, AVal.i IntKind.i64 0]]) (moveL [0, 1, 2, 3, 4, 5] rfl (by decide) ⟨.inr ⟨_, rfl, cvO_box s.clean⟩, .inr ⟨_, rfl, cvO_z2⟩, .inr ⟨_, rfl, cvO_boxL ⟨cv_own (Nat.le_of_ble_eq_true rfl) rfl, cv_own (Nat.le_of_ble_eq_true rfl) rfl, trivial⟩⟩, .inr ⟨_, rfl, cvO_own kM qM⟩, .inr ⟨_, rfl, cvO_own kR qR⟩, .inr ⟨_, rfl, cvO_boxL ⟨.cl _ rfl, .cl _ cnet, cv_frz_own rfl (still_of (by rfl) (by rfl)) rfl (cL _) (lL _), .nilS, .cl _ rfl, trivial⟩⟩, trivial⟩ ?_) ?_
      · refine ⟨?_, ?_, ?_, ?_, ?_, ?_, trivial⟩ <;> (first | exact .cl _ rfl | exact .cl _ (by assumption) | exact cv_ptr (Nat.le_of_ble_eq_true rfl) rfl | exact .nilS | exact cv_own (Nat.le_of_ble_eq_true rfl) rfl | exact cv_row (Nat.le_of_ble_eq_true rfl) rfl | exact cv_mp (Nat.le_of_ble_eq_true rfl) rfl)
      refine t_cut (fun E H => E = chE s k ∧ H = cjH s M (cfR s k) k) ?_ ?_
      · have hlb : ((linksK s s.n k).length : Int) ≤ 8 := by
          have := List.length_filterMap_le (lnkK s s.n k) (List.range s.n)
          unfold linksK; simp at this ⊢; omega
        have hix : 0 < (linksK s s.n k).length → 0 ≤ (IntKind.i64.wrap ((number s.ways (k : Nat)).tdiv 8)).tmod ((((linksK s s.n k).map Lnk.cells).length : Nat) : Int) ∧ ((IntKind.i64.wrap ((number s.ways (k : Nat)).tdiv 8)).tmod ((((linksK s s.n k).map Lnk.cells).length : Nat) : Int)).toNat < (linksK s s.n k).length ∧
            (linksK s s.n k).getD (((number s.ways (k : Nat)).tdiv 8).tmod ((linksK s s.n k).length : Nat)).toNat Lnk.zero = (linksK s s.n k).getD ((IntKind.i64.wrap ((number s.ways (k : Nat)).tdiv 8)).tmod ((((linksK s s.n k).map Lnk.cells).length : Nat) : Int)).toNat Lnk.zero := by
          intro hp
          have e0 : (number s.ways (k : Nat)).tdiv 8 = (number s.ways (k : Nat)) / 8 := Int.tdiv_eq_ediv_of_nonneg hwb.1
          have e1 : IntKind.i64.wrap ((number s.ways (k : Nat)).tdiv 8) = (number s.ways (k : Nat)).tdiv 8 := by rw [e0, w64 (by omega) (by omega)]
          have h0 : 0 ≤ (number s.ways (k : Nat)).tdiv 8 := by rw [e0]; omega
          have h1 := Int.tmod_nonneg ((linksK s s.n k).length : Nat) h0
          have h2 := Int.tmod_lt_of_pos ((number s.ways (k : Nat)).tdiv 8) (show (0 : Int) < ((linksK s s.n k).length : Nat) by omega)
          rw [e1, List.length_map]
          exact ⟨h1, by omega, rfl⟩
        (repeat' first | refine t_seq ?_ | refine t_reg ?_ | refine t_skip ?_ | refine t_scope ?_ | refine t_ret ?_ | refine t_exit ?_ | refine lit_t rfl ?_ | refine lit_f rfl ?_ | refine And.intro (And.intro rfl (Nat.le_of_ble_eq_true rfl)) ?_ | refine c_t rfl ?_ | refine c_f rfl ?_ | (first | refine And.intro rfl (And.intro (by decide) ?_) | refine call_clean (maquettelaw07_number_ev s.ways (k : Nat) hk0 hs.ways.1) (nuc _ _) ?_ | refine call_clean hmw rfl ?_ | refine And.intro rfl (And.intro (by simp only [List.length_map]; omega) ?_) | refine And.intro (hix (by omega)).1 (Exists.intro _ (And.intro (row_atN (hix (by omega)).2.1) (And.intro rfl ?_))) | refine Exists.intro [_] (And.intro rfl (And.intro (all_one rfl) (And.intro (fun h => absurd h (List.cons_ne_nil _ _)) (fun _ => And.intro (And.intro (Nat.le_of_ble_eq_true rfl) (Nat.le_of_ble_eq_true rfl)) ?_))))) | (refine sp_t (fun h => ?_) (fun h => ?_) <;> (try simp only [List.length_map] at h)) | (refine sp_f (fun h => ?_) (fun h => ?_) <;> (try simp only [List.length_map] at h)) | refine sq_t (fun h => ?_) (fun h => ?_) | refine sq_f (fun h => ?_) (fun h => ?_) | refine sb_t (fun h => ?_) (fun h => ?_) | refine sb_f (fun h => ?_) (fun h => ?_) | (refine c_nd rfl (fun h => ?_) (fun h => ?_) <;> (try simp only [List.length_map] at h)) | (refine c_d rfl (fun h => ?_) (fun h => ?_) <;> (try simp only [List.length_map] at h)) | refine c_nq rfl (fun h => ?_) (fun h => ?_) | refine c_q rfl (fun h => ?_) (fun h => ?_) | refine c_nb rfl (fun h => ?_) (fun h => ?_) | refine c_b rfl (fun h => ?_) (fun h => ?_) | refine And.intro rfl (Exists.intro _ (And.intro rfl ?_)) | refine Exists.intro _ (And.intro rfl ?_))
        · rename_i h1 _
          have hpos : 0 < (linksK s s.n k).length := by omega
          obtain ⟨q1, q2, q3⟩ := hix hpos
          have hst : (rouK s s.n k).statics = [⟨makeM (number s.ways (k : Nat)), ((linksK s s.n k)[((IntKind.i64.wrap ((number s.ways (k : Nat)).tdiv 8)).tmod ((((linksK s s.n k).map Lnk.cells).length : Nat) : Int)).toNat]'q2).peer, 0⟩] := by
            show staK s s.n k = _
            unfold staK; rw [if_pos ⟨h1, hpos⟩, q3, getD_of q2]
          refine ⟨chE s k, cjH s M (cfR s k) k, moveL [0, 1, 2, 3, 4, 5] rfl (by decide) ⟨.inr ⟨_, rfl, cvO_box s.clean⟩, .inr ⟨_, rfl, cvO_z2⟩, .inr ⟨_, rfl, cvO_boxL ⟨cv_own (Nat.le_of_ble_eq_true rfl) rfl, cv_own (Nat.le_of_ble_eq_true rfl) rfl, trivial⟩⟩, .inr ⟨_, rfl, cvO_own kM qM⟩, .inr ⟨_, rfl, cvO_own kR qR⟩, .inr ⟨_, rfl, cvO_boxL ⟨.cl _ rfl, .cl _ cnet, .cl _ clk, cv_frz rfl (still_of (by rfl) (by rfl)) (by rw [hst]; rfl) rfl (cS _) (lS _), .cl _ rfl, trivial⟩⟩, trivial⟩ ?_, rfl, rfl⟩
          refine ⟨?_, ?_, ?_, ?_, ?_, ?_, trivial⟩ <;> (first | exact .cl _ rfl | exact .cl _ (by assumption) | exact cv_ptr (Nat.le_of_ble_eq_true rfl) rfl | exact .nilS | exact cv_own (Nat.le_of_ble_eq_true rfl) rfl | exact cv_row (Nat.le_of_ble_eq_true rfl) rfl | exact cv_mp (Nat.le_of_ble_eq_true rfl) rfl)
        · have hst : (rouK s s.n k).statics = [] := by show staK s s.n k = []; unfold staK; rw [if_neg]; rintro ⟨_, q⟩; omega
          refine ⟨chE s k, cjH s M (cfR s k) k, moveL [0, 1, 2, 3, 4, 5] rfl (by decide) ⟨.inr ⟨_, rfl, cvO_box s.clean⟩, .inr ⟨_, rfl, cvO_z2⟩, .inr ⟨_, rfl, cvO_boxL ⟨cv_own (Nat.le_of_ble_eq_true rfl) rfl, cv_own (Nat.le_of_ble_eq_true rfl) rfl, trivial⟩⟩, .inr ⟨_, rfl, cvO_own kM qM⟩, .inr ⟨_, rfl, cvO_own kR qR⟩, .inr ⟨_, rfl, cvO_boxL ⟨.cl _ rfl, .cl _ cnet, .cl _ clk, by rw [hst]; exact .nil, .cl _ rfl, trivial⟩⟩, trivial⟩ ?_, rfl, rfl⟩; refine ⟨?_, ?_, ?_, ?_, ?_, ?_, trivial⟩ <;> (first | exact .cl _ rfl | exact .cl _ (by assumption) | exact cv_ptr (Nat.le_of_ble_eq_true rfl) rfl | exact .nilS | exact cv_own (Nat.le_of_ble_eq_true rfl) rfl | exact cv_row (Nat.le_of_ble_eq_true rfl) rfl | exact cv_mp (Nat.le_of_ble_eq_true rfl) rfl)
        · have hst : (rouK s s.n k).statics = [] := by show staK s s.n k = []; unfold staK; rw [if_neg]; rintro ⟨q, _⟩; exact h q
          refine ⟨chE s k, cjH s M (cfR s k) k, moveL [0, 1, 2, 3, 4, 5] rfl (by decide) ⟨.inr ⟨_, rfl, cvO_box s.clean⟩, .inr ⟨_, rfl, cvO_z2⟩, .inr ⟨_, rfl, cvO_boxL ⟨cv_own (Nat.le_of_ble_eq_true rfl) rfl, cv_own (Nat.le_of_ble_eq_true rfl) rfl, trivial⟩⟩, .inr ⟨_, rfl, cvO_own kM qM⟩, .inr ⟨_, rfl, cvO_own kR qR⟩, .inr ⟨_, rfl, cvO_boxL ⟨.cl _ rfl, .cl _ cnet, .cl _ clk, by rw [hst]; exact .nil, .cl _ rfl, trivial⟩⟩, trivial⟩ ?_, rfl, rfl⟩; refine ⟨?_, ?_, ?_, ?_, ?_, ?_, trivial⟩ <;> (first | exact .cl _ rfl | exact .cl _ (by assumption) | exact cv_ptr (Nat.le_of_ble_eq_true rfl) rfl | exact .nilS | exact cv_own (Nat.le_of_ble_eq_true rfl) rfl | exact cv_row (Nat.le_of_ble_eq_true rfl) rfl | exact cv_mp (Nat.le_of_ble_eq_true rfl) rfl)
      · rintro E H ⟨rfl, rfl⟩
        have hsR : cfR s (k + 1) = cfR s k ++ [(rouK s s.n k).cells] := by
          unfold cfR
          rw [List.range_succ, List.map_append, List.map_append]; rfl
        have cc : (cfR s k).length = k := by simp
        have kR' := cR ((List.range (k + 1)).map (rouK s s.n))
        have qR' := lR ((List.range (k + 1)).map (rouK s s.n))
        (repeat' first | refine t_seq ?_ | refine t_reg ?_ | refine t_skip ?_ | refine t_scope ?_ | refine t_ret ?_ | refine t_exit ?_ | refine lit_t rfl ?_ | refine lit_f rfl ?_ | refine And.intro (And.intro rfl (Nat.le_of_ble_eq_true rfl)) ?_ | refine c_t rfl ?_ | refine c_f rfl ?_ | (first | refine fld_as (v := own (cfR s k) 4) rfl rfl rfl ?_ | (refine Exists.intro [_] (And.intro rfl (And.intro (all_one rfl) (app_one (cfR s k) 4 rfl rfl (cc) ?_ ?_))); omega)) | (refine sp_t (fun h => ?_) (fun h => ?_) <;> (try simp only [List.length_map] at h)) | (refine sp_f (fun h => ?_) (fun h => ?_) <;> (try simp only [List.length_map] at h)) | refine sq_t (fun h => ?_) (fun h => ?_) | refine sq_f (fun h => ?_) (fun h => ?_) | refine sb_t (fun h => ?_) (fun h => ?_) | refine sb_f (fun h => ?_) (fun h => ?_) | (refine c_nd rfl (fun h => ?_) (fun h => ?_) <;> (try simp only [List.length_map] at h)) | (refine c_d rfl (fun h => ?_) (fun h => ?_) <;> (try simp only [List.length_map] at h)) | refine c_nq rfl (fun h => ?_) (fun h => ?_) | refine c_q rfl (fun h => ?_) (fun h => ?_) | refine c_nb rfl (fun h => ?_) (fun h => ?_) | refine c_b rfl (fun h => ?_) (fun h => ?_) | refine And.intro rfl (Exists.intro _ (And.intro rfl ?_)) | refine Exists.intro _ (And.intro rfl ?_))
        refine And.intro rfl ⟨cgE s (k + 1), cfH s M (cfR s (k + 1)), moveL [0, 1, 2, 3, 6] rfl (by decide) ⟨.inr ⟨_, rfl, cvO_box s.clean⟩, .inr ⟨_, rfl, cvO_z2⟩, .inr ⟨_, rfl, cvO_boxL ⟨cv_own (Nat.le_of_ble_eq_true rfl) rfl, cv_own_new (Nat.le_of_ble_eq_true rfl) (by rw [hsR]; simp) (by rw [hsR, List.length_append, cc]; rfl) rfl, trivial⟩⟩, .inr ⟨_, rfl, cvO_own kM qM⟩, .inr ⟨_, rfl, cvO_own_as (by rw [hsR]; rfl) kR' qR'⟩, trivial⟩ ?_, hlt, rfl, rfl⟩
        refine ⟨?_, ?_, ?_, ?_, ?_, trivial⟩ <;> (first | exact .cl _ rfl | exact .cl _ (by assumption) | exact cv_ptr (Nat.le_of_ble_eq_true rfl) rfl | exact .nilS | exact cv_own (Nat.le_of_ble_eq_true rfl) rfl | exact cv_row (Nat.le_of_ble_eq_true rfl) rfl | exact cv_mp (Nat.le_of_ble_eq_true rfl) rfl)
  · rintro E H ⟨hi, rfl, rfl⟩
    (repeat' first | refine t_seq ?_ | refine t_reg ?_ | refine t_skip ?_ | refine t_scope ?_ | refine t_ret ?_ | refine t_exit ?_ | refine lit_t rfl ?_ | refine lit_f rfl ?_ | refine And.intro (And.intro rfl (Nat.le_of_ble_eq_true rfl)) ?_ | refine c_t rfl ?_ | refine c_f rfl ?_ | (fail) | (refine sp_t (fun h => ?_) (fun h => ?_) <;> (try simp only [List.length_map] at h)) | (refine sp_f (fun h => ?_) (fun h => ?_) <;> (try simp only [List.length_map] at h)) | refine sq_t (fun h => ?_) (fun h => ?_) | refine sq_f (fun h => ?_) (fun h => ?_) | refine sb_t (fun h => ?_) (fun h => ?_) | refine sb_f (fun h => ?_) (fun h => ?_) | (refine c_nd rfl (fun h => ?_) (fun h => ?_) <;> (try simp only [List.length_map] at h)) | (refine c_d rfl (fun h => ?_) (fun h => ?_) <;> (try simp only [List.length_map] at h)) | refine c_nq rfl (fun h => ?_) (fun h => ?_) | refine c_q rfl (fun h => ?_) (fun h => ?_) | refine c_nb rfl (fun h => ?_) (fun h => ?_) | refine c_b rfl (fun h => ?_) (fun h => ?_) | refine And.intro rfl (Exists.intro _ (And.intro rfl ?_)) | refine Exists.intro _ (And.intro rfl ?_))
    refine (frz_own2 (A := M) (B := cfR s s.n) (ea := 3) (eb := 5) rfl rfl kM (cR _)).trans ?_
    rw [← hM]; rfl
end Go.Proofs.Ythpcjekmgohelaa.Ab
