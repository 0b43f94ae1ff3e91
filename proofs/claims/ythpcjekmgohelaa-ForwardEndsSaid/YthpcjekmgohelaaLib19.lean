/- FUNCTIONS, 23: lower.Net. -/
import Derived.Test.YthpcjekmgohelaaLib18
set_option linter.unusedVariables false
set_option linter.unusedSimpArgs false
namespace Go.Proofs.Ythpcjekmgohelaa.Ab
open Go Go.Proofs
set_option linter.unusedVariables false
set_option linter.unusedSimpArgs false
variable {G : GI}

/-! ### A map from texts to numbers -/
def encM (ms : List (List UInt8 × Int)) : List (AVal × AVal) := ms.map fun p => (.s p.1, .i .i64 p.2)
def putS (k : List UInt8) (v : Int) : List (List UInt8 × Int) → List (List UInt8 × Int)
  | [] => [(k, v)]
  | (k', v') :: r => bif k == k' then (k', v) :: r else (k', v') :: putS k v r
def getS (k : List UInt8) : List (List UInt8 × Int) → Option Int
  | [] => none
  | (k', v') :: r => bif k == k' then some v' else getS k r
theorem putM_enc (k : List UInt8) (v : Int) : ∀ ms, putM (.leaf .str) (.s k) (.i .i64 v) (encM ms) = some (encM (putS k v ms))
  | [] => rfl
  | (k', v') :: r => by
    have ih := putM_enc k v r
    simp only [encM] at ih
    simp only [encM, List.map_cons, putM, eqA, leafEq, putS]
    cases k == k' with
    | true => rfl
    | false => simp only [ih, cond_false]; rfl
theorem findM_enc (k : List UInt8) : ∀ ms, findM (.leaf .str) (.s k) (encM ms) = some ((getS k ms).map fun v => .i .i64 v)
  | [] => rfl
  | (k', v') :: r => by
    have ih := findM_enc k r
    simp only [encM] at ih
    simp only [encM, List.map_cons, findM, eqA, leafEq, getS]
    cases k == k' with
    | true => rfl
    | false => simp only [ih, cond_false]
theorem getS_put (k : List UInt8) (x : Int) (k' : List UInt8) : ∀ ms, getS k' (putS k x ms) = if k' = k then some x else getS k' ms
  | [] => by
    simp only [putS, getS]
    by_cases h : k' = k
    · subst h; simp
    · rw [if_neg h, show (k' == k) = false by simpa using h]; rfl
  | (q, v) :: r => by
    have ih := getS_put k x k' r
    simp only [putS]
    cases hq : k == q with
    | true =>
      have hq' : k = q := by simpa using hq
      subst hq'
      simp only [cond_true, getS]
      by_cases h : k' = k
      · subst h; simp
      · rw [if_neg h, show (k' == k) = false by simpa using h]; rfl
    | false =>
      simp only [cond_false, getS, ih]
      have hq' : ¬ k = q := by simpa using hq
      cases hk : k' == q with
      | true =>
        have : k' = q := by simpa using hk
        subst this
        simp only [cond_true]
        rw [if_neg (show ¬ k' = k from fun h => hq' h.symm)]
      | false => rfl
theorem putS_len (k : List UInt8) (v : Int) : ∀ ms, (putS k v ms).length ≤ ms.length + 1
  | [] => by simp [putS]
  | (k', v') :: r => by
    have := putS_len k v r
    simp only [putS]
    cases k == k' <;> simp <;> omega

def Rou.zero : Rou := ⟨[], [], [], [], 0⟩
/-- Where routers stand, by their names. -/
def atI (rs : List Rou) : Nat → List (List UInt8 × Int)
  | 0 => []
  | i + 1 => putS (rs.getD i Rou.zero).name (i : Int) (atI rs i)
theorem atI_lt (rs : List Rou) (name : List UInt8) (k : Int) : ∀ i, getS name (atI rs i) = some k → 0 ≤ k ∧ k < i
  | 0, h => by simp [atI, getS] at h
  | i + 1, h => by
    rw [atI, getS_put] at h
    split at h
    · simp only [Option.some.injEq] at h; omega
    · have := atI_lt rs name k i h; omega

def originK (to : Pfx) (r : Rou) : Bool := r.nets.any (pfxEq to)
def staticK (at_ : List (List UInt8 × Int)) (to : Pfx) (r : Rou) : Int :=
  bif decide (0 ≤ (staticM to r.statics).2) then (match getS (staticM to r.statics).1 at_ with
    | some k => k
    | none => -1) else -1
def edgeK (c : Conf) (to : Pfx) (r : Rou) (l : Lnk) : Option Edg :=
  match getS l.peer (atI c.routers c.routers.length) with
  | some k => some ⟨k, l.cost, clausesM c.maps (peerM (c.routers.getD k.toNat Rou.zero) r.name).1.exp to, clausesM c.maps l.imp to⟩
  | none => none
def edgesK (c : Conf) (to : Pfx) (r : Rou) : List Edg := r.links.filterMap (edgeK c to r)
def netM (c : Conf) (to : Pfx) : Netw := ⟨c.routers.map (originK to), c.routers.map (staticK (atI c.routers c.routers.length) to), c.routers.map (edgesK c to)⟩

theorem clean_own (rows : List (List AVal)) (id : Nat) : clean (own rows id) = false := by cases rows <;> rfl
theorem thaw_own {H : Heap} {rows : List (List AVal)} {esz id : Nat} (ho : H[id]? = some (ownO esz rows)) : thaw H (own rows id) = .sl rows := by
  cases rows with
  | nil => rfl
  | cons r rs => simp only [own, thaw, ho, ownO, List.length_cons, if_true]

abbrev z3 : AObj := .box [.nilS, .nilS, .nilS]
abbrev naE (c : Conf) (i : Nat) : Slots := [(27, .i .i64 (i : Nat)), (26, .i .i64 ((c.routers.map Rou.cells).length : Nat)), (25, .sl (c.routers.map Rou.cells)), (5, .mp 3), (4, .ptr 2 0), (3, .ptr 1 0), (2, .ptr 0 0)]
abbrev naH (c : Conf) (to : Pfx) (i : Nat) : Heap := [.box c.cells, .box to.cells, z3, .map (encM (atI c.routers i))]
abbrev nbO (to : Pfx) (rs : List Rou) (i : Nat) : List (List AVal) := ((rs.take i).map (originK to)).map bcells
abbrev nbS (c : Conf) (to : Pfx) (i : Nat) : List (List AVal) := ((c.routers.take i).map (staticK (atI c.routers c.routers.length) to)).map icells
abbrev nbD (c : Conf) (to : Pfx) (i : Nat) : List (List AVal) := ((c.routers.take i).map (edgesK c to)).map ecells
abbrev nbE (c : Conf) (i : Nat) : Slots := [(40, .i .i64 (i : Nat)), (39, .i .i64 ((c.routers.map Rou.cells).length : Nat)), (38, .sl (c.routers.map Rou.cells)), (8, .ptr 4 0), (5, .mp 3), (4, .ptr 2 0), (3, .ptr 1 0), (2, .ptr 0 0)]
abbrev nbH (c : Conf) (to : Pfx) (O S D : List (List AVal)) : Heap := [.box c.cells, .box to.cells, z3, .map (encM (atI c.routers c.routers.length)), .box [own O 5, own S 6, own D 7], ownO 1 O, ownO 1 S, ownO 1 D]
abbrev ncE (c : Conf) (ls : List Lnk) (es : List Edg) (i j : Nat) : Slots := [(79, .i .i64 (j : Nat)), (78, .i .i64 ((ls.map Lnk.cells).length : Nat)), (77, .sl (ls.map Lnk.cells)), (16, own (es.map Edg.cells) 9), (10, .ptr 8 0), (40, .i .i64 (i : Nat)), (39, .i .i64 ((c.routers.map Rou.cells).length : Nat)), (38, .sl (c.routers.map Rou.cells)), (8, .ptr 4 0), (5, .mp 3), (4, .ptr 2 0), (3, .ptr 1 0), (2, .ptr 0 0)]
abbrev ncH (c : Conf) (to : Pfx) (r : Rou) (O S D : List (List AVal)) (es : List Edg) : Heap := nbH c to O S D ++ [.box r.cells, ownO 4 (es.map Edg.cells)]
theorem cvO_map {σ : Nat → Nat} {ok : Nat → Prop} {H : Heap} {fr : Nat → Prop} (ms : List (List UInt8 × Int)) : CvO σ ok H fr (.map (encM ms)) (.map (encM ms)) := by
  refine .map _ _ rfl fun j hj => ?_
  have hj' : j < ms.length := by simpa [encM] using hj
  have : (encM ms).getD j (.u, .u) = (.s ms[j].1, .i .i64 ms[j].2) := by
    rw [List.getD_eq_getElem?_getD]; simp [encM, hj']
  rw [this]
  exact ⟨.cl _ rfl, .cl _ rfl⟩
theorem cvO_z3 {σ : Nat → Nat} {ok : Nat → Prop} {H : Heap} {fr : Nat → Prop} : CvO σ ok H fr z3 z3 := cvO_boxL ⟨.nilS, .nilS, .nilS, trivial⟩

abbrev ndE (c : Conf) (to : Pfx) (r : Rou) (i : Nat) : Slots := [(11, .i .i64 (staticK (atI c.routers c.routers.length) to r)), (10, .ptr 8 0), (40, .i .i64 (i : Nat)), (39, .i .i64 ((c.routers.map Rou.cells).length : Nat)), (38, .sl (c.routers.map Rou.cells)), (8, .ptr 4 0), (5, .mp 3), (4, .ptr 2 0), (3, .ptr 1 0), (2, .ptr 0 0)]
abbrev ndH (c : Conf) (to : Pfx) (r : Rou) (O S D : List (List AVal)) : Heap := nbH c to O S D ++ [.box r.cells]
set_option maxHeartbeats 2000000 in
theorem lower_Net_ev (c : Conf) (to : Pfx) (hc : c.small) : EvP Try.prog G fn_lower_Net [c.av, to.av] (netM c to).av := by
  have cR := clean_sl Rou.clean c.routers
  have hrs := hc.routers
  have cB : ∀ L : List Bool, cleanLL (L.map bcells) = true := fun L => clean_rows (fun _ => rfl) _
  have lB : ∀ L : List Bool, ∀ r ∈ L.map bcells, r.length = 1 := fun L => len_rows (f := bcells) (fun _ => rfl) _
  have cI : ∀ L : List Int, cleanLL (L.map icells) = true := fun L => clean_rows (fun _ => rfl) _
  have lI : ∀ L : List Int, ∀ r ∈ L.map icells, r.length = 1 := fun L => len_rows (f := icells) (fun _ => rfl) _
  have cE : ∀ L : List (List Edg), cleanLL (L.map ecells) = true := fun L => clean_rows ecells_clean _
  have lE : ∀ L : List (List Edg), ∀ r ∈ L.map ecells, r.length = 1 := fun L => len_rows (f := ecells) (fun _ => rfl) _
  have cG : ∀ L : List Edg, cleanLL (L.map Edg.cells) = true := fun L => clean_rows Edg.clean _
  have lG : ∀ L : List Edg, ∀ r ∈ L.map Edg.cells, r.length = 4 := fun L => len_rows (f := Edg.cells) (fun _ => rfl) _
  refine evP c_lower_Net rfl ?_
  (repeat' first | refine t_seq ?_ | refine t_reg ?_ | refine t_skip ?_ | refine t_scope ?_ | refine t_ret ?_ | refine t_exit ?_ | refine lit_t rfl ?_ | refine lit_f rfl ?_ | refine And.intro (And.intro rfl (Nat.le_of_ble_eq_true rfl)) ?_ | refine c_t rfl ?_ | refine c_f rfl ?_)
  refine t_range (c.routers.map Rou.cells).length (by simp; omega) (fun i E H => i ≤ (c.routers.map Rou.cells).length ∧ E = naE c i ∧ H = naH c to i) (naE c 0) (naH c to 0) ?_ ⟨Nat.zero_le _, rfl, rfl⟩ ?_ ?_ ?_
  · refine moveL [0, 1, 2, 3] rfl (by decide) ⟨.inr ⟨_, rfl, cvO_box c.clean⟩, .inr ⟨_, rfl, cvO_box to.clean⟩, .inr ⟨_, rfl, cvO_z3⟩, .inr ⟨_, rfl, cvO_map []⟩, trivial⟩ ?_
    refine ⟨?_, ?_, ?_, ?_, ?_, ?_, ?_, trivial⟩ <;> (first | exact .cl _ rfl | exact .cl _ (by assumption) | exact cv_ptr (Nat.le_of_ble_eq_true rfl) rfl | exact .nilS | exact cv_own (Nat.le_of_ble_eq_true rfl) rfl | exact cv_row (Nat.le_of_ble_eq_true rfl) rfl | exact cv_mp (Nat.le_of_ble_eq_true rfl) rfl)
  · rintro i E H ⟨hi, rfl, rfl⟩; exact ⟨hi, rfl, rfl⟩
  · rintro i E H hlt ⟨hi, rfl, rfl⟩
    have hlt' : i < c.routers.length := by simpa using hlt
    have hat : atI c.routers (i + 1) = putS c.routers[i].name (i : Int) (atI c.routers i) := by rw [atI, getD_of hlt']
    (repeat' first | refine t_seq ?_ | refine t_reg ?_ | refine t_skip ?_ | refine t_scope ?_ | refine t_ret ?_ | refine t_exit ?_ | refine lit_t rfl ?_ | refine lit_f rfl ?_ | refine And.intro (And.intro rfl (Nat.le_of_ble_eq_true rfl)) ?_ | refine c_t rfl ?_ | refine c_f rfl ?_ | (first | refine And.intro (Int.natCast_nonneg i) (Exists.intro _ (And.intro (row_at hlt') (And.intro rfl ?_))) | refine Exists.intro _ (And.intro (putM_enc _ _ _) ?_)) | (refine sp_t (fun h => ?_) (fun h => ?_) <;> (try simp only [List.length_map] at h)) | (refine sp_f (fun h => ?_) (fun h => ?_) <;> (try simp only [List.length_map] at h)) | refine sq_t (fun h => ?_) (fun h => ?_) | refine sq_f (fun h => ?_) (fun h => ?_) | refine sb_t (fun h => ?_) (fun h => ?_) | refine sb_f (fun h => ?_) (fun h => ?_) | (refine c_nd rfl (fun h => ?_) (fun h => ?_) <;> (try simp only [List.length_map] at h)) | (refine c_d rfl (fun h => ?_) (fun h => ?_) <;> (try simp only [List.length_map] at h)) | refine c_nq rfl (fun h => ?_) (fun h => ?_) | refine c_q rfl (fun h => ?_) (fun h => ?_) | refine c_nb rfl (fun h => ?_) (fun h => ?_) | refine c_b rfl (fun h => ?_) (fun h => ?_) | refine And.intro rfl (Exists.intro _ (And.intro rfl ?_)) | refine Exists.intro _ (And.intro rfl ?_))
    refine And.intro rfl ⟨naE c (i + 1), naH c to (i + 1), moveL [0, 1, 2, 3] rfl (by decide) ⟨.inr ⟨_, rfl, cvO_box c.clean⟩, .inr ⟨_, rfl, cvO_box to.clean⟩, .inr ⟨_, rfl, cvO_z3⟩, .inr ⟨_, rfl, ?_⟩, trivial⟩ ?_, hlt, rfl, rfl⟩
    · rw [hat]; exact cvO_map _
    · refine ⟨?_, ?_, ?_, ?_, ?_, ?_, ?_, trivial⟩ <;> (first | exact .cl _ rfl | exact .cl _ (by assumption) | exact cv_ptr (Nat.le_of_ble_eq_true rfl) rfl | exact .nilS | exact cv_own (Nat.le_of_ble_eq_true rfl) rfl | exact cv_row (Nat.le_of_ble_eq_true rfl) rfl | exact cv_mp (Nat.le_of_ble_eq_true rfl) rfl)
  rintro E H ⟨hi, rfl, rfl⟩
  rw [show (c.routers.map Rou.cells).length = c.routers.length by simp]
  (repeat' first | refine t_seq ?_ | refine t_reg ?_ | refine t_skip ?_ | refine t_scope ?_ | refine t_ret ?_ | refine t_exit ?_ | refine lit_t rfl ?_ | refine lit_f rfl ?_ | refine And.intro (And.intro rfl (Nat.le_of_ble_eq_true rfl)) ?_ | refine c_t rfl ?_ | refine c_f rfl ?_)
  refine t_range (c.routers.map Rou.cells).length (by simp; omega) (fun i E H => i ≤ (c.routers.map Rou.cells).length ∧ E = nbE c i ∧ H = nbH c to (nbO to c.routers i) (nbS c to i) (nbD c to i)) (nbE c 0) (nbH c to [] [] []) ?_ ⟨Nat.zero_le _, rfl, rfl⟩ ?_ ?_ ?_
  · refine moveL [0, 1, 2, 3, 4, 97, 98, 99] rfl (by decide) ⟨.inr ⟨_, rfl, cvO_box c.clean⟩, .inr ⟨_, rfl, cvO_box to.clean⟩, .inr ⟨_, rfl, cvO_z3⟩, .inr ⟨_, rfl, cvO_map _⟩, .inr ⟨_, rfl, cvO_z3⟩, .inl rfl, .inl rfl, .inl rfl, trivial⟩ ?_
    refine ⟨?_, ?_, ?_, ?_, ?_, ?_, ?_, ?_, trivial⟩ <;> (first | exact .cl _ rfl | exact .cl _ (by assumption) | exact cv_ptr (Nat.le_of_ble_eq_true rfl) rfl | exact .nilS | exact cv_own (Nat.le_of_ble_eq_true rfl) rfl | exact cv_row (Nat.le_of_ble_eq_true rfl) rfl | exact cv_mp (Nat.le_of_ble_eq_true rfl) rfl)
  · rintro i E H ⟨hi, rfl, rfl⟩; exact ⟨hi, rfl, rfl⟩
  · rintro i E H hlt ⟨hi, rfl, rfl⟩
    have hlt' : i < c.routers.length := by simpa using hlt
    have hsm := hc.rou _ (List.getElem_mem hlt')
    have hsO : nbO to c.routers (i + 1) = nbO to c.routers i ++ [bcells (originK to c.routers[i])] := by
      simp only [nbO, List.take_succ_eq_append_getElem hlt', List.map_append]; rfl
    have hsS : nbS c to (i + 1) = nbS c to i ++ [icells (staticK (atI c.routers c.routers.length) to c.routers[i])] := by
      simp only [nbS, List.take_succ_eq_append_getElem hlt', List.map_append]; rfl
    have hsD : nbD c to (i + 1) = nbD c to i ++ [ecells (edgesK c to c.routers[i])] := by
      simp only [nbD, List.take_succ_eq_append_getElem hlt', List.map_append]; rfl
    have l5 : (nbO to c.routers i).length = i := by simp; omega
    have l6 : (nbS c to i).length = i := by simp; omega
    have l7 : (nbD c to i).length = i := by simp; omega
    have kO := cB ((c.routers.take i).map (originK to))
    have kS := cI ((c.routers.take i).map (staticK (atI c.routers c.routers.length) to))
    have kD := cE ((c.routers.take i).map (edgesK c to))
    have qO := lB ((c.routers.take i).map (originK to))
    have qS := lI ((c.routers.take i).map (staticK (atI c.routers c.routers.length) to))
    have qD := lE ((c.routers.take i).map (edgesK c to))
    have kO' := cB ((c.routers.take (i + 1)).map (originK to))
    have kS' := cI ((c.routers.take (i + 1)).map (staticK (atI c.routers c.routers.length) to))
    have kD' := cE ((c.routers.take (i + 1)).map (edgesK c to))
    have qO' := lB ((c.routers.take (i + 1)).map (originK to))
    have qS' := lI ((c.routers.take (i + 1)).map (staticK (atI c.routers c.routers.length) to))
    have qD' := lE ((c.routers.take (i + 1)).map (edgesK c to))
    (repeat' first | refine t_seqr ?_ | refine t_skip ?_ | refine t_scope ?_ | refine t_ret ?_ | refine t_exit ?_ | refine lit_t rfl ?_ | refine lit_f rfl ?_ | refine And.intro (And.intro rfl (Nat.le_of_ble_eq_true rfl)) ?_ | refine c_t rfl ?_ | refine c_f rfl ?_ | (fail))
    refine And.intro (Int.natCast_nonneg i) (Exists.intro _ (And.intro (row_at hlt') (And.intro rfl ?_)))
    generalize c.routers[i] = r at hsm hsO hsS hsD ⊢
    have hsz := hsm.statics
    have cr : clean (.agg [.s r.name, .sl (r.nets.map Pfx.cells), .sl (r.links.map Lnk.cells), .sl (r.statics.map Sta.cells), .i .i64 r.at_]) = true := by
      simp only [clean, cleanL, clean_rows Pfx.clean, clean_rows Lnk.clean, clean_rows Sta.clean]; rfl
    have ca : cleanAll [.agg [.s r.name, .sl (r.nets.map Pfx.cells), .sl (r.links.map Lnk.cells), .sl (r.statics.map Sta.cells), .i .i64 r.at_], to.av] = true := by
      simp only [cleanAll, List.all_cons, cr]; rfl
    have hnl := hsm.nets
    (repeat' first | refine t_seqr ?_ | refine t_skip ?_ | refine t_scope ?_ | refine t_ret ?_ | refine t_exit ?_ | refine lit_t rfl ?_ | refine lit_f rfl ?_ | refine And.intro (And.intro rfl (Nat.le_of_ble_eq_true rfl)) ?_ | refine c_t rfl ?_ | refine c_f rfl ?_ | (first | refine fld_as (v := own (nbO to c.routers i) 5) rfl rfl rfl ?_ | refine call_clean (slices_Contains_ev r.nets to (by omega)) (pl_clean _ _) ?_ | (refine Exists.intro [_] (And.intro rfl (And.intro (all_one rfl) (app_one (nbO to c.routers i) 5 rfl rfl (l5) ?_ ?_))); omega) | refine call_clean (lower_static_ev (.s r.name) (.sl (r.nets.map Pfx.cells)) (.sl (r.links.map Lnk.cells)) r.statics (.i .i64 r.at_) to (by omega) cr) ca ?_ | refine Exists.intro _ (And.intro rfl ?_)))
    (repeat' first | refine t_seqr ?_ | refine t_skip ?_ | refine t_scope ?_ | refine t_ret ?_ | refine t_exit ?_ | refine lit_t rfl ?_ | refine lit_f rfl ?_ | refine And.intro (And.intro rfl (Nat.le_of_ble_eq_true rfl)) ?_ | refine c_t rfl ?_ | refine c_f rfl ?_ | (fail))
    refine t_cut (fun E H => E = ndE c to r i ∧ H = ndH c to r (nbO to c.routers (i + 1)) (nbS c to i) (nbD c to i)) ?_ ?_
    · cases hg : getS (staticM to r.statics).1 (atI c.routers c.routers.length) with
      | none =>
        have hf : findM (.leaf .str) (.s (staticM to r.statics).1) (encM (atI c.routers c.routers.length)) = some none := by rw [findM_enc, hg]; rfl
        have hk : staticK (atI c.routers c.routers.length) to r = -1 := by
          unfold staticK; rw [hg]; cases decide (0 ≤ (staticM to r.statics).2) <;> rfl
        (repeat' first | refine t_seq ?_ | refine t_reg ?_ | refine t_skip ?_ | refine t_scope ?_ | refine t_ret ?_ | refine t_exit ?_ | refine lit_t rfl ?_ | refine lit_f rfl ?_ | refine And.intro (And.intro rfl (Nat.le_of_ble_eq_true rfl)) ?_ | refine c_t rfl ?_ | refine c_f rfl ?_ | (first | refine Exists.intro _ (And.intro hf (lk_none ?_))) | (refine sp_t (fun h => ?_) (fun h => ?_) <;> (try simp only [List.length_map] at h)) | (refine sp_f (fun h => ?_) (fun h => ?_) <;> (try simp only [List.length_map] at h)) | refine sq_t (fun h => ?_) (fun h => ?_) | refine sq_f (fun h => ?_) (fun h => ?_) | refine sb_t (fun h => ?_) (fun h => ?_) | refine sb_f (fun h => ?_) (fun h => ?_) | (refine c_nd rfl (fun h => ?_) (fun h => ?_) <;> (try simp only [List.length_map] at h)) | (refine c_d rfl (fun h => ?_) (fun h => ?_) <;> (try simp only [List.length_map] at h)) | refine c_nq rfl (fun h => ?_) (fun h => ?_) | refine c_q rfl (fun h => ?_) (fun h => ?_) | refine c_nb rfl (fun h => ?_) (fun h => ?_) | refine c_b rfl (fun h => ?_) (fun h => ?_) | refine And.intro rfl (Exists.intro _ (And.intro rfl ?_)) | refine Exists.intro _ (And.intro rfl ?_))
        · refine ⟨ndE c to r i, ndH c to r (nbO to c.routers (i + 1)) (nbS c to i) (nbD c to i), moveL [0, 1, 2, 3, 4, 9, 6, 7, 8] rfl (by decide) ⟨.inr ⟨_, rfl, cvO_box c.clean⟩, .inr ⟨_, rfl, cvO_box to.clean⟩, .inr ⟨_, rfl, cvO_z3⟩, .inr ⟨_, rfl, cvO_map _⟩, .inr ⟨_, rfl, cvO_boxL ⟨cv_own_new (Nat.le_of_ble_eq_true rfl) (by rw [hsO]; simp) (by rw [hsO, List.length_append, l5]; rfl) rfl, cv_own (Nat.le_of_ble_eq_true rfl) rfl, cv_own (Nat.le_of_ble_eq_true rfl) rfl, trivial⟩⟩, .inr ⟨_, rfl, cvO_own_as (by rw [hsO]; rfl) kO' qO'⟩, .inr ⟨_, rfl, cvO_own kS qS⟩, .inr ⟨_, rfl, cvO_own kD qD⟩, .inr ⟨_, rfl, cvO_box r.clean⟩, trivial⟩ ?_, rfl, rfl⟩; refine ⟨cv_i hk, ?_, ?_, ?_, ?_, ?_, ?_, ?_, ?_, ?_, trivial⟩ <;> (first | exact .cl _ rfl | exact .cl _ (by assumption) | exact cv_ptr (Nat.le_of_ble_eq_true rfl) rfl | exact .nilS | exact cv_own (Nat.le_of_ble_eq_true rfl) rfl | exact cv_row (Nat.le_of_ble_eq_true rfl) rfl | exact cv_mp (Nat.le_of_ble_eq_true rfl) rfl)
        · refine ⟨ndE c to r i, ndH c to r (nbO to c.routers (i + 1)) (nbS c to i) (nbD c to i), moveL [0, 1, 2, 3, 4, 9, 6, 7, 8] rfl (by decide) ⟨.inr ⟨_, rfl, cvO_box c.clean⟩, .inr ⟨_, rfl, cvO_box to.clean⟩, .inr ⟨_, rfl, cvO_z3⟩, .inr ⟨_, rfl, cvO_map _⟩, .inr ⟨_, rfl, cvO_boxL ⟨cv_own_new (Nat.le_of_ble_eq_true rfl) (by rw [hsO]; simp) (by rw [hsO, List.length_append, l5]; rfl) rfl, cv_own (Nat.le_of_ble_eq_true rfl) rfl, cv_own (Nat.le_of_ble_eq_true rfl) rfl, trivial⟩⟩, .inr ⟨_, rfl, cvO_own_as (by rw [hsO]; rfl) kO' qO'⟩, .inr ⟨_, rfl, cvO_own kS qS⟩, .inr ⟨_, rfl, cvO_own kD qD⟩, .inr ⟨_, rfl, cvO_box r.clean⟩, trivial⟩ ?_, rfl, rfl⟩; refine ⟨cv_i hk, ?_, ?_, ?_, ?_, ?_, ?_, ?_, ?_, ?_, trivial⟩ <;> (first | exact .cl _ rfl | exact .cl _ (by assumption) | exact cv_ptr (Nat.le_of_ble_eq_true rfl) rfl | exact .nilS | exact cv_own (Nat.le_of_ble_eq_true rfl) rfl | exact cv_row (Nat.le_of_ble_eq_true rfl) rfl | exact cv_mp (Nat.le_of_ble_eq_true rfl) rfl)
      | some k =>
        have hf : findM (.leaf .str) (.s (staticM to r.statics).1) (encM (atI c.routers c.routers.length)) = some (some (.i .i64 k)) := by rw [findM_enc, hg]; rfl
        (repeat' first | refine t_seq ?_ | refine t_reg ?_ | refine t_skip ?_ | refine t_scope ?_ | refine t_ret ?_ | refine t_exit ?_ | refine lit_t rfl ?_ | refine lit_f rfl ?_ | refine And.intro (And.intro rfl (Nat.le_of_ble_eq_true rfl)) ?_ | refine c_t rfl ?_ | refine c_f rfl ?_ | (first | refine Exists.intro _ (And.intro hf (lk_some ?_))) | (refine sp_t (fun h => ?_) (fun h => ?_) <;> (try simp only [List.length_map] at h)) | (refine sp_f (fun h => ?_) (fun h => ?_) <;> (try simp only [List.length_map] at h)) | refine sq_t (fun h => ?_) (fun h => ?_) | refine sq_f (fun h => ?_) (fun h => ?_) | refine sb_t (fun h => ?_) (fun h => ?_) | refine sb_f (fun h => ?_) (fun h => ?_) | (refine c_nd rfl (fun h => ?_) (fun h => ?_) <;> (try simp only [List.length_map] at h)) | (refine c_d rfl (fun h => ?_) (fun h => ?_) <;> (try simp only [List.length_map] at h)) | refine c_nq rfl (fun h => ?_) (fun h => ?_) | refine c_q rfl (fun h => ?_) (fun h => ?_) | refine c_nb rfl (fun h => ?_) (fun h => ?_) | refine c_b rfl (fun h => ?_) (fun h => ?_) | refine And.intro rfl (Exists.intro _ (And.intro rfl ?_)) | refine Exists.intro _ (And.intro rfl ?_))
        · have hk : staticK (atI c.routers c.routers.length) to r = k := by
            unfold staticK; rw [hg, dT h]; rfl
          refine ⟨ndE c to r i, ndH c to r (nbO to c.routers (i + 1)) (nbS c to i) (nbD c to i), moveL [0, 1, 2, 3, 4, 9, 6, 7, 8] rfl (by decide) ⟨.inr ⟨_, rfl, cvO_box c.clean⟩, .inr ⟨_, rfl, cvO_box to.clean⟩, .inr ⟨_, rfl, cvO_z3⟩, .inr ⟨_, rfl, cvO_map _⟩, .inr ⟨_, rfl, cvO_boxL ⟨cv_own_new (Nat.le_of_ble_eq_true rfl) (by rw [hsO]; simp) (by rw [hsO, List.length_append, l5]; rfl) rfl, cv_own (Nat.le_of_ble_eq_true rfl) rfl, cv_own (Nat.le_of_ble_eq_true rfl) rfl, trivial⟩⟩, .inr ⟨_, rfl, cvO_own_as (by rw [hsO]; rfl) kO' qO'⟩, .inr ⟨_, rfl, cvO_own kS qS⟩, .inr ⟨_, rfl, cvO_own kD qD⟩, .inr ⟨_, rfl, cvO_box r.clean⟩, trivial⟩ ?_, rfl, rfl⟩; refine ⟨cv_i hk, ?_, ?_, ?_, ?_, ?_, ?_, ?_, ?_, ?_, trivial⟩ <;> (first | exact .cl _ rfl | exact .cl _ (by assumption) | exact cv_ptr (Nat.le_of_ble_eq_true rfl) rfl | exact .nilS | exact cv_own (Nat.le_of_ble_eq_true rfl) rfl | exact cv_row (Nat.le_of_ble_eq_true rfl) rfl | exact cv_mp (Nat.le_of_ble_eq_true rfl) rfl)
        · have hk : staticK (atI c.routers c.routers.length) to r = -1 := by
            unfold staticK; rw [hg, dF h]; rfl
          refine ⟨ndE c to r i, ndH c to r (nbO to c.routers (i + 1)) (nbS c to i) (nbD c to i), moveL [0, 1, 2, 3, 4, 9, 6, 7, 8] rfl (by decide) ⟨.inr ⟨_, rfl, cvO_box c.clean⟩, .inr ⟨_, rfl, cvO_box to.clean⟩, .inr ⟨_, rfl, cvO_z3⟩, .inr ⟨_, rfl, cvO_map _⟩, .inr ⟨_, rfl, cvO_boxL ⟨cv_own_new (Nat.le_of_ble_eq_true rfl) (by rw [hsO]; simp) (by rw [hsO, List.length_append, l5]; rfl) rfl, cv_own (Nat.le_of_ble_eq_true rfl) rfl, cv_own (Nat.le_of_ble_eq_true rfl) rfl, trivial⟩⟩, .inr ⟨_, rfl, cvO_own_as (by rw [hsO]; rfl) kO' qO'⟩, .inr ⟨_, rfl, cvO_own kS qS⟩, .inr ⟨_, rfl, cvO_own kD qD⟩, .inr ⟨_, rfl, cvO_box r.clean⟩, trivial⟩ ?_, rfl, rfl⟩; refine ⟨cv_i hk, ?_, ?_, ?_, ?_, ?_, ?_, ?_, ?_, ?_, trivial⟩ <;> (first | exact .cl _ rfl | exact .cl _ (by assumption) | exact cv_ptr (Nat.le_of_ble_eq_true rfl) rfl | exact .nilS | exact cv_own (Nat.le_of_ble_eq_true rfl) rfl | exact cv_row (Nat.le_of_ble_eq_true rfl) rfl | exact cv_mp (Nat.le_of_ble_eq_true rfl) rfl)
    · rintro E H ⟨rfl, rfl⟩
      have hls := hsm.links
      have cL := clean_sl Lnk.clean r.links
      (repeat' first | refine t_seqr ?_ | refine t_skip ?_ | refine t_scope ?_ | refine t_ret ?_ | refine t_exit ?_ | refine lit_t rfl ?_ | refine lit_f rfl ?_ | refine And.intro (And.intro rfl (Nat.le_of_ble_eq_true rfl)) ?_ | refine c_t rfl ?_ | refine c_f rfl ?_ | (first | refine fld_as (v := own (nbS c to i) 6) rfl rfl rfl ?_ | (refine Exists.intro [_] (And.intro rfl (And.intro (all_one rfl) (app_one (nbS c to i) 6 rfl rfl (l6) ?_ ?_))); omega)))
      (repeat' first | refine t_seq ?_ | refine t_reg ?_ | refine t_skip ?_ | refine t_scope ?_ | refine t_ret ?_ | refine t_exit ?_ | refine lit_t rfl ?_ | refine lit_f rfl ?_ | refine And.intro (And.intro rfl (Nat.le_of_ble_eq_true rfl)) ?_ | refine c_t rfl ?_ | refine c_f rfl ?_)
      refine t_range (r.links.map Lnk.cells).length (by simp; omega) (fun j E H => j ≤ (r.links.map Lnk.cells).length ∧ E = ncE c r.links ((r.links.take j).filterMap (edgeK c to r)) i j ∧ H = ncH c to r (nbO to c.routers (i + 1)) (nbS c to (i + 1)) (nbD c to i) ((r.links.take j).filterMap (edgeK c to r))) (ncE c r.links [] i 0) (ncH c to r (nbO to c.routers (i + 1)) (nbS c to (i + 1)) (nbD c to i) []) ?_ ⟨Nat.zero_le _, rfl, rfl⟩ ?_ ?_ ?_
      · refine moveL [0, 1, 2, 3, 4, 5, 9, 7, 8, 99] rfl (by decide) ⟨.inr ⟨_, rfl, cvO_box c.clean⟩, .inr ⟨_, rfl, cvO_box to.clean⟩, .inr ⟨_, rfl, cvO_z3⟩, .inr ⟨_, rfl, cvO_map _⟩, .inr ⟨_, rfl, cvO_boxL ⟨cv_own (Nat.le_of_ble_eq_true rfl) rfl, cv_own_new (Nat.le_of_ble_eq_true rfl) (by rw [hsS]; simp) (by rw [hsS, List.length_append, l6]; rfl) rfl, cv_own (Nat.le_of_ble_eq_true rfl) rfl, trivial⟩⟩, .inr ⟨_, rfl, cvO_own kO' qO'⟩, .inr ⟨_, rfl, cvO_own_as (by rw [hsS]; rfl) kS' qS'⟩, .inr ⟨_, rfl, cvO_own kD qD⟩, .inr ⟨_, rfl, cvO_box r.clean⟩, .inl rfl, trivial⟩ ?_
        refine ⟨?_, ?_, ?_, ?_, ?_, ?_, ?_, ?_, ?_, ?_, ?_, ?_, ?_, trivial⟩ <;> (first | exact .cl _ rfl | exact .cl _ (by assumption) | exact cv_ptr (Nat.le_of_ble_eq_true rfl) rfl | exact .nilS | exact cv_own (Nat.le_of_ble_eq_true rfl) rfl | exact cv_row (Nat.le_of_ble_eq_true rfl) rfl | exact cv_mp (Nat.le_of_ble_eq_true rfl) rfl)
      · rintro j E H ⟨hj, rfl, rfl⟩; exact ⟨hj, rfl, rfl⟩
      · rintro j E H hltj ⟨hj, rfl, rfl⟩
        have hltj' : j < r.links.length := by simpa using hltj
        have hnx : (r.links.take (j + 1)).filterMap (edgeK c to r) = (r.links.take j).filterMap (edgeK c to r) ++ (edgeK c to r r.links[j]).toList := by
          rw [List.take_succ_eq_append_getElem hltj', List.filterMap_append]
          congr 1
        have hel : ((r.links.take j).filterMap (edgeK c to r)).length ≤ 1000 := by
          have := List.length_filterMap_le (edgeK c to r) (r.links.take j)
          have := List.length_take_le j r.links
          omega
        generalize (r.links.take j).filterMap (edgeK c to r) = es at hnx hel ⊢
        have c9 : (es.map Edg.cells).length = es.length := by simp
        (repeat' first | refine t_seq ?_ | refine t_reg ?_ | refine t_skip ?_ | refine t_scope ?_ | refine t_ret ?_ | refine t_exit ?_ | refine lit_t rfl ?_ | refine lit_f rfl ?_ | refine And.intro (And.intro rfl (Nat.le_of_ble_eq_true rfl)) ?_ | refine c_t rfl ?_ | refine c_f rfl ?_)
        refine And.intro (Int.natCast_nonneg j) (Exists.intro _ (And.intro (row_at hltj') (And.intro rfl ?_)))
        generalize r.links[j] = l at hnx ⊢
        cases hg : getS l.peer (atI c.routers c.routers.length) with
        | none =>
          have hf : findM (.leaf .str) (.s l.peer) (encM (atI c.routers c.routers.length)) = some none := by rw [findM_enc, hg]; rfl
          have hk : edgeK c to r l = none := by unfold edgeK; rw [hg]
          rw [hk] at hnx
          simp only [Option.toList, List.append_nil] at hnx
          (repeat' first | refine t_seq ?_ | refine t_reg ?_ | refine t_skip ?_ | refine t_scope ?_ | refine t_ret ?_ | refine t_exit ?_ | refine lit_t rfl ?_ | refine lit_f rfl ?_ | refine And.intro (And.intro rfl (Nat.le_of_ble_eq_true rfl)) ?_ | refine c_t rfl ?_ | refine c_f rfl ?_ | (first | refine Exists.intro _ (And.intro hf (lk_none ?_))) | (refine sp_t (fun h => ?_) (fun h => ?_) <;> (try simp only [List.length_map] at h)) | (refine sp_f (fun h => ?_) (fun h => ?_) <;> (try simp only [List.length_map] at h)) | refine sq_t (fun h => ?_) (fun h => ?_) | refine sq_f (fun h => ?_) (fun h => ?_) | refine sb_t (fun h => ?_) (fun h => ?_) | refine sb_f (fun h => ?_) (fun h => ?_) | (refine c_nd rfl (fun h => ?_) (fun h => ?_) <;> (try simp only [List.length_map] at h)) | (refine c_d rfl (fun h => ?_) (fun h => ?_) <;> (try simp only [List.length_map] at h)) | refine c_nq rfl (fun h => ?_) (fun h => ?_) | refine c_q rfl (fun h => ?_) (fun h => ?_) | refine c_nb rfl (fun h => ?_) (fun h => ?_) | refine c_b rfl (fun h => ?_) (fun h => ?_) | refine And.intro rfl (Exists.intro _ (And.intro rfl ?_)) | refine Exists.intro _ (And.intro rfl ?_))
          refine And.intro rfl ⟨ncE c r.links ((r.links.take (j + 1)).filterMap (edgeK c to r)) i (j + 1), ncH c to r (nbO to c.routers (i + 1)) (nbS c to (i + 1)) (nbD c to i) ((r.links.take (j + 1)).filterMap (edgeK c to r)), ?_, hltj, rfl, rfl⟩
          rw [hnx]
          refine moveL [0, 1, 2, 3, 4, 5, 6, 7, 8, 9] rfl (by decide) ⟨.inr ⟨_, rfl, cvO_box c.clean⟩, .inr ⟨_, rfl, cvO_box to.clean⟩, .inr ⟨_, rfl, cvO_z3⟩, .inr ⟨_, rfl, cvO_map _⟩, .inr ⟨_, rfl, cvO_boxL ⟨cv_own (Nat.le_of_ble_eq_true rfl) rfl, cv_own (Nat.le_of_ble_eq_true rfl) rfl, cv_own (Nat.le_of_ble_eq_true rfl) rfl, trivial⟩⟩, .inr ⟨_, rfl, cvO_own kO' qO'⟩, .inr ⟨_, rfl, cvO_own kS' qS'⟩, .inr ⟨_, rfl, cvO_own kD qD⟩, .inr ⟨_, rfl, cvO_box r.clean⟩, .inr ⟨_, rfl, cvO_own (cG _) (lG _)⟩, trivial⟩ ?_
          refine ⟨?_, ?_, ?_, ?_, ?_, ?_, ?_, ?_, ?_, ?_, ?_, ?_, ?_, trivial⟩ <;> (first | exact .cl _ rfl | exact .cl _ (by assumption) | exact cv_ptr (Nat.le_of_ble_eq_true rfl) rfl | exact .nilS | exact cv_own (Nat.le_of_ble_eq_true rfl) rfl | exact cv_row (Nat.le_of_ble_eq_true rfl) rfl | exact cv_mp (Nat.le_of_ble_eq_true rfl) rfl)
        | some k =>
          have hf : findM (.leaf .str) (.s l.peer) (encM (atI c.routers c.routers.length)) = some (some (.i .i64 k)) := by rw [findM_enc, hg]; rfl
          have hkb := atI_lt _ _ _ _ hg
          have hkl : k.toNat < c.routers.length := by omega
          have hk : edgeK c to r l = some ⟨k, l.cost, clausesM c.maps (peerM c.routers[k.toNat] r.name).1.exp to, clausesM c.maps l.imp to⟩ := by unfold edgeK; rw [hg]; simp only [getD_of hkl]
          rw [hk] at hnx
          have hks := hc.rou _ (List.getElem_mem hkl)
          have cp : cleanAll [.agg (c.routers[k.toNat]).cells, .s r.name] = true := by simp only [cleanAll, List.all_cons, clean, Rou.clean]; rfl
          have cc : ∀ nm, cleanAll [c.av, .s nm, to.av] = true := fun nm => by simp only [cleanAll, List.all_cons, Conf.av, clean, c.clean]; rfl
          (repeat' first | refine t_seq ?_ | refine t_reg ?_ | refine t_skip ?_ | refine t_scope ?_ | refine t_ret ?_ | refine t_exit ?_ | refine lit_t rfl ?_ | refine lit_f rfl ?_ | refine And.intro (And.intro rfl (Nat.le_of_ble_eq_true rfl)) ?_ | refine c_t rfl ?_ | refine c_f rfl ?_ | (first | refine Exists.intro _ (And.intro hf (lk_some ?_)) | refine And.intro hkb.1 (Exists.intro _ (And.intro (row_atN hkl) (And.intro rfl ?_))) | refine call_clean (check_Peer_ev c.routers[k.toNat] r.name hks) cp ?_ | refine mv_as (v := own (es.map Edg.cells) 9) rfl ?_ | refine call_clean (lower_clauses_ev c (peerM c.routers[k.toNat] r.name).1.exp to hc) (cc _) ?_ | refine call_clean (lower_clauses_ev c l.imp to hc) (cc _) ?_ | (refine Exists.intro [_] (And.intro rfl (And.intro (all_one rfl) (app_one (es.map Edg.cells) 9 rfl rfl (c9) ?_ ?_))); omega)) | (refine sp_t (fun h => ?_) (fun h => ?_) <;> (try simp only [List.length_map] at h)) | (refine sp_f (fun h => ?_) (fun h => ?_) <;> (try simp only [List.length_map] at h)) | refine sq_t (fun h => ?_) (fun h => ?_) | refine sq_f (fun h => ?_) (fun h => ?_) | refine sb_t (fun h => ?_) (fun h => ?_) | refine sb_f (fun h => ?_) (fun h => ?_) | (refine c_nd rfl (fun h => ?_) (fun h => ?_) <;> (try simp only [List.length_map] at h)) | (refine c_d rfl (fun h => ?_) (fun h => ?_) <;> (try simp only [List.length_map] at h)) | refine c_nq rfl (fun h => ?_) (fun h => ?_) | refine c_q rfl (fun h => ?_) (fun h => ?_) | refine c_nb rfl (fun h => ?_) (fun h => ?_) | refine c_b rfl (fun h => ?_) (fun h => ?_) | refine And.intro rfl (Exists.intro _ (And.intro rfl ?_)) | refine Exists.intro _ (And.intro rfl ?_))
          simp only [Option.toList] at hnx
          refine And.intro rfl ⟨ncE c r.links ((r.links.take (j + 1)).filterMap (edgeK c to r)) i (j + 1), ncH c to r (nbO to c.routers (i + 1)) (nbS c to (i + 1)) (nbD c to i) ((r.links.take (j + 1)).filterMap (edgeK c to r)), ?_, hltj, rfl, rfl⟩
          rw [hnx]
          refine moveL [0, 1, 2, 3, 4, 5, 6, 7, 8, 12] rfl (by decide) ⟨.inr ⟨_, rfl, cvO_box c.clean⟩, .inr ⟨_, rfl, cvO_box to.clean⟩, .inr ⟨_, rfl, cvO_z3⟩, .inr ⟨_, rfl, cvO_map _⟩, .inr ⟨_, rfl, cvO_boxL ⟨cv_own (Nat.le_of_ble_eq_true rfl) rfl, cv_own (Nat.le_of_ble_eq_true rfl) rfl, cv_own (Nat.le_of_ble_eq_true rfl) rfl, trivial⟩⟩, .inr ⟨_, rfl, cvO_own kO' qO'⟩, .inr ⟨_, rfl, cvO_own kS' qS'⟩, .inr ⟨_, rfl, cvO_own kD qD⟩, .inr ⟨_, rfl, cvO_box r.clean⟩, .inr ⟨_, rfl, cvO_own_as (by rw [List.map_append]; rfl) (cG _) (lG _)⟩, trivial⟩ ?_
          refine ⟨?_, ?_, ?_, ?_, ?_, ?_, ?_, ?_, ?_, ?_, ?_, ?_, ?_, trivial⟩ <;> first | (first | exact .cl _ rfl | exact .cl _ (by assumption) | exact cv_ptr (Nat.le_of_ble_eq_true rfl) rfl | exact .nilS | exact cv_own (Nat.le_of_ble_eq_true rfl) rfl | exact cv_row (Nat.le_of_ble_eq_true rfl) rfl | exact cv_mp (Nat.le_of_ble_eq_true rfl) rfl) | exact cv_own_new (Nat.le_of_ble_eq_true rfl) (by simp) (by simp) rfl
      · rintro E H ⟨hj, rfl, rfl⟩
        have hes : (r.links.take (r.links.map Lnk.cells).length).filterMap (edgeK c to r) = edgesK c to r := by rw [List.length_map, List.take_length]; rfl
        rw [hes]
        generalize edgesK c to r = es at hsD ⊢
        cases es with
        | nil =>
          (repeat' first | refine t_seq ?_ | refine t_reg ?_ | refine t_skip ?_ | refine t_scope ?_ | refine t_ret ?_ | refine t_exit ?_ | refine lit_t rfl ?_ | refine lit_f rfl ?_ | refine And.intro (And.intro rfl (Nat.le_of_ble_eq_true rfl)) ?_ | refine c_t rfl ?_ | refine c_f rfl ?_ | (first | refine fld_as (v := own (nbD c to i) 7) rfl rfl rfl ?_ | (refine Exists.intro [_] (And.intro rfl (And.intro (all_one rfl) (app_one (nbD c to i) 7 rfl rfl (l7) ?_ ?_))); omega)) | (refine sp_t (fun h => ?_) (fun h => ?_) <;> (try simp only [List.length_map] at h)) | (refine sp_f (fun h => ?_) (fun h => ?_) <;> (try simp only [List.length_map] at h)) | refine sq_t (fun h => ?_) (fun h => ?_) | refine sq_f (fun h => ?_) (fun h => ?_) | refine sb_t (fun h => ?_) (fun h => ?_) | refine sb_f (fun h => ?_) (fun h => ?_) | (refine c_nd rfl (fun h => ?_) (fun h => ?_) <;> (try simp only [List.length_map] at h)) | (refine c_d rfl (fun h => ?_) (fun h => ?_) <;> (try simp only [List.length_map] at h)) | refine c_nq rfl (fun h => ?_) (fun h => ?_) | refine c_q rfl (fun h => ?_) (fun h => ?_) | refine c_nb rfl (fun h => ?_) (fun h => ?_) | refine c_b rfl (fun h => ?_) (fun h => ?_) | refine And.intro rfl (Exists.intro _ (And.intro rfl ?_)) | refine Exists.intro _ (And.intro rfl ?_))
          refine And.intro rfl ⟨nbE c (i + 1), nbH c to (nbO to c.routers (i + 1)) (nbS c to (i + 1)) (nbD c to (i + 1)), moveL [0, 1, 2, 3, 4, 5, 6, 10] rfl (by decide) ⟨.inr ⟨_, rfl, cvO_box c.clean⟩, .inr ⟨_, rfl, cvO_box to.clean⟩, .inr ⟨_, rfl, cvO_z3⟩, .inr ⟨_, rfl, cvO_map _⟩, .inr ⟨_, rfl, cvO_boxL ⟨cv_own (Nat.le_of_ble_eq_true rfl) rfl, cv_own (Nat.le_of_ble_eq_true rfl) rfl, cv_own_new (Nat.le_of_ble_eq_true rfl) (by rw [hsD]; simp) (by rw [hsD, List.length_append, l7]; rfl) rfl, trivial⟩⟩, .inr ⟨_, rfl, cvO_own kO' qO'⟩, .inr ⟨_, rfl, cvO_own kS' qS'⟩, .inr ⟨_, rfl, cvO_snoc hsD kD qD ⟨.nil, trivial⟩ rfl⟩, trivial⟩ ?_, hlt, rfl, rfl⟩; refine ⟨?_, ?_, ?_, ?_, ?_, ?_, ?_, ?_, trivial⟩ <;> (first | exact .cl _ rfl | exact .cl _ (by assumption) | exact cv_ptr (Nat.le_of_ble_eq_true rfl) rfl | exact .nilS | exact cv_own (Nat.le_of_ble_eq_true rfl) rfl | exact cv_row (Nat.le_of_ble_eq_true rfl) rfl | exact cv_mp (Nat.le_of_ble_eq_true rfl) rfl)
        | cons e es =>
          (repeat' first | refine t_seq ?_ | refine t_reg ?_ | refine t_skip ?_ | refine t_scope ?_ | refine t_ret ?_ | refine t_exit ?_ | refine lit_t rfl ?_ | refine lit_f rfl ?_ | refine And.intro (And.intro rfl (Nat.le_of_ble_eq_true rfl)) ?_ | refine c_t rfl ?_ | refine c_f rfl ?_ | (first | refine fld_as (v := own (nbD c to i) 7) rfl rfl rfl ?_ | (refine Exists.intro [_] (And.intro rfl (And.intro (all_one rfl) (app_one (nbD c to i) 7 rfl rfl (l7) ?_ ?_))); omega)) | (refine sp_t (fun h => ?_) (fun h => ?_) <;> (try simp only [List.length_map] at h)) | (refine sp_f (fun h => ?_) (fun h => ?_) <;> (try simp only [List.length_map] at h)) | refine sq_t (fun h => ?_) (fun h => ?_) | refine sq_f (fun h => ?_) (fun h => ?_) | refine sb_t (fun h => ?_) (fun h => ?_) | refine sb_f (fun h => ?_) (fun h => ?_) | (refine c_nd rfl (fun h => ?_) (fun h => ?_) <;> (try simp only [List.length_map] at h)) | (refine c_d rfl (fun h => ?_) (fun h => ?_) <;> (try simp only [List.length_map] at h)) | refine c_nq rfl (fun h => ?_) (fun h => ?_) | refine c_q rfl (fun h => ?_) (fun h => ?_) | refine c_nb rfl (fun h => ?_) (fun h => ?_) | refine c_b rfl (fun h => ?_) (fun h => ?_) | refine And.intro rfl (Exists.intro _ (And.intro rfl ?_)) | refine Exists.intro _ (And.intro rfl ?_))
          refine And.intro rfl ⟨nbE c (i + 1), nbH c to (nbO to c.routers (i + 1)) (nbS c to (i + 1)) (nbD c to (i + 1)), moveL [0, 1, 2, 3, 4, 5, 6, 10] rfl (by decide) ⟨.inr ⟨_, rfl, cvO_box c.clean⟩, .inr ⟨_, rfl, cvO_box to.clean⟩, .inr ⟨_, rfl, cvO_z3⟩, .inr ⟨_, rfl, cvO_map _⟩, .inr ⟨_, rfl, cvO_boxL ⟨cv_own (Nat.le_of_ble_eq_true rfl) rfl, cv_own (Nat.le_of_ble_eq_true rfl) rfl, cv_own_new (Nat.le_of_ble_eq_true rfl) (by rw [hsD]; simp) (by rw [hsD, List.length_append, l7]; rfl) rfl, trivial⟩⟩, .inr ⟨_, rfl, cvO_own kO' qO'⟩, .inr ⟨_, rfl, cvO_own kS' qS'⟩, .inr ⟨_, rfl, cvO_snoc hsD kD qD ⟨cv_frz rfl (still_of (by rfl) (by rfl)) rfl rfl (cG (e :: es)) (lG (e :: es)), trivial⟩ rfl⟩, trivial⟩ ?_, hlt, rfl, rfl⟩; refine ⟨?_, ?_, ?_, ?_, ?_, ?_, ?_, ?_, trivial⟩ <;> (first | exact .cl _ rfl | exact .cl _ (by assumption) | exact cv_ptr (Nat.le_of_ble_eq_true rfl) rfl | exact .nilS | exact cv_own (Nat.le_of_ble_eq_true rfl) rfl | exact cv_row (Nat.le_of_ble_eq_true rfl) rfl | exact cv_mp (Nat.le_of_ble_eq_true rfl) rfl)
  · rintro E H ⟨hi, rfl, rfl⟩
    (repeat' first | refine t_seq ?_ | refine t_reg ?_ | refine t_skip ?_ | refine t_scope ?_ | refine t_ret ?_ | refine t_exit ?_ | refine lit_t rfl ?_ | refine lit_f rfl ?_ | refine And.intro (And.intro rfl (Nat.le_of_ble_eq_true rfl)) ?_ | refine c_t rfl ?_ | refine c_f rfl ?_ | (fail) | (refine sp_t (fun h => ?_) (fun h => ?_) <;> (try simp only [List.length_map] at h)) | (refine sp_f (fun h => ?_) (fun h => ?_) <;> (try simp only [List.length_map] at h)) | refine sq_t (fun h => ?_) (fun h => ?_) | refine sq_f (fun h => ?_) (fun h => ?_) | refine sb_t (fun h => ?_) (fun h => ?_) | refine sb_f (fun h => ?_) (fun h => ?_) | (refine c_nd rfl (fun h => ?_) (fun h => ?_) <;> (try simp only [List.length_map] at h)) | (refine c_d rfl (fun h => ?_) (fun h => ?_) <;> (try simp only [List.length_map] at h)) | refine c_nq rfl (fun h => ?_) (fun h => ?_) | refine c_q rfl (fun h => ?_) (fun h => ?_) | refine c_nb rfl (fun h => ?_) (fun h => ?_) | refine c_b rfl (fun h => ?_) (fun h => ?_) | refine And.intro rfl (Exists.intro _ (And.intro rfl ?_)) | refine Exists.intro _ (And.intro rfl ?_))
    rw [show (c.routers.map Rou.cells).length = c.routers.length by simp]
    refine (frz_own3 (A := nbO to c.routers c.routers.length) (B := nbS c to c.routers.length) (D := nbD c to c.routers.length) (ea := 1) (eb := 1) (ed := 1) rfl rfl rfl (cB _) (cI _) (cE _)).trans ?_
    simp only [nbO, nbS, nbD, List.take_length]
    rfl
end Go.Proofs.Ythpcjekmgohelaa.Ab

/- FUNCTIONS, 24: prefixes, clauses and names by numbers. -/
namespace Go.Proofs.Ythpcjekmgohelaa.Ab
open Go Go.Proofs
set_option linter.unusedVariables false
set_option linter.unusedSimpArgs false
variable {G : GI}

/-! ### Make -/
def bitsT : List Int := [0, 8, 16, 24, 32, 9, 17, 30]
theorem bitsT_ok : ∀ i (h : i < bitsT.length), 0 ≤ bitsT[i] ∧ bitsT[i] ≤ 32 := by decide
def clrM (a : Int) : Nat → Int
  | 0 => a
  | m + 1 => clrM (IntKind.u32.wrap ((BitVec.ofInt IntKind.u32.bits a &&& ~~~(BitVec.ofInt IntKind.u32.bits (IntKind.u32.wrap (1 * 2 ^ (min m 32))))).toNat)) m
def makeBits (n : Int) : Int := bitsT.getD (n.tmod 8).toNat 0
def makeAddr (n : Int) : Int :=
  IntKind.u32.wrap (IntKind.u32.wrap (167772160 + IntKind.u32.wrap (IntKind.u32.wrap (IntKind.u8.wrap (n.tdiv 64)) * 2 ^ (min 16 32))) + IntKind.u32.wrap (IntKind.u32.wrap ((IntKind.u8.wrap (n.tdiv 16)).tmod 4) * 2 ^ (min 8 32)))
def makeA (n : Int) : Int := IntKind.u32.wrap (makeAddr n + IntKind.u32.wrap ((IntKind.u8.wrap (n.tdiv 8)).tmod 2))
def makeM (n : Int) : Pfx := ⟨clrM (makeA n) (32 - makeBits n).toNat, makeBits n⟩
abbrev mkE (m : Nat) : Slots := [(5, .i .i64 (32 - (m : Int))), (4, .ptr 1 0), (2, .ptr 0 0)]
abbrev mkH (a bits : Int) : Heap := [.box [.i .u32 0, .i .i64 0], .box [.i .u32 a, .i .i64 bits]]

theorem law05_Make_ev (n : Int) (h0 : 0 ≤ n) (h1 : n ≤ 255) : EvP Try.prog G fn_maquettelaw05_Make [.i .u8 n] (makeM n).av := by
  have hm0 := Int.tmod_nonneg 8 h0
  have hm1 := Int.tmod_lt_of_pos n (show (0 : Int) < 8 by decide)
  have hlt : (n.tmod 8).toNat < bitsT.length := by show _ < 8; omega
  have hb := bitsT_ok _ hlt
  have hbd : makeBits n = bitsT[(n.tmod 8).toNat] := getD_of hlt
  refine evP c_maquettelaw05_Make rfl ?_
  (repeat' first | refine t_seq ?_ | refine t_reg ?_ | refine t_skip ?_ | refine t_scope ?_ | refine t_ret ?_ | refine t_exit ?_ | refine lit_t rfl ?_ | refine lit_f rfl ?_ | refine And.intro (And.intro rfl (Nat.le_of_ble_eq_true rfl)) ?_ | refine c_t rfl ?_ | refine c_f rfl ?_ | (first | refine And.intro rfl (And.intro (by decide) ?_) | refine And.intro hm0 (Exists.intro _ (And.intro (row_atN (f := icells) (xs := bitsT) hlt) (And.intro rfl ?_))) | refine And.intro (by decide) ?_) | (refine sp_t (fun h => ?_) (fun h => ?_) <;> (try simp only [List.length_map] at h)) | (refine sp_f (fun h => ?_) (fun h => ?_) <;> (try simp only [List.length_map] at h)) | refine sq_t (fun h => ?_) (fun h => ?_) | refine sq_f (fun h => ?_) (fun h => ?_) | refine sb_t (fun h => ?_) (fun h => ?_) | refine sb_f (fun h => ?_) (fun h => ?_) | (refine c_nd rfl (fun h => ?_) (fun h => ?_) <;> (try simp only [List.length_map] at h)) | (refine c_d rfl (fun h => ?_) (fun h => ?_) <;> (try simp only [List.length_map] at h)) | refine c_nq rfl (fun h => ?_) (fun h => ?_) | refine c_q rfl (fun h => ?_) (fun h => ?_) | refine c_nb rfl (fun h => ?_) (fun h => ?_) | refine c_b rfl (fun h => ?_) (fun h => ?_) | refine And.intro rfl (Exists.intro _ (And.intro rfl ?_)) | refine Exists.intro _ (And.intro rfl ?_))
  generalize hbt : bitsT[(n.tmod 8).toNat] = bits at hb hbd ⊢
  refine t_block (t_loopM (fun w E H => ∃ (m : Nat) (a : Int), m ≤ 32 ∧ w = m ∧ clrM a m = (makeM n).addr ∧ E = mkE m ∧ H = mkH a bits) _ (mkE (32 - bits).toNat) (mkH (makeA n) bits) ?_ ⟨(32 - bits).toNat, makeA n, by omega, rfl, by rw [← hbd]; rfl, rfl, rfl⟩ ?_)
  · refine moveL [0, 1] rfl (by decide) ⟨.inr ⟨_, rfl, cvO_box rfl⟩, .inr ⟨_, rfl, cvO_box rfl⟩, trivial⟩ ?_
    refine ⟨cv_i (by omega), ?_, ?_, trivial⟩ <;> (first | exact .cl _ rfl | exact .cl _ (by assumption) | exact cv_ptr (Nat.le_of_ble_eq_true rfl) rfl | exact .nilS | exact cv_own (Nat.le_of_ble_eq_true rfl) rfl | exact cv_row (Nat.le_of_ble_eq_true rfl) rfl | exact cv_mp (Nat.le_of_ble_eq_true rfl) rfl)
  · rintro w E H ⟨m, a, hm, rfl, hcl, rfl, rfl⟩
    (repeat' first | refine t_seq ?_ | refine t_reg ?_ | refine t_skip ?_ | refine t_scope ?_ | refine t_ret ?_ | refine t_exit ?_ | refine lit_t rfl ?_ | refine lit_f rfl ?_ | refine And.intro (And.intro rfl (Nat.le_of_ble_eq_true rfl)) ?_ | refine c_t rfl ?_ | refine c_f rfl ?_)
    refine c_d rfl (fun h => ?_) (fun h => ?_)
    · obtain ⟨m, rfl⟩ : ∃ q, w = q + 1 := ⟨w - 1, by omega⟩
      have hw1 : IntKind.i64.wrap (31 - (32 - ((m + 1 : Nat) : Int))) = (m : Int) := by rw [w64 (by omega) (by omega)]; omega
      have hw2 : IntKind.i64.wrap (32 - ((m + 1 : Nat) : Int) + 1) = 32 - (m : Int) := by rw [w64 (by omega) (by omega)]; omega
      (repeat' first | refine t_seq ?_ | refine t_reg ?_ | refine t_skip ?_ | refine t_scope ?_ | refine t_ret ?_ | refine t_exit ?_ | refine lit_t rfl ?_ | refine lit_f rfl ?_ | refine And.intro (And.intro rfl (Nat.le_of_ble_eq_true rfl)) ?_ | refine c_t rfl ?_ | refine c_f rfl ?_ | (first | refine t_block ?_ | refine And.intro (by rw [hw1]; omega) ?_) | (refine sp_t (fun h => ?_) (fun h => ?_) <;> (try simp only [List.length_map] at h)) | (refine sp_f (fun h => ?_) (fun h => ?_) <;> (try simp only [List.length_map] at h)) | refine sq_t (fun h => ?_) (fun h => ?_) | refine sq_f (fun h => ?_) (fun h => ?_) | refine sb_t (fun h => ?_) (fun h => ?_) | refine sb_f (fun h => ?_) (fun h => ?_) | (refine c_nd rfl (fun h => ?_) (fun h => ?_) <;> (try simp only [List.length_map] at h)) | (refine c_d rfl (fun h => ?_) (fun h => ?_) <;> (try simp only [List.length_map] at h)) | refine c_nq rfl (fun h => ?_) (fun h => ?_) | refine c_q rfl (fun h => ?_) (fun h => ?_) | refine c_nb rfl (fun h => ?_) (fun h => ?_) | refine c_b rfl (fun h => ?_) (fun h => ?_) | refine And.intro rfl (Exists.intro _ (And.intro rfl ?_)) | refine Exists.intro _ (And.intro rfl ?_))
      refine ⟨m, mkE m, mkH (IntKind.u32.wrap ((BitVec.ofInt IntKind.u32.bits a &&& ~~~(BitVec.ofInt IntKind.u32.bits (IntKind.u32.wrap (1 * 2 ^ (min m 32))))).toNat)) bits, by omega, moveL [0, 1] rfl (by decide) ⟨.inr ⟨_, rfl, cvO_box rfl⟩, .inr ⟨_, rfl, cvO_box_as ?_ rfl⟩, trivial⟩ ?_, m, _, by omega, rfl, hcl, rfl, rfl⟩
      · show _ = [AVal.i .u32 (IntKind.u32.wrap ((BitVec.ofInt IntKind.u32.bits a &&& ~~~(BitVec.ofInt IntKind.u32.bits (IntKind.u32.wrap (1 * 2 ^ (min (IntKind.i64.wrap (31 - (32 - ((m + 1 : Nat) : Int)))).toNat 32))))).toNat)), .i .i64 bits]
        rw [hw1, Int.toNat_natCast]
      · refine ⟨cv_i hw2.symm, ?_, ?_, trivial⟩ <;> (first | exact .cl _ rfl | exact .cl _ (by assumption) | exact cv_ptr (Nat.le_of_ble_eq_true rfl) rfl | exact .nilS | exact cv_own (Nat.le_of_ble_eq_true rfl) rfl | exact cv_row (Nat.le_of_ble_eq_true rfl) rfl | exact cv_mp (Nat.le_of_ble_eq_true rfl) rfl)
    · have hw0 : w = 0 := by omega
      subst hw0
      (repeat' first | refine t_seq ?_ | refine t_reg ?_ | refine t_skip ?_ | refine t_scope ?_ | refine t_ret ?_ | refine t_exit ?_ | refine lit_t rfl ?_ | refine lit_f rfl ?_ | refine And.intro (And.intro rfl (Nat.le_of_ble_eq_true rfl)) ?_ | refine c_t rfl ?_ | refine c_f rfl ?_ | (refine sp_t (fun h => ?_) (fun h => ?_) <;> (try simp only [List.length_map] at h)) | (refine sp_f (fun h => ?_) (fun h => ?_) <;> (try simp only [List.length_map] at h)) | refine sq_t (fun h => ?_) (fun h => ?_) | refine sq_f (fun h => ?_) (fun h => ?_) | refine sb_t (fun h => ?_) (fun h => ?_) | refine sb_f (fun h => ?_) (fun h => ?_) | (refine c_nd rfl (fun h => ?_) (fun h => ?_) <;> (try simp only [List.length_map] at h)) | (refine c_d rfl (fun h => ?_) (fun h => ?_) <;> (try simp only [List.length_map] at h)) | refine c_nq rfl (fun h => ?_) (fun h => ?_) | refine c_q rfl (fun h => ?_) (fun h => ?_) | refine c_nb rfl (fun h => ?_) (fun h => ?_) | refine c_b rfl (fun h => ?_) (fun h => ?_) | refine And.intro (by omega) (Exists.intro _ (And.intro (row_atN (by omega)) (And.intro rfl ?_))) | refine And.intro rfl (Exists.intro _ (And.intro rfl ?_)) | refine Exists.intro _ (And.intro rfl ?_))
      have e : (makeM n).av = .agg [.i .u32 a, .i .i64 bits] := by
        unfold Pfx.av Pfx.cells
        rw [← hcl, show (makeM n).bits = bits from hbd]; rfl
      rw [e]; rfl

/-! ### Rules -/
structure Rul where
  to : Int
  with_ : Int
  out : Int
  do_ : Int
  more : Int
  pref : Int
def Rul.cells (r : Rul) : List AVal := [.i .u8 r.to, .i .u8 r.with_, .i .u8 r.out, .i .u8 r.do_, .i .u8 r.more, .i .u8 r.pref]
theorem Rul.clean (r : Rul) : cleanL r.cells = true := rfl
def Rul.ok (r : Rul) : Prop := 0 ≤ r.to ∧ r.to ≤ 255
def clauseM (r : Rul) : Cla :=
  { any := r.to.tmod 3 == 0, pfx := if r.to.tmod 3 = 0 then Pfx.zero else makeM r.to, with_ := if 100 < r.with_ then 0 else r.with_.tmod 16, out := if 60 < r.out then 0 else r.out.tmod 16,
    drop := r.do_.tmod 4 == 3, set := IntKind.u8.wrap (r.do_.tdiv 16), clear := IntKind.u8.wrap (r.more.tdiv 16), more := IntKind.i64.wrap (r.more.tmod 4), pref := if r.pref < 200 then 0 else IntKind.i64.wrap r.pref }
set_option maxHeartbeats 1000000 in
theorem rule_Clause_ev (r : Rul) (hr : r.ok) : EvP Try.prog G fn_maquettelaw07_Rule_Clause [.agg r.cells] (clauseM r).av := by
  refine evP c_maquettelaw07_Rule_Clause rfl ?_
  (repeat' first | refine t_seq ?_ | refine t_reg ?_ | refine t_skip ?_ | refine t_scope ?_ | refine t_ret ?_ | refine t_exit ?_ | refine lit_t rfl ?_ | refine lit_f rfl ?_ | refine And.intro (And.intro rfl (Nat.le_of_ble_eq_true rfl)) ?_ | refine c_t rfl ?_ | refine c_f rfl ?_ | (first | refine And.intro rfl (And.intro (by decide) ?_) | refine call_clean (law05_Make_ev r.to hr.1 hr.2) rfl ?_) | (refine sp_t (fun h => ?_) (fun h => ?_) <;> (try simp only [List.length_map] at h)) | (refine sp_f (fun h => ?_) (fun h => ?_) <;> (try simp only [List.length_map] at h)) | refine sq_t (fun h => ?_) (fun h => ?_) | refine sq_f (fun h => ?_) (fun h => ?_) | refine sb_t (fun h => ?_) (fun h => ?_) | refine sb_f (fun h => ?_) (fun h => ?_) | (refine c_nd rfl (fun h => ?_) (fun h => ?_) <;> (try simp only [List.length_map] at h)) | (refine c_d rfl (fun h => ?_) (fun h => ?_) <;> (try simp only [List.length_map] at h)) | refine c_nq rfl (fun h => ?_) (fun h => ?_) | refine c_q rfl (fun h => ?_) (fun h => ?_) | refine c_nb rfl (fun h => ?_) (fun h => ?_) | refine c_b rfl (fun h => ?_) (fun h => ?_) | refine And.intro rfl (Exists.intro _ (And.intro rfl ?_)) | refine Exists.intro _ (And.intro rfl ?_))
  all_goals
    refine congrArg some ?_
    simp only [clauseM, Cla.av, Cla.cells, *, if_true, if_false]
    rfl
end Go.Proofs.Ythpcjekmgohelaa.Ab
