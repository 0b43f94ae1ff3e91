/- FUNCTIONS, 27: what holds of a shape's network; maquettelaw15.Net. -/
import Derived.Test.YthpcjekmgohelaaLib21
import Derived.KernelRfl
import Derived.Test.YthpcjekmgohelaaLib9
set_option linter.unusedVariables false
set_option linter.unusedSimpArgs false
namespace Go.Proofs.Ythpcjekmgohelaa.Ab
open Go Go.Proofs
set_option linter.unusedVariables false
set_option linter.unusedSimpArgs false
variable {G : GI}

theorem shp_n (s : Shp) (hs : s.ok) : s.n < 8 := by
  have h1 := Int.tmod_lt_of_pos s.routers (show (0 : Int) < 8 by decide)
  have h0 := Int.tmod_nonneg 8 hs.routers.1
  unfold Shp.n; omega
theorem netsK_len (s : Shp) (k : Nat) : (netsK s k).length ≤ 1 := by unfold netsK; split <;> simp
theorem linksK_len (s : Shp) (N k : Nat) : (linksK s N k).length ≤ N := by
  have := List.length_filterMap_le (lnkK s N k) (List.range N)
  unfold linksK; simp at this ⊢; exact this
theorem staK_len (s : Shp) (N k : Nat) : (staK s N k).length ≤ 1 := by unfold staK; split <;> simp
theorem conf_rou {s : Shp} {r : Rou} (h : r ∈ (confM s).routers) : ∃ k, k < s.n ∧ r = rouK s s.n k := by
  obtain ⟨k, hk, rfl⟩ := List.mem_map.1 h
  exact ⟨k, by simpa using hk, rfl⟩
theorem conf_small (s : Shp) (hs : s.ok) : (confM s).small := by
  have hn := shp_n s hs
  refine ⟨?_, ?_, ?_, ?_⟩
  · simp [confM]; omega
  · simp [confM]; omega
  · intro m hm
    obtain ⟨k, _, rfl⟩ := List.mem_map.1 hm
    simp [mapK, clausesOf]; omega
  · intro r hr
    obtain ⟨k, hk, rfl⟩ := conf_rou hr
    have h1 := netsK_len s k
    have h2 := linksK_len s s.n k
    have h3 := staK_len s s.n k
    exact ⟨by show (netsK s k).length ≤ _; omega, by show (linksK s s.n k).length ≤ _; omega, by show (staK s s.n k).length ≤ _; omega⟩
theorem collect_len1 : ∀ (rs : List Rou) (acc : List Pfx), (∀ r ∈ rs, r.nets.length ≤ 1) → (rs.foldl collectR acc).length ≤ acc.length + rs.length
  | [], acc, h => by simp
  | r :: rs, acc, h => by
    have := collect_len1 rs (collectR acc r) fun q hq => h q (.tail _ hq)
    have h1 := foldP_len r.nets acc
    have h2 := h r (.head _)
    simp only [List.foldl_cons, List.length_cons]
    unfold collectR at *; omega
theorem conf_few (s : Shp) (hs : s.ok) : (collectM (confM s).routers).length ≤ 12 := by
  have hn := shp_n s hs
  have := collect_len1 (confM s).routers [] fun r hr => by
    obtain ⟨k, hk, rfl⟩ := conf_rou hr
    exact netsK_len s k
  have h2 : (confM s).routers.length = s.n := by simp [confM]
  unfold collectM
  simp only [List.length_nil] at this; omega
theorem nameR_inj : ∀ i, i < 8 → ∀ j, j < 8 → nameR i = nameR j → i = j := by decide
theorem conf_get {s : Shp} (i : Nat) (h : i < s.n) : (confM s).routers.getD i Rou.zero = rouK s s.n i := by
  rw [getD_of (by simp [confM, h])]; simp [confM]
theorem conf_at {s : Shp} (hn : s.n < 8) (j : Nat) (hj : j < 8) : ∀ i, i ≤ s.n → getS (nameR j) (atI (confM s).routers i) = if j < i then some (j : Int) else none
  | 0, _ => by simp [atI, getS]
  | i + 1, hi => by
    have hnm : (rouK s s.n i).name = nameR i := rfl
    rw [atI, getS_put, conf_get i (by omega), conf_at hn j hj i (by omega), hnm]
    by_cases e : j = i
    · subst e
      rw [if_pos rfl, if_pos (by omega)]
    · rw [if_neg (fun h => e (nameR_inj j hj i (by omega) h))]
      by_cases e2 : j < i
      · rw [if_pos e2, if_pos (by omega)]
      · rw [if_neg e2, if_neg (by omega)]
theorem clausesM_len (c : Conf) (hc : c.small) (name : List UInt8) (to : Pfx) : (clausesM c.maps name to).length ≤ 1000 := by
  unfold clausesM
  split
  · rename_i m hm
    have := forM_len to m.cla
    have := hc.cla m (List.mem_of_find?_eq_some hm)
    omega
  · simp
/-- An edge of a shape's network. -/
theorem edge_of {s : Shp} (hs : s.ok) (to : Pfx) (k j : Nat) (hj : j < s.n) (l : Lnk) (hl : lnkK s s.n k j = some l) : ∃ e, edgeK (confM s) to (rouK s s.n k) l = some e ∧ e.from_ = (j : Int) ∧ e.ok := by
  have hn := shp_n s hs
  have hp : l.peer = nameR j := by
    unfold lnkK at hl
    split at hl
    · simp only [Option.some.injEq] at hl; rw [← hl]
    · simp at hl
  have hlen : (confM s).routers.length = s.n := by simp [confM]
  have hat : getS l.peer (atI (confM s).routers (confM s).routers.length) = some (j : Int) := by
    rw [hp, hlen, conf_at hn j (by omega) s.n (Nat.le_refl _), if_pos hj]
  refine ⟨_, by unfold edgeK; rw [hat], rfl, ?_⟩
  have hc := conf_small s hs
  exact ⟨by have := clausesM_len (confM s) hc (peerM ((confM s).routers.getD (j : Int).toNat Rou.zero) (rouK s s.n k).name).1.exp to; show ((clausesM _ _ _).length : Int) ≤ _; omega, by have := clausesM_len (confM s) hc l.imp to; show ((clausesM _ _ _).length : Int) ≤ _; omega⟩
theorem net_edges {s : Shp} {to : Pfx} {es : List Edg} (h : es ∈ (netM (confM s) to).edges) : ∃ k, k < s.n ∧ es = edgesK (confM s) to (rouK s s.n k) := by
  obtain ⟨r, hr, rfl⟩ := List.mem_map.1 h
  obtain ⟨k, hk, rfl⟩ := conf_rou hr
  exact ⟨k, hk, rfl⟩
theorem net_ok (s : Shp) (hs : s.ok) (to : Pfx) : (netM (confM s) to).ok := by
  have hn := shp_n s hs
  have hlen : (confM s).routers.length = s.n := by simp [confM]
  have hel : ∀ k, (edgesK (confM s) to (rouK s s.n k)).length ≤ s.n := fun k => by
    have h1 := List.length_filterMap_le (edgeK (confM s) to (rouK s s.n k)) (rouK s s.n k).links
    have h2 := linksK_len s s.n k
    unfold edgesK
    have : (rouK s s.n k).links = linksK s s.n k := rfl
    rw [this] at h1 ⊢; omega
  refine ⟨by simp [netM, hlen]; omega, by simp [netM, hlen]; omega, by simp [netM, hlen]; omega, fun es h => ?_, fun es h e he => ?_⟩
  · obtain ⟨k, _, rfl⟩ := net_edges h
    have := hel k; omega
  · obtain ⟨k, _, rfl⟩ := net_edges h
    obtain ⟨l, hl, hle⟩ := List.mem_filterMap.1 he
    obtain ⟨j, hj, hlj⟩ := List.mem_filterMap.1 hl
    obtain ⟨e2, h1, _, h2⟩ := edge_of hs to k j (by simpa using hj) l hlj
    rw [hle] at h1; simp only [Option.some.injEq] at h1; subst h1; exact h2
theorem net_rise (s : Shp) (hs : s.ok) (to : Pfx) : (netM (confM s) to).rise := by
  have hn := shp_n s hs
  refine ⟨fun es h => ?_, fun es h => ?_⟩
  · obtain ⟨k, _, rfl⟩ := net_edges h
    unfold edgesK
    have : (rouK s s.n k).links = (List.range s.n).filterMap (lnkK s s.n k) := rfl
    rw [this, List.filterMap_filterMap, List.map_filterMap]
    refine List.Pairwise.filterMap _ (R := fun a b => a < b ∧ b < s.n) ?_ ?_
    · intro a a' ⟨haa, ha'⟩ b hb b' hb'
      have key : ∀ (j : Nat) (x : Int), j < s.n → Option.map Edg.from_ ((lnkK s s.n k j).bind (edgeK (confM s) to (rouK s s.n k))) = some x → x = (j : Int) := by
        intro j x hj hx
        cases hl : lnkK s s.n k j with
        | none => rw [hl] at hx; simp at hx
        | some l =>
          obtain ⟨e, h1, h2, _⟩ := edge_of hs to k j hj l hl
          rw [hl, Option.bind_some, h1] at hx
          simp only [Option.map_some, Option.some.injEq] at hx
          rw [← hx, h2]
      have e1 := key a b (by omega) hb
      have e2 := key a' b' ha' hb'
      omega
    · refine List.pairwise_iff_getElem.2 fun i j hi hj hij => ?_
      simp at hi hj ⊢
      exact ⟨hij, hj⟩
  · obtain ⟨k, _, rfl⟩ := net_edges h
    have h1 := List.length_filterMap_le (edgeK (confM s) to (rouK s s.n k)) (rouK s s.n k).links
    have h2 := linksK_len s s.n k
    have : (rouK s s.n k).links = linksK s s.n k := rfl
    unfold edgesK
    rw [this] at h1 ⊢; omega
theorem net_len (s : Shp) (to : Pfx) : (netM (confM s) to).origin.length = s.n := by simp [netM, confM]

/-! ### Net -/
def Netw.zero : Netw := ⟨[], [], []⟩
def toM (s : Shp) (which : Int) : Pfx := (classesM (confM s)).getD (which.tmod ((classesM (confM s)).length : Nat)).toNat Pfx.zero
def netOf (s : Shp) (which : Int) : AVal :=
  if (classesM (confM s)).length = 0 then .tup [Netw.zero.av, Pfx.zero.av, .b false] else .tup [(netM (confM s) (toM s which)).av, (toM s which).av, .b true]
theorem law15_Net_ev (s : Shp) (which : Int) (hs : s.ok) (hw : 0 ≤ which ∧ which ≤ 255) : EvP Try.prog G fn_maquettelaw15_Net [s.av, .i .u8 which] (netOf s which) := by
  have hc := conf_small s hs
  have sc : cleanAll [s.av] = true := by simp only [cleanAll, List.all_cons, Shp.av, clean, s.clean]; rfl
  have cc : cleanAll [(confM s).av] = true := by simp only [cleanAll, List.all_cons, Conf.av, clean, (confM s).clean]; rfl
  have cn : ∀ p : Pfx, cleanAll [(confM s).av, p.av] = true := fun p => by simp only [cleanAll, List.all_cons, Conf.av, clean, (confM s).clean]; rfl
  have hww : IntKind.i64.wrap which = which := by rw [w64 (by omega) (by omega)]
  have hnonneg : (classesM (confM s)).length ≠ 0 → 0 ≤ (IntKind.i64.wrap which).tmod ((((classesM (confM s)).map Pfx.cells).length : Nat) : Int) ∧ ((IntKind.i64.wrap which).tmod ((((classesM (confM s)).map Pfx.cells).length : Nat) : Int)).toNat < (classesM (confM s)).length := by
    intro hne
    rw [hww, List.length_map]
    have h1 := Int.tmod_nonneg ((classesM (confM s)).length : Nat) hw.1
    have h2 := Int.tmod_lt_of_pos which (show (0 : Int) < ((classesM (confM s)).length : Nat) by omega)
    exact ⟨h1, by omega⟩
  have hto : ∀ h : ((IntKind.i64.wrap which).tmod ((((classesM (confM s)).map Pfx.cells).length : Nat) : Int)).toNat < (classesM (confM s)).length, (classesM (confM s))[((IntKind.i64.wrap which).tmod ((((classesM (confM s)).map Pfx.cells).length : Nat) : Int)).toNat] = toM s which := by
    intro h
    unfold toM
    rw [← getD_of (d := Pfx.zero) h, hww, List.length_map]
  refine evP c_maquettelaw15_Net rfl ?_
  (repeat' first | refine t_seq ?_ | refine t_reg ?_ | refine t_skip ?_ | refine t_scope ?_ | refine t_ret ?_ | refine t_exit ?_ | refine lit_t rfl ?_ | refine lit_f rfl ?_ | refine And.intro (And.intro rfl (Nat.le_of_ble_eq_true rfl)) ?_ | refine c_t rfl ?_ | refine c_f rfl ?_ | (first | refine call_clean (law07_Config_ev s hs) sc ?_ | refine call_clean (lower_Classes_ev (confM s) hc (conf_few s hs)) cc ?_) | (refine sp_t (fun h => ?_) (fun h => ?_) <;> (try simp only [List.length_map] at h)) | (refine sp_f (fun h => ?_) (fun h => ?_) <;> (try simp only [List.length_map] at h)) | refine sq_t (fun h => ?_) (fun h => ?_) | refine sq_f (fun h => ?_) (fun h => ?_) | refine sb_t (fun h => ?_) (fun h => ?_) | refine sb_f (fun h => ?_) (fun h => ?_) | (refine c_nd rfl (fun h => ?_) (fun h => ?_) <;> (try simp only [List.length_map] at h)) | (refine c_d rfl (fun h => ?_) (fun h => ?_) <;> (try simp only [List.length_map] at h)) | refine c_nq rfl (fun h => ?_) (fun h => ?_) | refine c_q rfl (fun h => ?_) (fun h => ?_) | refine c_nb rfl (fun h => ?_) (fun h => ?_) | refine c_b rfl (fun h => ?_) (fun h => ?_) | refine And.intro rfl (Exists.intro _ (And.intro rfl ?_)) | refine Exists.intro _ (And.intro rfl ?_))
  · have e : (classesM (confM s)).length = 0 := by omega
    unfold netOf
    rw [if_pos e]; rfl
  · have e : (classesM (confM s)).length ≠ 0 := by omega
    obtain ⟨q1, q2⟩ := hnonneg e
    have hq := hto q2
    unfold netOf
    rw [if_neg e]
    (repeat' first | refine t_seq ?_ | refine t_reg ?_ | refine t_skip ?_ | refine t_scope ?_ | refine t_ret ?_ | refine t_exit ?_ | refine lit_t rfl ?_ | refine lit_f rfl ?_ | refine And.intro (And.intro rfl (Nat.le_of_ble_eq_true rfl)) ?_ | refine c_t rfl ?_ | refine c_f rfl ?_ | (first | refine And.intro rfl (And.intro (by simp only [List.length_map]; omega) ?_) | refine And.intro q1 (Exists.intro _ (And.intro (row_atN q2) (And.intro rfl ?_)))) | (refine sp_t (fun h => ?_) (fun h => ?_) <;> (try simp only [List.length_map] at h)) | (refine sp_f (fun h => ?_) (fun h => ?_) <;> (try simp only [List.length_map] at h)) | refine sq_t (fun h => ?_) (fun h => ?_) | refine sq_f (fun h => ?_) (fun h => ?_) | refine sb_t (fun h => ?_) (fun h => ?_) | refine sb_f (fun h => ?_) (fun h => ?_) | (refine c_nd rfl (fun h => ?_) (fun h => ?_) <;> (try simp only [List.length_map] at h)) | (refine c_d rfl (fun h => ?_) (fun h => ?_) <;> (try simp only [List.length_map] at h)) | refine c_nq rfl (fun h => ?_) (fun h => ?_) | refine c_q rfl (fun h => ?_) (fun h => ?_) | refine c_nb rfl (fun h => ?_) (fun h => ?_) | refine c_b rfl (fun h => ?_) (fun h => ?_) | refine And.intro rfl (Exists.intro _ (And.intro rfl ?_)) | refine Exists.intro _ (And.intro rfl ?_))
    rw [hq]
    refine t_regD [3, 4, 0, 4, 1, 2, 0] (by decide) ?_
    (repeat' first | refine And.intro (And.intro rfl (Nat.le_of_ble_eq_true rfl)) ?_ | refine And.intro rfl ?_ | refine And.intro trivial ?_ | refine call_clean (lower_Net_ev (confM s) (toM s which) hc) (cn _) ?_)
    (repeat' first | refine t_seq ?_ | refine t_reg ?_ | refine t_skip ?_ | refine t_scope ?_ | refine t_ret ?_ | refine t_exit ?_ | refine lit_t rfl ?_ | refine lit_f rfl ?_ | refine And.intro (And.intro rfl (Nat.le_of_ble_eq_true rfl)) ?_ | refine c_t rfl ?_ | refine c_f rfl ?_ | (refine sp_t (fun h => ?_) (fun h => ?_) <;> (try simp only [List.length_map] at h)) | (refine sp_f (fun h => ?_) (fun h => ?_) <;> (try simp only [List.length_map] at h)) | refine sq_t (fun h => ?_) (fun h => ?_) | refine sq_f (fun h => ?_) (fun h => ?_) | refine sb_t (fun h => ?_) (fun h => ?_) | refine sb_f (fun h => ?_) (fun h => ?_) | (refine c_nd rfl (fun h => ?_) (fun h => ?_) <;> (try simp only [List.length_map] at h)) | (refine c_d rfl (fun h => ?_) (fun h => ?_) <;> (try simp only [List.length_map] at h)) | refine c_nq rfl (fun h => ?_) (fun h => ?_) | refine c_q rfl (fun h => ?_) (fun h => ?_) | refine c_nb rfl (fun h => ?_) (fun h => ?_) | refine c_b rfl (fun h => ?_) (fun h => ?_) | refine And.intro (by omega) (Exists.intro _ (And.intro (row_atN (by omega)) (And.intro rfl ?_))) | refine And.intro rfl (Exists.intro _ (And.intro rfl ?_)) | refine Exists.intro _ (And.intro rfl ?_))
    exact frz_clean (v := .tup [(netM (confM s) (toM s which)).av, (toM s which).av, .b true]) (by simp only [clean, cleanL, Netw.av, Netw.clean, Pfx.av, Pfx.clean]; rfl)

/-! ### Some, where its answer is written on -/
theorem law15_Some_evS (ns : List Int) (many : Nat) (hm : many ≤ 1000000) : EvS Try.prog G fn_maquettelaw15_Some [.sl (ns.map ucells), .i .i64 (many : Nat)] [] (.row 0 many) [.row 4 ((someM ns many).map Attr.cells) false] := by
  have c1 := clean_sl (f := ucells) (fun _ => rfl) ns
  have cA : ∀ L : List Attr, cleanLL (L.map Attr.cells) = true := fun L => clean_rows Attr.clean _
  have lA : ∀ L : List Attr, ∀ r ∈ L.map Attr.cells, r.length = 4 := fun L => len_rows (f := Attr.cells) (fun _ => rfl) _
  refine evS c_maquettelaw15_Some rfl ?_
  (repeat' first | refine t_seq ?_ | refine t_reg ?_ | refine t_skip ?_ | refine t_scope ?_ | refine t_ret ?_ | refine t_exit ?_ | refine lit_t rfl ?_ | refine lit_f rfl ?_ | refine And.intro (And.intro rfl (Nat.le_of_ble_eq_true rfl)) ?_ | refine c_t rfl ?_ | refine c_f rfl ?_)
  refine And.intro (And.intro rfl ?_) ?_
  · exact ⟨by omega, by omega, by omega, rfl⟩
  (repeat' first | refine t_seq ?_ | refine t_reg ?_ | refine t_skip ?_ | refine t_scope ?_ | refine t_ret ?_ | refine t_exit ?_ | refine lit_t rfl ?_ | refine lit_f rfl ?_ | refine And.intro (And.intro rfl (Nat.le_of_ble_eq_true rfl)) ?_ | refine c_t rfl ?_ | refine c_f rfl ?_)
  refine t_range many (by omega) (fun i E H => i ≤ many ∧ E = smE ns many i ∧ H = [.row 4 ((fillL (someK ns) Attr.zero many i).map Attr.cells) false]) (smE ns many 0) [.row 4 ((fillL (someK ns) Attr.zero many 0).map Attr.cells) false] ?_ ⟨Nat.zero_le _, rfl, rfl⟩ ?_ ?_ ?_
  · refine moveL [0] rfl (by decide) ⟨.inr ⟨_, rfl, cvO_row_as (by rw [fillL_zero]; simp; exact .inr rfl) (cA _) (lA _)⟩, trivial⟩ ?_
    refine ⟨?_, ?_, ?_, ?_, trivial⟩ <;> first | (first | exact .cl _ rfl | exact .cl _ (by assumption) | exact cv_ptr (Nat.le_of_ble_eq_true rfl) rfl | exact .nilS | exact cv_own (Nat.le_of_ble_eq_true rfl) rfl | exact cv_row (Nat.le_of_ble_eq_true rfl) rfl | exact cv_mp (Nat.le_of_ble_eq_true rfl) rfl) | exact cv_row_as (Nat.le_of_ble_eq_true rfl) rfl rfl
  · rintro i E H ⟨hi, rfl, rfl⟩; exact ⟨hi, rfl, rfl⟩
  · rintro i E H hlt ⟨hi, rfl, rfl⟩
    have hat := rows_at (f := Attr.cells) (fillL_at (someK ns) Attr.zero many i hlt)
    have hset := fillL_set (someK ns) Attr.zero many i
    have hskip := fillL_skip (someK ns) Attr.zero many i
    (repeat' first | refine t_seq ?_ | refine t_reg ?_ | refine t_skip ?_ | refine t_scope ?_ | refine t_ret ?_ | refine t_exit ?_ | refine lit_t rfl ?_ | refine lit_f rfl ?_ | refine And.intro (And.intro rfl (Nat.le_of_ble_eq_true rfl)) ?_ | refine c_t rfl ?_ | refine c_f rfl ?_ | (first | refine And.intro (Int.natCast_nonneg i) (Exists.intro _ (And.intro (row_at (by omega)) (And.intro rfl ?_))) | refine And.intro rfl (And.intro (by decide) ?_) | refine And.intro (And.intro rfl (And.intro rfl (Nat.le_of_ble_eq_true rfl))) (Exists.intro _ (And.intro (hat) ?_)) | refine And.intro (And.intro (by omega) (by omega)) ?_) | (refine sp_t (fun h => ?_) (fun h => ?_) <;> (try simp only [List.length_map] at h)) | (refine sp_f (fun h => ?_) (fun h => ?_) <;> (try simp only [List.length_map] at h)) | refine sq_t (fun h => ?_) (fun h => ?_) | refine sq_f (fun h => ?_) (fun h => ?_) | refine sb_t (fun h => ?_) (fun h => ?_) | refine sb_f (fun h => ?_) (fun h => ?_) | (refine c_nd rfl (fun h => ?_) (fun h => ?_) <;> (try simp only [List.length_map] at h)) | (refine c_d rfl (fun h => ?_) (fun h => ?_) <;> (try simp only [List.length_map] at h)) | refine c_nq rfl (fun h => ?_) (fun h => ?_) | refine c_q rfl (fun h => ?_) (fun h => ?_) | refine c_nb rfl (fun h => ?_) (fun h => ?_) | refine c_b rfl (fun h => ?_) (fun h => ?_) | refine And.intro rfl (Exists.intro _ (And.intro rfl ?_)) | refine Exists.intro _ (And.intro rfl ?_))
    · rename_i h1
      have hk : someK ns i = ⟨true, IntKind.i64.wrap (100 + IntKind.i64.wrap ((IntKind.i64.wrap (ns[i].tmod 4)).tdiv 3)), IntKind.i64.wrap ((IntKind.u16.wrap (ns[i].tdiv 64)).tmod 16), IntKind.u8.wrap ((IntKind.u16.wrap (ns[i].tdiv 4)).tmod 16)⟩ := by
        unfold someK
        rw [if_pos (by omega), getD_of (by omega), someA, if_pos (by exact h)]
      rw [hk] at hset
      refine And.intro rfl ⟨smE ns many (i + 1), [.row 4 ((fillL (someK ns) Attr.zero many (i + 1)).map Attr.cells) false], moveL [0] rfl (by decide) ⟨.inr ⟨_, rfl, cvO_row_as (by rw [← hset]; exact (set_map (f := Attr.cells)).symm) (cA _) (lA _)⟩, trivial⟩ ?_, hlt, rfl, rfl⟩
      refine ⟨?_, ?_, ?_, ?_, trivial⟩ <;> (first | exact .cl _ rfl | exact .cl _ (by assumption) | exact cv_ptr (Nat.le_of_ble_eq_true rfl) rfl | exact .nilS | exact cv_own (Nat.le_of_ble_eq_true rfl) rfl | exact cv_row (Nat.le_of_ble_eq_true rfl) rfl | exact cv_mp (Nat.le_of_ble_eq_true rfl) rfl)
    · rename_i h1
      have hk : someK ns i = Attr.zero := by
        unfold someK
        rw [if_pos (by omega), getD_of (by omega), someA, if_neg (by exact h)]
      refine And.intro rfl ⟨smE ns many (i + 1), [.row 4 ((fillL (someK ns) Attr.zero many (i + 1)).map Attr.cells) false], moveL [0] rfl (by decide) ⟨.inr ⟨_, rfl, cvO_row_as (by rw [hskip hk]) (cA _) (lA _)⟩, trivial⟩ ?_, hlt, rfl, rfl⟩
      refine ⟨?_, ?_, ?_, ?_, trivial⟩ <;> (first | exact .cl _ rfl | exact .cl _ (by assumption) | exact cv_ptr (Nat.le_of_ble_eq_true rfl) rfl | exact .nilS | exact cv_own (Nat.le_of_ble_eq_true rfl) rfl | exact cv_row (Nat.le_of_ble_eq_true rfl) rfl | exact cv_mp (Nat.le_of_ble_eq_true rfl) rfl)
    · have hk : someK ns i = Attr.zero := by
        unfold someK
        rw [if_neg (by omega)]
      refine And.intro rfl ⟨smE ns many (i + 1), [.row 4 ((fillL (someK ns) Attr.zero many (i + 1)).map Attr.cells) false], moveL [0] rfl (by decide) ⟨.inr ⟨_, rfl, cvO_row_as (by rw [hskip hk]) (cA _) (lA _)⟩, trivial⟩ ?_, hlt, rfl, rfl⟩
      refine ⟨?_, ?_, ?_, ?_, trivial⟩ <;> (first | exact .cl _ rfl | exact .cl _ (by assumption) | exact cv_ptr (Nat.le_of_ble_eq_true rfl) rfl | exact .nilS | exact cv_own (Nat.le_of_ble_eq_true rfl) rfl | exact cv_row (Nat.le_of_ble_eq_true rfl) rfl | exact cv_mp (Nat.le_of_ble_eq_true rfl) rfl)
  · rintro E H ⟨hi, rfl, rfl⟩
    (repeat' first | refine t_seq ?_ | refine t_reg ?_ | refine t_skip ?_ | refine t_scope ?_ | refine t_ret ?_ | refine t_exit ?_ | refine lit_t rfl ?_ | refine lit_f rfl ?_ | refine And.intro (And.intro rfl (Nat.le_of_ble_eq_true rfl)) ?_ | refine c_t rfl ?_ | refine c_f rfl ?_ | (refine sp_t (fun h => ?_) (fun h => ?_) <;> (try simp only [List.length_map] at h)) | (refine sp_f (fun h => ?_) (fun h => ?_) <;> (try simp only [List.length_map] at h)) | refine sq_t (fun h => ?_) (fun h => ?_) | refine sq_f (fun h => ?_) (fun h => ?_) | refine sb_t (fun h => ?_) (fun h => ?_) | refine sb_f (fun h => ?_) (fun h => ?_) | (refine c_nd rfl (fun h => ?_) (fun h => ?_) <;> (try simp only [List.length_map] at h)) | (refine c_d rfl (fun h => ?_) (fun h => ?_) <;> (try simp only [List.length_map] at h)) | refine c_nq rfl (fun h => ?_) (fun h => ?_) | refine c_q rfl (fun h => ?_) (fun h => ?_) | refine c_nb rfl (fun h => ?_) (fun h => ?_) | refine c_b rfl (fun h => ?_) (fun h => ?_) | refine And.intro (by omega) (Exists.intro _ (And.intro (row_atN (by omega)) (And.intro rfl ?_))) | refine And.intro rfl (Exists.intro _ (And.intro rfl ?_)) | refine Exists.intro _ (And.intro rfl ?_))
    exact And.intro rfl (congrArg (fun L => [AObj.row 4 (L.map Attr.cells) false]) (fillL_all _ _ _))
/-- A call that makes a row, on any heap. -/
theorem EvS.fresh {P : Program} {f : FuncId} {args : List AVal} {rows : List (List AVal)} {esz n : Nat} {H : Heap} (h : EvS P G f args [] (.row 0 n) [.row esz rows false]) (ha : cleanAll args = true) (hc : cleanLL rows = true) (hr : ∀ q ∈ rows, q.length = esz) :
    EvS P G f args H (.row H.length n) (H ++ [.row esz rows false]) := by
  have hall : ∀ a ∈ args, clean a = true := fun a h => List.all_eq_true.1 ha a h
  refine EvS.frame [] h ⟨rfl, List.Pairwise.nil, fun i hi => by simp at hi, fun j o' hj => by simp at hj, rfl, fun j hj => .cl _ (hall _ (mem_getD hj))⟩ ⟨by simp, fun k hk hne => by rw [List.getElem?_append_left hk], fun k o' hk hk' => ?_, ?_⟩
  · have : k = H.length := by
      rcases hk with hk | hk
      · simp at hk
      · simp at hk; omega
    subst this
    rw [List.getElem?_append_right (Nat.le_refl _), Nat.sub_self] at hk'
    simp at hk'; subst hk'
    refine .inr ⟨.row esz rows false, ?_, cvO_row hc hr⟩
    simp [iOf]
  · exact cv_row (.inr ⟨Nat.le_refl _, by simp⟩) (by simp [iOf])
end Go.Proofs.Ythpcjekmgohelaa.Ab

/- FUNCTIONS, 28: the document's examples of forward and lift. -/
namespace Go.Proofs.Ythpcjekmgohelaa.Ab
open Go Go.Proofs
set_option linter.unusedVariables false
set_option linter.unusedSimpArgs false
variable {G : GI}

def aw1 : List (List Int) := [[1], [0, 2], []]
theorem aw1_hops : hopsM aw1 [false, false, true] 4 = [[2, 4], [1, 3], [0]] := by decide +kernel
theorem aw1_loops : loopsM aw1 aw1.length = [true, true, false] := by decide +kernel
theorem law21_awake_ev : EvP Try.prog G fn_maquettelaw21_awake [] (.b true) := by
  have hg : GraphOk aw1 := ⟨by decide, by decide⟩
  have h1 := forward_Hops_ev (G := G) aw1 [false, false, true] 4 hg
  have h2 := forward_Loops_ev (G := G) aw1 hg
  rw [aw1_hops] at h1
  rw [aw1_loops] at h2
  refine evP c_maquettelaw21_awake rfl ?_
  (repeat' first | refine t_seq ?_ | refine t_reg ?_ | refine t_skip ?_ | refine t_scope ?_ | refine t_ret ?_ | refine t_exit ?_ | refine lit_t rfl ?_ | refine lit_f rfl ?_ | refine And.intro (And.intro rfl (Nat.le_of_ble_eq_true rfl)) ?_ | refine c_t rfl ?_ | refine c_f rfl ?_ | (first | refine call_nil h1 rfl rfl ?_ | refine call_nil h2 rfl rfl ?_ | refine And.intro (by decide) (Exists.intro _ (And.intro rfl (And.intro rfl ?_)))) | (refine sp_t (fun h => ?_) (fun h => ?_) <;> (try simp only [List.length_map] at h)) | (refine sp_f (fun h => ?_) (fun h => ?_) <;> (try simp only [List.length_map] at h)) | refine sq_t (fun h => ?_) (fun h => ?_) | refine sq_f (fun h => ?_) (fun h => ?_) | refine sb_t (fun h => ?_) (fun h => ?_) | refine sb_f (fun h => ?_) (fun h => ?_) | (refine c_nd rfl (fun h => ?_) (fun h => ?_) <;> (try simp only [List.length_map] at h)) | (refine c_d rfl (fun h => ?_) (fun h => ?_) <;> (try simp only [List.length_map] at h)) | refine c_nq rfl (fun h => ?_) (fun h => ?_) | refine c_q rfl (fun h => ?_) (fun h => ?_) | refine c_nb rfl (fun h => ?_) (fun h => ?_) | refine c_b rfl (fun h => ?_) (fun h => ?_) | refine And.intro rfl (Exists.intro _ (And.intro rfl ?_)) | refine Exists.intro _ (And.intro rfl ?_))
  rfl

def aw2 : Netw := ⟨[true, false], [-1, -1], [[], [⟨0, 3, [], []⟩]]⟩
def aw2l : List Attr := [⟨true, 100, 0, 0⟩, ⟨true, 100, 3, 0⟩]
def aw2a : List Ans := [⟨true, false, [0]⟩, ⟨true, false, [1]⟩]
theorem aw2_ans : (answersM aw2 aw2l 5).map Ans.cells = aw2a.map Ans.cells := by kernel_rfl
theorem law23_awake_ev : EvP Try.prog G fn_maquettelaw23_awake [] (.b true) := by
  have hn : aw2.ok := ⟨by decide, by decide, by decide, by decide, by
    intro es h e he
    have h1 : es = [] ∨ es = [⟨0, 3, [], []⟩] := by simpa [aw2] using h
    rcases h1 with rfl | rfl
    · simp at he
    · rw [List.mem_singleton.1 he]; exact ⟨by decide, by decide⟩⟩
  have hr : aw2.rise := ⟨by decide, by decide⟩
  have h1 := lift_Answers_ev (G := G) aw2 aw2l 5 hn hr (by decide) (by decide)
  rw [aw2_ans] at h1
  have h2 := lift_Up_ev (G := G) [0, 1, 1] aw2a (by decide) (by decide)
  have c2 : cleanAll [.sl (([0, 1, 1] : List Int).map icells), .sl (aw2a.map Ans.cells)] = true := rfl
  refine evP c_maquettelaw23_awake rfl ?_
  (repeat' first | refine t_seq ?_ | refine t_reg ?_ | refine t_skip ?_ | refine t_scope ?_ | refine t_ret ?_ | refine t_exit ?_ | refine lit_t rfl ?_ | refine lit_f rfl ?_ | refine And.intro (And.intro rfl (Nat.le_of_ble_eq_true rfl)) ?_ | refine c_t rfl ?_ | refine c_f rfl ?_ | (first | refine call_nil h1 rfl rfl ?_ | refine call_clean h2 c2 ?_ | refine And.intro (by decide) (Exists.intro _ (And.intro rfl (And.intro rfl ?_)))) | (refine sp_t (fun h => ?_) (fun h => ?_) <;> (try simp only [List.length_map] at h)) | (refine sp_f (fun h => ?_) (fun h => ?_) <;> (try simp only [List.length_map] at h)) | refine sq_t (fun h => ?_) (fun h => ?_) | refine sq_f (fun h => ?_) (fun h => ?_) | refine sb_t (fun h => ?_) (fun h => ?_) | refine sb_f (fun h => ?_) (fun h => ?_) | (refine c_nd rfl (fun h => ?_) (fun h => ?_) <;> (try simp only [List.length_map] at h)) | (refine c_d rfl (fun h => ?_) (fun h => ?_) <;> (try simp only [List.length_map] at h)) | refine c_nq rfl (fun h => ?_) (fun h => ?_) | refine c_q rfl (fun h => ?_) (fun h => ?_) | refine c_nb rfl (fun h => ?_) (fun h => ?_) | refine c_b rfl (fun h => ?_) (fun h => ?_) | refine And.intro rfl (Exists.intro _ (And.intro rfl ?_)) | refine Exists.intro _ (And.intro rfl ?_))
  rfl
end Go.Proofs.Ythpcjekmgohelaa.Ab

/- KINDS of the laws' parameters. -/
namespace Go.Proofs.Ythpcjekmgohelaa.Ab
open Go
def pt_uint8 : List PTy := [.int .u8]
def pt_int8 : List PTy := [.int .i8]
def pt_uint16 : List PTy := [.int .u16]
def pt_uint32 : List PTy := [.int .u32]
def pt_bool : List PTy := [.bool]
def pt_string : List PTy := [.str]
def pt_s_uint16 : List PTy := [.sl [.int .u16]]
def pt_s_uint8 : List PTy := [.sl [.int .u8]]
/-- Rule: To, With, Out, Do, More, Pref. -/
def pt_Rule : List PTy := [.int .u8, .int .u8, .int .u8, .int .u8, .int .u8, .int .u8]
/-- Shape: Routers, Links, Maps, Names, Nets, Ways. -/
def pt_Shape : List PTy := [.int .u8, .sl [.int .u8], .sl [.sl pt_Rule], .sl [.int .u8], .sl [.int .u8], .sl [.int .u8]]
/-- No variable of the program is leaned on. -/
def G0 : GI := ⟨0, fun _ => True, fun _ _ _ _ => trivial⟩
end Go.Proofs.Ythpcjekmgohelaa.Ab

/- FUNCTIONS, 29: LiftAnswers. -/
namespace Go.Proofs.Ythpcjekmgohelaa.Ab
open Go Go.Proofs
set_option linter.unusedVariables false
set_option linter.unusedSimpArgs false

/-! ### Arguments -/
theorem rows_of {α : Type} {f : α → List AVal} {p : α → Prop} : ∀ (rows : List (List AVal)), (∀ r ∈ rows, ∃ x, r = f x ∧ p x) → ∃ xs : List α, rows = xs.map f ∧ ∀ x ∈ xs, p x
  | [], _ => ⟨[], rfl, fun x hx => by simp at hx⟩
  | r :: rows, h => by
    obtain ⟨x, rfl, hx⟩ := h r (.head _)
    obtain ⟨xs, rfl, hxs⟩ := rows_of rows fun q hq => h q (.tail _ hq)
    refine ⟨x :: xs, rfl, fun y hy => ?_⟩
    rcases List.mem_cons.1 hy with rfl | hy
    · exact hx
    · exact hxs y hy
theorem u8s_of {a : AVal} (h : has (.sl [.int .u8]) a) : ∃ l : List Int, a = .sl (l.map u8cells) ∧ U8s l := by
  simp only [has, hasL] at h
  obtain ⟨rows, rfl, h1, h2⟩ := h
  obtain ⟨l, rfl, h3⟩ := rows_of (f := u8cells) (p := fun x => 0 ≤ x ∧ x ≤ 255) rows fun r hr => by
    obtain ⟨a, q, rfl, ⟨n, rfl, g1, g2⟩, rfl⟩ := h2 r hr
    exact ⟨n, rfl, g1, g2⟩
  exact ⟨l, rfl, by rw [List.length_map] at h1; omega, h3⟩
theorem u16s_of {a : AVal} (h : has (.sl [.int .u16]) a) : ∃ l : List Int, a = .sl (l.map ucells) := by
  simp only [has, hasL] at h
  obtain ⟨rows, rfl, h1, h2⟩ := h
  obtain ⟨l, rfl, h3⟩ := rows_of (f := ucells) (p := fun _ => True) rows fun r hr => by
    obtain ⟨a, q, rfl, ⟨n, rfl, g1, g2⟩, rfl⟩ := h2 r hr
    exact ⟨n, rfl, trivial⟩
  exact ⟨l, rfl⟩
theorem shape_of {a : AVal} (h : hasA true pt_Shape a) : ∃ s : Shp, a = s.av ∧ s.ok := by
  simp only [hasA, if_true] at h
  obtain ⟨cs, rfl, h⟩ := h
  simp only [pt_Shape, hasL] at h
  obtain ⟨a0, r0, rfl, h0, a1, r1, rfl, h1, a2, r2, rfl, h2, a3, r3, rfl, h3, a4, r4, rfl, h4, a5, r5, rfl, h5, rfl⟩ := h
  obtain ⟨links, rfl, k1⟩ := u8s_of h1
  obtain ⟨names, rfl, k3⟩ := u8s_of h3
  obtain ⟨nets, rfl, k4⟩ := u8s_of h4
  obtain ⟨ways, rfl, k5⟩ := u8s_of h5
  simp only [has] at h0 h2
  obtain ⟨n, rfl, g1, g2⟩ := h0
  obtain ⟨rows, rfl, m1, m2⟩ := h2
  obtain ⟨maps, rfl, m3⟩ := rows_of (f := rulesC) (p := fun rs => (rs.length : Int) ≤ 9223372036854775807 ∧ ∀ r ∈ rs, r.ok) rows fun r hr => by
    have h6 := m2 r hr
    simp only [hasL] at h6
    obtain ⟨b, q, rfl, h7, rfl⟩ := h6
    simp only [has] at h7
    obtain ⟨rr, rfl, w1, w2⟩ := h7
    obtain ⟨rs, rfl, w3⟩ := rows_of (f := Rul.cells) (p := Rul.ok) rr fun q hq => by
      have h8 := w2 q hq
      simp only [pt_Rule, hasL, has] at h8
      obtain ⟨c0, q0, rfl, ⟨x0, rfl, u0, v0⟩, c1, q1, rfl, ⟨x1, rfl, u1, v1⟩, c2, q2, rfl, ⟨x2, rfl, u2, v2⟩, c3, q3, rfl, ⟨x3, rfl, u3, v3⟩, c4, q4, rfl, ⟨x4, rfl, u4, v4⟩, c5, q5, rfl, ⟨x5, rfl, u5, v5⟩, rfl⟩ := h8
      exact ⟨⟨x0, x1, x2, x3, x4, x5⟩, rfl, u0, v0⟩
    exact ⟨rs, rfl, by rw [List.length_map] at w1; omega, w3⟩
  exact ⟨⟨n, links, maps, names, nets, ways⟩, rfl, ⟨⟨g1, g2⟩, k1, by (rw [List.length_map] at m1; show (maps.length : Int) ≤ _; omega), m3, k3, k4, k5⟩⟩
theorem u8_of {a : AVal} (h : hasA false pt_uint8 a) : ∃ n : Int, a = .i .u8 n ∧ 0 ≤ n ∧ n ≤ 255 := by
  simp only [hasA, pt_uint8, hasL, has, Bool.false_eq_true, if_false] at h
  obtain ⟨b, q, h1, ⟨n, rfl, g1, g2⟩, rfl⟩ := h
  simp only [List.cons.injEq, and_true] at h1; subst h1
  exact ⟨n, rfl, g1, g2⟩
theorem i8_of {a : AVal} (h : hasA false pt_int8 a) : ∃ n : Int, a = .i .i8 n ∧ -128 ≤ n ∧ n ≤ 127 := by
  simp only [hasA, pt_int8, hasL, has, Bool.false_eq_true, if_false] at h
  obtain ⟨b, q, h1, ⟨n, rfl, g1, g2⟩, rfl⟩ := h
  simp only [List.cons.injEq, and_true] at h1; subst h1
  exact ⟨n, rfl, g1, g2⟩
theorem su16_of {a : AVal} (h : hasA false pt_s_uint16 a) : ∃ l : List Int, a = .sl (l.map ucells) := by
  simp only [hasA, pt_s_uint16, Bool.false_eq_true, if_false] at h
  unfold hasL at h
  obtain ⟨b, q, h1, h2, h3⟩ := h
  simp only [List.cons.injEq] at h1
  obtain ⟨rfl, _⟩ := h1
  exact u16s_of h2

/-! ### Learning -/
def stepL (n : Netw) (l : List Attr) : Nat → List Attr
  | 0 => l
  | k + 1 => (stepL n l k).set k (choiceM n (stepL n l k) (k : Int))
def learnM (n : Netw) (l : List Attr) : Nat → List Attr
  | 0 => l
  | r + 1 => stepL n (learnM n l r) (learnM n l r).length
theorem stepL_len (n : Netw) (l : List Attr) : ∀ k, (stepL n l k).length = l.length
  | 0 => rfl
  | k + 1 => by rw [stepL, List.length_set, stepL_len n l k]
theorem learnM_len (n : Netw) (l : List Attr) : ∀ r, (learnM n l r).length = l.length
  | 0 => rfl
  | r + 1 => by rw [learnM, stepL_len, learnM_len n l r]
theorem flat_attr (a : Attr) : flat a.av = true := by simp [flat, Attr.av]

variable {G : GI}
abbrev l1E (most rounds : Int) (many r : Nat) : Slots := [(15, .i .i64 (r : Nat)), (14, .row 1 many), (11, .ptr 0 0), (4, .i .i8 most), (3, .i .u8 rounds)]
abbrev l1F (most rounds : Int) (many r k : Nat) : Slots := [(49, .i .i64 (k : Nat)), (48, .i .i64 (many : Nat)), (15, .i .i64 (r : Nat)), (14, .row 1 many), (11, .ptr 0 0), (4, .i .i8 most), (3, .i .u8 rounds)]
abbrev l1H (n : Netw) (L : List Attr) : Heap := [.box n.cells, .row 4 (L.map Attr.cells) false]
abbrev l1G (most : Int) (L : List Attr) : Slots := [(14, .sl (L.map Attr.cells)), (11, .ptr 0 0), (4, .i .i8 most)]
abbrev l2E (n : Netw) (most : Int) (az : List Ans) (g : List (List Int)) (i : Nat) : Slots := [(87, .i .i64 (i : Nat)), (86, .i .i64 ((az.map Ans.cells).length : Nat)), (85, .sl (az.map Ans.cells)), (21, .sl ((loopsM g g.length).map bcells)), (20, .sl ((reachM g n.origin g.length).map bcells)), (19, .sl ((hopsM g n.origin most).map gcells))]

theorem answersM_at (n : Netw) (l : List Attr) (most : Int) (i : Nat) (h : i < (answersM n l most).length) : (answersM n l most)[i] = ansK n l most i := by simp [answersM]
set_option maxHeartbeats 2000000 in
theorem law_LiftAnswers_true {a0 a1 a2 a3 a4 : AVal} (h0 : hasA true pt_Shape a0) (h1 : hasA false pt_uint8 a1) (h2 : hasA false pt_s_uint16 a2) (h3 : hasA false pt_uint8 a3) (h4 : hasA false pt_int8 a4) :
    EvP Try.prog G fn_maquettelaw23_LiftAnswers [a0, a1, a2, a3, a4] (.b true) := by
  obtain ⟨s, rfl, hs⟩ := shape_of h0
  obtain ⟨which, rfl, hw⟩ := u8_of h1
  obtain ⟨ns, rfl⟩ := su16_of h2
  obtain ⟨rounds, rfl, hr⟩ := u8_of h3
  obtain ⟨most, rfl, hm⟩ := i8_of h4
  clear h0 h1 h2 h3 h4
  have ca : cleanAll [s.av, .i .u8 which] = true := by simp only [cleanAll, List.all_cons, Shp.av, clean, s.clean]; rfl
  have hnet := law15_Net_ev (G := G) s which hs hw
  refine evP c_maquettelaw23_LiftAnswers rfl ?_
  by_cases hz : (classesM (confM s)).length = 0
  · unfold netOf at hnet
    rw [if_pos hz] at hnet
    (repeat' first | refine t_seq ?_ | refine t_reg ?_ | refine t_skip ?_ | refine t_scope ?_ | refine t_ret ?_ | refine t_exit ?_ | refine lit_t rfl ?_ | refine lit_f rfl ?_ | refine And.intro (And.intro rfl (Nat.le_of_ble_eq_true rfl)) ?_ | refine c_t rfl ?_ | refine c_f rfl ?_ | (first | refine call_clean law23_awake_ev rfl ?_ | refine call_clean hnet ca ?_) | (refine sp_t (fun h => ?_) (fun h => ?_) <;> (try simp only [List.length_map] at h)) | (refine sp_f (fun h => ?_) (fun h => ?_) <;> (try simp only [List.length_map] at h)) | refine sq_t (fun h => ?_) (fun h => ?_) | refine sq_f (fun h => ?_) (fun h => ?_) | refine sb_t (fun h => ?_) (fun h => ?_) | refine sb_f (fun h => ?_) (fun h => ?_) | (refine c_nd rfl (fun h => ?_) (fun h => ?_) <;> (try simp only [List.length_map] at h)) | (refine c_d rfl (fun h => ?_) (fun h => ?_) <;> (try simp only [List.length_map] at h)) | refine c_nq rfl (fun h => ?_) (fun h => ?_) | refine c_q rfl (fun h => ?_) (fun h => ?_) | refine c_nb rfl (fun h => ?_) (fun h => ?_) | refine c_b rfl (fun h => ?_) (fun h => ?_) | refine And.intro rfl (Exists.intro _ (And.intro rfl ?_)) | refine Exists.intro _ (And.intro rfl ?_))
    rfl
  · unfold netOf at hnet
    rw [if_neg hz] at hnet
    have hn := net_ok s hs (toM s which)
    have hri := net_rise s hs (toM s which)
    have hnl := net_len s (toM s which)
    have hn8 := shp_n s hs
    generalize netM (confM s) (toM s which) = n at hnet hn hri hnl
    have hlo : (n.origin.map bcells).length = s.n := by simp [hnl]
    have cu : ∀ x, cleanAll [.sl (ns.map ucells), .i .i64 x] = true := fun x => by
      simp only [cleanAll, List.all_cons, clean, clean_rows (f := ucells) (fun _ => rfl)]; rfl
    have cA : ∀ L : List Attr, cleanLL (L.map Attr.cells) = true := fun L => clean_rows Attr.clean _
    have lA : ∀ L : List Attr, ∀ r ∈ L.map Attr.cells, r.length = 4 := fun L => len_rows (f := Attr.cells) (fun _ => rfl) _
    have hsome := law15_Some_evS (G := G) ns (n.origin.map bcells).length (by omega)
    (repeat' first | refine t_seq ?_ | refine t_reg ?_ | refine t_skip ?_ | refine t_scope ?_ | refine t_ret ?_ | refine t_exit ?_ | refine lit_t rfl ?_ | refine lit_f rfl ?_ | refine And.intro (And.intro rfl (Nat.le_of_ble_eq_true rfl)) ?_ | refine c_t rfl ?_ | refine c_f rfl ?_ | (first | refine call_clean law23_awake_ev rfl ?_ | refine call_clean hnet ca ?_ | refine call_heap (EvS.fresh hsome (cu _) (cA _) (lA _)) ?_) | (refine sp_t (fun h => ?_) (fun h => ?_) <;> (try simp only [List.length_map] at h)) | (refine sp_f (fun h => ?_) (fun h => ?_) <;> (try simp only [List.length_map] at h)) | refine sq_t (fun h => ?_) (fun h => ?_) | refine sq_f (fun h => ?_) (fun h => ?_) | refine sb_t (fun h => ?_) (fun h => ?_) | refine sb_f (fun h => ?_) (fun h => ?_) | (refine c_nd rfl (fun h => ?_) (fun h => ?_) <;> (try simp only [List.length_map] at h)) | (refine c_d rfl (fun h => ?_) (fun h => ?_) <;> (try simp only [List.length_map] at h)) | refine c_nq rfl (fun h => ?_) (fun h => ?_) | refine c_q rfl (fun h => ?_) (fun h => ?_) | refine c_nb rfl (fun h => ?_) (fun h => ?_) | refine c_b rfl (fun h => ?_) (fun h => ?_) | refine And.intro rfl (Exists.intro _ (And.intro rfl ?_)) | refine Exists.intro _ (And.intro rfl ?_))
    generalize hmany : (n.origin.map bcells).length = many at hlo
    generalize hL0 : someM ns many = L0
    have hL0l : L0.length = many := by rw [← hL0]; simp [someM]
    have hrr0 := Int.tmod_nonneg 6 hr.1
    have hrr1 := Int.tmod_lt_of_pos rounds (show (0 : Int) < 6 by decide)
    have hwr : IntKind.i64.wrap (rounds.tmod 6) = rounds.tmod 6 := w64 (by omega) (by omega)
    have hfz : ∀ (L : List Attr) (k : Nat), L.length = many → frzAll (l1H n L) [n.av, .row 1 many, .i .i64 (k : Nat)] = some [n.av, .sl (L.map Attr.cells), .i .i64 (k : Nat)] := by
      intro L k hL
      have f1 : frz (l1H n L) n.av = some n.av := frz_clean (by simp only [Netw.av, clean, n.clean])
      have f2 : frz (l1H n L) (.row 1 many) = some (.sl (L.map Attr.cells)) := frz_row rfl rfl (by rw [List.length_map]; exact hL) (cA L)
      have f3 : frz (l1H n L) (.i .i64 (k : Nat)) = some (.i .i64 (k : Nat)) := frz_clean rfl
      simp only [frzAll, f1, f2, f3]
    refine t_block (t_loopM (fun w E H => ∃ r : Nat, (r : Int) ≤ rounds.tmod 6 ∧ w = (rounds.tmod 6 - r).toNat ∧ E = l1E most rounds many r ∧ H = l1H n (learnM n L0 r)) _ (l1E most rounds many 0) (l1H n (learnM n L0 0)) ?_ ⟨0, by omega, rfl, rfl, rfl⟩ ?_)
    · refine moveL [1, 3] rfl (by decide) ⟨.inr ⟨_, rfl, cvO_box n.clean⟩, .inr ⟨_, rfl, cvO_row_as rfl (cA _) (lA _)⟩, trivial⟩ ?_
      refine ⟨?_, ?_, ?_, ?_, ?_, trivial⟩ <;> (first | exact .cl _ rfl | exact .cl _ (by assumption) | exact cv_ptr (Nat.le_of_ble_eq_true rfl) rfl | exact .nilS | exact cv_own (Nat.le_of_ble_eq_true rfl) rfl | exact cv_row (Nat.le_of_ble_eq_true rfl) rfl | exact cv_mp (Nat.le_of_ble_eq_true rfl) rfl)
    rintro w E H ⟨r, hrl, rfl, rfl, rfl⟩
    refine t_seq (t_seq (t_reg ?_))
    refine And.intro rfl (And.intro (by decide) ?_)
    refine c_d rfl (fun h => ?_) (fun h => ?_)
    · rw [hwr] at h
      refine t_skip ?_
      refine t_seq (t_block ?_)
      (repeat' first | refine t_seq ?_ | refine t_reg ?_ | refine t_skip ?_ | refine t_scope ?_ | refine t_ret ?_ | refine t_exit ?_ | refine lit_t rfl ?_ | refine lit_f rfl ?_ | refine And.intro (And.intro rfl (Nat.le_of_ble_eq_true rfl)) ?_ | refine c_t rfl ?_ | refine c_f rfl ?_)
      generalize hLr : learnM n L0 r = L
      have hLl : L.length = many := by rw [← hLr, learnM_len]; exact hL0l
      refine t_range many (by omega) (fun k E H => k ≤ many ∧ E = l1F most rounds many r k ∧ H = l1H n (stepL n L k)) (l1F most rounds many r 0) (l1H n (stepL n L 0)) ?_ ⟨Nat.zero_le _, rfl, rfl⟩ ?_ ?_ ?_
      · refine moveL [0, 1] rfl (by decide) ⟨.inr ⟨_, rfl, cvO_box n.clean⟩, .inr ⟨_, rfl, cvO_row_as rfl (cA _) (lA _)⟩, trivial⟩ ?_
        refine ⟨?_, ?_, ?_, ?_, ?_, ?_, ?_, trivial⟩ <;> (first | exact .cl _ rfl | exact .cl _ (by assumption) | exact cv_ptr (Nat.le_of_ble_eq_true rfl) rfl | exact .nilS | exact cv_own (Nat.le_of_ble_eq_true rfl) rfl | exact cv_row (Nat.le_of_ble_eq_true rfl) rfl | exact cv_mp (Nat.le_of_ble_eq_true rfl) rfl)
      · rintro k E H ⟨hi, rfl, rfl⟩; exact ⟨hi, rfl, rfl⟩
      · rintro k E H hlt ⟨hi, rfl, rfl⟩
        have hKl : (stepL n L k).length = many := by rw [stepL_len]; exact hLl
        have hnx : stepL n L (k + 1) = (stepL n L k).set k (choiceM n (stepL n L k) (k : Int)) := rfl
        generalize stepL n L k = K at hKl hnx ⊢
        have hch := stable_Choice_ev (G := G) n K (k : Nat) hn (by omega)
        have hat := rows_at (f := Attr.cells) (List.getElem?_eq_getElem (show k < K.length by omega))
        (repeat' first | refine t_seq ?_ | refine t_reg ?_ | refine t_skip ?_ | refine t_scope ?_ | refine t_ret ?_ | refine t_exit ?_ | refine lit_t rfl ?_ | refine lit_f rfl ?_ | refine And.intro (And.intro rfl (Nat.le_of_ble_eq_true rfl)) ?_ | refine c_t rfl ?_ | refine c_f rfl ?_ | (first | refine call_flat hch (hfz K k hKl) (flat_attr _) ?_ | refine And.intro (And.intro rfl (And.intro rfl (Nat.le_of_ble_eq_true rfl))) (Exists.intro _ (And.intro (hat) ?_)) | refine And.intro (And.intro (by omega) (by omega)) ?_) | (refine sp_t (fun h => ?_) (fun h => ?_) <;> (try simp only [List.length_map] at h)) | (refine sp_f (fun h => ?_) (fun h => ?_) <;> (try simp only [List.length_map] at h)) | refine sq_t (fun h => ?_) (fun h => ?_) | refine sq_f (fun h => ?_) (fun h => ?_) | refine sb_t (fun h => ?_) (fun h => ?_) | refine sb_f (fun h => ?_) (fun h => ?_) | (refine c_nd rfl (fun h => ?_) (fun h => ?_) <;> (try simp only [List.length_map] at h)) | (refine c_d rfl (fun h => ?_) (fun h => ?_) <;> (try simp only [List.length_map] at h)) | refine c_nq rfl (fun h => ?_) (fun h => ?_) | refine c_q rfl (fun h => ?_) (fun h => ?_) | refine c_nb rfl (fun h => ?_) (fun h => ?_) | refine c_b rfl (fun h => ?_) (fun h => ?_) | refine And.intro rfl (Exists.intro _ (And.intro rfl ?_)) | refine Exists.intro _ (And.intro rfl ?_))
        refine And.intro rfl ⟨l1F most rounds many r (k + 1), l1H n (stepL n L (k + 1)), moveL [0, 1] rfl (by decide) ⟨.inr ⟨_, rfl, cvO_box n.clean⟩, .inr ⟨_, rfl, cvO_row_as (by rw [hnx]; exact (set_map (f := Attr.cells)).symm) (cA _) (lA _)⟩, trivial⟩ ?_, hlt, rfl, rfl⟩
        refine ⟨?_, ?_, ?_, ?_, ?_, ?_, ?_, trivial⟩ <;> (first | exact .cl _ rfl | exact .cl _ (by assumption) | exact cv_ptr (Nat.le_of_ble_eq_true rfl) rfl | exact .nilS | exact cv_own (Nat.le_of_ble_eq_true rfl) rfl | exact cv_row (Nat.le_of_ble_eq_true rfl) rfl | exact cv_mp (Nat.le_of_ble_eq_true rfl) rfl)
      · rintro E H ⟨hi, rfl, rfl⟩
        have hwr1 : IntKind.i64.wrap ((r : Nat) + 1) = ((r + 1 : Nat) : Int) := by rw [w64 (by omega) (by omega)]; rfl
        (repeat' first | refine t_seq ?_ | refine t_reg ?_ | refine t_skip ?_ | refine t_scope ?_ | refine t_ret ?_ | refine t_exit ?_ | refine lit_t rfl ?_ | refine lit_f rfl ?_ | refine And.intro (And.intro rfl (Nat.le_of_ble_eq_true rfl)) ?_ | refine c_t rfl ?_ | refine c_f rfl ?_)
        refine ⟨_, l1E most rounds many (r + 1), l1H n (learnM n L0 (r + 1)), ?_, moveL [0, 1] rfl (by decide) ⟨.inr ⟨_, rfl, cvO_box n.clean⟩, .inr ⟨_, rfl, cvO_row_as ?_ (cA _) (lA _)⟩, trivial⟩ ?_, r + 1, by omega, rfl, rfl, rfl⟩
        · omega
        · rw [learnM, hLr, hLl]
        · refine ⟨?_, ?_, ?_, ?_, ?_, trivial⟩ <;> first | (first | exact .cl _ rfl | exact .cl _ (by assumption) | exact cv_ptr (Nat.le_of_ble_eq_true rfl) rfl | exact .nilS | exact cv_own (Nat.le_of_ble_eq_true rfl) rfl | exact cv_row (Nat.le_of_ble_eq_true rfl) rfl | exact cv_mp (Nat.le_of_ble_eq_true rfl) rfl) | exact cv_i hwr1.symm
    · generalize hLr : learnM n L0 r = L
      have hLl : L.length = many := by rw [← hLr, learnM_len]; exact hL0l
      refine t_exit ?_
      have cL := clean_sl Attr.clean L
      refine t_move (E' := l1G most L) (H' := [AObj.box n.cells]) (moveL [0] rfl (by decide) ⟨.inr ⟨_, rfl, cvO_box n.clean⟩, trivial⟩ ?_) ?_
      · refine ⟨?_, ?_, ?_, trivial⟩ <;> first | (first | exact .cl _ rfl | exact .cl _ (by assumption) | exact cv_ptr (Nat.le_of_ble_eq_true rfl) rfl | exact .nilS | exact cv_own (Nat.le_of_ble_eq_true rfl) rfl | exact cv_row (Nat.le_of_ble_eq_true rfl) rfl | exact cv_mp (Nat.le_of_ble_eq_true rfl) rfl) | skip
        exact cv_frz rfl (still_of (by rfl) (by rfl)) rfl (by rw [List.length_map]; exact hLl) (cA _) (lA _)
      have hMl : (L.length : Int) ≤ 9223372036854775807 := by omega
      have ho : (n.origin.length : Int) ≤ 1000000 := by omega
      have hg := ofM_ok n L hri ho
      have hgl := ofM_len n L
      have b1 : ∀ m, cleanAll [n.av, .sl (L.map Attr.cells), .i .i64 m] = true := fun m => netl_clean n L m
      have b2 : cleanAll [n.av, .sl (L.map Attr.cells)] = true := by simp only [cleanAll, List.all_cons, clean, Netw.av, n.clean, clean_rows Attr.clean]; rfl
      have b3 : ∀ m, cleanAll [.sl ((ofM n L).map gcells), .sl (n.origin.map bcells), .i .i64 m] = true := fun m => by simp only [cleanAll, List.all_cons, clean, clean_rows gcells_clean, clean_rows (f := bcells) (fun _ => rfl)]; rfl
      have b4 : cleanAll [.sl ((ofM n L).map gcells)] = true := by simp only [cleanAll, List.all_cons, clean, clean_rows gcells_clean]; rfl
      have hhl : ((hopsM (ofM n L) n.origin (IntKind.i64.wrap most)).length) = n.origin.length := by simp [hopsM, hgl]
      have hal : (answersM n L (IntKind.i64.wrap most)).length = n.origin.length := by simp [answersM, hgl]
      have cB : ∀ L : List Bool, clean (.sl (L.map bcells)) = true := fun L => clean_sl (f := bcells) (fun _ => rfl) L
      have cH : ∀ L : List (List Int), clean (.sl (L.map gcells)) = true := fun L => clean_sl gcells_clean L
      have cZ := clean_sl Ans.clean (answersM n L (IntKind.i64.wrap most))
      have hhops : ∀ next ∈ hopsM (ofM n L) n.origin (IntKind.i64.wrap most), (next.length : Int) ≤ 1000000 := by
        intro next hx
        obtain ⟨k, _, rfl⟩ := List.mem_map.1 hx
        have := hopsUp_len (ofM n L) n.origin ((if 256 < IntKind.i64.wrap most then 256 else IntKind.i64.wrap most) + 1).toNat k
        have : (if 256 < IntKind.i64.wrap most then (256 : Int) else IntKind.i64.wrap most) ≤ 256 := by split <;> omega
        omega
      (repeat' first | refine t_seq ?_ | refine t_reg ?_ | refine t_skip ?_ | refine t_scope ?_ | refine t_ret ?_ | refine t_exit ?_ | refine lit_t rfl ?_ | refine lit_f rfl ?_ | refine And.intro (And.intro rfl (Nat.le_of_ble_eq_true rfl)) ?_ | refine c_t rfl ?_ | refine c_f rfl ?_ | (first | refine call_clean (lift_Answers_ev n L (IntKind.i64.wrap most) hn hri ho hMl) (b1 _) ?_ | refine call_clean (forward_Of_ev n L hn hri ho hMl) b2 ?_ | refine call_clean (forward_Hops_ev (ofM n L) n.origin (IntKind.i64.wrap most) hg) (b3 _) ?_ | refine call_clean (forward_Reach_ev (ofM n L) n.origin hg) (gb_clean _ _) ?_ | refine call_clean (forward_Loops_ev (ofM n L) hg) b4 ?_) | (refine sp_t (fun h => ?_) (fun h => ?_) <;> (try simp only [List.length_map] at h)) | (refine sp_f (fun h => ?_) (fun h => ?_) <;> (try simp only [List.length_map] at h)) | refine sq_t (fun h => ?_) (fun h => ?_) | refine sq_f (fun h => ?_) (fun h => ?_) | refine sb_t (fun h => ?_) (fun h => ?_) | refine sb_f (fun h => ?_) (fun h => ?_) | (refine c_nd rfl (fun h => ?_) (fun h => ?_) <;> (try simp only [List.length_map] at h)) | (refine c_d rfl (fun h => ?_) (fun h => ?_) <;> (try simp only [List.length_map] at h)) | refine c_nq rfl (fun h => ?_) (fun h => ?_) | refine c_q rfl (fun h => ?_) (fun h => ?_) | refine c_nb rfl (fun h => ?_) (fun h => ?_) | refine c_b rfl (fun h => ?_) (fun h => ?_) | refine And.intro rfl (Exists.intro _ (And.intro rfl ?_)) | refine Exists.intro _ (And.intro rfl ?_))
      · exact absurd (by simp only [List.length_map, hal, hgl]) h
      have hzl : ((answersM n L (IntKind.i64.wrap most)).map Ans.cells).length = n.origin.length := by rw [List.length_map]; exact hal
      refine t_range ((answersM n L (IntKind.i64.wrap most)).map Ans.cells).length (by omega) (fun i E H => i ≤ ((answersM n L (IntKind.i64.wrap most)).map Ans.cells).length ∧ E = l2E n (IntKind.i64.wrap most) (answersM n L (IntKind.i64.wrap most)) (ofM n L) i ∧ H = []) (l2E n (IntKind.i64.wrap most) (answersM n L (IntKind.i64.wrap most)) (ofM n L) 0) [] ?_ ⟨Nat.zero_le _, rfl, rfl⟩ ?_ ?_ ?_
      · refine moveL [] rfl (by decide) trivial ?_
        refine ⟨?_, ?_, ?_, ?_, ?_, ?_, trivial⟩ <;> first | (first | exact .cl _ rfl | exact .cl _ (by assumption) | exact cv_ptr (Nat.le_of_ble_eq_true rfl) rfl | exact .nilS | exact cv_own (Nat.le_of_ble_eq_true rfl) rfl | exact cv_row (Nat.le_of_ble_eq_true rfl) rfl | exact cv_mp (Nat.le_of_ble_eq_true rfl) rfl) | exact .cl _ (cB _) | exact .cl _ (cH _)
      · rintro i E H ⟨hi, rfl, rfl⟩; exact ⟨hi, rfl, rfl⟩
      · rintro i E H hlt ⟨hi, rfl, rfl⟩
        have r0 : i < (answersM n L (IntKind.i64.wrap most)).length := by omega
        have r1 : i < (reachM (ofM n L) n.origin (ofM n L).length).length := by rw [reachM_len]; omega
        have r2 : i < (loopsM (ofM n L) (ofM n L).length).length := by rw [loopsM_len]; omega
        have r3 : i < (hopsM (ofM n L) n.origin (IntKind.i64.wrap most)).length := by omega
        have hk : (answersM n L (IntKind.i64.wrap most))[i] = (Ans.mk (((reachM (ofM n L) n.origin (ofM n L).length)[i])) (((loopsM (ofM n L) (ofM n L).length)[i])) (((hopsM (ofM n L) n.origin (IntKind.i64.wrap most))[i]))) := by
          rw [answersM_at]
          unfold ansK; rw [getD_of r1, getD_of r2, getD_of r3]
        have hat : ((answersM n L (IntKind.i64.wrap most)).map Ans.cells)[((i : Nat) : Int).toNat]? = some (Ans.cells (Ans.mk (((reachM (ofM n L) n.origin (ofM n L).length)[i])) (((loopsM (ofM n L) (ofM n L).length)[i])) (((hopsM (ofM n L) n.origin (IntKind.i64.wrap most))[i])))) := by
          rw [row_at r0, hk]
        have hh := hhops _ (List.getElem_mem r3)
        have hself : ∀ a : Ans, ansSame a a = true := fun a => by simp [ansSame]
        have hsm := lift_Same_ev (G := G) (Ans.mk (((reachM (ofM n L) n.origin (ofM n L).length)[i])) (((loopsM (ofM n L) (ofM n L).length)[i])) (((hopsM (ofM n L) n.origin (IntKind.i64.wrap most))[i]))) (Ans.mk (((reachM (ofM n L) n.origin (ofM n L).length)[i])) (((loopsM (ofM n L) (ofM n L).length)[i])) (((hopsM (ofM n L) n.origin (IntKind.i64.wrap most))[i]))) (by show (List.length ((hopsM (ofM n L) n.origin (IntKind.i64.wrap most))[i]) : Int) ≤ _; omega)
        rw [hself] at hsm
        have hcl : ∀ a b : Ans, cleanAll [a.av, b.av] = true := fun a b => by simp only [cleanAll, List.all_cons, Ans.av, clean, Ans.clean]; rfl
        have hcs := hcl (Ans.mk (((reachM (ofM n L) n.origin (ofM n L).length)[i])) (((loopsM (ofM n L) (ofM n L).length)[i])) (((hopsM (ofM n L) n.origin (IntKind.i64.wrap most))[i]))) (Ans.mk (((reachM (ofM n L) n.origin (ofM n L).length)[i])) (((loopsM (ofM n L) (ofM n L).length)[i])) (((hopsM (ofM n L) n.origin (IntKind.i64.wrap most))[i])))
        (repeat' first | refine t_seq ?_ | refine t_reg ?_ | refine t_skip ?_ | refine t_scope ?_ | refine t_ret ?_ | refine t_exit ?_ | refine lit_t rfl ?_ | refine lit_f rfl ?_ | refine And.intro (And.intro rfl (Nat.le_of_ble_eq_true rfl)) ?_ | refine c_t rfl ?_ | refine c_f rfl ?_ | (first | refine And.intro (Int.natCast_nonneg i) (Exists.intro _ (And.intro hat (And.intro rfl ?_))) | refine And.intro (Int.natCast_nonneg i) (Exists.intro _ (And.intro (row_at r1) (And.intro rfl ?_))) | refine And.intro (Int.natCast_nonneg i) (Exists.intro _ (And.intro (row_at r2) (And.intro rfl ?_))) | refine And.intro (Int.natCast_nonneg i) (Exists.intro _ (And.intro (row_at r3) (And.intro rfl ?_))) | refine frcV_go ?_ | refine call_clean hsm hcs ?_) | (refine sp_t (fun h => ?_) (fun h => ?_) <;> (try simp only [List.length_map] at h)) | (refine sp_f (fun h => ?_) (fun h => ?_) <;> (try simp only [List.length_map] at h)) | refine sq_t (fun h => ?_) (fun h => ?_) | refine sq_f (fun h => ?_) (fun h => ?_) | refine sb_t (fun h => ?_) (fun h => ?_) | refine sb_f (fun h => ?_) (fun h => ?_) | (refine c_nd rfl (fun h => ?_) (fun h => ?_) <;> (try simp only [List.length_map] at h)) | (refine c_d rfl (fun h => ?_) (fun h => ?_) <;> (try simp only [List.length_map] at h)) | refine c_nq rfl (fun h => ?_) (fun h => ?_) | refine c_q rfl (fun h => ?_) (fun h => ?_) | refine c_nb rfl (fun h => ?_) (fun h => ?_) | refine c_b rfl (fun h => ?_) (fun h => ?_) | refine And.intro rfl (Exists.intro _ (And.intro rfl ?_)) | refine Exists.intro _ (And.intro rfl ?_))
        refine And.intro rfl ⟨l2E n (IntKind.i64.wrap most) (answersM n L (IntKind.i64.wrap most)) (ofM n L) (i + 1), [], moveL [] rfl (by decide) trivial ?_, hlt, rfl, rfl⟩
        refine ⟨?_, ?_, ?_, ?_, ?_, ?_, trivial⟩ <;> first | (first | exact .cl _ rfl | exact .cl _ (by assumption) | exact cv_ptr (Nat.le_of_ble_eq_true rfl) rfl | exact .nilS | exact cv_own (Nat.le_of_ble_eq_true rfl) rfl | exact cv_row (Nat.le_of_ble_eq_true rfl) rfl | exact cv_mp (Nat.le_of_ble_eq_true rfl) rfl) | exact .cl _ (cB _) | exact .cl _ (cH _)
      · rintro E H ⟨hi, rfl, rfl⟩
        (repeat' first | refine t_seq ?_ | refine t_reg ?_ | refine t_skip ?_ | refine t_scope ?_ | refine t_ret ?_ | refine t_exit ?_ | refine lit_t rfl ?_ | refine lit_f rfl ?_ | refine And.intro (And.intro rfl (Nat.le_of_ble_eq_true rfl)) ?_ | refine c_t rfl ?_ | refine c_f rfl ?_ | (refine sp_t (fun h => ?_) (fun h => ?_) <;> (try simp only [List.length_map] at h)) | (refine sp_f (fun h => ?_) (fun h => ?_) <;> (try simp only [List.length_map] at h)) | refine sq_t (fun h => ?_) (fun h => ?_) | refine sq_f (fun h => ?_) (fun h => ?_) | refine sb_t (fun h => ?_) (fun h => ?_) | refine sb_f (fun h => ?_) (fun h => ?_) | (refine c_nd rfl (fun h => ?_) (fun h => ?_) <;> (try simp only [List.length_map] at h)) | (refine c_d rfl (fun h => ?_) (fun h => ?_) <;> (try simp only [List.length_map] at h)) | refine c_nq rfl (fun h => ?_) (fun h => ?_) | refine c_q rfl (fun h => ?_) (fun h => ?_) | refine c_nb rfl (fun h => ?_) (fun h => ?_) | refine c_b rfl (fun h => ?_) (fun h => ?_) | refine And.intro (by omega) (Exists.intro _ (And.intro (row_atN (by omega)) (And.intro rfl ?_))) | refine And.intro rfl (Exists.intro _ (And.intro rfl ?_)) | refine Exists.intro _ (And.intro rfl ?_))
        rfl
end Go.Proofs.Ythpcjekmgohelaa.Ab
