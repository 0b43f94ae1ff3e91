/- PLAIN LAWS, 1: of graphs: who reaches, in how many steps. No program in sight. -/
import Derived.Test.YthpcjekmgohelaaLib17
import Derived.Test.YthpcjekmgohelaaLib22
set_option linter.unusedVariables false
set_option linter.unusedSimpArgs false
namespace Go.Proofs.Ythpcjekmgohelaa.Ab
open Go Go.Proofs
set_option linter.unusedVariables false
set_option linter.unusedSimpArgs false

theorem getB_none {L : List Bool} {k : Nat} (h : ¬ k < L.length) : L.getD k false = false := by
  rw [List.getD_eq_getElem?_getD, List.getElem?_eq_none (by omega)]; rfl
theorem onB_eq (to : List Bool) (x : Int) : onB to x = (decide (0 ≤ x) && to.getD x.toNat false) := by
  unfold onB
  by_cases h : 0 ≤ x
  · by_cases e : x < to.length
    · simp [h, e]
    · have : to.getD x.toNat false = false := getB_none (by omega)
      rw [this]; simp
  · simp [h]
theorem stepM_at (g : List (List Int)) (to : List Bool) (k : Nat) : (stepM g to).getD k false = (g.getD k []).any (onB to) := by
  by_cases h : k < g.length
  · rw [getD_of (by rw [stepM_len]; exact h), getD_of h]; simp [stepM]
  · rw [getB_none (by rw [stepM_len]; exact h), List.getD_eq_getElem?_getD, List.getElem?_eq_none (by omega)]; rfl
theorem stepM_true {g : List (List Int)} {to : List Bool} {k : Nat} : (stepM g to).getD k false = true ↔ ∃ x ∈ g.getD k [], 0 ≤ x ∧ to.getD x.toNat false = true := by
  rw [stepM_at, List.any_eq_true]
  simp only [onB_eq, Bool.and_eq_true, decide_eq_true_eq]
theorem reach_succ (g : List (List Int)) (to : List Bool) (m k : Nat) : (reachM g to (m + 1)).getD k false = ((reachM g to m).getD k false || (stepM g (reachM g to m)).getD k false) := by
  by_cases h : k < g.length
  · have h1 : k < (reachM g to (m + 1)).length := by rw [reachM_len]; exact h
    rw [getD_of h1, getD_of (by rw [reachM_len]; exact h), getD_of (by rw [stepM_len]; exact h)]
    simp [reachM]
  · rw [getB_none (by rw [reachM_len]; exact h), getB_none (by rw [reachM_len]; exact h), getB_none (by rw [stepM_len]; exact h)]; rfl
theorem reach_now (g : List (List Int)) (to : List Bool) : ∀ m k, (reachM g to m).getD k false = true ↔ ∃ j, j ≤ m ∧ (nowM g to j).getD k false = true
  | 0, k => by
    constructor
    · intro h; exact ⟨0, Nat.le_refl _, h⟩
    · rintro ⟨j, hj, h⟩
      obtain rfl : j = 0 := by omega
      exact h
  | m + 1, k => by
    rw [reach_succ, Bool.or_eq_true, stepM_true]
    constructor
    · rintro (h | ⟨x, hx, h0, h⟩)
      · obtain ⟨j, hj, h⟩ := (reach_now g to m k).1 h
        exact ⟨j, by omega, h⟩
      · obtain ⟨j, hj, h⟩ := (reach_now g to m _).1 h
        exact ⟨j + 1, by omega, stepM_true.2 ⟨x, hx, h0, h⟩⟩
    · rintro ⟨j, hj, h⟩
      by_cases e : j ≤ m
      · exact .inl ((reach_now g to m k).2 ⟨j, e, h⟩)
      · obtain rfl : j = m + 1 := by omega
        obtain ⟨x, hx, h0, h⟩ := stepM_true.1 (show (stepM g (nowM g to m)).getD k false = true from h)
        exact .inr ⟨x, hx, h0, (reach_now g to m _).2 ⟨m, Nat.le_refl _, h⟩⟩

theorem count_or : ∀ (A S : List Bool), A.length = S.length → (List.zipWith (· || ·) A S = A) ∨ A.count true + 1 ≤ (List.zipWith (· || ·) A S).count true
  | [], [], _ => .inl rfl
  | a :: A, s :: S, h => by
    have hl : A.length = S.length := by simpa using h
    have hle : ∀ (A S : List Bool), A.length = S.length → A.count true ≤ (List.zipWith (· || ·) A S).count true := by
      intro A
      induction A with
      | nil => intro S _; simp
      | cons a A ih =>
        intro S h
        cases S with
        | nil => simp at h
        | cons s S =>
          have := ih S (by simpa using h)
          cases a <;> cases s <;> simp [List.count_cons] <;> omega
    have h2 := hle A S hl
    rcases count_or A S hl with h1 | h1
    · cases a <;> cases s
      · left; simp [h1]
      · right; simp [List.count_cons]; omega
      · left; simp [h1]
      · left; simp [h1]
    · right
      cases a <;> cases s <;> simp [List.count_cons] <;> omega
theorem reach_same {g : List (List Int)} {to : List Bool} {i : Nat} (h : reachM g to (i + 1) = reachM g to i) : ∀ d, reachM g to (i + d) = reachM g to i
  | 0 => rfl
  | d + 1 => by
    have ih := reach_same h d
    have h1 : reachM g to (i + d + 1) = List.zipWith (· || ·) (reachM g to (i + d)) (stepM g (reachM g to (i + d))) := rfl
    rw [ih] at h1
    exact h1.trans h
theorem reach_chain (g : List (List Int)) (to : List Bool) : ∀ m, (∃ i, i < m ∧ reachM g to (i + 1) = reachM g to i) ∨ (reachM g to 0).count true + m ≤ (reachM g to m).count true
  | 0 => .inr (by simp)
  | m + 1 => by
    rcases reach_chain g to m with ⟨i, hi, h⟩ | h
    · exact .inl ⟨i, by omega, h⟩
    · rcases count_or (reachM g to m) (stepM g (reachM g to m)) (by rw [reachM_len, stepM_len]) with h1 | h1
      · exact .inl ⟨m, by omega, h1⟩
      · refine .inr ?_
        show _ ≤ (List.zipWith (· || ·) (reachM g to m) (stepM g (reachM g to m))).count true
        omega
theorem now_none {g : List (List Int)} {to : List Bool} (h : ∀ k, (nowM g to 0).getD k false = false) : ∀ j k, (nowM g to j).getD k false = false
  | 0, k => h k
  | j + 1, k => by
    rw [Bool.eq_false_iff]
    intro hc
    obtain ⟨x, _, _, hx⟩ := stepM_true.1 (show (stepM g (nowM g to j)).getD k false = true from hc)
    rw [now_none h j] at hx; cases hx
/-- Who is come to in some number of steps is come to in a number below that of nodes. -/
theorem now_few {g : List (List Int)} {to : List Bool} {j k : Nat} (hk : k < g.length) (h : (nowM g to j).getD k false = true) : ∃ i, i < g.length ∧ (nowM g to i).getD k false = true := by
  have hc0 : 1 ≤ (reachM g to 0).count true := by
    by_cases e : ∀ q, (nowM g to 0).getD q false = false
    · rw [now_none e] at h; cases h
    · simp only [Classical.not_forall, Bool.not_eq_false] at e
      obtain ⟨q, hq⟩ := e
      have hq' : q < (nowM g to 0).length := by
        by_cases e : q < (nowM g to 0).length
        · exact e
        · rw [getB_none e] at hq; cases hq
      rw [getD_of hq'] at hq
      exact List.count_pos_iff.2 (hq ▸ List.getElem_mem hq')
  have hle : (reachM g to g.length).count true ≤ g.length := by
    have := List.count_le_length (a := true) (l := reachM g to g.length)
    rwa [reachM_len] at this
  rcases reach_chain g to g.length with ⟨i, hi, hs⟩ | h1
  · have hR : (reachM g to i).getD k false = true := by
      by_cases e : j ≤ i
      · exact (reach_now g to i k).2 ⟨j, e, h⟩
      · have := (reach_now g to (i + (j - i)) k).2 ⟨j, by omega, h⟩
        rwa [reach_same hs] at this
    obtain ⟨q, hq, h⟩ := (reach_now g to i k).1 hR
    exact ⟨q, by omega, h⟩
  · omega
theorem hops_mem {g : List (List Int)} {to : List Bool} {c k : Nat} {x : Int} : x ∈ hopsUp g to c k ↔ ∃ m : Nat, m < c ∧ (nowM g to m).getD k false = true ∧ x = m := by
  unfold hopsUp
  simp only [List.mem_map, List.mem_filter, List.mem_range]
  constructor
  · rintro ⟨m, ⟨h1, h2⟩, rfl⟩; exact ⟨m, h1, h2, rfl⟩
  · rintro ⟨m, h1, h2, rfl⟩; exact ⟨m, ⟨h1, h2⟩, rfl⟩
theorem hops_rise (g : List (List Int)) (to : List Bool) (c k : Nat) : (hopsUp g to c k).Pairwise (· < ·) := by
  unfold hopsUp
  refine List.pairwise_map.2 ((List.Pairwise.filter _ List.pairwise_lt_range).imp fun h => ?_)
  exact Int.ofNat_lt.2 h
theorem hops_reach {g : List (List Int)} {to : List Bool} {c k : Nat} (hk : k < g.length) (hc : g.length < c) : (reachM g to g.length).getD k false = true ↔ 0 < (hopsUp g to c k).length := by
  rw [reach_now, List.length_pos_iff_exists_mem]
  constructor
  · rintro ⟨j, hj, h⟩
    exact ⟨j, hops_mem.2 ⟨j, by omega, h, rfl⟩⟩
  · rintro ⟨x, hx⟩
    obtain ⟨m, hm, h, rfl⟩ := hops_mem.1 hx
    obtain ⟨i, hi, h⟩ := now_few hk h
    exact ⟨i, by omega, h⟩
theorem hops_first {g : List (List Int)} {to : List Bool} {c k : Nat} (hk : k < g.length) (hc : g.length < c) (h0 : 0 < (hopsUp g to c k).length) : (hopsUp g to c k)[0] < (g.length : Int) := by
  obtain ⟨m, hm, h, _⟩ := hops_mem.1 (List.getElem_mem h0)
  obtain ⟨i, hi, h⟩ := now_few hk h
  obtain ⟨q, hq, he⟩ := List.mem_iff_getElem.1 (hops_mem.2 ⟨i, by omega, h, rfl⟩ : (i : Int) ∈ hopsUp g to c k)
  by_cases e : q = 0
  · subst e; rw [he]; omega
  · have := List.pairwise_iff_getElem.1 (hops_rise g to c k) 0 q h0 hq (by omega)
    omega
/-- A node that sends nowhere and is where one goes. -/
theorem hops_here {g : List (List Int)} {to : List Bool} {c k : Nat} (hk : k < g.length) (hg : g.getD k [] = []) (ht : to.getD k false = true) : hopsUp g to (c + 1) k = [0] := by
  have h0 : (nowM g to 0).getD k false = true := by
    have hk2 : k < to.length := by
      by_cases e : k < to.length
      · exact e
      · rw [getB_none e] at ht; cases ht
    rw [getD_of hk2] at ht
    show (startL to g.length).getD k false = true
    unfold startL
    rw [List.getD_eq_getElem?_getD, List.getElem?_append_left (by simp; omega), List.getElem?_take_of_lt hk, List.getElem?_eq_getElem hk2]
    exact ht
  have hs : ∀ m, (nowM g to (m + 1)).getD k false = false := fun m => by
    show (stepM g (nowM g to m)).getD k false = false
    rw [stepM_at, hg]; rfl
  unfold hopsUp
  rw [List.range_succ_eq_map, List.filter_cons, if_pos h0, List.filter_map]
  have : (List.range c).filter ((fun m => (nowM g to m).getD k false) ∘ Nat.succ) = [] := by
    rw [List.filter_eq_nil_iff]
    intro m _
    show ¬ (nowM g to (m + 1)).getD k false = true
    rw [hs]; decide
  rw [this]; rfl
theorem loops_here {g : List (List Int)} {k : Nat} (hk : k < g.length) (hg : g.getD k [] = []) : (loopsM g g.length).getD k false = false := by
  obtain ⟨m, hm⟩ : ∃ m, g.length = m + 1 := ⟨g.length - 1, by omega⟩
  rw [hm]
  show (stepM g (loopsM g m)).getD k false = false
  rw [stepM_at, hg]; rfl
end Go.Proofs.Ythpcjekmgohelaa.Ab

/- FUNCTIONS, 31: LiftMore. -/
namespace Go.Proofs.Ythpcjekmgohelaa.Ab
open Go Go.Proofs
set_option linter.unusedVariables false
set_option linter.unusedSimpArgs false

variable {G : GI}
abbrev q1E (rounds most : Int) (many r : Nat) : Slots := [(13, .i .i64 (r : Nat)), (12, .row 1 many), (9, .ptr 0 0), (3, .i .u8 most), (2, .i .u8 rounds)]
abbrev q1F (rounds most : Int) (many r k : Nat) : Slots := [(42, .i .i64 (k : Nat)), (41, .i .i64 (many : Nat)), (13, .i .i64 (r : Nat)), (12, .row 1 many), (9, .ptr 0 0), (3, .i .u8 most), (2, .i .u8 rounds)]
abbrev q1G (most : Int) (L : List Attr) : Slots := [(12, .sl (L.map Attr.cells)), (9, .ptr 0 0), (3, .i .u8 most)]
abbrev q2E (L : List Attr) (Z : List Ans) (i : Nat) : Slots := [(69, .i .i64 (i : Nat)), (68, .i .i64 ((Z.map Ans.cells).length : Nat)), (67, .sl (Z.map Ans.cells)), (12, .sl (L.map Attr.cells)), (9, .ptr 0 0)]

/-- What holds of each answer. -/
theorem answers_more (n : Netw) (L : List Attr) (most : Int) (hm : (n.origin.length : Int) ≤ most) (hm2 : n.origin.length ≤ 256) (i : Nat) (hi : i < (answersM n L most).length) (ho : i < n.origin.length) :
    ((answersM n L most)[i].reach = true ↔ 0 < (answersM n L most)[i].hops.length) ∧ (∀ h : 0 < (answersM n L most)[i].hops.length, (answersM n L most)[i].hops[0] < (n.origin.length : Int)) ∧ (n.origin[i] = true → (answersM n L most)[i].hops = [0] ∧ (answersM n L most)[i].loop = false) := by
  have hgl := ofM_len n L
  have hig : i < (ofM n L).length := by omega
  have r1 : i < (reachM (ofM n L) n.origin (ofM n L).length).length := by rw [reachM_len]; omega
  have r3 : i < (hopsM (ofM n L) n.origin most).length := by simp [hopsM]; omega
  obtain ⟨c, hc⟩ : ∃ c, ((if 256 < most then 256 else most) + 1).toNat = c + 1 := ⟨((if 256 < most then 256 else most) + 1).toNat - 1, by split <;> omega⟩
  have hcl : (ofM n L).length < c + 1 := by rw [← hc, hgl]; split <;> omega
  have hh : (hopsM (ofM n L) n.origin most).getD i [] = hopsUp (ofM n L) n.origin (c + 1) i := by rw [getD_of r3]; simp [hopsM, hc]
  rw [answersM_at]
  unfold ansK
  simp only [hh]
  refine ⟨hops_reach hig hcl, fun h => hgl ▸ hops_first hig hcl h, fun hor => ?_⟩
  have hg : (ofM n L).getD i [] = [] := by
    rw [getD_of hig]; simp only [ofM, List.getElem_map, List.getElem_range]
    unfold ofRow; rw [if_pos (by rw [getD_of ho]; exact hor)]
  exact ⟨hops_here hig hg (by rw [getD_of ho]; exact hor), loops_here hig hg⟩

set_option maxHeartbeats 2000000 in
theorem law_LiftMore_true {a0 a1 a2 a3 : AVal} (h0 : hasA true pt_Shape a0) (h1 : hasA false pt_uint8 a1) (h2 : hasA false pt_uint8 a2) (h3 : hasA false pt_uint8 a3) :
    EvP Try.prog G fn_maquettelaw23_LiftMore [a0, a1, a2, a3] (.b true) := by
  obtain ⟨s, rfl, hs⟩ := shape_of h0
  obtain ⟨which, rfl, hw⟩ := u8_of h1
  obtain ⟨rounds, rfl, hr⟩ := u8_of h2
  obtain ⟨most, rfl, hm⟩ := u8_of h3
  clear h0 h1 h2 h3
  have ca : cleanAll [s.av, .i .u8 which] = true := by simp only [cleanAll, List.all_cons, Shp.av, clean, s.clean]; rfl
  have hnet := law15_Net_ev (G := G) s which hs hw
  refine evP c_maquettelaw23_LiftMore rfl ?_
  by_cases hz : (classesM (confM s)).length = 0
  · unfold netOf at hnet
    rw [if_pos hz] at hnet
    (repeat' first | refine t_seq ?_ | refine t_reg ?_ | refine t_skip ?_ | refine t_scope ?_ | refine t_ret ?_ | refine t_exit ?_ | refine lit_t rfl ?_ | refine lit_f rfl ?_ | refine And.intro (And.intro rfl (Nat.le_of_ble_eq_true rfl)) ?_ | refine c_t rfl ?_ | refine c_f rfl ?_ | (first | refine call_clean law23_awake_ev rfl ?_ | refine call_clean hnet ca ?_) | (refine sp_t (fun h => ?_) (fun h => ?_) <;> (try simp only [List.length_map] at h)) | (refine sp_f (fun h => ?_) (fun h => ?_) <;> (try simp only [List.length_map] at h)) | refine sq_t (fun h => ?_) (fun h => ?_) | refine sq_f (fun h => ?_) (fun h => ?_) | refine sb_t (fun h => ?_) (fun h => ?_) | refine sb_f (fun h => ?_) (fun h => ?_) | (refine c_nd rfl (fun h => ?_) (fun h => ?_) <;> (try simp only [List.length_map] at h)) | (refine c_d rfl (fun h => ?_) (fun h => ?_) <;> (try simp only [List.length_map] at h)) | refine c_nq rfl (fun h => ?_) (fun h => ?_) | refine c_q rfl (fun h => ?_) (fun h => ?_) | refine c_nb rfl (fun h => ?_) (fun h => ?_) | refine c_b rfl (fun h => ?_) (fun h => ?_) | refine And.intro rfl (Exists.intro _ (And.intro rfl ?_)) | refine Exists.intro _ (And.intro rfl ?_))
    rfl
  · unfold netOf at hnet
    rw [if_neg hz] at hnet
    have hn := net_ok s hs (toM s which)
    have hri := net_rise s hs (toM s which)
    have hnl := net_len s (toM s which)
    have hn8 := shp_n s hs
    generalize netM (confM s) (toM s which) = n at hnet hn hri hnl
    have hlo : (n.origin.map bcells).length = s.n := by simp [hnl]
    have cA : ∀ L : List Attr, cleanLL (L.map Attr.cells) = true := fun L => clean_rows Attr.clean _
    have lA : ∀ L : List Attr, ∀ r ∈ L.map Attr.cells, r.length = 4 := fun L => len_rows (f := Attr.cells) (fun _ => rfl) _
    (repeat' first | refine t_seq ?_ | refine t_reg ?_ | refine t_skip ?_ | refine t_scope ?_ | refine t_ret ?_ | refine t_exit ?_ | refine lit_t rfl ?_ | refine lit_f rfl ?_ | refine And.intro (And.intro rfl (Nat.le_of_ble_eq_true rfl)) ?_ | refine c_t rfl ?_ | refine c_f rfl ?_ | (first | refine call_clean law23_awake_ev rfl ?_ | refine call_clean hnet ca ?_) | (refine sp_t (fun h => ?_) (fun h => ?_) <;> (try simp only [List.length_map] at h)) | (refine sp_f (fun h => ?_) (fun h => ?_) <;> (try simp only [List.length_map] at h)) | refine sq_t (fun h => ?_) (fun h => ?_) | refine sq_f (fun h => ?_) (fun h => ?_) | refine sb_t (fun h => ?_) (fun h => ?_) | refine sb_f (fun h => ?_) (fun h => ?_) | (refine c_nd rfl (fun h => ?_) (fun h => ?_) <;> (try simp only [List.length_map] at h)) | (refine c_d rfl (fun h => ?_) (fun h => ?_) <;> (try simp only [List.length_map] at h)) | refine c_nq rfl (fun h => ?_) (fun h => ?_) | refine c_q rfl (fun h => ?_) (fun h => ?_) | refine c_nb rfl (fun h => ?_) (fun h => ?_) | refine c_b rfl (fun h => ?_) (fun h => ?_) | refine And.intro rfl (Exists.intro _ (And.intro rfl ?_)) | refine Exists.intro _ (And.intro rfl ?_))
    refine And.intro (And.intro rfl ?_) ?_
    · exact ⟨by omega, by omega, by omega, rfl⟩
    (repeat' first | refine t_seq ?_ | refine t_reg ?_ | refine t_skip ?_ | refine t_scope ?_ | refine t_ret ?_ | refine t_exit ?_ | refine lit_t rfl ?_ | refine lit_f rfl ?_ | refine And.intro (And.intro rfl (Nat.le_of_ble_eq_true rfl)) ?_ | refine c_t rfl ?_ | refine c_f rfl ?_)
    generalize hmany : (n.origin.map bcells).length = many at hlo
    obtain ⟨L0, hL0⟩ : ∃ L0, L0 = List.replicate many Attr.zero := ⟨_, rfl⟩
    have hL0l : L0.length = many := by rw [hL0]; simp
    have hrr0 := Int.tmod_nonneg 6 hr.1
    have hrr1 := Int.tmod_lt_of_pos rounds (show (0 : Int) < 6 by decide)
    have hwr : IntKind.i64.wrap (rounds.tmod 6) = rounds.tmod 6 := w64 (by omega) (by omega)
    have hfz : ∀ (L : List Attr) (k : Nat), L.length = many → frzAll (l1H n L) [n.av, .row 1 many, .i .i64 (k : Nat)] = some [n.av, .sl (L.map Attr.cells), .i .i64 (k : Nat)] := by
      intro L k hL
      have f1 : frz (l1H n L) n.av = some n.av := frz_clean (by simp only [Netw.av, clean, n.clean])
      have f2 : frz (l1H n L) (.row 1 many) = some (.sl (L.map Attr.cells)) := frz_row rfl rfl (by rw [List.length_map]; exact hL) (cA L)
      have f3 : frz (l1H n L) (.i .i64 (k : Nat)) = some (.i .i64 (k : Nat)) := frz_clean rfl
      simp only [frzAll, f1, f2, f3]
    refine t_block (t_loopM (fun w E H => ∃ r : Nat, (r : Int) ≤ rounds.tmod 6 ∧ w = (rounds.tmod 6 - r).toNat ∧ E = q1E rounds most many r ∧ H = l1H n (learnM n L0 r)) _ (q1E rounds most many 0) (l1H n (learnM n L0 0)) ?_ ⟨0, by omega, rfl, rfl, rfl⟩ ?_)
    · refine moveL [1, 3] rfl (by decide) ⟨.inr ⟨_, rfl, cvO_box n.clean⟩, .inr ⟨_, rfl, cvO_row_as (rows' := L0.map Attr.cells) (by rw [hL0, List.map_replicate, Int.toNat_natCast]; rfl) (cA _) (lA _)⟩, trivial⟩ ?_
      refine ⟨?_, ?_, ?_, ?_, ?_, trivial⟩ <;> first | (first | exact .cl _ rfl | exact .cl _ (by assumption) | exact cv_ptr (Nat.le_of_ble_eq_true rfl) rfl | exact .nilS | exact cv_own (Nat.le_of_ble_eq_true rfl) rfl | exact cv_row (Nat.le_of_ble_eq_true rfl) rfl | exact cv_mp (Nat.le_of_ble_eq_true rfl) rfl) | exact cv_row_as (Nat.le_of_ble_eq_true rfl) rfl rfl
    rintro w E H ⟨r, hrl, rfl, rfl, rfl⟩
    refine t_seq (t_seq (t_reg ?_))
    refine And.intro rfl (And.intro (by decide) ?_)
    refine c_d rfl (fun h => ?_) (fun h => ?_)
    · rw [hwr] at h
      refine t_skip ?_
      refine t_seq (t_block ?_)
      (repeat' first | refine t_seq ?_ | refine t_reg ?_ | refine t_skip ?_ | refine t_scope ?_ | refine t_ret ?_ | refine t_exit ?_ | refine lit_t rfl ?_ | refine lit_f rfl ?_ | refine And.intro (And.intro rfl (Nat.le_of_ble_eq_true rfl)) ?_ | refine c_t rfl ?_ | refine c_f rfl ?_)
      generalize hLr : learnM n L0 r = L
      have hLl : L.length = many := by rw [← hLr, learnM_len]; exact hL0l
      refine t_range many (by omega) (fun k E H => k ≤ many ∧ E = q1F rounds most many r k ∧ H = l1H n (stepL n L k)) (q1F rounds most many r 0) (l1H n (stepL n L 0)) ?_ ⟨Nat.zero_le _, rfl, rfl⟩ ?_ ?_ ?_
      · refine moveL [0, 1] rfl (by decide) ⟨.inr ⟨_, rfl, cvO_box n.clean⟩, .inr ⟨_, rfl, cvO_row_as rfl (cA _) (lA _)⟩, trivial⟩ ?_
        refine ⟨?_, ?_, ?_, ?_, ?_, ?_, ?_, trivial⟩ <;> (first | exact .cl _ rfl | exact .cl _ (by assumption) | exact cv_ptr (Nat.le_of_ble_eq_true rfl) rfl | exact .nilS | exact cv_own (Nat.le_of_ble_eq_true rfl) rfl | exact cv_row (Nat.le_of_ble_eq_true rfl) rfl | exact cv_mp (Nat.le_of_ble_eq_true rfl) rfl)
      · rintro k E H ⟨hi, rfl, rfl⟩; exact ⟨hi, rfl, rfl⟩
      · rintro k E H hlt ⟨hi, rfl, rfl⟩
        have hKl : (stepL n L k).length = many := by rw [stepL_len]; exact hLl
        have hnx : stepL n L (k + 1) = (stepL n L k).set k (choiceM n (stepL n L k) (k : Int)) := rfl
        generalize stepL n L k = K at hKl hnx ⊢
        have hch := stable_Choice_ev (G := G) n K (k : Nat) hn (by omega)
        have hat := rows_at (f := Attr.cells) (List.getElem?_eq_getElem (show k < K.length by omega))
        (repeat' first | refine t_seq ?_ | refine t_reg ?_ | refine t_skip ?_ | refine t_scope ?_ | refine t_ret ?_ | refine t_exit ?_ | refine lit_t rfl ?_ | refine lit_f rfl ?_ | refine And.intro (And.intro rfl (Nat.le_of_ble_eq_true rfl)) ?_ | refine c_t rfl ?_ | refine c_f rfl ?_ | (first | refine call_flat hch (hfz K k hKl) (flat_attr _) ?_ | refine And.intro (And.intro rfl (And.intro rfl (Nat.le_of_ble_eq_true rfl))) (Exists.intro _ (And.intro (hat) ?_)) | refine And.intro (And.intro (by omega) (by omega)) ?_) | (refine sp_t (fun h => ?_) (fun h => ?_) <;> (try simp only [List.length_map] at h)) | (refine sp_f (fun h => ?_) (fun h => ?_) <;> (try simp only [List.length_map] at h)) | refine sq_t (fun h => ?_) (fun h => ?_) | refine sq_f (fun h => ?_) (fun h => ?_) | refine sb_t (fun h => ?_) (fun h => ?_) | refine sb_f (fun h => ?_) (fun h => ?_) | (refine c_nd rfl (fun h => ?_) (fun h => ?_) <;> (try simp only [List.length_map] at h)) | (refine c_d rfl (fun h => ?_) (fun h => ?_) <;> (try simp only [List.length_map] at h)) | refine c_nq rfl (fun h => ?_) (fun h => ?_) | refine c_q rfl (fun h => ?_) (fun h => ?_) | refine c_nb rfl (fun h => ?_) (fun h => ?_) | refine c_b rfl (fun h => ?_) (fun h => ?_) | refine And.intro rfl (Exists.intro _ (And.intro rfl ?_)) | refine Exists.intro _ (And.intro rfl ?_))
        refine And.intro rfl ⟨q1F rounds most many r (k + 1), l1H n (stepL n L (k + 1)), moveL [0, 1] rfl (by decide) ⟨.inr ⟨_, rfl, cvO_box n.clean⟩, .inr ⟨_, rfl, cvO_row_as (by rw [hnx]; exact (set_map (f := Attr.cells)).symm) (cA _) (lA _)⟩, trivial⟩ ?_, hlt, rfl, rfl⟩
        refine ⟨?_, ?_, ?_, ?_, ?_, ?_, ?_, trivial⟩ <;> (first | exact .cl _ rfl | exact .cl _ (by assumption) | exact cv_ptr (Nat.le_of_ble_eq_true rfl) rfl | exact .nilS | exact cv_own (Nat.le_of_ble_eq_true rfl) rfl | exact cv_row (Nat.le_of_ble_eq_true rfl) rfl | exact cv_mp (Nat.le_of_ble_eq_true rfl) rfl)
      · rintro E H ⟨hi, rfl, rfl⟩
        have hwr1 : IntKind.i64.wrap ((r : Nat) + 1) = ((r + 1 : Nat) : Int) := by rw [w64 (by omega) (by omega)]; rfl
        (repeat' first | refine t_seq ?_ | refine t_reg ?_ | refine t_skip ?_ | refine t_scope ?_ | refine t_ret ?_ | refine t_exit ?_ | refine lit_t rfl ?_ | refine lit_f rfl ?_ | refine And.intro (And.intro rfl (Nat.le_of_ble_eq_true rfl)) ?_ | refine c_t rfl ?_ | refine c_f rfl ?_)
        refine ⟨_, q1E rounds most many (r + 1), l1H n (learnM n L0 (r + 1)), ?_, moveL [0, 1] rfl (by decide) ⟨.inr ⟨_, rfl, cvO_box n.clean⟩, .inr ⟨_, rfl, cvO_row_as ?_ (cA _) (lA _)⟩, trivial⟩ ?_, r + 1, by omega, rfl, rfl, rfl⟩
        · omega
        · rw [learnM, hLr, hLl]
        · refine ⟨?_, ?_, ?_, ?_, ?_, trivial⟩ <;> first | (first | exact .cl _ rfl | exact .cl _ (by assumption) | exact cv_ptr (Nat.le_of_ble_eq_true rfl) rfl | exact .nilS | exact cv_own (Nat.le_of_ble_eq_true rfl) rfl | exact cv_row (Nat.le_of_ble_eq_true rfl) rfl | exact cv_mp (Nat.le_of_ble_eq_true rfl) rfl) | exact cv_i hwr1.symm
    · generalize hLr : learnM n L0 r = L
      have hLl : L.length = many := by rw [← hLr, learnM_len]; exact hL0l
      refine t_exit ?_
      have cL := clean_sl Attr.clean L
      refine t_move (E' := q1G most L) (H' := [AObj.box n.cells]) (moveL [0] rfl (by decide) ⟨.inr ⟨_, rfl, cvO_box n.clean⟩, trivial⟩ ?_) ?_
      · refine ⟨?_, ?_, ?_, trivial⟩ <;> first | (first | exact .cl _ rfl | exact .cl _ (by assumption) | exact cv_ptr (Nat.le_of_ble_eq_true rfl) rfl | exact .nilS | exact cv_own (Nat.le_of_ble_eq_true rfl) rfl | exact cv_row (Nat.le_of_ble_eq_true rfl) rfl | exact cv_mp (Nat.le_of_ble_eq_true rfl) rfl) | skip
        exact cv_frz rfl (still_of (by rfl) (by rfl)) rfl (by rw [List.length_map]; exact hLl) (cA _) (lA _)
      have hMl : (L.length : Int) ≤ 9223372036854775807 := by omega
      have ho : (n.origin.length : Int) ≤ 1000000 := by omega
      have b1 : ∀ m, cleanAll [n.av, .sl (L.map Attr.cells), .i .i64 m] = true := fun m => netl_clean n L m
      have hmm0 := Int.tmod_nonneg 9 hm.1
      have hmm1 := Int.tmod_lt_of_pos most (show (0 : Int) < 9 by decide)
      have hwm : IntKind.i64.wrap (most.tmod 9) = most.tmod 9 := w64 (by omega) (by omega)
      have hQ : IntKind.i64.wrap (((L.map Attr.cells).length : Nat) + IntKind.i64.wrap (most.tmod 9)) = (L.length : Int) + most.tmod 9 := by
        rw [hwm, List.length_map]; exact w64 (by omega) (by omega)
      have hans := lift_Answers_ev (G := G) n L (IntKind.i64.wrap (((L.map Attr.cells).length : Nat) + IntKind.i64.wrap (most.tmod 9))) hn hri ho hMl
      have hfacts := answers_more n L (IntKind.i64.wrap (((L.map Attr.cells).length : Nat) + IntKind.i64.wrap (most.tmod 9))) (by rw [hQ]; omega) (by omega)
      have hal : (answersM n L (IntKind.i64.wrap (((L.map Attr.cells).length : Nat) + IntKind.i64.wrap (most.tmod 9)))).length = n.origin.length := by simp [answersM, ofM_len]
      generalize answersM n L (IntKind.i64.wrap (((L.map Attr.cells).length : Nat) + IntKind.i64.wrap (most.tmod 9))) = Z at hans hfacts hal
      have cZ := clean_sl Ans.clean Z
      (repeat' first | refine t_seq ?_ | refine t_reg ?_ | refine t_skip ?_ | refine t_scope ?_ | refine t_ret ?_ | refine t_exit ?_ | refine lit_t rfl ?_ | refine lit_f rfl ?_ | refine And.intro (And.intro rfl (Nat.le_of_ble_eq_true rfl)) ?_ | refine c_t rfl ?_ | refine c_f rfl ?_ | (first | refine And.intro rfl (And.intro (by decide) ?_) | refine call_clean hans (b1 (IntKind.i64.wrap (((L.map Attr.cells).length : Nat) + IntKind.i64.wrap (most.tmod 9)))) ?_) | (refine sp_t (fun h => ?_) (fun h => ?_) <;> (try simp only [List.length_map] at h)) | (refine sp_f (fun h => ?_) (fun h => ?_) <;> (try simp only [List.length_map] at h)) | refine sq_t (fun h => ?_) (fun h => ?_) | refine sq_f (fun h => ?_) (fun h => ?_) | refine sb_t (fun h => ?_) (fun h => ?_) | refine sb_f (fun h => ?_) (fun h => ?_) | (refine c_nd rfl (fun h => ?_) (fun h => ?_) <;> (try simp only [List.length_map] at h)) | (refine c_d rfl (fun h => ?_) (fun h => ?_) <;> (try simp only [List.length_map] at h)) | refine c_nq rfl (fun h => ?_) (fun h => ?_) | refine c_q rfl (fun h => ?_) (fun h => ?_) | refine c_nb rfl (fun h => ?_) (fun h => ?_) | refine c_b rfl (fun h => ?_) (fun h => ?_) | refine And.intro rfl (Exists.intro _ (And.intro rfl ?_)) | refine Exists.intro _ (And.intro rfl ?_))
      · exfalso; omega
      refine t_range (Z.map Ans.cells).length (by rw [List.length_map]; omega) (fun i E H => i ≤ (Z.map Ans.cells).length ∧ E = q2E L Z i ∧ H = [.box n.cells]) (q2E L Z 0) [.box n.cells] ?_ ⟨Nat.zero_le _, rfl, rfl⟩ ?_ ?_ ?_
      · refine moveL [0] rfl (by decide) ⟨.inr ⟨_, rfl, cvO_box n.clean⟩, trivial⟩ ?_
        refine ⟨?_, ?_, ?_, ?_, ?_, trivial⟩ <;> (first | exact .cl _ rfl | exact .cl _ (by assumption) | exact cv_ptr (Nat.le_of_ble_eq_true rfl) rfl | exact .nilS | exact cv_own (Nat.le_of_ble_eq_true rfl) rfl | exact cv_row (Nat.le_of_ble_eq_true rfl) rfl | exact cv_mp (Nat.le_of_ble_eq_true rfl) rfl)
      · rintro i E H ⟨hi, rfl, rfl⟩; exact ⟨hi, rfl, rfl⟩
      · rintro i E H hlt ⟨hi, rfl, rfl⟩
        rw [List.length_map] at hlt
        have o0 : i < n.origin.length := by omega
        obtain ⟨f1, f2, f3⟩ := hfacts i hlt o0
        have hatz : (Z.map Ans.cells)[((i : Nat) : Int).toNat]? = some (Ans.cells Z[i]) := row_at hlt
        generalize Z[i] = z at f1 f2 f3 hatz
        obtain ⟨re, lo, hp⟩ := z
        have hll : (L.map Attr.cells).length = L.length := List.length_map _
        simp only at f1 f2 f3
        cases hor : n.origin[i] with
        | true =>
          have hato : (n.origin.map bcells)[((i : Nat) : Int).toNat]? = some [.b true] := by rw [row_at o0, hor]; rfl
          obtain ⟨rfl, rfl⟩ := f3 hor
          obtain rfl : re = true := f1.2 (by simp)
          (repeat' first | refine t_seq ?_ | refine t_reg ?_ | refine t_skip ?_ | refine t_scope ?_ | refine t_ret ?_ | refine t_exit ?_ | refine lit_t rfl ?_ | refine lit_f rfl ?_ | refine And.intro (And.intro rfl (Nat.le_of_ble_eq_true rfl)) ?_ | refine c_t rfl ?_ | refine c_f rfl ?_ | (first | refine And.intro (Int.natCast_nonneg i) (Exists.intro _ (And.intro hatz (And.intro rfl ?_))) | refine And.intro (Int.natCast_nonneg i) (Exists.intro _ (And.intro hato (And.intro rfl ?_))) | refine And.intro (Int.le_refl 0) (Exists.intro _ (And.intro rfl (And.intro rfl ?_)))) | (refine sp_t (fun h => ?_) (fun h => ?_) <;> (try simp only [List.length_map] at h)) | (refine sp_f (fun h => ?_) (fun h => ?_) <;> (try simp only [List.length_map] at h)) | refine sq_t (fun h => ?_) (fun h => ?_) | refine sq_f (fun h => ?_) (fun h => ?_) | refine sb_t (fun h => ?_) (fun h => ?_) | refine sb_f (fun h => ?_) (fun h => ?_) | (refine c_nd rfl (fun h => ?_) (fun h => ?_) <;> (try simp only [List.length_map] at h)) | (refine c_d rfl (fun h => ?_) (fun h => ?_) <;> (try simp only [List.length_map] at h)) | refine c_nq rfl (fun h => ?_) (fun h => ?_) | refine c_q rfl (fun h => ?_) (fun h => ?_) | refine c_nb rfl (fun h => ?_) (fun h => ?_) | refine c_b rfl (fun h => ?_) (fun h => ?_) | refine And.intro rfl (Exists.intro _ (And.intro rfl ?_)) | refine Exists.intro _ (And.intro rfl ?_))
          · exfalso; omega
          · refine And.intro rfl ⟨q2E L Z (i + 1), [.box n.cells], moveL [0] rfl (by decide) ⟨.inr ⟨_, rfl, cvO_box n.clean⟩, trivial⟩ ?_, by rw [List.length_map]; omega, rfl, rfl⟩
            refine ⟨?_, ?_, ?_, ?_, ?_, trivial⟩ <;> (first | exact .cl _ rfl | exact .cl _ (by assumption) | exact cv_ptr (Nat.le_of_ble_eq_true rfl) rfl | exact .nilS | exact cv_own (Nat.le_of_ble_eq_true rfl) rfl | exact cv_row (Nat.le_of_ble_eq_true rfl) rfl | exact cv_mp (Nat.le_of_ble_eq_true rfl) rfl)
        | false =>
          have hato : (n.origin.map bcells)[((i : Nat) : Int).toNat]? = some [.b false] := by rw [row_at o0, hor]; rfl
          cases hp with
          | nil =>
            obtain rfl : re = false := by
              cases re with
              | false => rfl
              | true => exact absurd (f1.1 rfl) (by simp)
            (repeat' first | refine t_seq ?_ | refine t_reg ?_ | refine t_skip ?_ | refine t_scope ?_ | refine t_ret ?_ | refine t_exit ?_ | refine lit_t rfl ?_ | refine lit_f rfl ?_ | refine And.intro (And.intro rfl (Nat.le_of_ble_eq_true rfl)) ?_ | refine c_t rfl ?_ | refine c_f rfl ?_ | (first | refine And.intro (Int.natCast_nonneg i) (Exists.intro _ (And.intro hatz (And.intro rfl ?_))) | refine And.intro (Int.natCast_nonneg i) (Exists.intro _ (And.intro hato (And.intro rfl ?_))) | refine And.intro (Int.le_refl 0) (Exists.intro _ (And.intro rfl (And.intro rfl ?_)))) | (refine sp_t (fun h => ?_) (fun h => ?_) <;> (try simp only [List.length_map] at h)) | (refine sp_f (fun h => ?_) (fun h => ?_) <;> (try simp only [List.length_map] at h)) | refine sq_t (fun h => ?_) (fun h => ?_) | refine sq_f (fun h => ?_) (fun h => ?_) | refine sb_t (fun h => ?_) (fun h => ?_) | refine sb_f (fun h => ?_) (fun h => ?_) | (refine c_nd rfl (fun h => ?_) (fun h => ?_) <;> (try simp only [List.length_map] at h)) | (refine c_d rfl (fun h => ?_) (fun h => ?_) <;> (try simp only [List.length_map] at h)) | refine c_nq rfl (fun h => ?_) (fun h => ?_) | refine c_q rfl (fun h => ?_) (fun h => ?_) | refine c_nb rfl (fun h => ?_) (fun h => ?_) | refine c_b rfl (fun h => ?_) (fun h => ?_) | refine And.intro rfl (Exists.intro _ (And.intro rfl ?_)) | refine Exists.intro _ (And.intro rfl ?_))
            refine And.intro rfl ⟨q2E L Z (i + 1), [.box n.cells], moveL [0] rfl (by decide) ⟨.inr ⟨_, rfl, cvO_box n.clean⟩, trivial⟩ ?_, by rw [List.length_map]; omega, rfl, rfl⟩
            refine ⟨?_, ?_, ?_, ?_, ?_, trivial⟩ <;> (first | exact .cl _ rfl | exact .cl _ (by assumption) | exact cv_ptr (Nat.le_of_ble_eq_true rfl) rfl | exact .nilS | exact cv_own (Nat.le_of_ble_eq_true rfl) rfl | exact cv_row (Nat.le_of_ble_eq_true rfl) rfl | exact cv_mp (Nat.le_of_ble_eq_true rfl) rfl)
          | cons x xs =>
            obtain rfl : re = true := f1.2 (by simp)
            have hx : x < (n.origin.length : Int) := f2 (by simp)
            (repeat' first | refine t_seq ?_ | refine t_reg ?_ | refine t_skip ?_ | refine t_scope ?_ | refine t_ret ?_ | refine t_exit ?_ | refine lit_t rfl ?_ | refine lit_f rfl ?_ | refine And.intro (And.intro rfl (Nat.le_of_ble_eq_true rfl)) ?_ | refine c_t rfl ?_ | refine c_f rfl ?_ | (first | refine And.intro (Int.natCast_nonneg i) (Exists.intro _ (And.intro hatz (And.intro rfl ?_))) | refine And.intro (Int.natCast_nonneg i) (Exists.intro _ (And.intro hato (And.intro rfl ?_))) | refine And.intro (Int.le_refl 0) (Exists.intro _ (And.intro rfl (And.intro rfl ?_)))) | (refine sp_t (fun h => ?_) (fun h => ?_) <;> (try simp only [List.length_map] at h)) | (refine sp_f (fun h => ?_) (fun h => ?_) <;> (try simp only [List.length_map] at h)) | refine sq_t (fun h => ?_) (fun h => ?_) | refine sq_f (fun h => ?_) (fun h => ?_) | refine sb_t (fun h => ?_) (fun h => ?_) | refine sb_f (fun h => ?_) (fun h => ?_) | (refine c_nd rfl (fun h => ?_) (fun h => ?_) <;> (try simp only [List.length_map] at h)) | (refine c_d rfl (fun h => ?_) (fun h => ?_) <;> (try simp only [List.length_map] at h)) | refine c_nq rfl (fun h => ?_) (fun h => ?_) | refine c_q rfl (fun h => ?_) (fun h => ?_) | refine c_nb rfl (fun h => ?_) (fun h => ?_) | refine c_b rfl (fun h => ?_) (fun h => ?_) | refine And.intro rfl (Exists.intro _ (And.intro rfl ?_)) | refine Exists.intro _ (And.intro rfl ?_))
            · exfalso; simp at h
            · exfalso; omega
            · refine And.intro rfl ⟨q2E L Z (i + 1), [.box n.cells], moveL [0] rfl (by decide) ⟨.inr ⟨_, rfl, cvO_box n.clean⟩, trivial⟩ ?_, by rw [List.length_map]; omega, rfl, rfl⟩
              refine ⟨?_, ?_, ?_, ?_, ?_, trivial⟩ <;> (first | exact .cl _ rfl | exact .cl _ (by assumption) | exact cv_ptr (Nat.le_of_ble_eq_true rfl) rfl | exact .nilS | exact cv_own (Nat.le_of_ble_eq_true rfl) rfl | exact cv_row (Nat.le_of_ble_eq_true rfl) rfl | exact cv_mp (Nat.le_of_ble_eq_true rfl) rfl)
      · rintro E H ⟨hi, rfl, rfl⟩
        (repeat' first | refine t_seq ?_ | refine t_reg ?_ | refine t_skip ?_ | refine t_scope ?_ | refine t_ret ?_ | refine t_exit ?_ | refine lit_t rfl ?_ | refine lit_f rfl ?_ | refine And.intro (And.intro rfl (Nat.le_of_ble_eq_true rfl)) ?_ | refine c_t rfl ?_ | refine c_f rfl ?_ | (refine sp_t (fun h => ?_) (fun h => ?_) <;> (try simp only [List.length_map] at h)) | (refine sp_f (fun h => ?_) (fun h => ?_) <;> (try simp only [List.length_map] at h)) | refine sq_t (fun h => ?_) (fun h => ?_) | refine sq_f (fun h => ?_) (fun h => ?_) | refine sb_t (fun h => ?_) (fun h => ?_) | refine sb_f (fun h => ?_) (fun h => ?_) | (refine c_nd rfl (fun h => ?_) (fun h => ?_) <;> (try simp only [List.length_map] at h)) | (refine c_d rfl (fun h => ?_) (fun h => ?_) <;> (try simp only [List.length_map] at h)) | refine c_nq rfl (fun h => ?_) (fun h => ?_) | refine c_q rfl (fun h => ?_) (fun h => ?_) | refine c_nb rfl (fun h => ?_) (fun h => ?_) | refine c_b rfl (fun h => ?_) (fun h => ?_) | refine And.intro (by omega) (Exists.intro _ (And.intro (row_atN (by omega)) (And.intro rfl ?_))) | refine And.intro rfl (Exists.intro _ (And.intro rfl ?_)) | refine Exists.intro _ (And.intro rfl ?_))
        rfl
end Go.Proofs.Ythpcjekmgohelaa.Ab
