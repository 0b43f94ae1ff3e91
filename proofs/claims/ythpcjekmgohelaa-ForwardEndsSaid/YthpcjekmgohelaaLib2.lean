/- ABSTRACT RUNS, 4: operations that look at nothing but their operands: the machine comes to what evalP says. -/
import Derived.Test.YthpcjekmgohelaaLib1
import Derived.Laws.Tables
import Derived.Laws.Cells
import Derived.Laws.Entries
import Derived.LaidEql
import Derived.Laws.StructEq
import Derived.Laws.Cover1
import Derived.Laws.Concat
import Derived.ChangeMaps3
set_option linter.unusedVariables false
set_option linter.unusedSimpArgs false
namespace Go.Proofs.Ythpcjekmgohelaa.Ab
open Go Go.RowKit

/-! ### What a value is, by its abstract form -/
section
variable {R : RP} {v : Value}
theorem Rel.inv_b {x : Bool} (h : Rel R v (.b x)) : v = .bool x := by cases h; rfl
theorem Rel.inv_i {k : IntKind} {n : Int} (h : Rel R v (.i k n)) : v = .int k n := by cases h; rfl
theorem Rel.inv_s {l : List UInt8} (h : Rel R v (.s l)) : ∃ t, v = .string t ∧ t.data.toList = l := by cases h; exact ⟨_, rfl, rfl⟩
theorem Rel.inv_agg {cs : List AVal} (h : Rel R v (.agg cs)) : ∃ vs, v = .agg vs ∧ RelC R vs cs := by
  cases h with
  | agg vs cs hn hl h => exact ⟨vs, rfl, hn, fun j hj => ⟨hl j hj, h j hj⟩⟩
theorem Rel.inv_tup {cs : List AVal} (h : Rel R v (.tup cs)) : ∃ vs, v = .tuple vs ∧ RelL R vs cs := by
  cases h with
  | tup vs cs hn h => exact ⟨vs, rfl, hn, h⟩
theorem Rel.inv_nilI (h : Rel R v .nilI) : v = .nilIface := by cases h; rfl
theorem Rel.inv_ifc {t : TypeId} {x : AVal} (h : Rel R v (.ifc t x)) : ∃ y, v = .iface t y ∧ Rel R y x := by cases h; exact ⟨_, rfl, by assumption⟩
theorem Rel.one {a : AVal} (h : Rel R v a) (hl : leafA a = true) : v.oneCell' = true := by
  cases h <;> first | rfl | simp [leafA] at hl
/-- The cells of a value. -/
theorem Rel.cells {a : AVal} {cs : List AVal} (h : Rel R v a) (hc : a.cells? = some cs) : RelC R v.cells cs := by
  cases h <;> simp only [AVal.cells?, Option.some.injEq, reduceCtorEq] at hc
  case agg vs cs' hn hl h => subst hc; exact ⟨hn, fun j hj => ⟨hl j hj, h j hj⟩⟩
  all_goals
    subst hc
    refine ⟨rfl, fun j hj => ?_⟩
    have : j = 0 := by simpa using hj
    subst this
    refine ⟨rfl, ?_⟩
    simp only [Value.cells, List.getD_cons_zero]
    first
      | exact .b _ | exact .i _ _ | exact .s _ | exact .nilS | exact .row _ _ (by assumption) | exact .ptr _ _ (by assumption) | exact .eptr _ _ _ _ (by assumption)
      | exact .mp _ (by assumption) | exact .nilM | exact .nilF | exact .nilP | exact .nilI | exact .ifc _ _ _ (by assumption)
      | exact .sl _ _ _ _ _ _ _ (by assumption) (by assumption) (by assumption) (by assumption) (by assumption) (by assumption)
      | exact .cptr _ _ _ _ _ (by assumption) (by assumption) (by assumption) (by assumption)
      | exact .fn _ _ _ (by assumption) (by assumption)
end

/-! ### Constants, operands -/
theorem ofLeaf_sound {R : RP} {v : Value} {a : AVal} (h : ofLeaf v = some a) : Rel R v a ∧ leafA a = true := by
  unfold ofLeaf at h
  split at h <;> simp only [Option.some.injEq, reduceCtorEq] at h <;> subst h
  · exact ⟨.b _, rfl⟩
  · exact ⟨.i _ _, rfl⟩
  · exact ⟨.s _, rfl⟩
  · exact ⟨.nilS, rfl⟩
  · exact ⟨.nilP, rfl⟩
  · exact ⟨.nilM, rfl⟩
  · exact ⟨.nilF, rfl⟩
  · exact ⟨.nilI, rfl⟩

theorem ofLeaves_sound {R : RP} : ∀ {vs : List Value} {cs : List AVal}, ofLeaves vs = some cs →
    vs.length = cs.length ∧ ∀ j, j < cs.length → leafA (cs.getD j .u) = true ∧ Rel R (vs.getD j undef) (cs.getD j .u)
  | [], cs, h => by simp [ofLeaves] at h; subst h; exact ⟨rfl, fun j hj => by simp at hj⟩
  | v :: vs, cs, h => by
    simp only [ofLeaves] at h
    cases h1 : ofLeaf v with
    | none => simp [h1] at h
    | some x =>
      cases h2 : ofLeaves vs with
      | none => simp [h1, h2] at h
      | some xs =>
        simp only [h1, h2, Option.some.injEq] at h
        subst h
        obtain ⟨hr, hl⟩ := ofLeaf_sound (R := R) h1
        obtain ⟨hn, ih⟩ := ofLeaves_sound (R := R) h2
        refine ⟨by simp [hn], fun j hj => ?_⟩
        cases j with
        | zero => exact ⟨hl, hr⟩
        | succ j => simpa using ih j (by simpa using hj)

theorem getD_toList (vs : Array Value) (j : Nat) : vs.getD j undef = vs.toList.getD j undef := by
  rw [List.getD_eq_getElem?_getD, Array.getElem?_toList, Array.getD_eq_getD_getElem?]

theorem ofLeavesC {R : RP} {vs : Array Value} {cs : List AVal} (h : ofLeaves vs.toList = some cs) : RelC R vs cs := by
  obtain ⟨hn, ih⟩ := ofLeaves_sound (R := R) h
  exact ⟨by simpa using hn, fun j hj => by rw [getD_toList]; exact ih j hj⟩

theorem RelC.agg {R : RP} {vs : Array Value} {cs : List AVal} (h : RelC R vs cs) : Rel R (.agg vs) (.agg cs) :=
  .agg vs cs h.1 (fun j hj => (h.2 j hj).1) (fun j hj => (h.2 j hj).2)

theorem ofVal_sound {R : RP} {v : Value} {a : AVal} (h : ofVal v = some a) : Rel R v a := by
  unfold ofVal at h
  split at h
  · simp only [Option.map_eq_some_iff] at h
    obtain ⟨cs, hcs, rfl⟩ := h
    exact (ofLeavesC hcs).agg
  · split at h
    · simp only [Option.some.injEq] at h; subst h; exact .u _
    · simp at h
  · exact (ofLeaf_sound h).1

def RelE (R : RP) (a : Act) (e : Env) : Prop := ∀ t, Rel R (a.tmps.getD t undef) (e t)

theorem opd_sound {R : RP} {a : Act} {e : Env} {x : Operand} {y : LOpd} (he : RelE R a e) (h : cOpd x = some y) : Rel R (a.eval x) (y.ev e) := by
  cases x with
  | tmp t => simp only [cOpd, Option.some.injEq] at h; subst h; exact he t
  | const v => simp only [cOpd, Option.map_eq_some_iff] at h; obtain ⟨z, hz, rfl⟩ := h; exact ofVal_sound hz
  | func f => simp only [cOpd, Option.some.injEq] at h; subst h; exact .fn f #[] [] rfl (fun j hj => by simp at hj)
  | global g => simp [cOpd] at h

theorem opds_sound {R : RP} {a : Act} {e : Env} (he : RelE R a e) : ∀ {xs : List Operand} {ys : List LOpd}, cOpds xs = some ys →
    xs.length = ys.length ∧ ∀ j, j < ys.length → Rel R ((xs.map a.eval).getD j undef) ((ys.map (·.ev e)).getD j .u)
  | [], ys, h => by simp [cOpds] at h; subst h; exact ⟨rfl, fun j hj => by simp at hj⟩
  | x :: xs, ys, h => by
    simp only [cOpds] at h
    cases h1 : cOpd x with
    | none => simp [h1] at h
    | some y =>
      cases h2 : cOpds xs with
      | none => simp [h1, h2] at h
      | some zs =>
        simp only [h1, h2, Option.some.injEq] at h
        subst h
        obtain ⟨hn, ih⟩ := opds_sound he h2
        refine ⟨by simp [hn], fun j hj => ?_⟩
        cases j with
        | zero => exact opd_sound he h1
        | succ j => simpa using ih j (by simpa using hj)

theorem opdsL {R : RP} {a : Act} {e : Env} (he : RelE R a e) {xs : Array Operand} {ys : List LOpd} (h : cOpds xs.toList = some ys) : RelL R (xs.map a.eval) (ys.map (·.ev e)) := by
  obtain ⟨hn, ih⟩ := opds_sound he h
  refine ⟨by simpa using hn, fun j hj => ?_⟩
  have := ih j (by simpa using hj)
  rw [getD_toList]; simpa using this

/-! ### Segments of cells -/
theorem setSeg_length : ∀ (new cs : List AVal) (off : Nat), (setSeg cs off new).length = cs.length
  | [], _, _ => rfl
  | c :: new, cs, off => by simp [setSeg, setSeg_length new]

theorem RelC.set {R : RP} {vs : Array Value} {cs : List AVal} (h : RelC R vs cs) {i : Nat} {x : Value} {y : AVal} (hy : leafA y = true) (hxy : Rel R x y) :
    RelC R (vs.setIfInBounds i x) (cs.set i y) := by
  refine ⟨by simp [h.1], fun j hj => ?_⟩
  have hj' : j < cs.length := by simpa using hj
  have hjv : j < vs.size := by rw [h.1]; exact hj'
  by_cases e : i = j
  · subst e
    rw [List.getD_eq_getElem?_getD, List.getElem?_set_self hj', Array.getD_eq_getD_getElem?, Array.getElem?_setIfInBounds_self_of_lt hjv]
    exact ⟨hy, hxy⟩
  · rw [List.getD_eq_getElem?_getD, List.getElem?_set_ne e, Array.getD_eq_getD_getElem?, Array.getElem?_setIfInBounds_ne e, ← List.getD_eq_getElem?_getD, ← Array.getD_eq_getD_getElem?]
    exact h.2 j hj'

/-- A run of cells, put into others, one by one: both ways of saying so. -/
theorem RelC.seg {R : RP} : ∀ (new : List Value) (anew : List AVal) (off : Nat) {vs : Array Value} {cs : List AVal}, RelC R vs cs → new.length = anew.length →
    (∀ j, j < anew.length → leafA (anew.getD j .u) = true ∧ Rel R (new.getD j undef) (anew.getD j .u)) →
    RelC R ((new.zipIdx off).foldl (fun acc p => acc.setIfInBounds p.2 p.1) vs) (setSeg cs off anew)
  | [], [], _, _, _, h, _, _ => h
  | x :: new, y :: anew, off, vs, cs, h, hn, hr => by
    simp only [List.zipIdx_cons, List.foldl_cons, setSeg]
    refine RelC.seg new anew (off + 1) (h.set (hr 0 (by simp)).1 (by simpa using (hr 0 (by simp)).2)) (by simpa using hn) (fun j hj => ?_)
    simpa using hr (j + 1) (by simpa using hj)

theorem foldl_shift (new : List Value) (off : Nat) : ∀ (k : Nat) (vs : Array Value),
    (new.zipIdx k).foldl (fun cs (p : Value × Nat) => cs.setIfInBounds (off + p.2) p.1) vs = (new.zipIdx (off + k)).foldl (fun acc p => acc.setIfInBounds p.2 p.1) vs := by
  induction new with
  | nil => intro k vs; rfl
  | cons x new ih =>
    intro k vs
    simp only [List.zipIdx_cons, List.foldl_cons]
    rw [ih (k + 1)]; rfl

/-- Filling places of a struct or an array. -/
theorem fill_sound {R : RP} (place : Nat → Option (Nat × Nat)) : ∀ (ps : List (Nat × Value)) (as : List (Nat × Nat × AVal)) {vs : Array Value} {cs cs' : List AVal},
    RelC R vs cs → ps.length = as.length → (∀ (j : Nat) (p : Nat × Value) (q : Nat × Nat × AVal), ps[j]? = some p → as[j]? = some q → place p.1 = some (q.1, q.2.1) ∧ Rel R p.2 q.2.2) →
    fillA cs as = some cs' → ∃ vs', Instr.fill place vs ps = some vs' ∧ RelC R vs' cs'
  | [], [], vs, cs, cs', h, _, _, hf => by simp [fillA] at hf; subst hf; exact ⟨vs, rfl, h⟩
  | (i, v) :: ps, (off, sz, x) :: as, vs, cs, cs', h, hn, hr, hf => by
    obtain ⟨hp, hx⟩ := hr 0 _ _ rfl rfl
    simp only [fillA] at hf
    cases hc : x.cells? with
    | none => simp [hc] at hf
    | some xs =>
      simp only [hc] at hf
      split at hf
      · rename_i hlt
        have hv := hx.cells hc
        have h2 := RelC.seg (R := R) v.cells.toList xs off h (by simpa using hv.1) (fun j hj => by have := hv.2 j hj; rw [getD_toList] at this; exact this)
        rw [← Nat.add_zero off, ← foldl_shift] at h2
        obtain ⟨vs', h3, h4⟩ := fill_sound place ps as h2 (by simpa using hn) (fun j p q hj hq => hr (j + 1) p q (by simpa using hj) (by simpa using hq)) hf
        refine ⟨vs', ?_, h4⟩
        simp only [Instr.fill, hp]
        have e1 : v.cells.size = sz := by rw [hv.1]; exact hlt.1
        have e2 : vs.size = cs.length := h.1
        rw [if_neg (by simp [e1]; omega)]
        rw [← h3]
        rw [← Array.foldl_toList, Array.toList_zipIdx]
      · simp at hf

/-- A part of a row of cells. -/
theorem ldCells_sound {R : RP} {vs : Array Value} {cs : List AVal} (h : RelC R vs cs) {off n : Nat} {ag : Bool} {v : AVal} (hv : ldCells cs off n ag = some v) :
    (ag = true → off + n ≤ cs.length ∧ Rel R (.agg (vs.extract off (off + n))) v) ∧ (ag = false → ∃ x, vs[off]? = some x ∧ Rel R x v ∧ leafA v = true) := by
  unfold ldCells at hv
  split at hv
  · rename_i hag
    split at hv
    · rename_i hle
      simp only [Option.some.injEq] at hv
      subst hv
      refine ⟨fun _ => ⟨hle, ?_⟩, fun h' => by simp [h'] at hag⟩
      have hsz : vs.size = cs.length := h.1
      have key : ∀ j, j < n → ((cs.drop off).take n).getD j .u = cs.getD (off + j) .u := by
        intro j hj
        rw [List.getD_eq_getElem?_getD, List.getD_eq_getElem?_getD, List.getElem?_take_of_lt hj, List.getElem?_drop]
      have key2 : ∀ j, j < n → (vs.extract off (off + n)).getD j undef = vs.getD (off + j) undef := by
        intro j hj
        rw [Array.getD_eq_getD_getElem?, Array.getD_eq_getD_getElem?, Array.getElem?_extract_of_lt (by omega), Array.getElem?_eq_getElem (by omega)]
      have hlen : ((cs.drop off).take n).length = n := by simp; omega
      refine .agg _ _ (by simp [hlen]; omega) (fun j hj => ?_) (fun j hj => ?_)
      · rw [key j (by omega)]; exact (h.2 (off + j) (by omega)).1
      · rw [key j (by omega), key2 j (by omega)]; exact (h.2 (off + j) (by omega)).2
    · simp at hv
  · rename_i hag
    refine ⟨fun h' => by simp [h'] at hag, fun _ => ?_⟩
    have hlt : off < cs.length := by
      rcases Nat.lt_or_ge off cs.length with h1 | h1
      · exact h1
      · rw [List.getElem?_eq_none h1] at hv; simp at hv
    have := h.2 off hlt
    rw [List.getD_eq_getElem?_getD, hv] at this
    have hlt' : off < vs.size := by rw [h.1]; exact hlt
    refine ⟨vs[off], Array.getElem?_eq_getElem hlt', ?_, by simpa using this.1⟩
    have h2 := this.2
    rw [Array.getD_eq_getD_getElem?, Array.getElem?_eq_getElem hlt'] at h2
    simpa using h2
end Go.Proofs.Ythpcjekmgohelaa.Ab

/- ABSTRACT RUNS, 5: '==' and the other operators. -/
namespace Go.Proofs.Ythpcjekmgohelaa.Ab
open Go Go.RowKit

theorem size_eq (t : ByteArray) : t.size = t.data.toList.length := by rw [Array.length_toList]; rfl

/-! ### Equality -/
def valOf (P : Program) (t : TypeId) (X : Array Value) : Value := if agOf P t = some true then .agg X else X.getD 0 undef

theorem RelC.extract {R : RP} {vs : Array Value} {cs : List AVal} (h : RelC R vs cs) (off n : Nat) (hle : off + n ≤ cs.length) : RelC R (vs.extract off (off + n)) ((cs.drop off).take n) := by
  have := (ldCells_sound h (off := off) (n := n) (ag := true) (v := .agg ((cs.drop off).take n)) (by simp [ldCells, hle])).1 rfl
  obtain ⟨_, h2⟩ := this
  obtain ⟨vs', e, h3⟩ := h2.inv_agg
  injection e with e
  rw [e]; exact h3

theorem aggEq_len : ∀ {ks : List LK} {xs ys : List AVal} {r : Bool}, aggEq ks xs ys = some r → xs.length = ks.length ∧ ys.length = ks.length
  | [], [], [], _, _ => ⟨rfl, rfl⟩
  | k :: ks, x :: xs, y :: ys, r, h => by
    simp only [aggEq] at h
    split at h
    · rename_i p q h1 h2
      have := aggEq_len h2
      exact ⟨by simp [this.1], by simp [this.2]⟩
    · simp at h
  | [], _ :: _, _, _, h => by simp [aggEq] at h
  | [], [], _ :: _, _, h => by simp [aggEq] at h
  | _ :: _, [], _, _, h => by simp [aggEq] at h
  | _ :: _, _ :: _, [], _, h => by simp [aggEq] at h

theorem aggEq_split : ∀ {l m : List LK} {xs ys : List AVal} {r : Bool}, aggEq (l ++ m) xs ys = some r →
    ∃ p q, aggEq l (xs.take l.length) (ys.take l.length) = some p ∧ aggEq m (xs.drop l.length) (ys.drop l.length) = some q ∧ r = (p && q)
  | [], m, xs, ys, r, h => ⟨true, r, by simp [aggEq], by simpa using h, by simp⟩
  | k :: l, m, [], ys, r, h => by simp [aggEq] at h
  | k :: l, m, x :: xs, [], r, h => by simp [aggEq] at h
  | k :: l, m, x :: xs, y :: ys, r, h => by
    simp only [List.cons_append, aggEq] at h
    split at h
    · rename_i a b h1 h2
      obtain ⟨p, q, h3, h4, rfl⟩ := aggEq_split h2
      simp only [Option.some.injEq] at h
      subst h
      exact ⟨a && p, q, by simp [aggEq, h1, h3], by simpa using h4, by simp [Bool.and_assoc]⟩
    · simp at h

theorem run_part_at {P : Program} {w : World} {t : TypeId} {n : Nat} (hn : szOf P t = some n) (hu : (P.underlying t).isSome = true) (X : Array Value) (off : Nat) (hX : off + n ≤ X.size)
    (h1 : agOf P t = some true ∨ n = 1) : (part t X off).run P w = .ok (valOf P t (X.extract off (off + n))) w := by
  obtain ⟨d, hd⟩ := Option.isSome_iff_exists.1 hu
  unfold szOf at hn
  obtain ⟨i, hi, hn⟩ := Option.map_eq_some_iff.1 hn
  have hag : (isAgg t).run P w = .ok (decide (agOf P t = some true)) w := by
    unfold isAgg agOf
    simp only [Sem.run_bind, run_underlying hd, Result.andThen_ok, hd]
    cases d <;> simp
  have hsz : (sizeOf t).run P w = .ok n w := by simp [sizeOf, typeInfo, hi, hn]
  unfold part
  simp only [Sem.run_bind, hag, Result.andThen_ok]
  by_cases ha : agOf P t = some true
  · simp [ha, hsz, valOf]
  · have : n = 1 := h1.resolve_left ha
    subst this
    simp only [ha, decide_false, Bool.false_eq_true, if_false, valOf]
    have : off < X.size := by omega
    rw [Array.getElem?_eq_getElem this]
    simp only [Sem.run_pure, Array.getD_eq_getD_getElem?]
    rw [Array.getElem?_extract_of_lt (by omega)]
    simp [Array.getElem?_eq_getElem this]

theorem leafEq_sound {P : Program} {R : RP} {w : World} {k : LK} {x y : AVal} {vx vy : Value} {r : Bool} {t : TypeId} (hk : leafK P t = some k) (hx : Rel R vx x) (hy : Rel R vy y) (h : leafEq k x y = some r) (D : Nat) :
    (Op.equalIn (D + 1) t vx vy).run P w = .ok r w := by
  unfold leafK at hk
  unfold leafEq at h
  split at h
  · rename_i k1 a k2 b
    split at h
    · rename_i e
      subst e
      simp only [Option.some.injEq] at h; subst h
      obtain rfl := hx.inv_i; obtain rfl := hy.inv_i
      split at hk <;> simp only [Option.some.injEq, reduceCtorEq] at hk
      rename_i hu
      exact run_equalIn_int w D t _ _ _ _ hu
    · simp at h
  · simp only [Option.some.injEq] at h; subst h
    obtain rfl := hx.inv_b; obtain rfl := hy.inv_b
    split at hk <;> simp only [Option.some.injEq, reduceCtorEq] at hk
    rename_i hu
    exact run_equalIn_bool' w D t _ _ hu
  · simp only [Option.some.injEq] at h; subst h
    obtain ⟨a, rfl, rfl⟩ := hx.inv_s; obtain ⟨b, rfl, rfl⟩ := hy.inv_s
    split at hk <;> simp only [Option.some.injEq, reduceCtorEq] at hk
    rename_i hu
    rw [run_equalIn_string w D t _ _ hu, ByteArray.toList_eq, ByteArray.toList_eq]
  · simp at h

theorem leafKs_sound {P : Program} {R : RP} {w : World} : ∀ (d : Nat) (t : TypeId) (ks : List LK), leafKs P d t = some ks → (P.underlying t).isSome = true ∧ (agOf P t = some true ∨ ks.length = 1) ∧
    ∀ (D : Nat) (X Y : Array Value) (xs ys : List AVal) (r : Bool), d ≤ D → RelC R X xs → RelC R Y ys → aggEq ks xs ys = some r → (Op.equalIn (D + 1) t (valOf P t X) (valOf P t Y)).run P w = .ok r w
  | 0, t, ks, h => by simp [leafKs] at h
  | d + 1, t, ks, h => by
    simp only [leafKs] at h
    split at h
    · rename_i fields hu
      split at h
      · simp at h
      · rename_i hst
        have hag : agOf P t = some true := by simp [agOf, hu]
        refine ⟨by simp [hu], .inl hag, fun D X Y xs ys r hD hX hY hr => ?_⟩
        simp only [valOf, hag, if_true]
        have hf : P.fieldsOf t = fields := by simp [Program.fieldsOf, hu]
        rw [run_equalIn_struct w D t X Y (by rw [hf]; exact hu) (by simpa using hst), hf]
        -- field by field
        have key : ∀ (fs : List Field) (off : Nat) (l : List LK), ksF P (leafKs P d) fs off = some l → ∀ (p : Bool), aggEq l (xs.drop off) (ys.drop off) = some p →
            off + l.length = xs.length → off + l.length = ys.length → (Op.eqFields D X Y fs).run P w = .ok p w := by
          intro fs
          induction fs with
          | nil =>
            intro off l hl p hp e1 e2
            simp only [ksF, Option.some.injEq] at hl
            subst hl
            have : xs.drop off = [] := List.drop_eq_nil_of_le (by simpa using Nat.le_of_eq e1.symm)
            have : ys.drop off = [] := List.drop_eq_nil_of_le (by simpa using Nat.le_of_eq e2.symm)
            simp_all [aggEq, Op.eqFields]
          | cons f fs ih =>
            intro off l hl p hp e1 e2
            simp only [ksF] at hl
            split at hl
            · simp at hl
            · rename_i hno
              have hname : f.name ≠ "_" := fun e => hno (.inl e)
              have hoff : f.offset = off := by
                by_cases e : f.offset = off
                · exact e
                · exact absurd (.inr e) hno
              split at hl
              · rename_i lf hlf
                split at hl
                · rename_i hsz
                  obtain ⟨m, hm, rfl⟩ := Option.map_eq_some_iff.1 hl
                  obtain ⟨a, b, ha, hb, rfl⟩ := aggEq_split hp
                  obtain ⟨q1, q2, q3⟩ := leafKs_sound (R := R) (w := w) d f.type lf hlf
                  have l1 : off + lf.length ≤ xs.length := by simp only [List.length_append] at e1; omega
                  have l2 : off + lf.length ≤ ys.length := by simp only [List.length_append] at e2; omega
                  cases D with
                  | zero => omega
                  | succ D =>
                    simp only [Op.eqFields, hname, ne_eq, not_false_eq_true, if_true, Sem.run_bind, hoff]
                    rw [run_part_at hsz q1 X off (by rw [hX.1]; exact l1) (q2.imp id id)]
                    simp only [Result.andThen_ok]
                    rw [run_part_at hsz q1 Y off (by rw [hY.1]; exact l2) (q2.imp id id)]
                    simp only [Result.andThen_ok]
                    rw [q3 D _ _ _ _ a (by omega) (hX.extract off lf.length l1) (hY.extract off lf.length l2) ha]
                    simp only [Result.andThen_ok]
                    have hrest := ih (off + lf.length) m hm b (by simpa [List.drop_drop] using hb) (by simp only [List.length_append] at e1; omega) (by simp only [List.length_append] at e2; omega)
                    cases a with
                    | true => simpa using hrest
                    | false => simp
                · simp at hl
              · simp at hl
        have hlen := aggEq_len hr
        exact key fields.toList 0 ks h r (by simpa using hr) (by omega) (by omega)
    · simp at h
    · rename_i h1 h2
      obtain ⟨k, hk, rfl⟩ := Option.map_eq_some_iff.1 h
      have hu : (P.underlying t).isSome = true := by
        unfold leafK at hk
        cases hu : P.underlying t with
        | none => simp [hu] at hk
        | some x => rfl
      have hag : agOf P t ≠ some true := by
        unfold leafK at hk
        unfold agOf
        cases hu : P.underlying t with
        | none => simp
        | some x => cases x <;> simp_all
      refine ⟨hu, .inr rfl, fun D X Y xs ys r hD hX hY hr => ?_⟩
      simp only [valOf, hag, if_false]
      have hlen := aggEq_len hr
      match xs, ys, hlen with
      | [x], [y], _ =>
        simp only [aggEq] at hr
        cases hl : leafEq k x y with
        | none => simp [hl] at hr
        | some q =>
          simp [hl] at hr
          subst hr
          have hx := (hX.2 0 (by simp)).2
          have hy := (hY.2 0 (by simp)).2
          exact leafEq_sound hk (by simpa using hx) (by simpa using hy) hl D
end Go.Proofs.Ythpcjekmgohelaa.Ab

/- ABSTRACT RUNS, 6: each operation that looks at nothing but its operands. -/
namespace Go.Proofs.Ythpcjekmgohelaa.Ab
open Go Go.RowKit
set_option linter.unusedSimpArgs false
set_option linter.unusedVariables false

theorem intBin_sound {P : Program} {R : RP} {w : World} {op : BinOp} {k : IntKind} {a b : Int} {v : AVal} {t : TypeId} (h : intBin op k a b = some v) (hs : op ≠ .shl ∧ op ≠ .shr) :
    ∃ z, (binOp op t (.int k a) (.int k b)).run P w = .ok z w ∧ Rel R z v := by
  cases op <;> simp only [intBin, Option.some.injEq, reduceCtorEq] at h
  case quo =>
    split at h
    · simp at h
    · rename_i hb
      simp only [Option.some.injEq] at h; subst h
      exact ⟨_, by simp [binOp, Op.intDiv, hb], .i _ _⟩
  case rem =>
    split at h
    · simp at h
    · rename_i hb
      simp only [Option.some.injEq] at h; subst h
      exact ⟨_, by simp [binOp, Op.intDiv, hb], .i _ _⟩
  all_goals subst h
  case eql => exact ⟨_, by simp [binOp, Op.intCmp], .b _⟩
  case neq => exact ⟨_, by simp [binOp, Op.intCmp], .b _⟩
  case lss => exact ⟨_, by simp [binOp, Op.intCmp], .b _⟩
  case leq => exact ⟨_, by simp [binOp, Op.intCmp], .b _⟩
  case gtr => exact ⟨_, by simp [binOp, Op.intCmp], .b _⟩
  case geq => exact ⟨_, by simp [binOp, Op.intCmp], .b _⟩
  all_goals exact ⟨_, by simp [binOp, Op.intArith, Op.intBits], .i _ _⟩

theorem Rel.str {R : RP} (l : List UInt8) : Rel R (.string ⟨l.toArray⟩) (.s l) := by
  have := Rel.s (R := R) ⟨l.toArray⟩
  simpa using this

theorem beq_list (a b : List UInt8) (x y : ByteArray) (hx : x.data.toList = a) (hy : y.data.toList = b) : (x.toList == y.toList) = (a == b) := by
  rw [ByteArray.toList_eq, ByteArray.toList_eq, hx, hy]

theorem strBin_sound {P : Program} {R : RP} {w : World} {op : BinOp} {a b : List UInt8} {x y : ByteArray} {v : AVal} {t : TypeId} (hx : x.data.toList = a) (hy : y.data.toList = b) (h : strBin op a b = some v) :
    ∃ z, (binOp op t (.string x) (.string y)).run P w = .ok z w ∧ Rel R z v := by
  have e1 := ByteArray.toList_eq x
  have e2 := ByteArray.toList_eq y
  rw [hx] at e1; rw [hy] at e2
  cases op <;> simp only [strBin, Option.some.injEq, reduceCtorEq] at h
  case add =>
    split at h
    · rename_i hle
      simp only [Option.some.injEq] at h; subst h
      refine ⟨.string (x ++ y), ?_, ?_⟩
      · have h1 : x.size = a.length := by rw [size_eq, hx]
        have h2 : y.size = b.length := by rw [size_eq, hy]
        simp only [binOp, Op.stringOp, h1, h2]
        rw [if_neg (by simp [IntKind.max, IntKind.signed, IntKind.bits]; simp at hle; omega)]
        rfl
      · have : (x ++ y).data.toList = a ++ b := by rw [ByteArray.data_append, Array.toList_append, hx, hy]
        rw [← this]; exact .s _
    · simp at h
  all_goals subst h
  all_goals exact ⟨_, by simp [binOp, Op.stringOp, e1, e2], .b _⟩

theorem eqK_leaf {P : Program} {t : TypeId} {x y : Operand} {k : LK} (h : eqK P t x y = .leaf k) : leafK P t = some k := by
  unfold eqK at h
  unfold leafK
  cases hu : P.underlying t with
  | none => simp [hu] at h
  | some d =>
    cases d <;> simp only [hu, EK.leaf.injEq, reduceCtorEq] at h ⊢
    case bool => rw [← h]
    case int => rw [← h]
    case string => rw [← h]
    case interface => split at h <;> simp at h
    case struct =>
      split at h
      · simp at h
      · split at h <;> simp at h
theorem eqK_ifc {P : Program} {t : TypeId} {x y : Operand} (h : eqK P t x y = .ifc) : (∃ ms, P.underlying t = some (.interface ms)) ∧ (isC x || isC y) = true := by
  unfold eqK at h
  cases hu : P.underlying t with
  | none => simp [hu] at h
  | some d =>
    cases d <;> simp only [hu, reduceCtorEq] at h
    case interface ms =>
      split at h
      · rename_i hc; exact ⟨⟨ms, rfl⟩, hc⟩
      · simp at h
    case struct =>
      split at h
      · simp at h
      · split at h <;> simp at h
theorem eqK_agg {P : Program} {t : TypeId} {x y : Operand} {ks : List LK} (h : eqK P t x y = .agg ks) : agOf P t = some true ∧ P.eqGuardType P.depth t = false ∧ leafKs P 6 t = some ks := by
  unfold eqK at h
  unfold agOf
  cases hu : P.underlying t with
  | none => simp [hu] at h
  | some d =>
    cases d <;> simp only [hu, reduceCtorEq] at h
    case interface => split at h <;> simp at h
    case struct =>
      split at h
      · simp at h
      · rename_i hg
        split at h
        · rename_i ks' hks
          injection h with h
          subst h
          exact ⟨rfl, by simpa using hg, hks⟩
        · simp at h

theorem equalIn_nil {P : Program} {w : World} {t : TypeId} {ms : Array (String × TypeId)} (hu : P.underlying t = some (.interface ms)) (D : Nat) :
    (Op.equalIn (D + 1) t .nilIface .nilIface).run P w = .ok true w ∧ (∀ u z, (Op.equalIn (D + 1) t .nilIface (.iface u z)).run P w = .ok false w) ∧
    (∀ u z, (Op.equalIn (D + 1) t (.iface u z) .nilIface).run P w = .ok false w) :=
  ⟨by simp [Op.equalIn, run_underlying hu], fun u z => by simp [Op.equalIn, run_underlying hu], fun u z => by simp [Op.equalIn, run_underlying hu]⟩

theorem guard_nil {P : Program} {w : World} {op : BinOp} {t : TypeId} {ox oy : Operand} (hc : (isC ox || isC oy) = true) : (eqGuard op t ox oy .nilIface .nilIface).run P w = .ok () w := by
  cases ox <;> cases oy <;> simp [isC] at hc <;> cases op <;> rfl

theorem eqA_sound {P : Program} {R : RP} {w : World} {t : TypeId} {ox oy : Operand} {vx vy : Value} {x y : AVal} {r : Bool} (hx : Rel R vx x) (hy : Rel R vy y)
    (h : eqA (eqK P t ox oy) x y = some r) :
    (Op.equal t vx vy).run P w = .ok r w ∧ ∀ op, (eqGuard op t ox oy vx vy).run P w = .ok () w := by
  unfold Op.equal Op.maxDepth
  generalize hek : eqK P t ox oy = ek at h
  unfold eqA at h
  split at h
  · -- leaf
    rename_i k x y
    refine ⟨leafEq_sound (eqK_leaf hek) hx hy h 9999, fun op => ?_⟩
    unfold leafEq at h
    split at h
    · obtain rfl := hx.inv_i; cases op <;> rfl
    · obtain rfl := hx.inv_b; cases op <;> rfl
    · obtain ⟨_, rfl, _⟩ := hx.inv_s; cases op <;> rfl
    · simp at h
  · simp only [Option.some.injEq] at h; subst h
    obtain rfl := hx.inv_nilI; obtain rfl := hy.inv_nilI
    obtain ⟨⟨ms, hu⟩, hc⟩ := eqK_ifc hek
    exact ⟨(equalIn_nil hu 9999).1, fun op => guard_nil hc⟩
  · simp only [Option.some.injEq] at h; subst h
    obtain rfl := hx.inv_nilI; obtain ⟨z, rfl, _⟩ := hy.inv_ifc
    obtain ⟨⟨ms, hu⟩, hc⟩ := eqK_ifc hek
    exact ⟨(equalIn_nil hu 9999).2.1 _ _, fun op => by cases op <;> rfl⟩
  · simp only [Option.some.injEq] at h; subst h
    obtain rfl := hy.inv_nilI; obtain ⟨z, rfl, _⟩ := hx.inv_ifc
    obtain ⟨⟨ms, hu⟩, hc⟩ := eqK_ifc hek
    exact ⟨(equalIn_nil hu 9999).2.2 _ _, fun op => by cases op <;> rfl⟩
  · rename_i ks a b
    obtain ⟨X, rfl, hX⟩ := hx.inv_agg; obtain ⟨Y, rfl, hY⟩ := hy.inv_agg
    obtain ⟨hag, hg, hks⟩ := eqK_agg hek
    obtain ⟨_, _, h3⟩ := leafKs_sound (R := R) (w := w) 6 t ks hks
    have h4 := h3 9999 X Y a b r (by omega) hX hY h
    simp only [valOf, hag, if_true] at h4
    exact ⟨h4, fun op => run_eqGuard_agg w op t ox oy X Y hg⟩
  · simp at h

/-- '==' on anything but whole numbers and texts is 'equal'. -/
theorem binOp_eq {P : Program} {R : RP} {w : World} {t : TypeId} {vx vy : Value} {x y : AVal} {ek : EK} {r : Bool} (hx : Rel R vx x) (hy : Rel R vy y) (h : eqA ek x y = some r)
    (hi : ∀ k a k' b, x = .i k a → y = .i k' b → False) (hs : ∀ a b, x = .s a → y = .s b → False) (heq : (Op.equal t vx vy).run P w = .ok r w) :
    (binOp .eql t vx vy).run P w = .ok (.bool r) w ∧ (binOp .neq t vx vy).run P w = .ok (.bool !r) w := by
  unfold eqA at h
  split at h
  · unfold leafEq at h
    split at h
    · exact (hi _ _ _ _ rfl rfl).elim
    · obtain rfl := hx.inv_b; obtain rfl := hy.inv_b; simp [binOp, heq]
    · exact (hs _ _ rfl rfl).elim
    · simp at h
  · obtain rfl := hx.inv_nilI; obtain rfl := hy.inv_nilI; simp [binOp, heq]
  · obtain rfl := hx.inv_nilI; obtain ⟨z, rfl, _⟩ := hy.inv_ifc; simp [binOp, heq]
  · obtain rfl := hy.inv_nilI; obtain ⟨z, rfl, _⟩ := hx.inv_ifc; simp [binOp, heq]
  · obtain ⟨X, rfl, hX⟩ := hx.inv_agg; obtain ⟨Y, rfl, hY⟩ := hy.inv_agg; simp [binOp, heq]
  · simp at h

theorem bin_sound {P : Program} {R : RP} {w : World} {op : BinOp} {t : TypeId} {ox oy : Operand} {vx vy : Value} {x y v : AVal} (hx : Rel R vx x) (hy : Rel R vy y)
    (h : binA op (eqK P t ox oy) x y = some v) :
    ∃ z, (do eqGuard op t ox oy vx vy; binOp op t vx vy : Sem Value).run P w = .ok z w ∧ Rel R z v := by
  unfold binA at h
  split at h
  · rename_i k a k' b
    obtain rfl := hx.inv_i; obtain rfl := hy.inv_i
    have hg : (eqGuard op t ox oy (.int k a) (.int k' b)).run P w = .ok () w := by cases op <;> rfl
    simp only [Sem.run_bind, hg, Result.andThen_ok]
    split at h
    · split at h
      · simp at h
      · rename_i hb
        simp only [Option.some.injEq] at h; subst h
        exact ⟨_, by simp [binOp, Op.shift, hb], .i _ _⟩
    · split at h
      · simp at h
      · rename_i hb
        simp only [Option.some.injEq] at h; subst h
        exact ⟨_, by simp [binOp, Op.shift, hb], .i _ _⟩
    · rename_i h1 h2
      split at h
      · rename_i e; subst e
        exact intBin_sound h ⟨fun e => h1 e, fun e => h2 e⟩
      · simp at h
  · obtain ⟨a, rfl, ha⟩ := hx.inv_s; obtain ⟨b, rfl, hb⟩ := hy.inv_s
    have hg : (eqGuard op t ox oy (.string a) (.string b)).run P w = .ok () w := by cases op <;> rfl
    simp only [Sem.run_bind, hg, Result.andThen_ok]
    exact strBin_sound ha hb h
  · rename_i n1 n2
    split at h
    · obtain ⟨r, hr, rfl⟩ := Option.map_eq_some_iff.1 h
      obtain ⟨h1, h2⟩ := eqA_sound (w := w) hx hy hr
      have h3 := binOp_eq hx hy hr n1 n2 h1
      exact ⟨.bool r, by simp only [Sem.run_bind, h2 .eql, Result.andThen_ok, h3.1], .b _⟩
    · obtain ⟨r, hr, rfl⟩ := Option.map_eq_some_iff.1 h
      obtain ⟨h1, h2⟩ := eqA_sound (w := w) hx hy hr
      have h3 := binOp_eq hx hy hr n1 n2 h1
      exact ⟨.bool !r, by simp only [Sem.run_bind, h2 .neq, Result.andThen_ok, h3.2], .b _⟩
    · simp at h
end Go.Proofs.Ythpcjekmgohelaa.Ab

/- ABSTRACT RUNS, 7: the operations of evalP (but the making of a slice's row), one theorem. -/
namespace Go.Proofs.Ythpcjekmgohelaa.Ab
open Go Go.RowKit
set_option linter.unusedSimpArgs false
set_option linter.unusedVariables false

section
variable {P : Program} {R : RP} {a : Act} {e : Env} {w : World}

theorem parts_sound : ∀ {parts : List (Nat × Operand)} {ps : List (Nat × LOpd)}, cParts parts = some ps → parts.length = ps.length ∧
    ∀ (j : Nat) (p : Nat × Operand) (q : Nat × LOpd), parts[j]? = some p → ps[j]? = some q → p.1 = q.1 ∧ cOpd p.2 = some q.2
  | [], ps, h => by simp [cParts] at h; subst h; exact ⟨rfl, fun j p q hj => by simp at hj⟩
  | (i, x) :: xs, ps, h => by
    simp only [cParts] at h
    cases h1 : cOpd x with
    | none => simp [h1] at h
    | some y =>
      cases h2 : cParts xs with
      | none => simp [h1, h2] at h
      | some zs =>
        simp only [h1, h2, Option.some.injEq] at h
        subst h
        obtain ⟨hn, ih⟩ := parts_sound h2
        refine ⟨by simp [hn], fun j p q hp hq => ?_⟩
        cases j with
        | zero => simp at hp hq; subst hp; subst hq; exact ⟨rfl, h1⟩
        | succ j => exact ih j p q (by simpa using hp) (by simpa using hq)

def fieldParts (P : Program) (fields : Array Field) (ps : List (Nat × LOpd)) : Option (List (Nat × Nat × LOpd)) :=
  ps.foldr (fun (i, x) acc => match acc, fields[i]? with
    | some l, some f => (szOf P f.type).map fun n => (f.offset, n, x) :: l
    | _, _ => none) (some [])

theorem fieldParts_sound {fields : Array Field} : ∀ {ps : List (Nat × LOpd)} {l : List (Nat × Nat × LOpd)}, fieldParts P fields ps = some l → ps.length = l.length ∧
    ∀ (j : Nat) (p : Nat × LOpd) (q : Nat × Nat × LOpd), ps[j]? = some p → l[j]? = some q → ∃ f, fields[p.1]? = some f ∧ szOf P f.type = some q.2.1 ∧ q.1 = f.offset ∧ q.2.2 = p.2
  | [], l, h => by simp [fieldParts] at h; subst h; exact ⟨rfl, fun j p q hj => by simp at hj⟩
  | (i, x) :: ps, l, h => by
    have h' : (match fieldParts P fields ps, fields[i]? with
      | some l, some f => (szOf P f.type).map fun n => (f.offset, n, x) :: l
      | _, _ => none) = some l := h
    split at h'
    · rename_i l' f hl' hf
      obtain ⟨n, hn, rfl⟩ := Option.map_eq_some_iff.1 h'
      obtain ⟨h1, ih⟩ := fieldParts_sound hl'
      refine ⟨by simp [h1], fun j p q hp hq => ?_⟩
      cases j with
      | zero => simp at hp hq; subst hp; subst hq; exact ⟨f, hf, hn, rfl, rfl⟩
      | succ j => exact ih j p q (by simpa using hp) (by simpa using hq)
    · simp at h'

theorem zeroC_sound {t : TypeId} {z : List AVal} (h : zeroC P t = some z) : ∃ i zv, P.info? t = some i ∧ i.zero = some zv ∧ z.length = i.size ∧ RelC R zv.cells z := by
  unfold zeroC at h
  split at h
  · rename_i i hi
    split at h
    · rename_i zv hz
      split at h
      · rename_i cs hcs
        split at h
        · rename_i hl
          simp only [Option.some.injEq] at h; subst h
          exact ⟨i, zv, hi, hz, hl, ofLeavesC hcs⟩
        · simp at h
      · simp at h
    · simp at h
  · simp at h

theorem build_sound {t : TypeId} {parts : Array (Nat × Operand)} {z cs : List AVal} {l : List (Nat × Nat × LOpd)} (he : RelE R a e) (hz : zeroC P t = some z)
    (hplace : ∃ place : Nat → Option (Nat × Nat), (∀ cells, Instr.fill place ((P.info? t).bind (·.zero)).get!.cells (parts.map fun (i, x) => (i, a.eval x)).toList = some cells →
        P.built t (parts.map fun (i, x) => (i, a.eval x)).toList = some cells) ∧
      parts.toList.length = l.length ∧ ∀ (j : Nat) (p : Nat × Operand) (q : Nat × Nat × LOpd), parts.toList[j]? = some p → l[j]? = some q → place p.1 = some (q.1, q.2.1) ∧ cOpd p.2 = some q.2.2)
    (hv : fillA z (l.map fun (o, n, x) => (o, n, x.ev e)) = some cs) :
    ∃ x, (Instr.build t (parts.map fun (i, x) => (i, a.eval x))).run P w = .ok x w ∧ Rel R x (.agg cs) := by
  obtain ⟨i, zv, hi, hzv, hlen, hrel⟩ := zeroC_sound (R := R) hz
  obtain ⟨place, hpl, hn, hr⟩ := hplace
  obtain ⟨vs', h1, h2⟩ := fill_sound place (parts.map fun (i, x) => (i, a.eval x)).toList (l.map fun (o, n, x) => (o, n, x.ev e)) hrel (by simpa using hn) (fun j p q hp hq => by
    simp only [Array.toList_map, List.getElem?_map, Option.map_eq_some_iff] at hp hq
    obtain ⟨p', hp', rfl⟩ := hp
    obtain ⟨q', hq', rfl⟩ := hq
    obtain ⟨h1, h2⟩ := hr j p' q' hp' hq'
    exact ⟨h1, opd_sound he h2⟩) hv
  refine ⟨.agg vs', run_build w t _ vs' (hpl vs' ?_), h2.agg⟩
  simpa [hi, hzv] using h1

theorem len_int (n : Nat) : goInt (n : Int) = Value.int .i64 n := rfl

theorem fold_max {k : IntKind} : ∀ (xs : List AVal) (vs : List Value) (x : Int) (v : AVal), vs.length = xs.length → (∀ j, j < xs.length → Rel R (vs.getD j undef) (xs.getD j .u)) → maxA k x xs = some v →
    ∃ z, (vs.foldlM Builtin.max2 (.int k x) : Sem Value).run P w = .ok z w ∧ Rel R z v
  | [], [], x, v, _, _, h => by simp [maxA] at h; subst h; exact ⟨_, rfl, .i _ _⟩
  | y :: xs, vy :: vs, x, v, hn, hr, h => by
    unfold maxA at h
    split at h
    · rename_i heq; simp at heq
    · rename_i k' y' rest heq
      simp only [List.cons.injEq] at heq
      obtain ⟨rfl, rfl⟩ := heq
      split at h
      · rename_i hk
        subst hk
        have h0 := hr 0 (by simp)
        simp only [List.getD_cons_zero] at h0
        obtain rfl := h0.inv_i
        obtain ⟨z, h1, h2⟩ := fold_max _ vs _ v (by simpa using hn) (fun j hj => by simpa using hr (j + 1) (by simpa using hj)) h
        exact ⟨z, by simpa [List.foldlM_cons, Builtin.max2] using h1, h2⟩
      · simp at h
    · simp at h
theorem fold_min {k : IntKind} : ∀ (xs : List AVal) (vs : List Value) (x : Int) (v : AVal), vs.length = xs.length → (∀ j, j < xs.length → Rel R (vs.getD j undef) (xs.getD j .u)) → minA k x xs = some v →
    ∃ z, (vs.foldlM Builtin.min2 (.int k x) : Sem Value).run P w = .ok z w ∧ Rel R z v
  | [], [], x, v, _, _, h => by simp [minA] at h; subst h; exact ⟨_, rfl, .i _ _⟩
  | y :: xs, vy :: vs, x, v, hn, hr, h => by
    unfold minA at h
    split at h
    · rename_i heq; simp at heq
    · rename_i k' y' rest heq
      simp only [List.cons.injEq] at heq
      obtain ⟨rfl, rfl⟩ := heq
      split at h
      · rename_i hk
        subst hk
        have h0 := hr 0 (by simp)
        simp only [List.getD_cons_zero] at h0
        obtain rfl := h0.inv_i
        obtain ⟨z, h1, h2⟩ := fold_min _ vs _ v (by simpa using hn) (fun j hj => by simpa using hr (j + 1) (by simpa using hj)) h
        exact ⟨z, by simpa [List.foldlM_cons, Builtin.min2] using h1, h2⟩
      · simp at h
    · simp at h

theorem opdO_sound {x : Option Operand} {y : Option LOpd} (he : RelE R a e) (h : cOpdO x = some y) : (x = none ∧ y = none) ∨ ∃ x' y', x = some x' ∧ y = some y' ∧ Rel R (a.eval x') (y'.ev e) := by
  cases x with
  | none => simp only [cOpdO, Option.some.injEq] at h; exact .inl ⟨rfl, h.symm⟩
  | some x =>
    simp only [cOpdO, Option.map_eq_some_iff] at h
    obtain ⟨y', hy, rfl⟩ := h
    exact .inr ⟨x, y', rfl, rfl, opd_sound he hy⟩

theorem low_sound {lo : Option Operand} {lo' : Option LOpd} {n : Int} {h : Nat} (he : RelE R a e) (hc : cOpdO lo = some lo') (hl : lowOf e lo' = some n) (h0 : 0 ≤ n) (hn : n ≤ h) (code : BoundsCode) :
    (match lo.map a.eval with
      | some v => Instr.sliceBound v h code
      | none => pure 0 : Sem Nat).run P w = .ok n.toNat w := by
  rcases opdO_sound he hc with ⟨rfl, rfl⟩ | ⟨x, y, rfl, rfl, hr⟩
  · simp only [lowOf, Option.some.injEq] at hl; subst hl; rfl
  · simp only [lowOf] at hl
    split at hl
    · rename_i k m heq
      simp only [Option.some.injEq] at hl; subst hl
      rw [heq] at hr
      simp only [Option.map_some, hr.inv_i]
      simp [Instr.sliceBound, asIntOf, h0, hn]
    · simp at hl
theorem high_sound {hi : Option Operand} {hi' : Option LOpd} {n : Int} {len cap : Nat} (he : RelE R a e) (hc : cOpdO hi = some hi') (hl : highOf e len hi' = some n) (h0 : 0 ≤ n) (hn : n ≤ cap) (code : BoundsCode) :
    (match hi.map a.eval with
      | some v => Instr.sliceBound v cap code
      | none => pure len : Sem Nat).run P w = .ok n.toNat w := by
  rcases opdO_sound he hc with ⟨rfl, rfl⟩ | ⟨x, y, rfl, rfl, hr⟩
  · simp only [highOf, Option.some.injEq] at hl; subst hl; rfl
  · simp only [highOf] at hl
    split at hl
    · rename_i k m heq
      simp only [Option.some.injEq] at hl; subst hl
      rw [heq] at hr
      simp only [Option.map_some, hr.inv_i]
      simp [Instr.sliceBound, asIntOf, h0, hn]
    · simp at hl

theorem run_sizeOf' {t : TypeId} {n : Nat} (h : szOf P t = some n) : (sizeOf t).run P w = .ok n w := by
  unfold szOf at h
  obtain ⟨i, hi, rfl⟩ := Option.map_eq_some_iff.1 h
  simp [sizeOf, typeInfo, hi]
theorem run_isAgg' {t : TypeId} {ag : Bool} (h : agOf P t = some ag) : (isAgg t).run P w = .ok ag w := by
  unfold agOf at h
  cases hu : P.underlying t with
  | none => simp [hu] at h
  | some d => cases d <;> simp [hu] at h <;> subst h <;> simp [isAgg, run_underlying hu]

/-- A part of a struct or an array. -/
theorem part_sound {t : TypeId} {n off : Nat} {ag : Bool} {vs : Array Value} {cs : List AVal} {v : AVal} (hs : szOf P t = some n) (ha : agOf P t = some ag) (hr : RelC R vs cs) (hv : ldCells cs off n ag = some v) :
    ∃ z, (part t vs off).run P w = .ok z w ∧ Rel R z v := by
  obtain ⟨h1, h2⟩ := ldCells_sound hr hv
  unfold part
  simp only [Sem.run_bind, run_isAgg' ha, Result.andThen_ok]
  cases ag with
  | true => exact ⟨_, by simp [run_sizeOf' hs], (h1 rfl).2⟩
  | false =>
    obtain ⟨x, hx, hr, _⟩ := h2 rfl
    exact ⟨x, by simp [hx], hr⟩
end
end Go.Proofs.Ythpcjekmgohelaa.Ab
