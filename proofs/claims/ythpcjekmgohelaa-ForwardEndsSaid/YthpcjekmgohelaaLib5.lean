/- ABSTRACT RUNS, 15: copying; maps. -/
import Derived.Test.YthpcjekmgohelaaLib4
set_option linter.unusedVariables false
set_option linter.unusedSimpArgs false
namespace Go.Proofs.Ythpcjekmgohelaa.Ab
open Go Go.RowKit
set_option linter.unusedSimpArgs false
set_option linter.unusedVariables false

section
variable {P : Program} {G : GI} {F0 : Nat → Prop} {B0 : Nat} {w w' : World} {β κ β' κ' : Nat → Nat} {H H' : Heap} {a : Act} {e : Env}

theorem cpy_run {as : Array TypeId} {ty t elem : TypeId} {args : Array Value} {x : Value} {ad : Addr} {sl sc n m : Nat} {vs : Array Value} {w' : World}
    (h0 : as[0]? = some t) (a0 : args[0]? = some (.slice (some ad) sl sc)) (a1 : args[1]? = some x) (hu : P.underlying t = some (.slice elem)) (hsz : szOf P elem = some n)
    (hn : (Builtin.lenOf x).run P w = .ok m w) (hf : (Builtin.firstCells n (Nat.min m sl) x).run P w = .ok vs w) (hst : (storeCells ad vs.toList).run P w = .ok () w') :
    (Builtin.copy_ as ty args).run P w = .ok (goInt (Nat.min m sl)) w' := by
  simp [Builtin.copy_, h0, a0, a1, run_underlying hu, run_sizeOf' hsz, hn, hf, hst]

theorem cpy_fine {o : Oper} {c : Call} {t elem : TypeId} {so xo : Operand} {s' x' : LOpd} {n : Nat} {v : AVal} (hop : o.op = .call c) (hc : c.callee = .builtin .copy)
    (h0 : c.argTypes[0]? = some t) (a0 : c.args[0]? = some so) (a1 : c.args[1]? = some xo) (hu : P.underlying t = some (.slice elem))
    (hso : cOpd so = some s') (hxo : cOpd xo = some x') (hsz : szOf P elem = some n)
    (hs : HS G F0 B0 w β κ H) (he : RelE (RPof F0 B0 w β κ H) a e) (hv : evalH e H (.cpy n s' x') = some (v, H')) : Fine P G F0 B0 w β κ H (execOp a.eval o) v H' := by
  have r1 := opd_sound he hso
  have r2 := opd_sound he hxo
  have e0 : (c.args.map a.eval)[0]? = some (a.eval so) := by rw [Array.getElem?_map, a0]; rfl
  have e1 : (c.args.map a.eval)[1]? = some (a.eval xo) := by rw [Array.getElem?_map, a1]; rfl
  simp only [evalH] at hv
  split at hv
  · rename_i new id len hnew heq
    split at hv
    · rename_i esz' rows hobj
      split at hv
      · rename_i hcond
        obtain ⟨rfl, rfl, hall⟩ := hcond
        have hl : ∀ r ∈ new, r.length = n := fun r hr => by simpa using List.all_eq_true.1 hall r hr
        simp only [Option.some.injEq, Prod.mk.injEq] at hv
        obtain ⟨rfl, rfl⟩ := hv
        obtain ⟨hn, hfst⟩ := first_sound (P := P) hs r2 hnew hl (w1 := w) rfl
        obtain ⟨vs, hf, hvs⟩ := hfst (Nat.min new.length rows.length) (Nat.min_le_left _ _)
        rw [heq] at r1
        generalize hvs0 : a.eval so = sv at r1 e0
        cases r1 with
        | row _ _ hid =>
        obtain ⟨cur, T, q2, q3, q4, q5, q6⟩ := hs.obj id _ hobj
        have q2' : w.heap[β id]? = some (.cells cur T (0, 0)) := q2
        have q3' : rows.length ≤ κ id := q3
        have q4' : κ id * n ≤ cur.size := q4
        have hlt : ∀ r ∈ new.take (Nat.min new.length rows.length), r.length = n := fun r hr => hl r (List.mem_of_mem_take hr)
        have hmin : Nat.min new.length rows.length ≤ new.length := Nat.min_le_left _ _
        have hmin2 : Nat.min new.length rows.length ≤ rows.length := Nat.min_le_right _ _
        have htl : (new.take (Nat.min new.length rows.length)).length = Nat.min new.length rows.length := by rw [List.length_take, Nat.min_eq_left hmin]
        have hvsz : vs.size = Nat.min new.length rows.length * n := by rw [hvs.1, flatten_length hlt, htl]
        have hroom : 0 + vs.toList.length ≤ cur.size := by
          have := Nat.mul_le_mul_right n (Nat.le_trans hmin2 q3')
          simp only [Array.length_toList, hvsz]; omega
        have hst := run_storeCells_at P (β id) 0 T vs.toList 0 cur w q2' (by simpa using hroom) (fun v hv => by
          obtain ⟨j, hj, rfl⟩ := List.getElem_of_mem hv
          have hj' : j < (new.take (Nat.min new.length rows.length)).flatten.length := by rw [← hvs.1]; simpa using hj
          have h8 := hvs.2 j hj'
          have h9 := h8.2.one h8.1
          rw [getD_toList, List.getD_eq_getElem?_getD, List.getElem?_eq_getElem hj] at h9
          exact h9)
        simp only [Nat.add_zero] at hst
        have hrun := cpy_run (P := P) (ty := o.type) (w' := w.setRow (β id) (splice cur 0 vs.toList)) h0 e0 e1 hu hsz hn hf hst
        have hrl : (new.take rows.length ++ rows.drop new.length).length = rows.length := by
          rw [List.length_append, List.length_take, List.length_drop]; omega
        refine ⟨_, _, β, κ, run_call_builtin hop hc _ (by simp only [builtin, Sem.run_bind, hrun]; rfl), set_row_adv (vs' := splice cur 0 vs.toList) hs hobj rfl rfl q2' (fun hle' hg => ⟨_, T, hg, by rw [hrl]; exact q3, by rw [splice_size _ _ _ hroom]; exact q4, ?_, ?_⟩), .inl ⟨_, rfl, ?_⟩⟩
        · intro r hr
          rcases List.mem_append.1 hr with h | h
          · exact hl r (List.mem_of_mem_take h)
          · exact q5 r (List.mem_of_mem_drop h)
        · generalize RPof F0 B0 (w.setRow (β id) (splice cur 0 vs.toList)) β κ (H.set id (.row n (new.take rows.length ++ rows.drop new.length) false)) = R' at hle' ⊢
          intro i j hi hj
          rw [hrl] at hi
          rw [splice_getD _ _ _ _ hroom, if_neg (by omega), Nat.zero_add, Nat.sub_zero, Array.length_toList (xs := vs), hvsz]
          by_cases hlo : i < new.length
          · have him : i < Nat.min new.length rows.length := Nat.lt_min.2 ⟨hlo, hi⟩
            rw [if_pos (flat_lt him hj (Nat.le_refl _))]
            have e9 : (new.take rows.length ++ rows.drop new.length).getD i [] = (new.take (Nat.min new.length rows.length)).getD i [] := by
              rw [List.getD_eq_getElem?_getD, List.getElem?_append_left (by rw [List.length_take]; omega), List.getD_eq_getElem?_getD, List.getElem?_take_of_lt hi, List.getElem?_take_of_lt him]
            rw [e9, ← getD_toList]
            have := (hvs.rows hlt) i j (by rw [htl]; exact him) hj
            exact ⟨this.1, this.2.le hle'⟩
          · have hge : Nat.min new.length rows.length ≤ i := by omega
            have hmul := Nat.mul_le_mul_right n hge
            rw [if_neg (by omega)]
            have e9 : (new.take rows.length ++ rows.drop new.length).getD i [] = rows.getD i [] := by
              have h7 : (new.take rows.length).length = new.length := by rw [List.length_take]; omega
              rw [List.getD_eq_getElem?_getD, List.getElem?_append_right (by omega), h7, List.getElem?_drop, List.getD_eq_getElem?_getD]
              congr 2; omega
            rw [e9]
            have := q6 i j hi hj
            exact ⟨this.1, this.2.le hle'⟩
        · have : goInt ((Nat.min new.length rows.length : Nat) : Int) = .int .i64 (min (new.length : Int) (rows.length : Int)) := by
            unfold goInt; congr 1; rw [show Nat.min new.length rows.length = min new.length rows.length from rfl]; omega
          rw [this]; exact .i _ _
      · simp at hv
    · simp at hv
  · simp at hv

/-! ### Maps -/
theorem run_getObj {r : Nat} {o : Obj} (h : w.heap[r]? = some o) (hc : ∀ vs t fr, o ≠ .cells vs t fr) : (getObj r).run P w = .ok o w := by
  unfold getObj
  cases o <;> first | (simp only [Sem.run, h]; done) | exact absurd rfl (hc _ _ _)

theorem run_setMap {r : Nat} {es es' : Array MapEntry} {k k' : Nat} (h : w.heap[r]? = some (.map es k)) : (setObj r (.map es' k')).run P w = .ok () { w with heap := w.heap.setIfInBounds r (.map es' k') } := by
  unfold setObj
  simp only [Sem.run, h]

theorem checkKey_leaf {empty : Bool} {t : TypeId} {k : LK} {v : Value} (hk : leafK P t = some k) : (Instr.checkKey empty 10000 t v).run P w = .ok () w := by
  unfold leafK at hk
  unfold Instr.checkKey
  split at hk <;> rename_i hu <;> simp at hk <;> simp [run_underlying hu]

theorem ba_beq (x y : ByteArray) : (x == y) = (x.data.toList == y.data.toList) := by
  cases x with | mk a => cases y with | mk b =>
  show (a == b) = (a.toList == b.toList)
  rw [Bool.eq_iff_iff]
  simp [Array.toList_inj]

theorem same_sound {R : RP} {t : TypeId} {d : TypeDesc} {k : LK} {x y : AVal} {vx vy : Value} {r : Bool} (hk : leafK P t = some k) (hu : P.underlying t = some d) (hx : Rel R vx x) (hy : Rel R vy y) (h : leafEq k x y = some r) :
    Instr.sameNow d vx vy = some r ∧ (r = true → vx = vy ∧ Instr.sameBits 10000 vy vx = true) := by
  unfold leafK at hk
  rw [hu] at hk
  unfold leafEq at h
  split at h
  · obtain rfl := hx.inv_i; obtain rfl := hy.inv_i
    split at h
    · rename_i e; subst e
      simp only [Option.some.injEq] at h
      split at hk <;> simp at hk
      rename_i e; simp only [Option.some.injEq] at e; subst e
      refine ⟨by simp [Instr.sameNow, h], fun hr => ?_⟩
      subst hr
      simp at h; subst h
      exact ⟨rfl, by simp [Instr.sameBits]⟩
    · simp at h
  · obtain rfl := hx.inv_b; obtain rfl := hy.inv_b
    simp only [Option.some.injEq] at h
    split at hk <;> simp at hk
    rename_i e; simp only [Option.some.injEq] at e; subst e
    refine ⟨by simp [Instr.sameNow, h], fun hr => ?_⟩
    subst hr
    simp at h; subst h
    exact ⟨rfl, by simp [Instr.sameBits]⟩
  · rename_i l1 l2
    obtain ⟨s1, rfl, rfl⟩ := hx.inv_s; obtain ⟨s2, rfl, rfl⟩ := hy.inv_s
    simp only [Option.some.injEq] at h
    split at hk <;> simp at hk
    rename_i e; simp only [Option.some.injEq] at e; subst e
    have key := ba_beq s1 s2
    refine ⟨by simp only [Instr.sameNow]; rw [key, h], fun hr => ?_⟩
    subst hr
    have h' : s1 = s2 := by
      have e' : s1.data.toList = s2.data.toList := by simpa using h
      cases s1; cases s2; simp at e'; subst e'; rfl
    subst h'
    exact ⟨rfl, by simp only [Instr.sameBits]; rw [key, h]⟩
  · simp at h

theorem find_sound {R : RP} {t : TypeId} {d : TypeDesc} {lk : LK} {k x : AVal} {vk : Value} (hk : leafK P t = some lk) (hu : P.underlying t = some d) (hx : Rel R vk k) :
    ∀ (es : List (AVal × AVal)) (L : List MapEntry) (i : Nat), L.length = es.length → (∀ j, j < es.length → Rel R (L.getD j default).key (es.getD j (.u, .u)).1) →
      (findM (.leaf lk) k es = some none → Instr.findNow d vk L i = some none ∧ ∀ x, putM (.leaf lk) k x es = some (es ++ [(k, x)])) ∧
      (∀ v, findM (.leaf lk) k es = some (some v) → ∃ j, j < es.length ∧ Instr.findNow d vk L i = some (some (i + j, (L.getD j default).val)) ∧ v = (es.getD j (.u, .u)).2 ∧ vk = (L.getD j default).key ∧
        Instr.sameBits 10000 (L.getD j default).key vk = true ∧ ∀ x, putM (.leaf lk) k x es = some (es.set j ((es.getD j (.u, .u)).1, x)))
  | [], L, i, hl, hr => by
    have : L = [] := by simpa using hl
    subst this
    exact ⟨fun _ => ⟨rfl, fun _ => rfl⟩, fun v h => by simp [findM] at h⟩
  | (k', v') :: es, L, i, hl, hr => by
    cases L with
    | nil => simp at hl
    | cons e L =>
      have h0 := hr 0 (by simp)
      simp only [List.getD_cons_zero] at h0
      have ih := find_sound (x := x) hk hu hx es L (i + 1) (by simpa using hl) (fun j hj => by have := hr (j + 1) (by simpa using hj); simpa using this)
      simp only [findM, eqA]
      cases hq : leafEq lk k k' with
      | none => exact ⟨fun h => by simp at h, fun v h => by simp at h⟩
      | some b =>
        obtain ⟨s1, s2⟩ := same_sound hk hu hx h0 hq
        cases b with
        | true =>
          obtain ⟨s3, s4⟩ := s2 rfl
          refine ⟨fun h => by simp at h, fun v h => ⟨0, by simp, ?_⟩⟩
          simp only [Option.some.injEq] at h
          subst h
          refine ⟨by simp [Instr.findNow, s1], by simp, s3, s4, fun x => ?_⟩
          simp [putM, eqA, hq]
        | false =>
          refine ⟨fun h => ?_, fun v h => ?_⟩
          · obtain ⟨i1, i2⟩ := ih.1 (by simpa using h)
            exact ⟨by simp [Instr.findNow, s1, i1], fun x => by simp [putM, eqA, hq, i2]⟩
          · obtain ⟨j, i0, i1, i2, i3, i4, i5⟩ := ih.2 v (by simpa using h)
            refine ⟨j + 1, by simpa using i0, by simp [Instr.findNow, s1, i1, Nat.add_assoc, Nat.add_comm 1 j], by simpa using i2, by simpa using i3, by simpa using i4, fun x => by simp [putM, eqA, hq, i5]⟩

theorem mkm_fine {o : Oper} {t : TypeId} (hop : o.op = .makeMap t none) (hs : HS G F0 B0 w β κ H) : Fine P G F0 B0 w β κ H (execOp a.eval o) (.mp H.length) (H ++ [.map []]) := by
  have hadv := adv_new hs (.map #[] 0) (.map []) 0 rfl ⟨#[], 0, by simp only [RPof]; rw [upd_self]; exact push_self w _, by simp, fun j hj => by simp at hj⟩
  refine ⟨.value (.map (some w.heap.size)), _, _, _, ?_, hadv, .inl ⟨_, rfl, ?_⟩⟩
  · simp [execOp, hop, Instr.makeMap]
  · have := Rel.mp (R := RPof F0 B0 { w with heap := w.heap.push (.map #[] 0) } (upd β H.length w.heap.size) (upd κ H.length 0) (H ++ [.map []])) H.length (by simp [RPof])
    simpa [RPof, upd_self] using this

theorem getD_entries (L : Array MapEntry) (j : Nat) : L.toList.getD j default = L.getD j default := by
  rw [List.getD_eq_getElem?_getD, Array.getElem?_toList, Array.getD_eq_getD_getElem?]

theorem lkp_fine {o : Oper} {t key elem : TypeId} {xo ko : Operand} {x' k' : LOpd} {lk : LK} {z v : AVal} {ok : Bool} (hop : o.op = .lookup t xo ko ok) (hu : P.underlying t = some (.map key elem))
    (hx : cOpd xo = some x') (hko : cOpd ko = some k') (hk : leafK P key = some lk) (hz : zeroV P elem = some z)
    (hs : HS G F0 B0 w β κ H) (he : RelE (RPof F0 B0 w β κ H) a e) (hv : evalH e H (.lkp (.leaf lk) z ok x' k') = some (v, H')) : H' = H ∧ Fine P G F0 B0 w β κ H (execOp a.eval o) v H := by
  have r1 := opd_sound he hx
  have r2 := opd_sound he hko
  have hd : ∃ d, P.underlying key = some d := by
    unfold leafK at hk
    cases h : P.underlying key with
    | none => rw [h] at hk; simp at hk
    | some d => exact ⟨d, rfl⟩
  obtain ⟨d, hd⟩ := hd
  unfold zeroV at hz
  split at hz
  · rename_i i hi
    split at hz
    · rename_i zv hzv
      have hzr := ofVal_sound (R := RPof F0 B0 w β κ H) hz
      simp only [evalH] at hv
      split at hv
      · rename_i id heq
        split at hv
        · rename_i es hobj
          rw [heq] at r1
          generalize hvp : a.eval xo = vp at r1
          cases r1 with
          | mp _ hid =>
          obtain ⟨ents, clock, q1, q2, q3⟩ := hs.obj id _ hobj
          have q1' : w.heap[β id]? = some (.map ents clock) := q1
          have hg := run_getObj (P := P) q1' (fun _ _ _ h => by cases h)
          have hck := fun b => checkKey_leaf (P := P) (w := w) (empty := b) (v := a.eval ko) hk
          obtain ⟨f1, f2⟩ := find_sound (x := .u) hk hd r2 es ents.toList 0 (by simpa using q2) (fun j hj => by rw [getD_entries]; exact (q3 j hj).1)
          have hvp' : a.eval xo = .map (some (β id)) := hvp
          split at hv
          · rename_i val hfind
            obtain ⟨j, i0, i1, i2, i3, _⟩ := f2 val hfind
            simp only [Option.some.injEq, Prod.mk.injEq] at hv
            obtain ⟨rfl, rfl⟩ := hv
            rw [getD_entries] at i1
            have hrv := (q3 j i0).2
            rw [← i2] at hrv
            refine ⟨rfl, .value (if ok then .tuple #[(ents.getD j default).val, .bool true] else (ents.getD j default).val), w, β, κ, ?_, Adv.refl hs, .inl ⟨_, rfl, ?_⟩⟩
            · simp [execOp, hop, Instr.lookup, run_underlying hu, hvp', hg, hck, Instr.findKey, run_underlying hd, i1]
            · cases ok with
              | false => exact hrv
              | true => exact .tup _ _ rfl (fun j hj => by
                  match j, hj with
                  | 0, _ => exact hrv
                  | 1, _ => exact .b true)
          · rename_i hfind
            obtain ⟨i1, _⟩ := f1 hfind
            simp only [Option.some.injEq, Prod.mk.injEq] at hv
            obtain ⟨rfl, rfl⟩ := hv
            refine ⟨rfl, .value (if ok then .tuple #[zv, .bool false] else zv), w, β, κ, ?_, Adv.refl hs, .inl ⟨_, rfl, ?_⟩⟩
            · simp [execOp, hop, Instr.lookup, run_underlying hu, hvp', hg, hck, Instr.findKey, run_underlying hd, i1, zeroValue, typeInfo, hi, hzv]
            · cases ok with
              | false => exact hzr
              | true => exact .tup _ _ rfl (fun j hj => by
                  match j, hj with
                  | 0, _ => exact hzr
                  | 1, _ => exact .b false)
          · simp at hv
        · simp at hv
      · simp at hv
    · simp at hz
  · simp at hz

theorem lenm_fine {o : Oper} {c : Call} {t k' el : TypeId} {xo : Operand} {x' : LOpd} {v : AVal} (hop : o.op = .call c) (hc : c.callee = .builtin .len)
    (h0 : c.argTypes[0]? = some t) (a0 : c.args[0]? = some xo) (hu : P.underlying t = some (.map k' el)) (hx : cOpd xo = some x')
    (hs : HS G F0 B0 w β κ H) (he : RelE (RPof F0 B0 w β κ H) a e) (hv : evalH e H (.lenm x') = some (v, H')) : H' = H ∧ Fine P G F0 B0 w β κ H (execOp a.eval o) v H := by
  have r1 := opd_sound he hx
  have e0 : (c.args.map a.eval)[0]? = some (a.eval xo) := by rw [Array.getElem?_map, a0]; rfl
  simp only [evalH] at hv
  split at hv
  · rename_i id heq
    split at hv
    · rename_i es hobj
      simp only [Option.some.injEq, Prod.mk.injEq] at hv
      obtain ⟨rfl, rfl⟩ := hv
      rw [heq] at r1
      generalize hvp : a.eval xo = vp at r1 e0
      cases r1 with
      | mp _ hid =>
      obtain ⟨ents, clock, q1, q2, q3⟩ := hs.obj id _ hobj
      have q1' : w.heap[β id]? = some (.map ents clock) := q1
      have hg := run_getObj (P := P) q1' (fun _ _ _ h => by cases h)
      have e0' : (c.args.map a.eval)[0]? = some (.map (some (β id))) := e0
      refine ⟨rfl, _, w, β, κ, run_call_builtin hop hc _ (v := goInt ents.size) (by simp only [builtin, Sem.run_bind]; simp [Builtin.len_, h0, e0', run_underlying hu, hg]), Adv.refl hs, .inl ⟨_, rfl, ?_⟩⟩
      rw [q2]; exact .i _ _
    · simp at hv
  · rename_i heq
    simp only [Option.some.injEq, Prod.mk.injEq] at hv
    obtain ⟨rfl, rfl⟩ := hv
    rw [heq] at r1
    generalize hvp : a.eval xo = vp at r1 e0
    cases r1
    exact ⟨rfl, _, w, β, κ, run_call_builtin hop hc _ (v := goInt 0) (by simp only [builtin, Sem.run_bind]; simp [Builtin.len_, h0, e0, run_underlying hu]), Adv.refl hs, .inl ⟨_, rfl, .i _ _⟩⟩
  · simp at hv

theorem mup_fine {o : Oper} {t key elem : TypeId} {mo ko xo : Operand} {m' k' x' : LOpd} {lk : LK} {v : AVal} (hop : o.op = .mapUpdate t mo ko xo) (hu : P.underlying t = some (.map key elem))
    (hm : cOpd mo = some m') (hko : cOpd ko = some k') (hx : cOpd xo = some x') (hk : leafK P key = some lk)
    (hs : HS G F0 B0 w β κ H) (he : RelE (RPof F0 B0 w β κ H) a e) (hv : evalH e H (.mup (.leaf lk) m' k' x') = some (v, H')) : Fine P G F0 B0 w β κ H (execOp a.eval o) v H' := by
  have r1 := opd_sound he hm
  have r2 := opd_sound he hko
  have r3 := opd_sound he hx
  have hd : ∃ d, P.underlying key = some d := by
    unfold leafK at hk
    cases h : P.underlying key with
    | none => rw [h] at hk; simp at hk
    | some d => exact ⟨d, rfl⟩
  obtain ⟨d, hd⟩ := hd
  simp only [evalH] at hv
  split at hv
  · rename_i id heq
    split at hv
    · rename_i es hobj
      split at hv
      · rename_i es' hput
        simp only [Option.some.injEq, Prod.mk.injEq] at hv
        obtain ⟨rfl, rfl⟩ := hv
        rw [heq] at r1
        generalize hvp : a.eval mo = vp at r1
        cases r1 with
        | mp _ hid =>
        obtain ⟨ents, clock, q1, q2, q3⟩ := hs.obj id _ hobj
        have q1' : w.heap[β id]? = some (.map ents clock) := q1
        have hlt : β id < w.heap.size := (Array.getElem?_eq_some_iff.1 q1').1
        have hg := run_getObj (P := P) q1' (fun _ _ _ h => by cases h)
        have hck := fun b => checkKey_leaf (P := P) (w := w) (empty := b) (v := a.eval ko) hk
        obtain ⟨f1, f2⟩ := find_sound (x := .u) hk hd r2 es ents.toList 0 (by simpa using q2) (fun j hj => by rw [getD_entries]; exact (q3 j hj).1)
        have hvp' : a.eval mo = .map (some (β id)) := hvp
        have fin : ∀ (ents' : Array MapEntry) (clock' : Nat), ents'.size = es'.length → (∀ j, j < es'.length → Rel (RPof F0 B0 w β κ H) (ents'.getD j default).key (es'.getD j (.u, .u)).1 ∧ Rel (RPof F0 B0 w β κ H) (ents'.getD j default).val (es'.getD j (.u, .u)).2) →
            (Instr.mapUpdate t (a.eval mo) (a.eval ko) (a.eval xo)).run P w = .ok () { w with heap := w.heap.setIfInBounds (β id) (.map ents' clock') } → Fine P G F0 B0 w β κ H (execOp a.eval o) .u (H.set id (.map es')) := by
          intro ents' clock' h1 h2 hrun
          have hother : ∀ b, b ≠ β id → (w.heap.setIfInBounds (β id) (.map ents' clock'))[b]? = w.heap[b]? := fun b hb => Array.getElem?_setIfInBounds_ne (Ne.symm hb)
          have hle := le_set (w' := { w with heap := w.heap.setIfInBounds (β id) (.map ents' clock') }) (o2 := .map es') hs hobj rfl rfl (by simp) rfl rfl rfl hother
          exact ⟨.skip, { w with heap := w.heap.setIfInBounds (β id) (.map ents' clock') }, β, κ, by simp [execOp, hop, hrun], adv_set (w' := { w with heap := w.heap.setIfInBounds (β id) (.map ents' clock') }) hs hobj rfl rfl (by simp) rfl rfl rfl hother ⟨ents', clock', by simp [RPof, hlt], h1, fun j hj => ⟨(h2 j hj).1.le hle, (h2 j hj).2.le hle⟩⟩, .inr ⟨rfl, rfl⟩⟩
        cases hfind : findM (.leaf lk) (k'.ev e) es with
        | none =>
          exfalso
          have : ∀ es : List (AVal × AVal), findM (.leaf lk) (k'.ev e) es = none → ∀ x, putM (.leaf lk) (k'.ev e) x es = none := by
            intro es
            induction es with
            | nil => intro h; simp [findM] at h
            | cons p es ih =>
              obtain ⟨p1, p2⟩ := p
              intro h x
              cases hq : eqA (EK.leaf lk) (k'.ev e) p1 with
              | none => simp [putM, hq]
              | some b =>
                cases b with
                | true => simp [findM, hq] at h
                | false =>
                  simp only [findM, hq] at h
                  simp [putM, hq, ih h x]
          rw [this es hfind] at hput
          simp at hput
        | some res =>
          cases res with
          | none =>
            obtain ⟨i1, i2⟩ := f1 hfind
            have hput' : es' = es ++ [(k'.ev e, x'.ev e)] := by
              obtain ⟨_, g2⟩ := (find_sound (x := x'.ev e) hk hd r2 es ents.toList 0 (by simpa using q2) (fun j hj => by rw [getD_entries]; exact (q3 j hj).1)).1 hfind
              rw [g2] at hput; simpa using hput.symm
            subst hput'
            refine fin (ents.push { key := a.eval ko, val := a.eval xo, born := clock }) (clock + 1) (by simp [q2]) (fun j hj => ?_) ?_
            · rw [List.length_append, List.length_singleton] at hj
              rw [Array.getD_eq_getD_getElem?, Array.getElem?_push, List.getD_eq_getElem?_getD, q2]
              by_cases hje : j = es.length
              · subst hje
                rw [if_pos rfl, List.getElem?_append_right (Nat.le_refl _)]
                simp
                exact ⟨r2, r3⟩
              · have hj' : j < es.length := by omega
                rw [if_neg hje, List.getElem?_append_left hj', ← Array.getD_eq_getD_getElem?, ← List.getD_eq_getElem?_getD]
                exact q3 j hj'
            · simp [Instr.mapUpdate, run_underlying hu, hvp', hg, hck, Instr.findKey, run_underlying hd, i1, run_setMap q1']
          | some val =>
            obtain ⟨j, i0, i1, i2, i3, i4, _⟩ := f2 val hfind
            have hput' : es' = es.set j ((es.getD j (.u, .u)).1, x'.ev e) := by
              obtain ⟨_, g2⟩ := find_sound (x := x'.ev e) hk hd r2 es ents.toList 0 (by simpa using q2) (fun j hj => by rw [getD_entries]; exact (q3 j hj).1)
              obtain ⟨j', p0, p1, p2, p3, p4, p5⟩ := g2 val hfind
              rw [p1] at i1
              simp only [Option.some.injEq, Prod.mk.injEq] at i1
              have : j' = j := by omega
              subst this
              rw [p5] at hput; simpa using hput.symm
            subst hput'
            rw [getD_entries] at i3 i4
            have hjs : j < ents.size := by omega
            have hold : (Option.map (fun x => x.key) ents[j]?).getD (a.eval ko) = (ents.getD j default).key := by
              rw [Array.getD_eq_getD_getElem?, Array.getElem?_eq_getElem hjs]; rfl
            refine fin (ents.modify j fun e => { e with key := a.eval ko, val := a.eval xo }) clock (by simp [q2]) (fun i hi => ?_) ?_
            · rw [List.length_set] at hi
              rw [Array.getD_eq_getD_getElem?, Array.getElem?_modify, List.getD_eq_getElem?_getD]
              by_cases hij : j = i
              · subst hij
                rw [if_pos rfl, List.getElem?_set_self i0, Array.getElem?_eq_getElem hjs]
                simp only [Option.map_some, Option.getD_some]
                rw [i3]
                exact ⟨(q3 j i0).1, r3⟩
              · rw [if_neg hij, List.getElem?_set_ne hij, ← Array.getD_eq_getD_getElem?, ← List.getD_eq_getElem?_getD]
                exact q3 i hi
            · simp [Instr.mapUpdate, run_underlying hu, hvp', hg, hck, Instr.findKey, run_underlying hd, i1, Instr.keyThatStays, hold, run_setMap q1']
              intro hf
              rw [Array.getD_eq_getD_getElem?] at i4
              rw [i4] at hf; cases hf
      · simp at hv
    · simp at hv
  · simp at hv
end
end Go.Proofs.Ythpcjekmgohelaa.Ab

/- ABSTRACT RUNS, 16: each operation comes to what it is said to. -/
namespace Go.Proofs.Ythpcjekmgohelaa.Ab
open Go Go.RowKit
set_option linter.unusedSimpArgs false
set_option linter.unusedVariables false

section
variable {P : Program} {G : GI} {F0 : Nat → Prop} {B0 : Nat} {w w' : World} {β κ β' κ' : Nat → Nat} {H H' : Heap} {a : Act} {e : Env}

theorem pure_fine {dr : Bool} {o : Oper} {l : LOp} {v : AVal} (hc : cOp P dr o.op = some l) (hb : l.isBsl = false) (hs : HS G F0 B0 w β κ H) (he : RelE (RPof F0 B0 w β κ H) a e) (hv : evalP e l = some v) :
    Fine P G F0 B0 w β κ H (execOp a.eval o) v H := by
  obtain ⟨x, h1, h2⟩ := pure_sound (P := P) (w := w) hc hb he hv
  exact ⟨_, w, β, κ, h1, Adv.refl hs, .inl ⟨x, rfl, h2⟩⟩

theorem bsl_of {dr : Bool} {o : Oper} {n len : Nat} {z : List AVal} {ps : List (Nat × LOpd)} (hc : cOp P dr o.op = some (.bsl n z len ps)) :
    ∃ t parts elem, o.op = .buildSlice t len parts ∧ P.underlying t = some (.slice elem) ∧ cParts parts.toList = some ps ∧ zeroC P elem = some z ∧ szOf P elem = some n ∧ len * n ≤ 16777216 ∧ n ≠ 0 := by
  cases hop : o.op <;> rw [hop] at hc <;> simp only [cOp, okb, reduceCtorEq] at hc
  case buildSlice t len' parts =>
    split at hc
    · rename_i elem ps' hu hps
      split at hc
      · rename_i z' n' hz hn
        split at hc
        · rename_i hcond
          simp only [Bool.and_eq_true, decide_eq_true_eq, bne_iff_ne, ne_eq] at hcond
          simp only [Option.some.injEq, LOp.bsl.injEq] at hc
          obtain ⟨rfl, rfl, rfl, rfl⟩ := hc
          exact ⟨t, parts, elem, rfl, hu, hps, hz, hn, by simpa using hcond.1, by simpa using hcond.2⟩
        · simp at hc
      · simp at hc
    · simp at hc
  all_goals (exfalso; (try (repeat' split at hc)) <;> first | (simp at hc; done) | (simp [Option.map_eq_some_iff] at hc; done))

theorem evalP_fine {dr : Bool} {o : Oper} {l : LOp} {v : AVal} (hc : cOp P dr o.op = some l) (hs : HS G F0 B0 w β κ H) (he : RelE (RPof F0 B0 w β κ H) a e) (hv : evalP e l = some v) :
    Fine P G F0 B0 w β κ H (execOp a.eval o) v H := by
  by_cases hb : l.isBsl = true
  · cases l <;> simp [LOp.isBsl] at hb
    rename_i n z len ps
    obtain ⟨t, parts, elem, hop, hu, hps, hz, hn, hlim, h0⟩ := bsl_of hc
    exact bsl_fine hop hu hps hz hn hlim h0 hs he hv
  · exact pure_fine hc (by simpa using hb) hs he hv

theorem evalH_fine {dr : Bool} {o : Oper} {l : LOp} {v : AVal} (hc : cOp P dr o.op = some l) (hs : HS G F0 B0 w β κ H) (he : RelE (RPof F0 B0 w β κ H) a e) (hv : evalH e H l = some (v, H')) :
    Fine P G F0 B0 w β κ H (execOp a.eval o) v H' ∧ (l.turns = false → H' = H) := by
  cases hop : o.op <;> rw [hop] at hc <;> simp only [cOp, okb, reduceCtorEq] at hc
  case alloc t =>
    simp only [Option.map_eq_some_iff] at hc
    obtain ⟨z, hz, rfl⟩ := hc
    simp only [evalH, Option.some.injEq, Prod.mk.injEq] at hv
    obtain ⟨rfl, rfl⟩ := hv
    exact ⟨alloc_fine hop hz hs, fun h => by simp [LOp.turns] at h⟩
  case box t x =>
    simp only [Option.map_eq_some_iff] at hc
    obtain ⟨y, hy, rfl⟩ := hc
    simp only [evalH] at hv
    split at hv
    · rename_i cs hcs
      simp only [Option.some.injEq, Prod.mk.injEq] at hv
      obtain ⟨rfl, rfl⟩ := hv
      exact ⟨box_fine hop hy hs he hcs, fun h => by simp [LOp.turns] at h⟩
    · simp at hv
  case load t p =>
    split at hc
    · rename_i n ag p' hn hag hp
      split at hc
      · rename_i hcond
        simp only [Option.some.injEq] at hc
        subst hc
        obtain ⟨rfl, h2⟩ := load_fine hop hn hag (by simpa using hcond) hp hs he hv
        exact ⟨h2, fun _ => rfl⟩
      · simp at hc
    · simp at hc
  case store t p x =>
    split at hc
    · rename_i n p' x' hn hp hx
      simp only [Option.some.injEq] at hc
      subst hc
      exact ⟨store_fine hop hn hp hx hs he hv, fun h => by simp [LOp.turns] at h⟩
    · simp at hc
  case makeSlice t l' c =>
    split at hc
    · rename_i elem l2 c2 hu hl2 hc2
      split at hc
      · rename_i i z hi hz
        split at hc
        · rename_i h0
          simp only [Option.some.injEq] at hc
          subst hc
          exact ⟨msl_fine hop hu hl2 hc2 hi hz (by simpa using h0) hs he hv, fun h => by simp [LOp.turns] at h⟩
        · simp at hc
      · simp at hc
    · simp at hc
  case makeMap t r =>
    split at hc
    · split at hc
      · simp only [Option.some.injEq] at hc
        subst hc
        simp only [evalH, Option.some.injEq, Prod.mk.injEq] at hv
        obtain ⟨rfl, rfl⟩ := hv
        exact ⟨mkm_fine hop hs, fun h => by simp [LOp.turns] at h⟩
      · simp at hc
    · simp at hc
  case lookup t x k ok =>
    split at hc
    · rename_i key elem x' k' hu hx hk
      split at hc
      · rename_i lk z hlk hz
        simp only [Option.some.injEq] at hc
        subst hc
        obtain ⟨rfl, h2⟩ := lkp_fine hop hu hx hk hlk hz hs he hv
        exact ⟨h2, fun _ => rfl⟩
      · simp at hc
    · simp at hc
  case mapUpdate t m k x =>
    split at hc
    · rename_i key elem m' k' x' hu hm hk hx
      split at hc
      · rename_i lk hlk
        simp only [Option.some.injEq] at hc
        subst hc
        exact ⟨mup_fine hop hu hm hk hx hlk hs he hv, fun h => by simp [LOp.turns] at h⟩
      · simp at hc
    · simp at hc
  case call c =>
    split at hc
    · rename_i hcal
      split at hc
      · rename_i t x h0 h1
        split at hc
        all_goals (first | (simp only [Option.some.injEq, Option.map_eq_some_iff, reduceCtorEq] at hc))
        · subst hc; simp [evalH] at hv
        · subst hc; simp [evalH] at hv
        · subst hc; simp [evalH] at hv
        · rename_i k' el x' hu hx
          subst hc
          obtain ⟨rfl, h2⟩ := lenm_fine hop hcal h0 h1 hu hx hs he hv
          exact ⟨h2, fun _ => rfl⟩
      · simp at hc
    · rename_i hcal
      split at hc
      · rename_i t t' so xo h0 h1 g0 g1
        split at hc
        · rename_i elem d s' x' hu hd hso hxo
          split at hc
          · rename_i i hi
            split at hc
            · rename_i hcond
              simp only [Bool.and_eq_true, decide_eq_true_eq, bne_iff_ne, ne_eq] at hcond
              simp only [Option.some.injEq] at hc
              subst hc
              obtain ⟨z, hz⟩ := Option.isSome_iff_exists.1 hcond.1.2
              exact ⟨app_fine hop hcal h0 h1 g0 g1 hu hd hcond.1.1 hso hxo hi hz (by simpa using hcond.2) hs he hv, fun h => by simp [LOp.turns] at h⟩
            · simp at hc
          · simp at hc
        · simp at hc
      · simp at hc
    · rename_i hcal
      split at hc
      · rename_i t so xo h0 g0 g1
        split at hc
        · rename_i elem s' x' hu hso hxo
          split at hc
          · rename_i n hn
            split at hc
            · simp only [Option.some.injEq] at hc
              subst hc
              exact ⟨cpy_fine hop hcal h0 g0 g1 hu hso hxo hn hs he hv, fun h => by simp [LOp.turns] at h⟩
            · simp at hc
          · simp at hc
        · simp at hc
      · simp at hc
    · obtain ⟨z, _, rfl⟩ := Option.map_eq_some_iff.1 hc; simp [evalH] at hv
    · obtain ⟨z, _, rfl⟩ := Option.map_eq_some_iff.1 hc; simp [evalH] at hv
    · simp at hc
    · simp at hc
    · split at hc
      · obtain ⟨z, _, rfl⟩ := Option.map_eq_some_iff.1 hc; simp [evalH] at hv
      · simp at hc
    · split at hc
      · simp only [Option.some.injEq] at hc; subst hc; simp [evalH] at hv
      · simp at hc
  all_goals
    exfalso
    (try (repeat' split at hc)) <;> first
      | (simp at hc; done)
      | (obtain ⟨z, _, rfl⟩ := Option.map_eq_some_iff.1 hc; simp [evalH] at hv; done)
      | (simp only [Option.some.injEq] at hc; subst hc; simp [evalH] at hv; done)
end
end Go.Proofs.Ythpcjekmgohelaa.Ab

/- ABSTRACT RUNS, 17: values without numbers; rows that are written no more; calls. -/
namespace Go.Proofs.Ythpcjekmgohelaa.Ab
open Go Go.RowKit
set_option linter.unusedSimpArgs false
set_option linter.unusedVariables false

/-! ### Lists -/
theorem thawL_map (H : Heap) : ∀ vs : List AVal, thawL H vs = vs.map (thaw H)
  | [] => by simp [thawL]
  | v :: vs => by simp [thawL, thawL_map H vs]
theorem thawLL_map (H : Heap) : ∀ vs : List (List AVal), thawLL H vs = vs.map (fun r => r.map (thaw H))
  | [] => by simp [thawLL]
  | v :: vs => by simp [thawLL, thawL_map, thawLL_map H vs]
theorem cleanL_all : ∀ vs : List AVal, cleanL vs = vs.all clean
  | [] => by simp [cleanL]
  | v :: vs => by simp [cleanL, cleanL_all vs]
theorem cleanLL_all : ∀ vs : List (List AVal), cleanLL vs = vs.all fun r => r.all clean
  | [] => by simp [cleanLL]
  | v :: vs => by simp [cleanLL, cleanL_all, cleanLL_all vs]
theorem refsL_flat : ∀ vs : List AVal, refsL vs = vs.flatMap refs
  | [] => by simp [refsL]
  | v :: vs => by simp [refsL, refsL_flat vs]
theorem refsLL_flat : ∀ vs : List (List AVal), refsLL vs = vs.flatMap fun r => r.flatMap refs
  | [] => by simp [refsLL]
  | v :: vs => by simp [refsLL, refsL_flat, refsLL_flat vs]

theorem all_getD {p : AVal → Bool} {cs : List AVal} (h : cs.all p = true) {j : Nat} (hj : j < cs.length) : p (cs.getD j .u) = true := by
  rw [List.getD_eq_getElem?_getD, List.getElem?_eq_getElem hj]
  exact List.all_eq_true.1 h _ (List.getElem_mem hj)
theorem all_getDD {p : AVal → Bool} {rows : List (List AVal)} (h : (rows.all fun r => r.all p) = true) {esz i j : Nat} (hr : ∀ r ∈ rows, r.length = esz) (hi : i < rows.length) (hj : j < esz) : p ((rows.getD i []).getD j .u) = true := by
  have h1 : rows.getD i [] = rows[i] := by rw [List.getD_eq_getElem?_getD, List.getElem?_eq_getElem hi]; rfl
  rw [h1]
  exact all_getD (List.all_eq_true.1 h _ (List.getElem_mem hi)) (by rw [hr _ (List.getElem_mem hi)]; exact hj)
theorem mem_getD {cs : List AVal} {j : Nat} (hj : j < cs.length) : cs.getD j .u ∈ cs := by
  rw [List.getD_eq_getElem?_getD, List.getElem?_eq_getElem hj]; exact List.getElem_mem hj
theorem mem_getDD {rows : List (List AVal)} {esz i j : Nat} (hr : ∀ r ∈ rows, r.length = esz) (hi : i < rows.length) (hj : j < esz) : ∃ r ∈ rows, (rows.getD i []).getD j .u ∈ r := by
  have h1 : rows.getD i [] = rows[i] := by rw [List.getD_eq_getElem?_getD, List.getElem?_eq_getElem hi]; rfl
  rw [h1]
  exact ⟨_, List.getElem_mem hi, mem_getD (by rw [hr _ (List.getElem_mem hi)]; exact hj)⟩
theorem map_getD {f : AVal → AVal} {cs : List AVal} {j : Nat} (hj : j < cs.length) : (cs.map f).getD j .u = f (cs.getD j .u) := by
  rw [List.getD_eq_getElem?_getD, List.getElem?_map, List.getD_eq_getElem?_getD, List.getElem?_eq_getElem hj]; rfl
theorem map_getDD {f : AVal → AVal} {rows : List (List AVal)} {esz i j : Nat} (hr : ∀ r ∈ rows, r.length = esz) (hi : i < rows.length) (hj : j < esz) :
    ((rows.map fun r => r.map f).getD i []).getD j .u = f ((rows.getD i []).getD j .u) := by
  have h1 : rows.getD i [] = rows[i] := by rw [List.getD_eq_getElem?_getD, List.getElem?_eq_getElem hi]; rfl
  have h2 : (rows.map fun r => r.map f).getD i [] = rows[i].map f := by rw [List.getD_eq_getElem?_getD, List.getElem?_map, List.getElem?_eq_getElem hi]; rfl
  rw [h1, h2, map_getD (by rw [hr _ (List.getElem_mem hi)]; exact hj)]

/-! ### Without numbers -/
/-- A value without numbers stands in any frame that has its memory. -/
theorem Rel.clean {R R' : RP} (hF : ∀ b, R.F b → R'.F b ∧ R'.w.heap[b]? = R.w.heap[b]?) {v : Value} {a : AVal} (h : Rel R v a) : clean a = true → Rel R' v a := by
  induction h with
  | u v => exact fun _ => .u v
  | b x => exact fun _ => .b x
  | i k n => exact fun _ => .i k n
  | s t => exact fun _ => .s t
  | agg vs cs hn hl _ ih => exact fun hc => .agg vs cs hn hl (fun j hj => ih j hj (all_getD (by rw [← cleanL_all]; simpa [Ab.clean] using hc) hj))
  | tup vs cs hn _ ih => exact fun hc => .tup vs cs hn (fun j hj => ih j hj (all_getD (by rw [← cleanL_all]; simpa [Ab.clean] using hc) hj))
  | sl A c rows esz blk o cv hc hA hr hl hcell _ ih =>
    intro hcl
    have hall : (rows.all fun r => r.all Ab.clean) = true := by rw [← cleanLL_all]; simpa [Ab.clean] using hcl
    refine .sl A c rows esz blk o cv hc (fun hne => ⟨(hA hne).1, (hF _ (hA hne).2).1⟩) hr hl (fun i j hi hj => ?_) (fun i j hi hj => ih i j hi hj (all_getDD hall hr hi hj))
    have hne : rows ≠ [] := by intro e; subst e; simp at hi
    rw [cell_same (hF _ (hA hne).2).2]; exact hcell i j hi hj
  | nilS => exact fun _ => .nilS
  | row id len hid => exact fun hc => by simp [Ab.clean] at hc
  | ptr id off hid => exact fun hc => by simp [Ab.clean] at hc
  | eptr id esz i off hid => exact fun hc => by simp [Ab.clean] at hc
  | cptr blk o cs off cv hF' hl hcell _ ih => exact fun hc => by simp [Ab.clean] at hc
  | mp id hid => exact fun hc => by simp [Ab.clean] at hc
  | nilM => exact fun _ => .nilM
  | fn f vs cs hn _ ih => exact fun hc => .fn f vs cs hn (fun j hj => ih j hj (all_getD (by rw [← cleanL_all]; simpa [Ab.clean] using hc) hj))
  | nilF => exact fun _ => .nilF
  | nilP => exact fun _ => .nilP
  | nilI => exact fun _ => .nilI
  | ifc t x v _ ih => exact fun hc => .ifc t x v (ih (by simpa [Ab.clean] using hc))

/-- A value with no memory behind it stands in any frame. -/
theorem Rel.flat {R R' : RP} {v : Value} {a : AVal} (h : Rel R v a) : flat a = true → Rel R' v a := by
  have key : ∀ (cs : List AVal), (cs.attach.all fun ⟨c, _⟩ => Ab.flat c) = true → ∀ j, j < cs.length → Ab.flat (cs.getD j .u) = true := by
    intro cs h j hj
    have := List.all_eq_true.1 h ⟨_, mem_getD hj⟩ (List.mem_attach _ _)
    exact this
  induction h with
  | u v => exact fun _ => .u v
  | b x => exact fun _ => .b x
  | i k n => exact fun _ => .i k n
  | s t => exact fun _ => .s t
  | agg vs cs hn hl _ ih => exact fun hc => .agg vs cs hn hl (fun j hj => ih j hj (key cs (by rw [Ab.flat] at hc; exact hc) j hj))
  | tup vs cs hn _ ih => exact fun hc => .tup vs cs hn (fun j hj => ih j hj (key cs (by rw [Ab.flat] at hc; exact hc) j hj))
  | sl A c rows esz blk o cv hc hA hr hl hcell _ ih =>
    intro hcl
    have : rows = [] := by simpa [Ab.flat] using hcl
    subst this
    exact .sl A c [] esz blk o cv hc (fun hne => absurd rfl hne) hr (fun i j hi => by simp at hi) (fun i j hi => by simp at hi) (fun i j hi => by simp at hi)
  | nilS => exact fun _ => .nilS
  | row id len hid => exact fun hc => by simp [Ab.flat] at hc
  | ptr id off hid => exact fun hc => by simp [Ab.flat] at hc
  | eptr id esz i off hid => exact fun hc => by simp [Ab.flat] at hc
  | cptr blk o cs off cv hF' hl hcell _ ih => exact fun hc => by simp [Ab.flat] at hc
  | mp id hid => exact fun hc => by simp [Ab.flat] at hc
  | nilM => exact fun _ => .nilM
  | fn f vs cs hn _ ih => exact fun hc => by simp [Ab.flat] at hc
  | nilF => exact fun _ => .nilF
  | nilP => exact fun _ => .nilP
  | nilI => exact fun _ => .nilI
  | ifc t x v _ ih => exact fun hc => .ifc t x v (ih (by simpa [Ab.flat] using hc))
end Go.Proofs.Ythpcjekmgohelaa.Ab

/- ABSTRACT RUNS, 18: what a call is handed. -/
namespace Go.Proofs.Ythpcjekmgohelaa.Ab
open Go Go.RowKit
set_option linter.unusedSimpArgs false
set_option linter.unusedVariables false

mutual
theorem clean_refs : ∀ v : AVal, clean v = true → refs v = []
  | .u, h => by simp [clean] at h
  | .b _, _ => by simp [refs]
  | .i _ _, _ => by simp [refs]
  | .s _, _ => by simp [refs]
  | .agg cs, h => by simp only [clean] at h; simp only [refs]; exact cleanL_refs cs h
  | .tup cs, h => by simp only [clean] at h; simp only [refs]; exact cleanL_refs cs h
  | .sl rows, h => by simp only [clean] at h; simp only [refs]; exact cleanLL_refs rows h
  | .nilS, _ => by simp [refs]
  | .row _ _, h => by simp [clean] at h
  | .ptr _ _, _ => by simp [refs]
  | .eptr _ _ _ _, _ => by simp [refs]
  | .cptr _ _, _ => by simp [refs]
  | .mp _, _ => by simp [refs]
  | .nilM, _ => by simp [refs]
  | .fn _ cap, h => by simp only [clean] at h; simp only [refs]; exact cleanL_refs cap h
  | .nilF, _ => by simp [refs]
  | .nilP, _ => by simp [refs]
  | .nilI, _ => by simp [refs]
  | .ifc _ v, h => by simp only [clean] at h; simp only [refs]; exact clean_refs v h
theorem cleanL_refs : ∀ vs : List AVal, cleanL vs = true → refsL vs = []
  | [], _ => by simp [refsL]
  | v :: vs, h => by
    simp only [cleanL, Bool.and_eq_true] at h
    simp only [refsL, clean_refs v h.1, cleanL_refs vs h.2, List.append_nil]
theorem cleanLL_refs : ∀ vs : List (List AVal), cleanLL vs = true → refsLL vs = []
  | [], _ => by simp [refsLL]
  | v :: vs, h => by
    simp only [cleanLL, Bool.and_eq_true] at h
    simp only [refsLL, cleanL_refs v h.1, cleanLL_refs vs h.2, List.append_nil]
end

mutual
theorem refs_thaw (H : Heap) : ∀ v : AVal, ∀ id ∈ refs (thaw H v), id ∈ refs v ∨ ∃ k ∈ refs v, id ∈ rowsIn H k
  | .u, id, h => by simp [thaw, refs] at h
  | .b _, id, h => by simp [thaw, refs] at h
  | .i _ _, id, h => by simp [thaw, refs] at h
  | .s _, id, h => by simp [thaw, refs] at h
  | .agg cs, id, h => by simp only [thaw, refs] at h ⊢; exact refsL_thaw H cs id h
  | .tup cs, id, h => by simp only [thaw, refs] at h ⊢; exact refsL_thaw H cs id h
  | .sl rows, id, h => by simp only [thaw, refs] at h ⊢; exact refsLL_thaw H rows id h
  | .nilS, id, h => by simp [thaw, refs, refsLL] at h
  | .row k len, id, h => by
    simp only [thaw] at h
    split at h
    · rename_i esz rows fz hk
      split at h
      · refine .inr ⟨k, by simp [refs], ?_⟩
        simp only [refs] at h
        simp only [rowsIn, hk]
        exact h
      · exact .inl h
    · exact .inl h
  | .ptr _ _, id, h => by simp [thaw, refs] at h
  | .eptr _ _ _ _, id, h => by simp [thaw, refs] at h
  | .cptr _ _, id, h => by simp [thaw, refs] at h
  | .mp _, id, h => by simp [thaw, refs] at h
  | .nilM, id, h => by simp [thaw, refs] at h
  | .fn _ cap, id, h => by simp only [thaw, refs] at h ⊢; exact refsL_thaw H cap id h
  | .nilF, id, h => by simp [thaw, refs] at h
  | .nilP, id, h => by simp [thaw, refs] at h
  | .nilI, id, h => by simp [thaw, refs] at h
  | .ifc _ v, id, h => by simp only [thaw, refs] at h ⊢; exact refs_thaw H v id h
theorem refsL_thaw (H : Heap) : ∀ vs : List AVal, ∀ id ∈ refsL (thawL H vs), id ∈ refsL vs ∨ ∃ k ∈ refsL vs, id ∈ rowsIn H k
  | [], id, h => by simp [thawL, refsL] at h
  | v :: vs, id, h => by
    simp only [thawL, refsL, List.mem_append] at h ⊢
    rcases h with h | h
    · rcases refs_thaw H v id h with h1 | ⟨k, h1, h2⟩
      · exact .inl (.inl h1)
      · exact .inr ⟨k, .inl h1, h2⟩
    · rcases refsL_thaw H vs id h with h1 | ⟨k, h1, h2⟩
      · exact .inl (.inr h1)
      · exact .inr ⟨k, .inr h1, h2⟩
theorem refsLL_thaw (H : Heap) : ∀ vs : List (List AVal), ∀ id ∈ refsLL (thawLL H vs), id ∈ refsLL vs ∨ ∃ k ∈ refsLL vs, id ∈ rowsIn H k
  | [], id, h => by simp [thawLL, refsLL] at h
  | v :: vs, id, h => by
    simp only [thawLL, refsLL, List.mem_append] at h ⊢
    rcases h with h | h
    · rcases refsL_thaw H v id h with h1 | ⟨k, h1, h2⟩
      · exact .inl (.inl h1)
      · exact .inr ⟨k, .inl h1, h2⟩
    · rcases refsLL_thaw H vs id h with h1 | ⟨k, h1, h2⟩
      · exact .inl (.inr h1)
      · exact .inr ⟨k, .inr h1, h2⟩
end

theorem leaf_thaw (H : Heap) (v : AVal) (h : leafA v = true) : leafA (thaw H v) = true := by
  cases v
  case row id len =>
    have : thaw H (.row id len) = .row id len ∨ ∃ rows, thaw H (.row id len) = .sl rows := by
      simp only [thaw]
      split
      · split
        · exact .inr ⟨_, rfl⟩
        · exact .inl rfl
      · exact .inl rfl
    rcases this with e | ⟨rows, e⟩ <;> rw [e] <;> rfl
  all_goals first | rfl | (simp [leafA] at h; done) | (simp only [thaw]; rfl)

/-- One step of thawing. -/
theorem thaw_rel {R : RP} {H : Heap} {S : Nat → Prop} (hobj : ∀ id o, S id → H[id]? = some o → ORel R id o) (hF : ∀ id esz rows fz, S id → H[id]? = some (.row esz rows fz) → R.F (R.β id))
    {v : Value} {a : AVal} (h : Rel R v a) : (∀ id ∈ refs a, S id) → Rel R v (thaw H a) := by
  induction h with
  | u v => exact fun _ => .u v
  | b x => exact fun _ => by simp only [thaw]; exact .b x
  | i k n => exact fun _ => by simp only [thaw]; exact .i k n
  | s t => exact fun _ => by simp only [thaw]; exact .s t
  | agg vs cs hn hl _ ih =>
    intro hS
    simp only [thaw, thawL_map]
    simp only [refs, refsL_flat] at hS
    refine .agg vs _ (by simpa using hn) (fun j hj => ?_) (fun j hj => ?_)
    · have hj' : j < cs.length := by simpa using hj
      rw [map_getD hj']; exact leaf_thaw H _ (hl j hj')
    · have hj' : j < cs.length := by simpa using hj
      rw [map_getD hj']; exact ih j hj' (fun id hid => hS id (List.mem_flatMap.2 ⟨_, mem_getD hj', hid⟩))
  | tup vs cs hn _ ih =>
    intro hS
    simp only [thaw, thawL_map]
    simp only [refs, refsL_flat] at hS
    refine .tup vs _ (by simpa using hn) (fun j hj => ?_)
    have hj' : j < cs.length := by simpa using hj
    rw [map_getD hj']; exact ih j hj' (fun id hid => hS id (List.mem_flatMap.2 ⟨_, mem_getD hj', hid⟩))
  | sl A c rows esz blk o cv hc hA hr hl hcell _ ih =>
    intro hS
    simp only [thaw, thawLL_map]
    simp only [refs, refsLL_flat] at hS
    have hlen : (rows.map fun r => r.map (thaw H)).length = rows.length := by simp
    rw [← hlen]
    refine .sl A c _ esz blk o cv (by rw [hlen]; exact hc) (fun hne => hA (fun e => hne (by subst e; rfl))) (fun r hr' => ?_) (fun i j hi hj => ?_) (fun i j hi hj => hcell i j (by rw [← hlen]; exact hi) hj) (fun i j hi hj => ?_)
    · obtain ⟨r', h1, rfl⟩ := List.mem_map.1 hr'
      simpa using hr r' h1
    · rw [hlen] at hi
      rw [map_getDD hr hi hj]; exact leaf_thaw H _ (hl i j hi hj)
    · rw [hlen] at hi
      rw [map_getDD hr hi hj]
      refine ih i j hi hj (fun id hid => hS id ?_)
      obtain ⟨r, h1, h2⟩ := mem_getDD hr hi hj
      exact List.mem_flatMap.2 ⟨r, h1, List.mem_flatMap.2 ⟨_, h2, hid⟩⟩
  | nilS =>
    intro _
    simp only [thaw]
    exact .sl none 0 [] 0 0 0 (fun _ _ => undef) (Nat.le_refl _) (fun h => absurd rfl h) (fun r hr => by simp at hr) (fun i j hi => by simp at hi) (fun i j hi => by simp at hi) (fun i j hi => by simp at hi)
  | row id len hid =>
    intro hS
    have hs : S id := hS id (by simp [refs])
    simp only [thaw]
    split
    · rename_i esz rows fz hk
      split
      · rename_i hlen
        subst hlen
        obtain ⟨vs, T, h1, h2, h3, h4, h5⟩ := hobj id _ hs hk
        refine .sl _ _ rows esz (R.β id) 0 (fun i j => vs.getD (i * esz + j) undef) h2 (fun _ => ⟨rfl, hF id esz rows fz hs hk⟩) h4 (fun i j hi hj => (h5 i j hi hj).1) (fun i j hi hj => ?_) (fun i j hi hj => (h5 i j hi hj).2)
        have hlt : i * esz + j < vs.size := Nat.lt_of_lt_of_le (flat_lt hi hj h2) h3
        rw [Nat.zero_add, cell_cells h1, Array.getD_eq_getD_getElem?, Array.getElem?_eq_getElem hlt]; rfl
      · exact .row id len hid
    · exact .row id len hid
  | ptr id off hid => exact fun _ => by simp only [thaw]; exact .ptr id off hid
  | eptr id esz i off hid => exact fun _ => by simp only [thaw]; exact .eptr id esz i off hid
  | cptr blk o cs off cv hF' hl hcell h ih => exact fun _ => by simp only [thaw]; exact .cptr blk o cs off cv hF' hl hcell h
  | mp id hid => exact fun _ => by simp only [thaw]; exact .mp id hid
  | nilM => exact fun _ => by simp only [thaw]; exact .nilM
  | fn f vs cs hn _ ih =>
    intro hS
    simp only [thaw, thawL_map]
    simp only [refs, refsL_flat] at hS
    refine .fn f vs _ (by simpa using hn) (fun j hj => ?_)
    have hj' : j < cs.length := by simpa using hj
    rw [map_getD hj']; exact ih j hj' (fun id hid => hS id (List.mem_flatMap.2 ⟨_, mem_getD hj', hid⟩))
  | nilF => exact fun _ => by simp only [thaw]; exact .nilF
  | nilP => exact fun _ => by simp only [thaw]; exact .nilP
  | nilI => exact fun _ => by simp only [thaw]; exact .nilI
  | ifc t x v _ ih => exact fun hS => by simp only [thaw]; exact .ifc t x _ (ih (by simpa [refs] using hS))

/-! ### Rows that are written no more -/
structure Fx (H H' : Heap) : Prop where
  len : H'.length = H.length
  at_ : ∀ id : Nat, H'[id]? = H[id]? ∨ ∃ (esz : Nat) (rows : List (List AVal)) (fz : Bool), H[id]? = some (AObj.row esz rows fz) ∧ H'[id]? = some (AObj.row esz rows true)
def Fz (H : Heap) (id : Nat) : Prop := ∀ (esz : Nat) (rows : List (List AVal)) (fz : Bool), H[id]? = some (AObj.row esz rows fz) → fz = true

theorem Fx.refl (H : Heap) : Fx H H := ⟨rfl, fun _ => .inl rfl⟩
theorem Fx.trans {A B C : Heap} (h : Fx A B) (k : Fx B C) : Fx A C := by
  refine ⟨k.len.trans h.len, fun id => ?_⟩
  rcases h.at_ id with h1 | ⟨e1, r1, f1, h1, h2⟩
  · rcases k.at_ id with k1 | ⟨e2, r2, f2, k1, k2⟩
    · exact .inl (k1.trans h1)
    · exact .inr ⟨e2, r2, f2, by rw [← h1]; exact k1, k2⟩
  · rcases k.at_ id with k1 | ⟨e2, r2, f2, k1, k2⟩
    · exact .inr ⟨e1, r1, f1, h1, by rw [k1]; exact h2⟩
    · rw [h2] at k1
      simp only [Option.some.injEq, AObj.row.injEq] at k1
      obtain ⟨rfl, rfl, _⟩ := k1
      exact .inr ⟨e1, r1, f1, h1, k2⟩
theorem Fx.fz {H H' : Heap} (h : Fx H H') {id : Nat} (hf : Fz H id) : Fz H' id := by
  intro esz rows fz hk
  rcases h.at_ id with h1 | ⟨e1, r1, f1, h1, h2⟩
  · exact hf esz rows fz (by rw [← h1]; exact hk)
  · rw [h2] at hk; simp only [Option.some.injEq, AObj.row.injEq] at hk; exact hk.2.2.symm
theorem Fx.rowsIn {H H' : Heap} (h : Fx H H') (id : Nat) : rowsIn H' id = rowsIn H id := by
  unfold Ab.rowsIn
  rcases h.at_ id with h1 | ⟨e1, r1, f1, h1, h2⟩
  · rw [h1]
  · rw [h1, h2]

theorem fixOne_fx (H : Heap) (id : Nat) : Fx H (fixOne H id) ∧ Fz (fixOne H id) id := by
  unfold fixOne
  split
  · rename_i esz rows fz hk
    have hid := (List.getElem?_eq_some_iff.1 hk).1
    refine ⟨⟨by simp, fun id' => ?_⟩, fun e r f h => ?_⟩
    · by_cases e : id = id'
      · subst e; exact .inr ⟨esz, rows, fz, hk, List.getElem?_set_self hid⟩
      · exact .inl (List.getElem?_set_ne e)
    · rw [List.getElem?_set_self hid] at h; simp at h; exact h.2.2
  · rename_i hno
    exact ⟨Fx.refl H, fun e r f h => absurd h (hno e r f)⟩

theorem fixes_fx : ∀ (S : List Nat) (H : Heap), Fx H (S.foldl fixOne H) ∧ ∀ id ∈ S, Fz (S.foldl fixOne H) id
  | [], H => ⟨Fx.refl H, fun id h => by simp at h⟩
  | k :: S, H => by
    obtain ⟨h1, h2⟩ := fixOne_fx H k
    obtain ⟨h3, h4⟩ := fixes_fx S (fixOne H k)
    refine ⟨h1.trans h3, fun id hid => ?_⟩
    rcases List.mem_cons.1 hid with rfl | h
    · exact h3.fz h2
    · exact h4 id h

/-- What a value leads to, at most so deep. -/
def reach (H : Heap) (v : AVal) : List Nat := refs v ++ (refs v).flatMap (rowsIn H) ++ ((refs v).flatMap (rowsIn H)).flatMap (rowsIn H)

theorem fix_fx (H : Heap) (v : AVal) : Fx H (fix H v) ∧ ∀ id ∈ reach H v, Fz (fix H v) id := fixes_fx _ H

theorem Fx.reach {H H' : Heap} (h : Fx H H') (v : AVal) : reach H' v = reach H v := by
  have : Ab.rowsIn H' = Ab.rowsIn H := funext h.rowsIn
  unfold Ab.reach; rw [this]

theorem fixAll_fx : ∀ (args : List AVal) (H : Heap), Fx H (args.foldl fix H) ∧ ∀ v ∈ args, ∀ id ∈ reach H v, Fz (args.foldl fix H) id
  | [], H => ⟨Fx.refl H, fun v h => by simp at h⟩
  | a :: args, H => by
    obtain ⟨h1, h2⟩ := fix_fx H a
    obtain ⟨h3, h4⟩ := fixAll_fx args (fix H a)
    refine ⟨h1.trans h3, fun v hv id hid => ?_⟩
    rcases List.mem_cons.1 hv with rfl | h
    · exact h3.fz (h2 id hid)
    · exact h4 v h id (by rw [h1.reach]; exact hid)

theorem fixAll_clean : ∀ (args : List AVal) (H : Heap), (args.all clean) = true → args.foldl fix H = H
  | [], H, _ => rfl
  | a :: args, H, h => by
    simp only [List.all_cons, Bool.and_eq_true] at h
    have : fix H a = H := by unfold fix; rw [clean_refs a h.1]; simp
    rw [List.foldl_cons, this]
    exact fixAll_clean args H h.2
end Go.Proofs.Ythpcjekmgohelaa.Ab
