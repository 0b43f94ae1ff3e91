/- ABSTRACT RUNS, 11: operations that look at the heap, first part. -/
import Derived.Test.YthpcjekmgohelaaLib3
import Derived.Laws.Append
import Derived.Laws.AppendOwn
set_option linter.unusedVariables false
set_option linter.unusedSimpArgs false
namespace Go.Proofs.Ythpcjekmgohelaa.Ab
open Go Go.RowKit
set_option linter.unusedSimpArgs false
set_option linter.unusedVariables false

section
variable {P : Program} {G : GI} {F0 : Nat → Prop} {B0 : Nat} {w w' : World} {β κ β' κ' : Nat → Nat} {H H' : Heap} {a : Act} {e : Env}

/-- What an operation comes to. -/
def Fine (P : Program) (G : GI) (F0 : Nat → Prop) (B0 : Nat) (w : World) (β κ : Nat → Nat) (H : Heap) (s : Sem Next) (v : AVal) (H' : Heap) : Prop :=
  ∃ n w' β' κ', s.run P w = .ok n w' ∧ Adv G F0 B0 w β κ H w' β' κ' H' ∧ ((∃ x, n = .value x ∧ Rel (RPof F0 B0 w' β' κ' H') x v) ∨ (n = .skip ∧ v = .u))

theorem le_set (hs : HS G F0 B0 w β κ H) {id : Nat} {o o2 : AObj} (ho : H[id]? = some o) (hm : o.mut = true) (hm2 : o2.mut = true)
    (hw : w'.heap.size = w.heap.size) (hos : w'.os = w.os) (htp : w'.tape = w.tape) (hout : w'.output = w.output) (hb : ∀ b, b ≠ β id → w'.heap[b]? = w.heap[b]?) :
    (RPof F0 B0 w β κ H).Le (RPof F0 B0 w' β κ (H.set id o2)) := by
  have hid := (List.getElem?_eq_some_iff.1 ho).1
  refine le_of ⟨hos, htp, hout, Nat.le_of_eq hw.symm, fun b _ hn => hb b (fun e => hn ⟨id, o, ho, hm, e⟩)⟩ ?_ (by simp) (fun _ _ => ⟨rfl, rfl⟩)
  rintro b ⟨id', o', h1, h2, rfl⟩
  by_cases e : id = id'
  · subst e; exact .inl ⟨id, o, ho, hm, rfl⟩
  · rw [List.getElem?_set_ne e] at h1; exact .inl ⟨id', o', h1, h2, rfl⟩

theorem set_row_adv (hs : HS G F0 B0 w β κ H) {id : Nat} {o o2 : AObj} {vs vs' : Array Value} {T : TypeId} (ho : H[id]? = some o) (hm : o.mut = true) (hm2 : o2.mut = true) (hg : w.heap[β id]? = some (.cells vs T (0, 0)))
    (ho2 : (RPof F0 B0 w β κ H).Le (RPof F0 B0 (w.setRow (β id) vs') β κ (H.set id o2)) → (w.setRow (β id) vs').heap[β id]? = some (.cells vs' T (0, 0)) → ORel (RPof F0 B0 (w.setRow (β id) vs') β κ (H.set id o2)) id o2) :
    Adv G F0 B0 w β κ H (w.setRow (β id) vs') β κ (H.set id o2) := by
  have hle := le_set (w' := w.setRow (β id) vs') hs ho hm hm2 (setRow_size _ _ _) rfl rfl rfl (fun b hb => setRow_other w _ b vs' hb)
  exact adv_set hs ho hm hm2 (setRow_size _ _ _) rfl rfl rfl (fun b hb => setRow_other w _ b vs' hb) (ho2 hle (setRow_heap w _ vs vs' T (0, 0) hg))

theorem alloc_fine {o : Oper} {t : TypeId} {z : List AVal} (hop : o.op = .alloc t) (hz : zeroC P t = some z) (hs : HS G F0 B0 w β κ H) :
    Fine P G F0 B0 w β κ H (execOp a.eval o) (.ptr H.length 0) (H ++ [.box z]) := by
  obtain ⟨i, zv, hi, hzv, hlen, hr⟩ := zeroC_sound (R := RPof F0 B0 w β κ H) hz
  obtain ⟨β', κ', h1, h2⟩ := adv_box hs t hr
  exact ⟨_, _, β', κ', by simp [execOp, hop, Instr.alloc, zeroValue, typeInfo, hi, hzv, newVar, newRow], h1, .inl ⟨_, rfl, h2⟩⟩

theorem box_fine {o : Oper} {t : TypeId} {x : Operand} {y : LOpd} {cs : List AVal} (hop : o.op = .box t x) (hx : cOpd x = some y) (hs : HS G F0 B0 w β κ H) (he : RelE (RPof F0 B0 w β κ H) a e)
    (hc : (y.ev e).cells? = some cs) : Fine P G F0 B0 w β κ H (execOp a.eval o) (.ptr H.length 0) (H ++ [.box cs]) := by
  obtain ⟨β', κ', h1, h2⟩ := adv_box hs t ((opd_sound he hx).cells hc)
  exact ⟨_, _, β', κ', by simp [execOp, hop, Instr.box, newVar, newRow], h1, .inl ⟨_, rfl, h2⟩⟩

theorem load_fine {o : Oper} {t : TypeId} {p : Operand} {p' : LOpd} {n : Nat} {ag : Bool} {v : AVal} (hop : o.op = .load t p) (hn : szOf P t = some n) (hag : agOf P t = some ag) (h1 : ag = true ∨ n = 1) (hp : cOpd p = some p')
    (hs : HS G F0 B0 w β κ H) (he : RelE (RPof F0 B0 w β κ H) a e) (hv : evalH e H (.load n ag p') = some (v, H')) : H' = H ∧ Fine P G F0 B0 w β κ H (execOp a.eval o) v H := by
  have r1 := opd_sound he hp
  have fin : ∀ (blk base off : Nat) (cs : List AVal) (cv : Nat → Value), a.eval p = .pointer (some ⟨blk, base + off, none⟩) → Lies (RPof F0 B0 w β κ H) blk base cs cv → ldCells cs off n ag = some v →
      Fine P G F0 B0 w β κ H (execOp a.eval o) v H := by
    intro blk base off cs cv hap hl hld
    obtain ⟨z, hz, hr⟩ := load_sound hl hn hag hld
    have hz' : (loadVar t ⟨blk, base + off, none⟩).run P w = .ok z w := hz
    exact ⟨_, w, β, κ, by simp [execOp, hop, Instr.loadAt, hap, Instr.sureAddr, hz'], Adv.refl hs, .inl ⟨z, rfl, hr⟩⟩
  simp only [evalH] at hv
  split at hv
  · rename_i cs off heq
    simp only [Option.map_eq_some_iff, Prod.mk.injEq] at hv
    obtain ⟨v', hv, rfl, rfl⟩ := hv
    rw [heq] at r1
    generalize hvp : a.eval p = vp at r1
    cases r1 with
    | cptr blk base _ _ cv hF hl hcell h => exact ⟨rfl, fin blk base off cs cv hvp ⟨hl, hcell, h⟩ hv⟩
  · rename_i id off heq
    split at hv
    · rename_i cs hobj
      simp only [Option.map_eq_some_iff, Prod.mk.injEq] at hv
      obtain ⟨v', hv, rfl, rfl⟩ := hv
      rw [heq] at r1
      generalize hvp : a.eval p = vp at r1
      cases r1 with
      | ptr _ _ hid =>
        obtain ⟨vs, T, h2, h3⟩ := hs.obj id _ hobj
        exact ⟨rfl, fin (β id) 0 off cs _ (by rw [Nat.zero_add]; exact hvp) (Lies.box h2 h3) hv⟩
    · simp at hv
  · rename_i id esz i off heq
    split at hv
    · rename_i esz' rows fz hobj
      split at hv
      · rename_i hcond
        subst hcond
        split at hv
        · rename_i r hr
          simp only [Option.map_eq_some_iff, Prod.mk.injEq] at hv
          obtain ⟨v', hv, rfl, rfl⟩ := hv
          rw [heq] at r1
          generalize hvp : a.eval p = vp at r1
          cases r1 with
          | eptr _ _ _ _ hid =>
            obtain ⟨vs, T, h2, h3, h4, h5, h6⟩ := hs.obj id _ hobj
            have hi := (List.getElem?_eq_some_iff.1 hr).1
            have hgd : rows.getD i [] = r := by rw [List.getD_eq_getElem?_getD, hr]; rfl
            have hl := Lies.row (i := i) h2 h3 h4 h5 h6 hi
            rw [hgd] at hl
            exact ⟨rfl, fin (β id) (i * esz) off r _ hvp hl hv⟩
        · simp at hv
      · simp at hv
    · simp at hv
  · simp at hv

theorem store_fine {o : Oper} {t : TypeId} {p x : Operand} {p' x' : LOpd} {n : Nat} {v : AVal} (hop : o.op = .store t p x) (hn : szOf P t = some n) (hp : cOpd p = some p') (hx : cOpd x = some x')
    (hs : HS G F0 B0 w β κ H) (he : RelE (RPof F0 B0 w β κ H) a e) (hv : evalH e H (.store n p' x') = some (v, H')) : Fine P G F0 B0 w β κ H (execOp a.eval o) v H' := by
  have r1 := opd_sound he hp
  have r2 := opd_sound he hx
  simp only [evalH] at hv
  split at hv
  · rename_i xs hxs
    split at hv
    · rename_i hlen
      have r3 := r2.cells hxs
      split at hv
      · rename_i id off heq
        split at hv
        · rename_i cs hobj
          split at hv
          · rename_i hle
            simp only [Option.some.injEq, Prod.mk.injEq] at hv
            obtain ⟨rfl, rfl⟩ := hv
            rw [heq] at r1
            generalize hvp : a.eval p = vp at r1
            cases r1 with
            | ptr _ _ hid =>
              obtain ⟨vs, T, h2, h3⟩ := hs.obj id _ hobj
              have h2' : w.heap[β id]? = some (.cells vs T (0, 0)) := h2
              have hrun := store_run (P := P) (w := w) (o := off) hn r3 hlen h2' (by rw [h3.1]; exact hle)
              refine ⟨.skip, _, β, κ, ?_, set_row_adv hs hobj rfl rfl h2' (fun hle' hg => ⟨_, T, hg, (h3.splice r3 (by omega)).le hle'⟩), .inr ⟨rfl, rfl⟩⟩
              simp only [RPof] at hvp
              simp [execOp, hop, Instr.storeAt, hvp, Instr.sureAddr, hrun]
          · simp at hv
        · simp at hv
      · rename_i id esz i off heq
        split at hv
        · rename_i esz' rows hobj
          split at hv
          · rename_i hcond
            obtain ⟨rfl, hof⟩ := hcond
            split at hv
            · rename_i r hr
              simp only [Option.some.injEq, Prod.mk.injEq] at hv
              obtain ⟨rfl, rfl⟩ := hv
              rw [heq] at r1
              generalize hvp : a.eval p = vp at r1
              cases r1 with
              | eptr _ _ _ _ hid =>
                obtain ⟨vs, T, h2, h3, h4, h5, h6⟩ := hs.obj id _ hobj
                have h2' : w.heap[β id]? = some (.cells vs T (0, 0)) := h2
                have h3' : rows.length ≤ κ id := h3
                have h4' : κ id * esz ≤ vs.size := h4
                have hi := (List.getElem?_eq_some_iff.1 hr).1
                have hgd : rows.getD i [] = r := by rw [List.getD_eq_getElem?_getD, hr]; rfl
                have hrl : r.length = esz := h5 r (List.mem_of_getElem? hr)
                have hfit : i * esz + off + n ≤ vs.size := by
                  have h8 : (i + 1) * esz ≤ κ id * esz := Nat.mul_le_mul_right _ (by omega)
                  rw [Nat.add_mul] at h8; omega
                have hrun := store_run (P := P) (w := w) (o := i * esz + off) hn r3 hlen h2' hfit
                have hcl : (a.eval x).cells.toList.length = n := by have := r3.1; simp; omega
                refine ⟨.skip, w.setRow (β id) (splice vs (i * esz + off) (a.eval x).cells.toList), β, κ, ?_, set_row_adv (vs' := splice vs (i * esz + off) (a.eval x).cells.toList) hs hobj rfl rfl h2' (fun hle' hg => ⟨_, T, hg, by simp only [RPof, List.length_set]; exact h3', ?_, ?_, ?_⟩), .inr ⟨rfl, rfl⟩⟩
                · simp only [RPof] at hvp
                  simp [execOp, hop, Instr.storeAt, hvp, Instr.sureAddr, hrun]
                · rw [splice_size _ _ _ (by omega)]; exact h4'
                · intro r' hr'
                  rcases List.mem_or_eq_of_mem_set hr' with h9 | rfl
                  · exact h5 r' h9
                  · rw [setSeg_length, hrl]
                · generalize RPof F0 B0 (w.setRow (β id) (splice vs (i * esz + off) (a.eval x).cells.toList)) β κ (H.set id (.row esz (rows.set i (setSeg r off xs)) false)) = R' at hle' ⊢
                  intro i' j' hi' hj'
                  have hi'' : i' < rows.length := by simpa using hi'
                  rw [splice_getD _ _ _ _ (by omega), hcl]
                  by_cases hii : i = i'
                  · subst hii
                    have e1 : (rows.set i (setSeg r off xs)).getD i [] = setSeg r off xs := by rw [List.getD_eq_getElem?_getD, List.getElem?_set_self hi]; rfl
                    rw [e1, setSeg_eq _ _ _ (by omega)]
                    have hold := h6 i j' hi'' hj'
                    rw [hgd] at hold
                    by_cases c1 : j' < off
                    · rw [if_pos (by omega), getD_splice_lo _ _ _ _ _ (by omega) c1]
                      exact ⟨hold.1, hold.2.le hle'⟩
                    · rw [if_neg (by omega)]
                      by_cases c2 : j' < off + n
                      · rw [if_pos (by omega), getD_splice_mid _ _ _ _ _ (by omega) (by omega) (by omega)]
                        have := r3.2 (j' - off) (by omega)
                        have e2 : i * esz + j' - (i * esz + off) = j' - off := by omega
                        rw [e2, ← getD_toList]
                        exact ⟨this.1, this.2.le hle'⟩
                      · rw [if_neg (by omega), getD_splice_hi _ _ _ _ _ (by omega) (by omega)]
                        exact ⟨hold.1, hold.2.le hle'⟩
                  · have e1 : (rows.set i (setSeg r off xs)).getD i' [] = rows.getD i' [] := by rw [List.getD_eq_getElem?_getD, List.getElem?_set_ne hii, ← List.getD_eq_getElem?_getD]
                    rw [e1]
                    have hold := h6 i' j' hi'' hj'
                    have hsep : i' * esz + j' < i * esz + off ∨ i * esz + off + n ≤ i' * esz + j' := by
                      rcases Nat.lt_or_gt_of_ne hii with h9 | h9
                      · have : (i + 1) * esz ≤ i' * esz := Nat.mul_le_mul_right _ h9
                        rw [Nat.add_mul] at this; omega
                      · have : (i' + 1) * esz ≤ i * esz := Nat.mul_le_mul_right _ h9
                        rw [Nat.add_mul] at this; omega
                    rcases hsep with h9 | h9
                    · rw [if_pos h9]; exact ⟨hold.1, hold.2.le hle'⟩
                    · rw [if_neg (by omega), if_neg (by omega)]; exact ⟨hold.1, hold.2.le hle'⟩
            · simp at hv
          · simp at hv
        · simp at hv
      · simp at hv
    · simp at hv
  · simp at hv
end
end Go.Proofs.Ythpcjekmgohelaa.Ab

/- ABSTRACT RUNS, 12: making slices, appending, copying. -/
namespace Go.Proofs.Ythpcjekmgohelaa.Ab
open Go Go.RowKit
set_option linter.unusedSimpArgs false
set_option linter.unusedVariables false

/-! ### Rows, one behind the other -/
theorem flatten_length {rows : List (List AVal)} {esz : Nat} (h : ∀ r ∈ rows, r.length = esz) : rows.flatten.length = rows.length * esz := by
  induction rows with
  | nil => simp
  | cons r rs ih =>
    rw [List.flatten_cons, List.length_append, h r (.head _), ih (fun x hx => h x (.tail _ hx)), List.length_cons, Nat.add_mul]; omega

theorem getD_flatten {rows : List (List AVal)} {esz : Nat} (h : ∀ r ∈ rows, r.length = esz) : ∀ (i j : Nat), i < rows.length → j < esz → rows.flatten.getD (i * esz + j) .u = (rows.getD i []).getD j .u := by
  induction rows with
  | nil => intro i j hi; simp at hi
  | cons r rs ih =>
    intro i j hi hj
    have hr : r.length = esz := h r (.head _)
    cases i with
    | zero => rw [List.flatten_cons, Nat.zero_mul, Nat.zero_add, List.getD_eq_getElem?_getD, List.getElem?_append_left (by omega)]; rfl
    | succ i =>
      rw [List.flatten_cons, List.getD_eq_getElem?_getD, List.getElem?_append_right (by rw [Nat.add_mul]; omega)]
      have e : (i + 1) * esz + j - r.length = i * esz + j := by rw [Nat.add_mul]; omega
      rw [e, ← List.getD_eq_getElem?_getD, ih (fun x hx => h x (.tail _ hx)) i j (by simpa using hi) hj]
      rfl

theorem set_flatten {rows : List (List AVal)} {esz i : Nat} {vs : List AVal} (h : ∀ r ∈ rows, r.length = esz) (hi : i < rows.length) (hv : vs.length = esz) :
    (rows.set i vs).flatten = setSeg rows.flatten (i * esz) vs := by
  have hle : i * esz + vs.length ≤ rows.flatten.length := by
    rw [flatten_length h, hv]
    have : (i + 1) * esz ≤ rows.length * esz := Nat.mul_le_mul_right _ hi
    rw [Nat.add_mul] at this; omega
  rw [setSeg_eq _ _ _ hle]
  induction rows generalizing i with
  | nil => simp at hi
  | cons r rs ih =>
    have hr : r.length = esz := h r (.head _)
    cases i with
    | zero => simp [hv, hr]
    | succ i =>
      have hi' : i < rs.length := by simpa using hi
      have hle' : i * esz + vs.length ≤ rs.flatten.length := by
        rw [flatten_length (fun x hx => h x (.tail _ hx)), hv]
        have : (i + 1) * esz ≤ rs.length * esz := Nat.mul_le_mul_right _ hi'
        rw [Nat.add_mul] at this; omega
      have e1 : (i + 1) * esz = r.length + i * esz := by rw [Nat.add_mul, hr]; omega
      have e2 : (i + 1) * esz + vs.length = r.length + (i * esz + vs.length) := by omega
      rw [List.set_cons_succ, List.flatten_cons, List.flatten_cons, ih (fun x hx => h x (.tail _ hx)) hi' hle', e1, Nat.add_assoc, List.take_length_add_append, List.drop_length_add_append]
      simp

theorem fillR_flat {esz : Nat} : ∀ (ps : List (Nat × AVal)) {rows rows' : List (List AVal)}, (∀ r ∈ rows, r.length = esz) → fillR rows esz ps = some rows' →
    fillA rows.flatten (ps.map fun (i, v) => (i * esz, esz, v)) = some rows'.flatten ∧ (∀ r ∈ rows', r.length = esz) ∧ rows'.length = rows.length
  | [], rows, rows', h, hf => by simp [fillR] at hf; subst hf; exact ⟨rfl, h, rfl⟩
  | (i, v) :: ps, rows, rows', h, hf => by
    simp only [fillR] at hf
    split at hf
    · rename_i vs hvs
      split at hf
      · rename_i hc
        obtain ⟨hl, hi⟩ := hc
        have h' : ∀ r ∈ rows.set i vs, r.length = esz := by
          intro r hr
          rcases List.mem_or_eq_of_mem_set hr with h1 | rfl
          · exact h r h1
          · exact hl
        obtain ⟨g1, g2, g3⟩ := fillR_flat ps h' hf
        refine ⟨?_, g2, by simpa using g3⟩
        have hle : i * esz + esz ≤ rows.flatten.length := by
          rw [flatten_length h]
          have : (i + 1) * esz ≤ rows.length * esz := Nat.mul_le_mul_right _ hi
          rw [Nat.add_mul] at this; omega
        simp only [List.map_cons, fillA, hvs]
        rw [if_pos ⟨hl, hle⟩, ← set_flatten h hi hl]
        exact g1
      · simp at hf
    · simp at hf

section
variable {P : Program} {G : GI} {F0 : Nat → Prop} {B0 : Nat} {w w' : World} {β κ β' κ' : Nat → Nat} {H H' : Heap} {a : Act} {e : Env}

/-- So many zero elements. -/
theorem zeros_rel {R : RP} {zv : Array Value} {z : List AVal} (h : RelC R zv z) (hz : z ≠ []) (n : Nat) :
    RelC R ((Array.range (n * z.length)).map fun i => zv[i % zv.size]!) (List.replicate n z).flatten := by
  have hl : ∀ r ∈ List.replicate n z, r.length = z.length := fun r hr => by rw [List.eq_of_mem_replicate hr]
  have hpos : 0 < z.length := List.length_pos_iff.2 hz
  refine ⟨by rw [flatten_length hl]; simp, fun k hk => ?_⟩
  rw [flatten_length hl, List.length_replicate] at hk
  have hi : k / z.length < n := Nat.div_lt_of_lt_mul (by rw [Nat.mul_comm]; exact hk)
  have hj : k % z.length < z.length := Nat.mod_lt _ hpos
  have hkk : k = k / z.length * z.length + k % z.length := by rw [Nat.mul_comm]; exact (Nat.div_add_mod k z.length).symm
  have e1 : (List.replicate n z).flatten.getD k .u = z.getD (k % z.length) .u := by
    conv => lhs; rw [hkk]
    rw [getD_flatten hl _ _ (by simpa using hi) hj, List.getD_eq_getElem?_getD (l := List.replicate n z), List.getElem?_replicate, if_pos hi]
    rfl
  have e2 : ((Array.range (n * z.length)).map fun i => zv[i % zv.size]!).getD k undef = zv.getD (k % z.length) undef := by
    have hlt : k % z.length < zv.size := by rw [h.1]; exact hj
    rw [Array.getD_eq_getD_getElem?, Array.getElem?_map, Array.getElem?_range, if_pos hk, Array.getD_eq_getD_getElem?, Array.getElem?_eq_getElem hlt]
    simp only [Option.map_some, Option.getD_some, h.1]
    exact getElem!_pos zv _ hlt
  rw [e1, e2]
  exact h.2 _ hj

/-- Rows, as an object tells them. -/
theorem RelC.rows {R : RP} {vs : Array Value} {rows : List (List AVal)} {esz : Nat} (h : RelC R vs rows.flatten) (hl : ∀ r ∈ rows, r.length = esz) :
    ∀ i j, i < rows.length → j < esz → leafA ((rows.getD i []).getD j .u) = true ∧ Rel R (vs.getD (i * esz + j) undef) ((rows.getD i []).getD j .u) := by
  intro i j hi hj
  have hlt : i * esz + j < rows.flatten.length := by rw [flatten_length hl]; exact flat_lt hi hj (Nat.le_refl _)
  have := h.2 _ hlt
  rw [getD_flatten hl i j hi hj] at this
  exact this

/-- A slice in a new block. -/
theorem RelC.sl {R : RP} {vs : Array Value} {rows : List (List AVal)} {esz : Nat} (h : RelC R vs rows.flatten) (hl : ∀ r ∈ rows, r.length = esz) {b : Nat} {T : TypeId} {fr : Nat × Nat} (hb : R.w.heap[b]? = some (.cells vs T fr)) (hF : R.F b) :
    Rel R (.slice (some ⟨b, 0, none⟩) rows.length rows.length) (.sl rows) := by
  have hr := h.rows hl
  refine .sl _ _ rows esz b 0 (fun i j => vs.getD (i * esz + j) undef) (Nat.le_refl _) (fun _ => ⟨rfl, hF⟩) hl (fun i j hi hj => (hr i j hi hj).1) (fun i j hi hj => ?_) (fun i j hi hj => (hr i j hi hj).2)
  have hlt : i * esz + j < vs.size := by rw [h.1, flatten_length hl]; exact flat_lt hi hj (Nat.le_refl _)
  rw [Nat.zero_add, cell_cells hb, Array.getD_eq_getD_getElem?, Array.getElem?_eq_getElem hlt]; rfl

theorem bsl_fine {o : Oper} {t elem : TypeId} {len n : Nat} {parts : Array (Nat × Operand)} {ps : List (Nat × LOpd)} {z : List AVal} {v : AVal} (hop : o.op = .buildSlice t len parts) (hu : P.underlying t = some (.slice elem))
    (hps : cParts parts.toList = some ps) (hz : zeroC P elem = some z) (hn : szOf P elem = some n) (hlim : len * n ≤ 16777216) (h0 : n ≠ 0)
    (hs : HS G F0 B0 w β κ H) (he : RelE (RPof F0 B0 w β κ H) a e) (hv : evalP e (.bsl n z len ps) = some v) : Fine P G F0 B0 w β κ H (execOp a.eval o) v H := by
  simp only [evalP, Option.map_eq_some_iff] at hv
  obtain ⟨rows, hrows, rfl⟩ := hv
  obtain ⟨i, zv, hi, hzv, hlen, hrel⟩ := zeroC_sound (R := RPof F0 B0 w β κ H) hz
  have hin : i.size = n := by
    unfold szOf at hn; rw [hi] at hn; simpa using hn
  have hzn : z.length = n := by rw [hlen, hin]
  have hzne : z ≠ [] := by intro e0; subst e0; simp at hzn; exact h0 hzn.symm
  have hl0 : ∀ r ∈ List.replicate len z, r.length = n := fun r hr => by rw [List.eq_of_mem_replicate hr]; exact hzn
  obtain ⟨g1, g2, g3⟩ := fillR_flat _ hl0 hrows
  obtain ⟨p1, p2⟩ := parts_sound hps
  have hzero : RelC (RPof F0 B0 w β κ H) ((Array.range (len * n)).map fun i => zv.cells[i % zv.cells.size]!) (List.replicate len z).flatten := by
    have := zeros_rel hrel hzne len; rwa [hzn] at this
  obtain ⟨vs, h1, h2⟩ := fill_sound (fun i => some (i * n, n)) (parts.map fun (i, x) => (i, a.eval x)).toList _ hzero (by simp [p1]) (fun j p q hp hq => by
    simp only [Array.toList_map, List.getElem?_map, Option.map_eq_some_iff] at hp hq
    obtain ⟨p', hp', rfl⟩ := hp
    obtain ⟨q', ⟨q'', hq', rfl⟩, rfl⟩ := hq
    obtain ⟨e1, e2⟩ := p2 j p' q'' hp' hq'
    exact ⟨by simp [e1], opd_sound he e2⟩) g1
  have hadv := adv_fresh hs (.cells vs elem)
  refine ⟨.value (.slice (some ⟨w.heap.size, 0, none⟩) len len), _, β, κ, ?_, hadv, .inl ⟨_, rfl, ?_⟩⟩
  · by_cases hl : len * n = 0
    · have : len = 0 := by
        rcases Nat.mul_eq_zero.1 hl with h | h
        · exact h
        · exact absurd h h0
      subst this
      simp only [Nat.zero_mul] at h1
      simp [execOp, hop, Instr.buildSlice, run_underlying hu, run_sizeOf' hn, newRow]
      have : (Array.range 0).map (fun i => zv.cells[i % zv.cells.size]!) = #[] := by simp
      rw [this, Array.toList_map] at h1
      have hr0 : Array.range 0 = #[] := rfl
      rw [hr0, Array.map_empty]
      simp [h1]
    · simp [execOp, hop, Instr.buildSlice, run_underlying hu, run_sizeOf' hn, newRow, hl, zeroValue, typeInfo, hi, hzv, Nat.not_lt.2 hlim]
      (try simp at h1)
      simp [h1]
  · have hrl : rows.length = len := by simpa using g3
    have hRC := h2.le hadv.le
    have hb : (RPof F0 B0 { w with heap := w.heap.push (.cells vs elem) } β κ H).w.heap[w.heap.size]? = some (.cells vs elem (0, 0)) := push_self w _
    have := RelC.sl hRC g2 hb ⟨.inr hs.b0, by simp, fun ⟨id, o1, q1, q2, q3⟩ => by have := (hs.lt id o1 q1 (mut_alive q2)).1; omega⟩
    rw [hrl] at this
    exact this

theorem msl_fine {o : Oper} {t elem : TypeId} {l c : Operand} {l' c' : LOpd} {i : TypeInfo} {z : List AVal} {v : AVal} (hop : o.op = .makeSlice t l c) (hu : P.underlying t = some (.slice elem))
    (hl : cOpd l = some l') (hc : cOpd c = some c') (hi : P.info? elem = some i) (hz : zeroC P elem = some z) (h0 : i.size ≠ 0)
    (hs : HS G F0 B0 w β κ H) (he : RelE (RPof F0 B0 w β κ H) a e) (hv : evalH e H (.msl i.size i.bytes z l' c') = some (v, H')) : Fine P G F0 B0 w β κ H (execOp a.eval o) v H' := by
  have r1 := opd_sound he hl
  have r2 := opd_sound he hc
  simp only [evalH] at hv
  split at hv
  · rename_i k1 n k2 m heq1 heq2
    rw [heq1] at r1; rw [heq2] at r2
    split at hv
    · rename_i hcond
      obtain ⟨rfl, h1, h2, h3, h4⟩ := hcond
      simp only [Option.some.injEq, Prod.mk.injEq] at hv
      obtain ⟨rfl, rfl⟩ := hv
      obtain ⟨n, rfl⟩ := Int.eq_ofNat_of_zero_le h1
      obtain ⟨i', zv, hi', hzv, hlen, hrel⟩ := zeroC_sound (R := RPof F0 B0 w β κ H) hz
      rw [hi] at hi'
      injection hi' with hi'
      subst hi'
      have hw : IntKind.i64.wrap (n : Int) = n := by
        unfold IntKind.wrap
        simp [IntKind.bits, IntKind.signed]
        omega
      have hzne : z ≠ [] := by intro e0; subst e0; simp at hlen; exact h0 hlen.symm
      have hzero := zeros_rel hrel hzne n
      rw [hlen] at hzero
      have hlr : ∀ r ∈ List.replicate n z, r.length = i.size := fun r hr => by rw [List.eq_of_mem_replicate hr]; exact hlen
      have hadv := adv_new hs (.cells ((Array.range (n * i.size)).map fun j => zv.cells[j % zv.cells.size]!) elem) (.row i.size (List.replicate n z) false) n rfl ⟨_, elem, by simp only [RPof]; rw [upd_self]; exact push_self w _,
        by simp only [RPof]; rw [upd_self]; simp, by simp only [RPof]; rw [upd_self]; simp, hlr, RelC.rows (hzero.le (le_new hs _ _ n)) hlr⟩
      simp only [Int.toNat_natCast]
      refine ⟨.value (.slice (some ⟨w.heap.size, 0, none⟩) n n), _, _, _, ?_, hadv, .inl ⟨_, rfl, ?_⟩⟩
      · have hbig : ¬ ((2 : Int) ^ 48 < (i.bytes : Int) * (n : Int)) := by
          have : (2 : Int) ^ 48 = 281474976710656 := by decide
          omega
        have hneg : ¬ ((n : Int) < 0) := by omega
        by_cases hn0 : n = 0
        · subst hn0
          simp [execOp, hop, Instr.makeSlice, run_underlying hu, r1.inv_i, r2.inv_i, asInt, asIntOf, typeInfo, hi, hw, newRow, sizeOf]
          have hw0 : IntKind.i64.wrap 0 = 0 := by decide
          have hr0 : Array.range 0 = #[] := rfl
          simp [hw0, hr0]
        · have hmul : n * i.size ≠ 0 := Nat.mul_ne_zero hn0 h0
          simp [execOp, hop, Instr.makeSlice, run_underlying hu, r1.inv_i, r2.inv_i, asInt, asIntOf, typeInfo, hi, hw, newRow, sizeOf, hbig, hneg, hmul, zeroValue, hzv, hn0, h0]
          intro hge; omega
      · have := Rel.row (R := RPof F0 B0 { w with heap := w.heap.push (.cells ((Array.range (n * i.size)).map fun j => zv.cells[j % zv.cells.size]!) elem) } (upd β H.length w.heap.size) (upd κ H.length n) (H ++ [.row i.size (List.replicate n z) false])) H.length n (by simp [RPof])
        simpa [RPof, upd_self] using this
    · simp at hv
  · simp at hv
end
end Go.Proofs.Ythpcjekmgohelaa.Ab

/- ABSTRACT RUNS, 13: appending, copying. -/
namespace Go.Proofs.Ythpcjekmgohelaa.Ab
open Go Go.RowKit
set_option linter.unusedSimpArgs false
set_option linter.unusedVariables false

section
variable {P : Program} {G : GI} {F0 : Nat → Prop} {B0 : Nat} {w w' : World} {β κ β' κ' : Nat → Nat} {H H' : Heap} {a : Act} {e : Env}

/-- The first elements of what is appended or copied, out of memory. -/
theorem first_sound (hs : HS G F0 B0 w β κ H) {x : Value} {x' : AVal} {new : List (List AVal)} {esz : Nat} (hr : Rel (RPof F0 B0 w β κ H) x x') (hn : rowsOf H x' = some new) (hl : ∀ r ∈ new, r.length = esz)
    {w1 : World} (hw1 : w1.heap = w.heap) : (Builtin.lenOf x).run P w1 = .ok new.length w1 ∧
    ∀ m, m ≤ new.length → ∃ vs, (Builtin.firstCells esz m x).run P w1 = .ok vs w1 ∧ RelC (RPof F0 B0 w β κ H) vs (new.take m).flatten := by
  have hcell : ∀ ad, w1.cell? ad = w.cell? ad := fun ad => by unfold World.cell?; rw [hw1]
  have fin : ∀ (blk base m : Nat) (cv : Nat → Nat → Value), m ≤ new.length → (∀ i j, i < new.length → j < esz → w.cell? ⟨blk, base + (i * esz + j), none⟩ = some (cv i j)) →
      (∀ i j, i < new.length → j < esz → leafA ((new.getD i []).getD j .u) = true ∧ Rel (RPof F0 B0 w β κ H) (cv i j) ((new.getD i []).getD j .u)) →
      ∃ vs, (loadCells ⟨blk, base, none⟩ (m * esz)).run P w1 = .ok vs w1 ∧ RelC (RPof F0 B0 w β κ H) vs (new.take m).flatten := by
    intro blk base m cv hm hc hrl
    have hlt : ∀ r ∈ new.take m, r.length = esz := fun r hr => hl r (List.mem_of_mem_take hr)
    have hlen : (new.take m).flatten.length = m * esz := by rw [flatten_length hlt, List.length_take, Nat.min_eq_left hm]
    have hdm : ∀ k, k < m * esz → k / esz < m ∧ k % esz < esz ∧ k / esz * esz + k % esz = k := by
      intro k hk
      have hpos : 0 < esz := by rcases Nat.eq_zero_or_pos esz with h | h; (rw [h] at hk; simp at hk); exact h
      exact ⟨Nat.div_lt_of_lt_mul (by rw [Nat.mul_comm]; exact hk), Nat.mod_lt _ hpos, by rw [Nat.mul_comm]; exact Nat.div_add_mod k esz⟩
    refine ⟨_, run_loadCells (P := P) w1 ⟨blk, base, none⟩ (m * esz) (fun k => cv (k / esz) (k % esz)) (fun k hk => ?_), by simp [hlen], fun k hk => ?_⟩
    · obtain ⟨h1, h2, h3⟩ := hdm k hk
      have hadd : (⟨blk, base, none⟩ : Addr).add k = ⟨blk, base + k, none⟩ := by
        unfold Addr.add; split
        · rename_i h0; rw [h0]; rfl
        · rfl
      rw [hcell, hadd]
      have := hc (k / esz) (k % esz) (by omega) h2
      rw [h3] at this
      exact this
    · rw [hlen] at hk
      obtain ⟨h1, h2, h3⟩ := hdm k hk
      have e1 : (new.take m).flatten.getD k .u = (new.getD (k / esz) []).getD (k % esz) .u := by
        conv => lhs; rw [← h3]
        rw [getD_flatten hlt _ _ (by rw [List.length_take]; omega) h2]
        congr 1
        rw [List.getD_eq_getElem?_getD, List.getD_eq_getElem?_getD, List.getElem?_take_of_lt h1]
      rw [e1, getD_toList, List.getD_eq_getElem?_getD]
      simp [hk]
      exact hrl _ _ (by omega) h2
  unfold rowsOf at hn
  split at hn
  · simp only [Option.some.injEq] at hn; subst hn
    rename_i rows
    cases hr with
    | sl A cap _ esz' blk o cv hcap hA hrl hleaf hcl h =>
    refine ⟨by simp [Builtin.lenOf], fun m hm => ?_⟩
    by_cases hne : rows = []
    · subst hne
      have : m = 0 := by simpa using hm
      subst this
      refine ⟨#[], ?_, by simp, fun j hj => by simp at hj⟩
      cases A with
      | none => simp [Builtin.firstCells]
      | some ad => simp [Builtin.firstCells, loadCells, loadCellsFrom]
    · obtain ⟨hA1, hA2⟩ := hA hne
      have hee : esz' = esz := by
        cases rows with
        | nil => exact absurd rfl hne
        | cons r rs => rw [← hrl r (.head _), hl r (.head _)]
      subst hee
      obtain ⟨vs, h1, h2⟩ := fin blk o m cv hm hcl (fun i j hi hj => ⟨hleaf i j hi hj, h i j hi hj⟩)
      exact ⟨vs, by rw [hA1]; exact h1, h2⟩
  · simp only [Option.some.injEq] at hn; subst hn
    cases hr with
    | nilS =>
    refine ⟨by simp [Builtin.lenOf], fun m hm => ?_⟩
    have : m = 0 := by simpa using hm
    subst this
    exact ⟨#[], by simp [Builtin.firstCells], by simp, fun j hj => by simp at hj⟩
  · rename_i id len
    split at hn
    · rename_i esz' rows fz hobj
      split at hn
      · rename_i hrl
        simp only [Option.some.injEq] at hn; subst hn
        cases hr with
        | row _ _ hid =>
        obtain ⟨vs, T, h2, h3, h4, h5, h6⟩ := hs.obj id _ hobj
        have h2' : w.heap[β id]? = some (.cells vs T (0, 0)) := h2
        have h3' : rows.length ≤ κ id := h3
        have h4' : κ id * esz' ≤ vs.size := h4
        refine ⟨by simp [Builtin.lenOf, hrl], fun m hm => ?_⟩
        by_cases hne : rows = []
        · subst hne
          have : m = 0 := by simpa using hm
          subst this
          exact ⟨#[], by simp [Builtin.firstCells, loadCells, loadCellsFrom], by simp, fun j hj => by simp at hj⟩
        · have hee : esz' = esz := by
            cases rows with
            | nil => exact absurd rfl hne
            | cons r rs => rw [← h5 r (.head _), hl r (.head _)]
          subst hee
          obtain ⟨vs', g1, g2⟩ := fin (β id) 0 m (fun i j => vs.getD (i * esz' + j) undef) hm (fun i j hi hj => by
            have hlt : i * esz' + j < vs.size := Nat.lt_of_lt_of_le (flat_lt hi hj h3') h4'
            rw [Nat.zero_add, cell_cells h2', Array.getD_eq_getD_getElem?, Array.getElem?_eq_getElem hlt]; rfl) h6
          exact ⟨vs', by simpa [Builtin.firstCells, RPof] using g1, g2⟩
      · simp at hn
    · simp at hn
  · rename_i l
    simp only [Option.some.injEq] at hn; subst hn
    obtain ⟨s, rfl, rfl⟩ := hr.inv_s
    refine ⟨by rw [show (s.data.toList.map fun c => [AVal.i .u8 c.toNat]).length = s.size from by rw [List.length_map]; rfl]; simp [Builtin.lenOf], fun m hm => ?_⟩
    refine ⟨(s.extract 0 m).data.map fun b => .int .u8 b.toNat, by simp [Builtin.firstCells], ?_⟩
    have hm' : m ≤ s.data.size := by simpa using hm
    have e1 : ((s.data.toList.map fun c => [AVal.i .u8 c.toNat]).take m).flatten = (s.data.toList.take m).map fun c => AVal.i .u8 c.toNat := by
      rw [← List.map_take]
      induction s.data.toList.take m with
      | nil => rfl
      | cons c cs ih => simp [ih]
    rw [e1]
    have e2 : (s.extract 0 m).data.toList = s.data.toList.take m := by
      rw [ByteArray.data_extract, Array.toList_extract]; simp [List.extract_eq_take_drop]
    refine ⟨by rw [← Array.length_toList, Array.toList_map, e2]; simp, fun j hj => ?_⟩
    rw [getD_toList, Array.toList_map, e2]
    simp only [List.length_map] at hj
    rw [List.getD_eq_getElem?_getD, List.getD_eq_getElem?_getD, List.getElem?_map, List.getElem?_map, List.getElem?_eq_getElem hj]
    exact ⟨rfl, .i _ _⟩
  · simp at hn

theorem mut_of_append {o' : AObj} {x : Nat} (h : ∀ id o, H[id]? = some o → o.mut = true → β' id = β id) {b : Nat} (hb : Mut β' (H ++ [o']) b) (hx : β' H.length = x) : Mut β H b ∨ b = x := by
  obtain ⟨id, o, h1, h2, rfl⟩ := hb
  rcases get_append h1 with ⟨h3, h4⟩ | ⟨rfl, rfl⟩
  · exact .inl ⟨id, o, h4, h2, h id o h4 h2⟩
  · exact .inr hx

/-- An append to nothing: a new row. -/
theorem app_nil_fine {elem : TypeId} {esz cap : Nat} {new : List (List AVal)} {vs : Array Value} {d : Nat} (hs : HS G F0 B0 w β κ H) (hl : ∀ r ∈ new, r.length = esz) (hcap : new.length ≤ cap) (hsz : cap * esz ≤ vs.size)
    (hr : ∀ i j, i < new.length → j < esz → leafA ((new.getD i []).getD j .u) = true ∧ Rel (RPof F0 B0 w β κ H) (vs.getD (i * esz + j) undef) ((new.getD i []).getD j .u)) :
    ∃ β' κ', Adv G F0 B0 w β κ H { w with drawn := d, heap := w.heap.push (.cells vs elem) } β' κ' (H ++ [.row esz new false]) ∧
      Rel (RPof F0 B0 { w with drawn := d, heap := w.heap.push (.cells vs elem) } β' κ' (H ++ [.row esz new false])) (.slice (some ⟨w.heap.size, 0, none⟩) new.length cap) (.row H.length new.length) := by
  have a1 := adv_drawn hs d
  have a2 := adv_new a1.hs (.cells vs elem) (.row esz new false) cap rfl ⟨vs, elem, by simp only [RPof]; rw [upd_self]; exact push_self w _, by simp only [RPof]; rw [upd_self]; exact hcap, by simp only [RPof]; rw [upd_self]; exact hsz, hl,
    fun i j hi hj => ⟨(hr i j hi hj).1, ((hr i j hi hj).2.le a1.le).le (le_new a1.hs _ _ cap)⟩⟩
  refine ⟨_, _, a1.trans a2, ?_⟩
  have := Rel.row (R := RPof F0 B0 { w with drawn := d, heap := w.heap.push (.cells vs elem) } (upd β H.length w.heap.size) (upd κ H.length cap) (H ++ [.row esz new false])) H.length new.length (by simp [RPof])
  simpa [RPof, upd_self] using this

theorem get_set_append {id id' : Nat} {o' o2 o : AObj} (hid : id < H.length) (h : (H.set id o2 ++ [o'])[id']? = some o) : (id' ≠ id ∧ id' < H.length ∧ H[id']? = some o) ∨ (id' = id ∧ o = o2) ∨ (id' = H.length ∧ o = o') := by
  rcases get_append h with ⟨h3, h4⟩ | ⟨h1, h2⟩
  · have h3' : id' < H.length := by simpa using h3
    by_cases e : id = id'
    · subst e; rw [List.getElem?_set_self hid] at h4; simp at h4; exact .inr (.inl ⟨rfl, h4.symm⟩)
    · rw [List.getElem?_set_ne e] at h4; exact .inl ⟨fun e' => e e'.symm, h3', h4⟩
  · exact .inr (.inr ⟨by simpa using h1, h2⟩)

/-- A row goes over into another one, in a block of its own or a new one. -/
theorem app_row_adv {id esz cap x : Nat} {rows rows2 : List (List AVal)} {vs2 : Array Value} {T : TypeId} {w' : World} (hs : HS G F0 B0 w β κ H) (hobj : H[id]? = some (AObj.row esz rows false))
    (hx : x = β id ∨ (w.heap.size ≤ x ∧ x < w'.heap.size)) (hos : w'.os = w.os) (htp : w'.tape = w.tape) (hout : w'.output = w.output) (hsize : w.heap.size ≤ w'.heap.size)
    (hb : ∀ b, b < w.heap.size → b ≠ β id → w'.heap[b]? = w.heap[b]?) (hg : w'.heap[x]? = some (.cells vs2 T (0, 0))) (hl : ∀ r ∈ rows2, r.length = esz) (hcap : rows2.length ≤ cap) (hsz : cap * esz ≤ vs2.size)
    (hr : ∀ i j, i < rows2.length → j < esz → leafA ((rows2.getD i []).getD j .u) = true ∧ Rel (RPof F0 B0 w β κ H) (vs2.getD (i * esz + j) undef) ((rows2.getD i []).getD j .u)) :
    Adv G F0 B0 w β κ H w' (upd β H.length x) (upd κ H.length cap) (H.set id AObj.dead ++ [AObj.row esz rows2 false]) ∧
      Rel (RPof F0 B0 w' (upd β H.length x) (upd κ H.length cap) (H.set id AObj.dead ++ [AObj.row esz rows2 false])) (.slice (some ⟨x, 0, none⟩) rows2.length cap) (.row H.length rows2.length) := by
  have hid := (List.getElem?_eq_some_iff.1 hobj).1
  have hlt := hs.lt id _ hobj rfl
  have hk : Kept (Mut β H) w w' := ⟨hos, htp, hout, hsize, fun b hb1 hn => hb b hb1 (fun e => hn ⟨id, _, hobj, rfl, e⟩)⟩
  have hm : ∀ b, Mut (upd β H.length x) (H.set id AObj.dead ++ [AObj.row esz rows2 false]) b → Mut β H b ∨ w.heap.size ≤ b := by
    rintro b ⟨id', o', h1, h2, rfl⟩
    rcases get_set_append hid h1 with ⟨h3, h4, h5⟩ | ⟨rfl, rfl⟩ | ⟨rfl, rfl⟩
    · rw [upd_lt _ h4]; exact .inl ⟨id', o', h5, h2, rfl⟩
    · simp [AObj.mut] at h2
    · rw [upd_self]
      rcases hx with rfl | hx
      · exact .inl ⟨id, _, hobj, rfl, rfl⟩
      · exact .inr hx.1
  have hlen : H.length ≤ (H.set id AObj.dead ++ [AObj.row esz rows2 false]).length := by simp
  have hag : ∀ i, i < H.length → upd β H.length x i = β i ∧ upd κ H.length cap i = κ i := fun i hi => ⟨upd_lt _ hi, upd_lt _ hi⟩
  have hle := le_of (F0 := F0) (B0 := B0) hk hm hlen hag
  refine ⟨adv_of hs hk hm hlen hag ?_ ?_, ?_⟩
  · intro id' o' h1 hal
    rcases get_set_append hid h1 with ⟨h3, h4, h5⟩ | ⟨rfl, rfl⟩ | ⟨rfl, rfl⟩
    · exact .inl ⟨h5, hb _ (hs.lt id' o' h5 hal).1 (fun e => h3 (hs.inj id' id o' _ h5 hobj hal rfl (.inr rfl) e))⟩
    · simp [AObj.alive] at hal
    · rw [upd_self]
      refine .inr ⟨⟨vs2, T, by simp only [RPof]; rw [upd_self]; exact hg, by simp only [RPof]; rw [upd_self]; exact hcap, by simp only [RPof]; rw [upd_self]; exact hsz, hl, fun i j hi hj => ⟨(hr i j hi hj).1, (hr i j hi hj).2.le hle⟩⟩, ?_, ?_, ?_⟩
      · rcases hx with rfl | hx
        · omega
        · exact hx.2
      · rcases hx with rfl | hx
        · exact hlt.2
        · exact Nat.le_trans hs.ng hx.1
      · rcases hx with rfl | hx
        · exact hs.al id _ hobj rfl
        · exact .inr (Nat.le_trans hs.b0 hx.1)
  · intro id1 id2 o1 o2 h1 h2 a1 a2 am he
    have key : ∀ id', id' ≠ id → id' < H.length → ∀ o', H[id']? = some o' → o'.alive = true → β id' = x → False := by
      intro id' hne hlt' o' ho' hal' e
      rcases hx with rfl | hx
      · exact hne (hs.inj id' id o' _ ho' hobj hal' rfl (.inr rfl) e)
      · have := (hs.lt id' o' ho' hal').1; omega
    rcases get_set_append hid h1 with ⟨b1, b2, b3⟩ | ⟨rfl, rfl⟩ | ⟨rfl, rfl⟩
    · rcases get_set_append hid h2 with ⟨c1, c2, c3⟩ | ⟨rfl, rfl⟩ | ⟨rfl, rfl⟩
      · rw [upd_lt _ b2, upd_lt _ c2] at he; exact hs.inj id1 id2 o1 o2 b3 c3 a1 a2 am he
      · simp [AObj.alive] at a2
      · rw [upd_lt _ b2, upd_self] at he; exact (key id1 b1 b2 o1 b3 a1 he).elim
    · simp [AObj.alive] at a1
    · rcases get_set_append hid h2 with ⟨c1, c2, c3⟩ | ⟨rfl, rfl⟩ | ⟨rfl, rfl⟩
      · rw [upd_lt _ c2, upd_self] at he; exact (key id2 c1 c2 o2 c3 a2 he.symm).elim
      · simp [AObj.alive] at a2
      · rfl
  · have := Rel.row (R := RPof F0 B0 w' (upd β H.length x) (upd κ H.length cap) (H.set id AObj.dead ++ [AObj.row esz rows2 false])) H.length rows2.length (by simp [RPof])
    simpa [RPof, upd_self] using this
end
end Go.Proofs.Ythpcjekmgohelaa.Ab

/- ABSTRACT RUNS, 14: appending. -/
namespace Go.Proofs.Ythpcjekmgohelaa.Ab
open Go Go.RowKit
set_option linter.unusedSimpArgs false
set_option linter.unusedVariables false

section
variable {P : Program} {G : GI} {F0 : Nat → Prop} {B0 : Nat} {w w' : World} {β κ β' κ' : Nat → Nat} {H H' : Heap} {a : Act} {e : Env}

theorem RelC.append {R : RP} {a b : Array Value} {x y : List AVal} (h : RelC R a x) (k : RelC R b y) : RelC R (a ++ b) (x ++ y) := by
  refine ⟨by simp [h.1, k.1], fun j hj => ?_⟩
  have h1 := h.1
  have k1 := k.1
  by_cases hlo : j < x.length
  · have e1 : (x ++ y).getD j .u = x.getD j .u := by rw [List.getD_eq_getElem?_getD, List.getElem?_append_left hlo, ← List.getD_eq_getElem?_getD]
    have e2 : (a ++ b).getD j undef = a.getD j undef := by rw [Array.getD_eq_getD_getElem?, Array.getElem?_append_left (by omega), ← Array.getD_eq_getD_getElem?]
    rw [e1, e2]; exact h.2 j hlo
  · have e1 : (x ++ y).getD j .u = y.getD (j - x.length) .u := by rw [List.getD_eq_getElem?_getD, List.getElem?_append_right (by omega), ← List.getD_eq_getElem?_getD]
    have e2 : (a ++ b).getD j undef = b.getD (j - x.length) undef := by rw [Array.getD_eq_getD_getElem?, Array.getElem?_append_right (by omega), ← Array.getD_eq_getD_getElem?, h1]
    rw [e1, e2]; exact k.2 _ (by rw [List.length_append] at hj; omega)

theorem app_stay {as : Array TypeId} {ty t t' elem : TypeId} {d : TypeDesc} {args : Array Value} {x : Value} {b : Option Addr} {sl sc n : Nat} {i : TypeInfo} {vs : Array Value} {w' : World}
    (h0 : as[0]? = some t) (h1 : as[1]? = some t') (a0 : args[0]? = some (.slice b sl sc)) (a1 : args[1]? = some x) (hu : P.underlying t = some (.slice elem)) (hd : P.underlying t' = some d) (hnd : rowD d = true)
    (hi : P.info? elem = some i) (hn : (Builtin.lenOf x).run P w = .ok n w) (hf : (Builtin.firstCells i.size n x).run P w = .ok vs w) (hle : sl + n ≤ sc)
    (hst : ∀ ad, b = some ad → (storeCells (ad.add (sl * i.size)) vs.toList).run P w = .ok () w') (hst0 : b = none → w' = w) :
    (Builtin.append_ as ty args).run P w = .ok (.slice b (sl + n) sc) w' := by
  cases b with
  | none =>
    have := hst0 rfl; subst this
    rcases rowD_or hnd with ⟨e, rfl⟩ | rfl <;> simp [Builtin.append_, hn, hf, hle, h0, h1, a0, a1, hi, run_underlying hu, run_underlying hd, sizeOf, typeInfo]
  | some ad =>
    have := hst ad rfl
    rcases rowD_or hnd with ⟨e, rfl⟩ | rfl <;> simp [Builtin.append_, hn, hf, hle, h0, h1, a0, a1, hi, this, run_underlying hu, run_underlying hd, sizeOf, typeInfo]

theorem app_move {as : Array TypeId} {ty t t' elem : TypeId} {d : TypeDesc} {args : Array Value} {x z : Value} {b : Option Addr} {sl sc n : Nat} {i : TypeInfo} {vs olds : Array Value}
    (h0 : as[0]? = some t) (h1 : as[1]? = some t') (a0 : args[0]? = some (.slice b sl sc)) (a1 : args[1]? = some x) (hu : P.underlying t = some (.slice elem)) (hd : P.underlying t' = some d) (hnd : rowD d = true)
    (hi : P.info? elem = some i) (hz : i.zero = some z) (hn : (Builtin.lenOf x).run P w = .ok n w) (hf : (Builtin.firstCells i.size n x).run P w.drew = .ok vs w.drew) (ho : (Builtin.firstCells i.size sl (.slice b sl sc)).run P w.drew = .ok olds w.drew)
    (hle : sc < sl + n) (hb : (sl + n) * i.bytes ≤ 140737488355328) (h63 : sl + n ≤ 9223372036854775807) :
    (Builtin.append_ as ty args).run P w = .ok (.slice (some ⟨w.heap.size, 0, none⟩) (sl + n) (grownCap w (sl + n) sc elem))
      { w with drawn := w.drawn + 1, heap := w.heap.push (.cells (olds ++ vs ++ Builtin.zeroCells z.cells (grownCap w (sl + n) sc elem - (sl + n))) elem) } := by
  have hfit := growslice_fits hle hb
  have hle' : ¬ (sl + n ≤ sc) := by omega
  have h63' : ¬ ((9223372036854775807 : Int) < (sl : Int) + (n : Int)) := by omega
  have h48' : ¬ (281474976710656 < Builtin.nextslicecap (sl + n) sc * i.bytes) := by omega
  rcases rowD_or hnd with ⟨e, rfl⟩ | rfl <;> simp [Builtin.append_, hn, hf, ho, hle', h63', h48', grownCap, h0, h1, a0, a1, hi, run_underlying hu, run_underlying hd, sizeOf, typeInfo, zeroValue, hz, Question.forced, newRow] <;> rfl

theorem run_call_builtin {o : Oper} {c : Call} {b : Builtin} {v : Value} (hop : o.op = .call c) (hc : c.callee = .builtin b) (ρ : Operand → Value)
    (h : (builtin b c.argTypes o.type (c.args.map fun | .const _ => true | _ => false) (c.args.map ρ)).run P w = .ok (.value v) w') : (execOp ρ o).run P w = .ok (.value v) w' := by
  simp [execOp, hop, resolve, hc, invoke]
  exact h

theorem app_fine {o : Oper} {c : Call} {t t' elem : TypeId} {d : TypeDesc} {so xo : Operand} {s' x' : LOpd} {i : TypeInfo} {v : AVal} {z : List AVal} (hop : o.op = .call c) (hc : c.callee = .builtin .append)
    (h0 : c.argTypes[0]? = some t) (h1 : c.argTypes[1]? = some t') (a0 : c.args[0]? = some so) (a1 : c.args[1]? = some xo) (hu : P.underlying t = some (.slice elem)) (hd : P.underlying t' = some d) (hnd : rowD d = true)
    (hso : cOpd so = some s') (hxo : cOpd xo = some x') (hi : P.info? elem = some i) (hz : zeroC P elem = some z) (hsz : i.size ≠ 0)
    (hs : HS G F0 B0 w β κ H) (he : RelE (RPof F0 B0 w β κ H) a e) (hv : evalH e H (.app i.size i.bytes s' x') = some (v, H')) : Fine P G F0 B0 w β κ H (execOp a.eval o) v H' := by
  have r1 := opd_sound he hso
  have r2 := opd_sound he hxo
  obtain ⟨i', zv, hi', hzv, hlen, hrel⟩ := zeroC_sound (R := RPof F0 B0 w β κ H) hz
  rw [hi] at hi'
  injection hi' with hi'
  subst hi'
  have e0 : (c.args.map a.eval)[0]? = some (a.eval so) := by rw [Array.getElem?_map, a0]; rfl
  have e1 : (c.args.map a.eval)[1]? = some (a.eval xo) := by rw [Array.getElem?_map, a1]; rfl
  simp only [evalH] at hv
  split at hv
  · rename_i new hnew
    split at hv
    · rename_i hall
      have hl : ∀ r ∈ new, r.length = i.size := fun r hr => by simpa using List.all_eq_true.1 hall r hr
      obtain ⟨hn, _⟩ := first_sound (P := P) hs r2 hnew hl (w1 := w) rfl
      obtain ⟨_, hfst⟩ := first_sound (P := P) hs r2 hnew hl (w1 := w.drew) rfl
      obtain ⟨vs, hf, hvs⟩ := hfst new.length (Nat.le_refl _)
      rw [List.take_length] at hvs
      obtain ⟨_, hfst'⟩ := first_sound (P := P) hs r2 hnew hl (w1 := w) rfl
      obtain ⟨vs', hf', hvs'⟩ := hfst' new.length (Nat.le_refl _)
      rw [List.take_length] at hvs'
      split at hv
      · rename_i heq
        rw [heq] at r1
        generalize hvs0 : a.eval so = sv at r1 e0
        cases r1
        split at hv
        · rename_i hnil
          simp only [Option.some.injEq, Prod.mk.injEq] at hv
          obtain ⟨rfl, rfl⟩ := hv
          subst hnil
          have hrun := app_stay (P := P) (ty := o.type) (w := w) (w' := w) h0 h1 e0 e1 hu hd hnd hi hn hf' (by simp) (fun ad h => by cases h) (fun _ => rfl)
          exact ⟨_, w, β, κ, run_call_builtin hop hc _ (by simp [builtin, hrun]), Adv.refl hs, .inl ⟨_, rfl, .nilS⟩⟩
        · rename_i hnil
          split at hv
          · rename_i hcond
            simp only [Option.some.injEq, Prod.mk.injEq] at hv
            obtain ⟨rfl, rfl⟩ := hv
            have hpos : 0 < new.length := List.length_pos_iff.2 hnil
            have hrun := app_move (P := P) (ty := o.type) (w := w) (olds := #[]) h0 h1 e0 e1 hu hd hnd hi hzv hn hf (by simp [Builtin.firstCells]) (by omega) (by rw [Nat.zero_add]; exact hcond.1) (by omega)
            have hcap := grownCap_ge w (0 + new.length) 0 elem
            generalize grownCap w (0 + new.length) 0 elem = cap at hrun hcap
            have hzl : zv.cells.size = i.size := by rw [hrel.1, hlen]
            have hvsz : vs.size = new.length * i.size := by rw [hvs.1, flatten_length hl]
            obtain ⟨β', κ', g1, g2⟩ := app_nil_fine (elem := elem) (cap := cap) (vs := #[] ++ vs ++ Builtin.zeroCells zv.cells (cap - (0 + new.length))) (d := w.drawn + 1) hs hl (by omega) (by
                simp [Builtin.zeroCells, hvsz, hzl]
                rw [← Nat.add_mul]
                exact Nat.mul_le_mul_right _ (by omega)) (fun i' j hi' hj => by
                have h9 := (hvs.rows hl) i' j hi' hj
                have hlt : i' * i.size + j < vs.size := by rw [hvsz]; exact flat_lt hi' hj (Nat.le_refl _)
                refine ⟨h9.1, ?_⟩
                have e9 : (#[] ++ vs ++ Builtin.zeroCells zv.cells (cap - (0 + new.length))).getD (i' * i.size + j) undef = vs.getD (i' * i.size + j) undef := by
                  rw [Array.empty_append, Array.getD_eq_getD_getElem?, Array.getD_eq_getD_getElem?, Array.getElem?_append_left hlt]
                rw [e9]; exact h9.2)
            rw [Nat.zero_add] at hrun
            exact ⟨_, _, β', κ', run_call_builtin hop hc _ (by simp only [builtin, Sem.run_bind, hrun]; rfl), by simpa using g1, .inl ⟨_, rfl, by simpa using g2⟩⟩
          · simp at hv
      · rename_i id len heq
        split at hv
        · rename_i esz' rows hobj
          split at hv
          · rename_i hcond
            obtain ⟨rfl, rfl, hb, h63⟩ := hcond
            simp only [Option.some.injEq, Prod.mk.injEq] at hv
            obtain ⟨rfl, rfl⟩ := hv
            rw [heq] at r1
            generalize hvs0 : a.eval so = sv at r1 e0
            cases r1 with
            | row _ _ hid =>
            obtain ⟨cur, T, q2, q3, q4, q5, q6⟩ := hs.obj id _ hobj
            have q2' : w.heap[β id]? = some (.cells cur T (0, 0)) := q2
            have q3' : rows.length ≤ κ id := q3
            have q4' : κ id * i.size ≤ cur.size := q4
            have hl2 : ∀ r ∈ rows ++ new, r.length = i.size := fun r hr => (List.mem_append.1 hr).elim (q5 r) (hl r)
            have hl2' : (rows ++ new).length = rows.length + new.length := List.length_append
            have hvsz : vs'.size = new.length * i.size := by rw [hvs'.1, flatten_length hl]
            have add0 : ∀ k, (⟨β id, 0, none⟩ : Addr).add k = ⟨β id, k, none⟩ := by
              intro k; unfold Addr.add; split
              · rename_i h0; rw [h0]
              · simp
            by_cases hfit : rows.length + new.length ≤ κ id
            · have hroom : rows.length * i.size + vs'.toList.length ≤ cur.size := by
                have := Nat.mul_le_mul_right i.size hfit
                rw [Nat.add_mul] at this
                simp only [Array.length_toList, hvsz]; omega
              have hst := run_storeCells_at P (β id) (rows.length * i.size) T vs'.toList 0 cur w q2' (by simpa using hroom) (fun v hv => by
                obtain ⟨j, hj, rfl⟩ := List.getElem_of_mem hv
                have hj' : j < new.flatten.length := by rw [← hvs'.1]; simpa using hj
                have h8 := hvs'.2 j hj'
                have h9 := h8.2.one h8.1
                rw [getD_toList, List.getD_eq_getElem?_getD, List.getElem?_eq_getElem hj] at h9
                exact h9)
              simp only [Nat.add_zero] at hst
              have hrun := app_stay (P := P) (ty := o.type) (w := w) (w' := w.setRow (β id) (splice cur (rows.length * i.size) vs'.toList)) h0 h1 e0 e1 hu hd hnd hi hn hf' hfit (fun ad h => by
                simp only [RPof, Option.some.injEq] at h
                subst h
                rw [add0]
                exact hst) (fun h => by cases h)
              obtain ⟨g1, g2⟩ := app_row_adv (w' := w.setRow (β id) (splice cur (rows.length * i.size) vs'.toList)) (rows2 := rows ++ new) (cap := κ id) (vs2 := splice cur (rows.length * i.size) vs'.toList) (x := β id) hs hobj (.inl rfl) rfl rfl rfl (Nat.le_of_eq (setRow_size _ _ _).symm)
                (fun b _ hb => setRow_other w _ b _ hb) (setRow_heap w _ cur _ T (0, 0) q2') hl2 (by rw [hl2']; exact hfit) (by rw [splice_size _ _ _ hroom]; exact q4') (fun i' j hi' hj => by
                  rw [hl2'] at hi'
                  rw [splice_getD _ _ _ _ hroom]
                  by_cases hlo : i' < rows.length
                  · rw [if_pos (flat_lt hlo hj (Nat.le_refl _))]
                    have : (rows ++ new).getD i' [] = rows.getD i' [] := by rw [List.getD_eq_getElem?_getD, List.getElem?_append_left hlo, ← List.getD_eq_getElem?_getD]
                    rw [this]
                    exact q6 i' j hlo hj
                  · obtain ⟨k, rfl⟩ := Nat.exists_eq_add_of_le (Nat.le_of_not_lt hlo)
                    have hk : k < new.length := by omega
                    have e9 : (rows.length + k) * i.size + j = rows.length * i.size + (k * i.size + j) := by rw [Nat.add_mul, Nat.add_assoc]
                    have h10 := flat_lt hk hj (Nat.le_refl _)
                    rw [e9, if_neg (by omega), if_pos (by simp only [Array.length_toList, hvsz]; omega), Nat.add_sub_cancel_left]
                    have : (rows ++ new).getD (rows.length + k) [] = new.getD k [] := by
                      rw [List.getD_eq_getElem?_getD, List.getElem?_append_right (by omega), Nat.add_sub_cancel_left, ← List.getD_eq_getElem?_getD]
                    rw [this, ← getD_toList]
                    exact (hvs'.rows hl) k j hk hj)
              rw [hl2'] at g2
              exact ⟨_, _, _, _, run_call_builtin hop hc _ (by simp only [builtin, Sem.run_bind, hrun]; rfl), g1, .inl ⟨_, rfl, g2⟩⟩
            · have hself : rowsOf H (.row id rows.length) = some rows := by simp [rowsOf, hobj]
              obtain ⟨_, hfst2⟩ := first_sound (P := P) hs (.row id rows.length hid) hself q5 (w1 := w.drew) rfl
              obtain ⟨olds, ho, hos⟩ := hfst2 rows.length (Nat.le_refl _)
              rw [List.take_length] at hos
              have hrun := app_move (P := P) (ty := o.type) (w := w) (olds := olds) h0 h1 e0 e1 hu hd hnd hi hzv hn hf ho (by simp only [RPof]; omega) hb h63
              have hcap := grownCap_ge w (rows.length + new.length) (κ id) elem
              simp only [RPof] at hrun
              generalize grownCap w (rows.length + new.length) (κ id) elem = cap at hrun hcap
              have hzl : zv.cells.size = i.size := by rw [hrel.1, hlen]
              have hboth := hos.append hvs
              rw [← List.flatten_append] at hboth
              have hbsz : (olds ++ vs).size = (rows.length + new.length) * i.size := by rw [hboth.1, flatten_length hl2, hl2']
              obtain ⟨g1, g2⟩ := app_row_adv (w' := { w with drawn := w.drawn + 1, heap := w.heap.push (.cells (olds ++ vs ++ Builtin.zeroCells zv.cells (cap - (rows.length + new.length))) elem) })
                (rows2 := rows ++ new) (cap := cap) (vs2 := olds ++ vs ++ Builtin.zeroCells zv.cells (cap - (rows.length + new.length))) (x := w.heap.size) (T := elem) hs hobj (.inr ⟨Nat.le_refl _, by simp⟩) rfl rfl rfl (by simp)
                (fun b hb _ => by simp only; rw [Array.getElem?_push, if_neg (by omega)]) (push_self w _) hl2 (by rw [hl2']; exact hcap) (by
                  rw [Array.size_append, hbsz]
                  simp only [Builtin.zeroCells, Array.size_map, Array.size_range, hzl]
                  rw [← Nat.add_mul]
                  exact Nat.mul_le_mul_right _ (by omega)) (fun i' j hi' hj => by
                  have hlt : i' * i.size + j < (olds ++ vs).size := by rw [hbsz, ← hl2']; exact flat_lt hi' hj (Nat.le_refl _)
                  have e9 : (olds ++ vs ++ Builtin.zeroCells zv.cells (cap - (rows.length + new.length))).getD (i' * i.size + j) undef = (olds ++ vs).getD (i' * i.size + j) undef := by
                    rw [Array.getD_eq_getD_getElem?, Array.getD_eq_getD_getElem?, Array.getElem?_append_left hlt]
                  rw [e9]
                  exact (hboth.rows hl2) i' j hi' hj)
              rw [hl2'] at g2
              exact ⟨_, _, _, _, run_call_builtin hop hc _ (by simp only [builtin, Sem.run_bind, hrun]; rfl), g1, .inl ⟨_, rfl, g2⟩⟩
          · simp at hv
        · simp at hv
      · simp at hv
    · simp at hv
  · simp at hv
end
end Go.Proofs.Ythpcjekmgohelaa.Ab
