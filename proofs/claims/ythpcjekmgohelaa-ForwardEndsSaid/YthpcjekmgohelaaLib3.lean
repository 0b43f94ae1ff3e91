/- ABSTRACT RUNS, 8: evalP is sound. -/
import Derived.Test.YthpcjekmgohelaaLib2
import Derived.Laws.Build
import Derived.ChangeMaps3
import Derived.Laws.CopyRow
set_option linter.unusedVariables false
set_option linter.unusedSimpArgs false
namespace Go.Proofs.Ythpcjekmgohelaa.Ab
open Go Go.RowKit
set_option linter.unusedSimpArgs false
set_option linter.unusedVariables false

def LOp.isBsl : LOp → Bool
  | .bsl _ _ _ _ => true
  | _ => false

section
variable {P : Program} {R : RP} {a : Act} {e : Env} {w : World}

theorem mapM_all {α β : Type} {f : α → Option β} (d : β) : ∀ {l : List α}, (∀ x ∈ l, ∃ y, f x = some y) → l.mapM f = some (l.map fun x => (f x).getD d)
  | [], _ => rfl
  | a :: as, h => by
    obtain ⟨b, hb⟩ := h a (.head _)
    rw [List.mapM_cons, hb, mapM_all d (l := as) (fun x hx => h x (.tail _ hx))]
    simp [hb]

theorem okb_eq {α : Type} {b : Bool} {x : Option α} {y : α} (h : okb b x = some y) : b = true ∧ x = some y := by
  unfold okb at h
  split at h
  · exact ⟨by assumption, h⟩
  · simp at h

set_option maxHeartbeats 1000000 in
theorem pure_sound {dr : Bool} {o : Oper} {l : LOp} {v : AVal} (hc : cOp P dr o.op = some l) (hb : l.isBsl = false) (he : RelE R a e) (hv : evalP e l = some v) :
    ∃ x, (execOp a.eval o).run P w = .ok (.value x) w ∧ Rel R x v := by
  cases hop : o.op <;> rw [hop] at hc <;> simp only [cOp, reduceCtorEq, Option.map_eq_some_iff] at hc <;> (try (exact hc.elim))
  case move x =>
    obtain ⟨y, hy, rfl⟩ := hc
    simp only [evalP, Option.some.injEq] at hv; subst hv
    exact ⟨_, by simp [execOp, hop], opd_sound he hy⟩
  case assign x =>
    obtain ⟨y, hy, rfl⟩ := hc
    simp only [evalP, Option.some.injEq] at hv; subst hv
    exact ⟨_, by simp [execOp, hop], opd_sound he hy⟩
  case pick c x y =>
    split at hc
    · rename_i c' x' y' h1 h2 h3
      simp only [Option.some.injEq] at hc; subst hc
      have r1 := opd_sound he h1
      simp only [evalP] at hv
      split at hv
      · rename_i heq
        simp only [Option.some.injEq] at hv; subst hv
        rw [heq] at r1
        exact ⟨_, by simp [execOp, hop, r1.inv_b, asBool], opd_sound he h2⟩
      · rename_i heq
        simp only [Option.some.injEq] at hv; subst hv
        rw [heq] at r1
        exact ⟨_, by simp [execOp, hop, r1.inv_b, asBool], opd_sound he h3⟩
      · simp at hv
    · simp at hc
  case alloc t => obtain ⟨z, _, rfl⟩ := hc; simp [evalP] at hv
  case box t x => obtain ⟨z, _, rfl⟩ := hc; simp [evalP] at hv
  case build t parts =>
    split at hc
    · rename_i fields z ps hu hz hps
      obtain ⟨hall, hc⟩ := okb_eq hc
      obtain ⟨l, hl, rfl⟩ := Option.map_eq_some_iff.1 hc
      simp only [evalP, Option.map_eq_some_iff] at hv
      obtain ⟨cs, hcs, rfl⟩ := hv
      have hl' : fieldParts P fields ps = some l := hl
      obtain ⟨p1, p2⟩ := parts_sound hps
      obtain ⟨f1, f2⟩ := fieldParts_sound hl'
      have hplaces : fields.toList.mapM (fun f => (P.info? f.type).map fun i => (f.offset, i.size)) = some (fields.toList.map fun f => ((P.info? f.type).map fun i => (f.offset, i.size)).getD (0, 0)) := by
        refine mapM_all (0, 0) (fun f hf => ?_)
        have := (Array.all_eq_true_iff_forall_mem.1 (show fields.all (fun f => (szOf P f.type).isSome) = true by simpa using hall)) f (by simpa using hf)
        unfold szOf at this
        rw [Option.isSome_map] at this
        obtain ⟨i, hi⟩ := Option.isSome_iff_exists.1 this
        exact ⟨_, by rw [hi]; rfl⟩
      obtain ⟨i, zv, hi, hzv, hlen, hrel⟩ := zeroC_sound (R := R) hz
      obtain ⟨x, hx, hr⟩ := build_sound (P := P) (w := w) (t := t) (parts := parts) he hz ⟨fun j => (fields.toList.map fun f => ((P.info? f.type).map fun i => (f.offset, i.size)).getD (0, 0)).toArray[j]?, fun cells hcells => by
          unfold Program.built
          simp only [hi, hu, hzv, hplaces]
          simpa [hi, hzv] using hcells, by rw [p1, f1], fun j p q hp hq => by
          have hj : j < ps.length := by
            have := (List.getElem?_eq_some_iff.1 hp).1
            omega
          obtain ⟨e1, e2⟩ := p2 j p (ps[j]) hp (List.getElem?_eq_getElem hj)
          obtain ⟨f, hf, hs, ho, hx⟩ := f2 j _ q (List.getElem?_eq_getElem hj) hq
          refine ⟨?_, by rw [hx]; exact e2⟩
          unfold szOf at hs
          obtain ⟨k, hk, hk2⟩ := Option.map_eq_some_iff.1 hs
          rw [e1]
          simp [hf, hk, ho, hk2]⟩ hcs
      exact ⟨x, by simp [execOp, hop, hx], hr⟩
    · rename_i n elem z ps hu hz hps
      obtain ⟨n, hn, rfl⟩ := Option.map_eq_some_iff.1 hc
      simp only [evalP, Option.map_eq_some_iff] at hv
      obtain ⟨cs, hcs, rfl⟩ := hv
      obtain ⟨p1, p2⟩ := parts_sound hps
      obtain ⟨i, zv, hi, hzv, hlen, hrel⟩ := zeroC_sound (R := R) hz
      unfold szOf at hn
      obtain ⟨k, hk, rfl⟩ := Option.map_eq_some_iff.1 hn
      obtain ⟨x, hx, hr⟩ := build_sound (P := P) (w := w) (t := t) (parts := parts) he hz ⟨fun j => some (j * k.size, k.size), fun cells hcells => by
          unfold Program.built
          simp only [hi, hu, hzv, hk]
          simpa [hi, hzv] using hcells, by simp [p1], fun j p q hp hq => by
          simp only [List.getElem?_map, Option.map_eq_some_iff] at hq
          obtain ⟨q', hq', rfl⟩ := hq
          obtain ⟨e1, e2⟩ := p2 j p q' hp hq'
          exact ⟨by simp [e1], e2⟩⟩ hcs
      exact ⟨x, by simp [execOp, hop, hx], hr⟩
    · simp at hc
  case buildSlice t len parts =>
    split at hc
    · split at hc
      · obtain ⟨_, hc⟩ := okb_eq hc
        simp only [Option.some.injEq] at hc; subst hc
        simp [LOp.isBsl] at hb
      · simp at hc
    · simp at hc
  case load t p =>
    split at hc
    · obtain ⟨_, hc⟩ := okb_eq hc
      simp only [Option.some.injEq] at hc; subst hc
      simp [evalP] at hv
    · simp at hc
  case store t p x =>
    split at hc
    · simp only [Option.some.injEq] at hc; subst hc
      simp [evalP] at hv
    · simp at hc
  case nilCheck x =>
    obtain ⟨y, hy, rfl⟩ := hc
    have r1 := opd_sound he hy
    simp only [evalP] at hv
    split at hv
    all_goals first | (simp at hv; done) | skip
    all_goals
      rename_i heq
      simp only [Option.some.injEq] at hv; subst hv
      rw [heq] at r1
      refine ⟨a.eval x, ?_, r1⟩
      generalize hvx : a.eval x = vx at r1
      cases r1 <;> simp [execOp, hop, hvx]
  case binOp op t x y yt =>
    split at hc
    · rename_i x' y' h1 h2
      simp only [Option.some.injEq] at hc; subst hc
      simp only [evalP] at hv
      obtain ⟨z, hz, hr⟩ := bin_sound (P := P) (w := w) (opd_sound he h1) (opd_sound he h2) hv
      refine ⟨z, ?_, hr⟩
      simp only [execOp, hop]
      rw [Sem.run_bind, hz]
      rfl
    · simp at hc
  case unOp op t x =>
    obtain ⟨y, hy, rfl⟩ := hc
    have r1 := opd_sound he hy
    simp only [evalP] at hv
    unfold unA at hv
    split at hv
    · rename_i heq
      simp only [Option.some.injEq] at hv; subst hv
      rw [heq] at r1
      exact ⟨_, by simp [execOp, hop, r1.inv_i, Op.unary, Op.intArith], .i _ _⟩
    · rename_i heq
      simp only [Option.some.injEq] at hv; subst hv
      rw [heq] at r1
      exact ⟨_, by simp [execOp, hop, r1.inv_i, Op.unary, Op.intBits], .i _ _⟩
    · rename_i heq
      simp only [Option.some.injEq] at hv; subst hv
      rw [heq] at r1
      exact ⟨_, by simp [execOp, hop, r1.inv_b, Op.unary], .b _⟩
    · simp at hv
  case convert src dst x =>
    split at hc
    · rename_i d k x' hs hd hx
      simp only [Option.some.injEq] at hc; subst hc
      have r1 := opd_sound he hx
      simp only [evalP] at hv
      split at hv
      · rename_i heq
        simp only [Option.some.injEq] at hv; subst hv
        rw [heq] at r1
        exact ⟨_, by simp [execOp, hop, r1.inv_i, convert, run_underlying hs, run_underlying hd, Conv.intToInt], .i _ _⟩
      · simp at hv
    · rename_i d x' hs hd hx
      simp only [Option.some.injEq] at hc; subst hc
      have r1 := opd_sound he hx
      simp only [evalP] at hv
      split at hv
      · rename_i heq
        simp only [Option.some.injEq] at hv; subst hv
        rw [heq] at r1
        exact ⟨_, by simp [execOp, hop, r1.inv_i, convert, run_underlying hs, run_underlying hd, Conv.intToString], .s _⟩
      · rename_i l heq
        simp only [Option.some.injEq] at hv; subst hv
        rw [heq] at r1
        obtain ⟨t, ht, hl⟩ := r1.inv_s
        refine ⟨.string t, ?_, by rw [← hl]; exact .s _⟩
        simp [execOp, hop, ht, convert, run_underlying hs, run_underlying hd]
      · simp at hv
    · simp at hc
  case makeInterface t x =>
    split at hc
    · simp at hc
    · rename_i d x' hni hu hx
      simp only [Option.some.injEq] at hc; subst hc
      have r1 := opd_sound he hx
      simp only [evalP] at hv
      split at hv
      · simp at hv
      · simp only [Option.some.injEq] at hv; subst hv
        refine ⟨.iface t (a.eval x), ?_, .ifc _ _ _ r1⟩
        have : P.concrete t = true := by
          unfold Program.concrete
          rw [hu]
          cases d <;> first | rfl | exact absurd rfl (hni _)
        simp [execOp, hop, run_makeInterface w t (a.eval x) this]
    · simp at hc
  case makeFunc fn first captured =>
    split at hc
    · rename_i f
      split at hc
      · rename_i hfe
        obtain ⟨ys, hys, rfl⟩ := Option.map_eq_some_iff.1 hc
        simp only [evalP, Option.some.injEq] at hv; subst hv
        obtain ⟨q1, q2⟩ := opdsL he hys
        have hf0 : first = #[] := by simpa using hfe
        exact ⟨_, by simp [execOp, hop, Instr.makeFunc, hf0], .fn f _ _ q1 q2⟩
      · simp at hc
    · simp at hc
  case makeSlice t l c =>
    split at hc
    · split at hc
      · obtain ⟨_, hc⟩ := okb_eq hc
        simp only [Option.some.injEq] at hc; subst hc
        simp [evalP] at hv
      · simp at hc
    · simp at hc
  case slice t x lo hi mx =>
    split at hc
    · split at hc
      · rename_i x' lo' hi' hu hx hlo hhi
        simp only [Option.some.injEq] at hc; subst hc
        have r1 := opd_sound he hx
        simp only [evalP] at hv
        split at hv
        · rename_i l heq
          rw [heq] at r1
          obtain ⟨s, hs, rfl⟩ := r1.inv_s
          split at hv
          · rename_i p q hp hq
            split at hv
            · rename_i hle
              obtain ⟨g1, g2, g3⟩ := hle
              simp only [Option.some.injEq] at hv; subst hv
              have hsz : s.size = s.data.toList.length := size_eq s
              refine ⟨.string (s.extract p.toNat q.toNat), ?_, ?_⟩
              · have e1 := high_sound (P := P) (w := w) (len := s.size) (cap := s.size) he hhi (by rw [hsz]; exact hq) (by omega) (by rw [hsz]; omega) .sliceAlen
                have e2 := low_sound (P := P) (w := w) (h := q.toNat) he hlo hp g1 (by omega) .sliceB
                have e3 : (Instr.sliceBounds false s.size s.size (lo.map a.eval) (hi.map a.eval) none).run P w = .ok (p.toNat, q.toNat, s.size) w := by
                  unfold Instr.sliceBounds
                  cases hhv : hi.map a.eval with
                  | none =>
                    rw [hhv] at e1
                    simp only [Sem.run_pure, Result.ok.injEq, and_true] at e1
                    rw [← e1] at e2
                    cases hlv : lo.map a.eval with
                    | none => rw [hlv] at e2; simp only [Sem.run_pure, Result.ok.injEq, and_true] at e2; simp [← e1, ← e2]
                    | some lv => rw [hlv] at e2; simp at e2; simp [e2, ← e1]
                  | some hv' =>
                    rw [hhv] at e1
                    simp at e1
                    cases hlv : lo.map a.eval with
                    | none => rw [hlv] at e2; simp only [Sem.run_pure, Result.ok.injEq, and_true] at e2; simp [e1, ← e2]
                    | some lv => rw [hlv] at e2; simp at e2; simp [e1, e2]
                simp [execOp, hop, Instr.sliceAt, Instr.slice, run_underlying hu, hs, e3]
              · have : (s.extract p.toNat q.toNat).data.toList = (s.data.toList.take q.toNat).drop p.toNat := by
                  rw [ByteArray.data_extract, Array.toList_extract]
                  simp [List.extract_eq_take_drop, List.drop_take]
                rw [← this]; exact .s _
            · simp at hv
          · simp at hv
        · simp at hv
      · rename_i elem x' lo' hi' hu hx hlo hhi
        obtain ⟨n, hn, rfl⟩ := Option.map_eq_some_iff.1 hc
        have r1 := opd_sound he hx
        simp only [evalP] at hv
        split at hv
        · rename_i rows heq
          rw [heq] at r1
          generalize hvx : a.eval x = vx at r1
          cases r1 with
          | sl A cap rows esz blk o cv hcap hA hr hl hcell h =>
          split at hv
          · rename_i p q hp hq
            split at hv
            · rename_i hle
              obtain ⟨g1, g2, g3, g4⟩ := hle
              simp only [Option.some.injEq] at hv; subst hv
              have e1 := high_sound (P := P) (w := w) (len := rows.length) (cap := cap) he hhi hq (by omega) (by omega) .sliceAcap
              have e2 := low_sound (P := P) (w := w) (h := q.toNat) he hlo hp g1 (by omega) .sliceB
              have e3 : (Instr.sliceBounds true rows.length cap (lo.map a.eval) (hi.map a.eval) none).run P w = .ok (p.toNat, q.toNat, cap) w := by
                unfold Instr.sliceBounds
                cases hhv : hi.map a.eval with
                | none =>
                  rw [hhv] at e1
                  simp only [Sem.run_pure, Result.ok.injEq, and_true] at e1
                  rw [← e1] at e2
                  cases hlv : lo.map a.eval with
                  | none => rw [hlv] at e2; simp only [Sem.run_pure, Result.ok.injEq, and_true] at e2; simp [← e1, ← e2]
                  | some lv => rw [hlv] at e2; simp at e2; simp [e2, ← e1]
                | some hv' =>
                  rw [hhv] at e1
                  simp at e1
                  cases hlv : lo.map a.eval with
                  | none => rw [hlv] at e2; simp only [Sem.run_pure, Result.ok.injEq, and_true] at e2; simp [e1, ← e2]
                  | some lv => rw [hlv] at e2; simp at e2; simp [e1, e2]
              obtain ⟨p, rfl⟩ := Int.eq_ofNat_of_zero_le g1
              obtain ⟨q, rfl⟩ := Int.eq_ofNat_of_zero_le (Int.le_trans g1 g2)
              simp only [Int.toNat_natCast] at *
              have hpq : p ≤ q := by omega
              have hqn : q ≤ rows.length := by omega
              have hlen : ((rows.take q).drop p).length = q - p := by simp; omega
              refine ⟨.slice (if cap = p then A else A.map (·.add (p * n))) ((rows.take q).drop p).length (cap - p), ?_, ?_⟩
              · simp [execOp, hop, Instr.sliceAt, Instr.slice, run_underlying hu, hvx, e3, run_sizeOf' hn, hlen]
              · have hget : ∀ i, i < q - p → ((rows.take q).drop p).getD i [] = rows.getD (p + i) [] := by
                  intro i hi
                  rw [List.getD_eq_getElem?_getD, List.getD_eq_getElem?_getD, List.getElem?_drop, List.getElem?_take_of_lt (by omega)]
                refine .sl _ _ _ esz blk (o + p * esz) (fun i j => cv (p + i) j) (by omega) (fun hne => ?_) (fun r hm => hr r (List.mem_of_mem_take (List.mem_of_mem_drop hm))) (fun i j hi hj => ?_) (fun i j hi hj => ?_) (fun i j hi hj => ?_)
                · have hlt : p < q := by
                    rcases Nat.lt_or_ge p q with h1 | h1
                    · exact h1
                    · exact absurd (List.length_eq_zero_iff.1 (by omega)) hne
                  have hne' : rows ≠ [] := by intro e0; subst e0; simp at hqn; omega
                  obtain ⟨hA1, hA2⟩ := hA hne'
                  have hen : esz = n := by
                    cases rows with
                    | nil => exact absurd rfl hne'
                    | cons r0 rs => simp at g4; rw [← g4]; exact (hr r0 (.head _)).symm
                  refine ⟨?_, hA2⟩
                  rw [if_neg (by omega), hA1, hen]
                  simp only [Option.map_some, Addr.add]
                  split
                  · rename_i h0; rw [h0]; rfl
                  · rfl
                · rw [hget i (by omega)]; exact hl (p + i) j (by omega) hj
                · have := hcell (p + i) j (by omega) hj
                  rw [← this]
                  congr 2
                  rw [Nat.add_mul]; omega
                · rw [hget i (by omega)]; exact h (p + i) j (by omega) hj
            · simp at hv
          · simp at hv
        · simp at hv
      · simp at hc
    · simp at hc
  case fieldAddr t p f =>
    split at hc
    · rename_i fields p' hu hp
      split at hc
      · rename_i fd hf
        split at hc
        · rename_i n hn
          obtain ⟨h0, hc⟩ := okb_eq hc
          simp only [Option.some.injEq] at hc; subst hc
          have r1 := opd_sound he hp
          have hne : n ≠ 0 := by simpa using h0
          have key : ∀ ad : Addr, ad.spot = none → a.eval p = .pointer (some ad) → (execOp a.eval o).run P w = .ok (.value (.pointer (some ⟨ad.block, ad.off + fd.offset, none⟩))) w := by
            intro ad hs had
            have : ad.add fd.offset = ⟨ad.block, ad.off + fd.offset, none⟩ := by
              unfold Addr.add
              split
              · rename_i h0; rw [h0]; cases ad; simp_all
              · rfl
            simp [execOp, hop, Instr.fieldAt, run_underlying hu, hf, Instr.sureAddr, had, fieldPlace, run_sizeOf' hn, hne, this]
          simp only [evalP] at hv
          split at hv
          · rename_i heq
            simp only [Option.some.injEq] at hv; subst hv
            rw [heq] at r1
            generalize hvp : a.eval p = vp at r1
            cases r1 with
            | ptr _ _ hid => exact ⟨_, key _ rfl hvp, .ptr _ _ hid⟩
          · rename_i heq
            simp only [Option.some.injEq] at hv; subst hv
            rw [heq] at r1
            generalize hvp : a.eval p = vp at r1
            cases r1 with
            | eptr _ _ _ _ hid =>
              refine ⟨_, key _ rfl hvp, ?_⟩
              rw [Nat.add_assoc]; exact .eptr _ _ _ _ hid
          · rename_i heq
            simp only [Option.some.injEq] at hv; subst hv
            rw [heq] at r1
            generalize hvp : a.eval p = vp at r1
            cases r1 with
            | cptr blk o' _ _ cv hF hl hcell h =>
              refine ⟨_, key _ rfl hvp, ?_⟩
              rw [Nat.add_assoc]; exact .cptr blk o' _ _ cv hF hl hcell h
          · simp at hv
        · simp at hc
      · simp at hc
    · simp at hc
  case field t x f =>
    split at hc
    · rename_i fields x' hu hx
      split at hc
      · rename_i fd hf
        split at hc
        · rename_i n ag hn ha
          obtain ⟨_, hc⟩ := okb_eq hc
          simp only [Option.some.injEq] at hc; subst hc
          have r1 := opd_sound he hx
          simp only [evalP] at hv
          split at hv
          · rename_i cs heq
            rw [heq] at r1
            obtain ⟨vs, hvs, hrc⟩ := r1.inv_agg
            obtain ⟨z, hz, hr⟩ := part_sound (P := P) (w := w) hn ha hrc hv
            exact ⟨z, by simp [execOp, hop, Instr.field, run_underlying hu, hf, hvs, asAgg, hz], hr⟩
          · simp at hv
        · simp at hc
      · simp at hc
    · simp at hc
  case indexAddr t x i =>
    split at hc
    · rename_i elem x' i' hu hx hi
      obtain ⟨n, hn, rfl⟩ := Option.map_eq_some_iff.1 hc
      have r1 := opd_sound he hx
      have r2 := opd_sound he hi
      simp only [evalP] at hv
      split at hv
      · rename_i rows k m heq1 heq2
        rw [heq1] at r1; rw [heq2] at r2
        split at hv
        · rename_i h0
          obtain ⟨m, rfl⟩ := Int.eq_ofNat_of_zero_le h0
          simp only [Int.toNat_natCast] at hv
          split at hv
          · rename_i r hr0
            split at hv
            · rename_i hrn
              simp only [Option.some.injEq] at hv; subst hv
              have hlt : m < rows.length := (List.getElem?_eq_some_iff.1 hr0).1
              generalize hvx : a.eval x = vx at r1
              cases r1 with
              | sl A cap rows esz blk o cv hcap hA hr hl hcell h =>
              have hne : rows ≠ [] := by intro e0; subst e0; simp at hlt
              obtain ⟨hA1, hA2⟩ := hA hne
              have hrm : r ∈ rows := List.mem_of_getElem? hr0
              have hen : esz = n := by rw [← hr r hrm, hrn]
              have hgd : rows.getD m [] = r := by rw [List.getD_eq_getElem?_getD, hr0]; rfl
              have hadd : (⟨blk, o, none⟩ : Addr).add (m * n) = ⟨blk, o + m * n, none⟩ := by
                unfold Addr.add; split <;> simp_all
              refine ⟨.pointer (some ⟨blk, o + m * n, none⟩), ?_, ?_⟩
              · have : ((m : Int) < (rows.length : Int)) := by omega
                simp [execOp, hop, Instr.indexAt, run_underlying hu, hvx, r2.inv_i, asIntOf, hA1, run_sizeOf' hn, this, hadd]
                intro hge; omega
              · have := Rel.cptr (R := R) blk (o + m * n) r 0 (fun j => cv m j) hA2 (fun j hj => by rw [← hgd]; exact hl m j hlt (by omega)) (fun j hj => by rw [← hcell m j hlt (by omega), hen, Nat.add_assoc]) (fun j hj => by rw [← hgd]; exact h m j hlt (by omega))
                simpa using this
            · simp at hv
          · simp at hv
        · simp at hv
      · rename_i id len k m heq1 heq2
        rw [heq1] at r1; rw [heq2] at r2
        split at hv
        · rename_i h0
          simp only [Option.some.injEq] at hv; subst hv
          obtain ⟨m, rfl⟩ := Int.eq_ofNat_of_zero_le h0.1
          generalize hvx : a.eval x = vx at r1
          cases r1 with
          | row _ _ hid =>
          have hadd : (⟨R.β id, 0, none⟩ : Addr).add (m * n) = ⟨R.β id, m * n, none⟩ := by
            unfold Addr.add; split <;> simp_all
          refine ⟨.pointer (some ⟨R.β id, m * n, none⟩), ?_, ?_⟩
          · have hlt2 := h0.2
            simp [execOp, hop, Instr.indexAt, run_underlying hu, hvx, r2.inv_i, asIntOf, run_sizeOf' hn, hadd]
            intro hge; omega
          · have := Rel.eptr (R := R) _ n m 0 hid
            simpa using this
        · simp at hv
      · simp at hv
    · rename_i len elem x' i' hu hx hi
      obtain ⟨n, hn, rfl⟩ := Option.map_eq_some_iff.1 hc
      have r1 := opd_sound he hx
      have r2 := opd_sound he hi
      have key : ∀ (ad : Addr) (k : IntKind) (m : Nat), ad.spot = none → a.eval x = .pointer (some ad) → a.eval i = .int k m → m < len → (execOp a.eval o).run P w = .ok (.value (.pointer (some ⟨ad.block, ad.off + m * n, none⟩))) w := by
        intro ad k m hs had hm hlt
        have : ad.add (m * n) = ⟨ad.block, ad.off + m * n, none⟩ := by
          unfold Addr.add
          split
          · rename_i h0; rw [h0]; cases ad; simp_all
          · rfl
        have hlt' : (m : Int) < (len : Int) := by omega
        simp [execOp, hop, Instr.indexAt, run_underlying hu, had, hm, Instr.sureAddr, asIntOf, run_sizeOf' hn, this, hlt']
        intro hge; omega
      simp only [evalP] at hv
      split at hv
      all_goals first | (simp at hv; done) | skip
      all_goals
        rename_i heq1 heq2
        split at hv
        case isFalse => simp at hv
        rename_i h0
        simp only [Option.some.injEq] at hv; subst hv
        rw [heq1] at r1; rw [heq2] at r2
        obtain ⟨h1, h2⟩ := h0
        obtain ⟨m, rfl⟩ := Int.eq_ofNat_of_zero_le h1
        simp only [Int.toNat_natCast]
        generalize hvx : a.eval x = vx at r1
      · cases r1 with
        | ptr _ _ hid => exact ⟨_, key _ _ m rfl hvx r2.inv_i (by omega), .ptr _ _ hid⟩
      · cases r1 with
        | eptr _ _ _ _ hid =>
          refine ⟨_, key _ _ m rfl hvx r2.inv_i (by omega), ?_⟩
          rw [Nat.add_assoc]; exact .eptr _ _ _ _ hid
      · cases r1 with
        | cptr blk o' _ _ cv hF hl hcell h =>
          refine ⟨_, key _ _ m rfl hvx r2.inv_i (by omega), ?_⟩
          rw [Nat.add_assoc]; exact .cptr blk o' _ _ cv hF hl hcell h
    · simp at hc
  case index t x i =>
    split at hc
    · rename_i x' i' hu hx hi
      simp only [Option.some.injEq] at hc; subst hc
      have r1 := opd_sound he hx
      have r2 := opd_sound he hi
      simp only [evalP] at hv
      split at hv
      · rename_i l k m heq1 heq2
        rw [heq1] at r1; rw [heq2] at r2
        split at hv
        · rename_i h0
          obtain ⟨c, hc, rfl⟩ := Option.map_eq_some_iff.1 hv
          obtain ⟨s, hs, rfl⟩ := r1.inv_s
          have hget : s[m.toNat]? = some c := by
            rw [← hc, Array.getElem?_toList]; rfl
          exact ⟨_, by simp [execOp, hop, Instr.index, run_underlying hu, hs, r2.inv_i, asIntOf, h0, hget], .i _ _⟩
        · simp at hv
      · simp at hv
    · rename_i len elem x' i' hu hx hi
      split at hc
      · rename_i n ag hn ha
        obtain ⟨_, hc⟩ := okb_eq hc
        simp only [Option.some.injEq] at hc; subst hc
        have r1 := opd_sound he hx
        have r2 := opd_sound he hi
        simp only [evalP] at hv
        split at hv
        · rename_i cs k m heq1 heq2
          rw [heq1] at r1; rw [heq2] at r2
          split at hv
          · rename_i h0
            obtain ⟨vs, hvs, hrc⟩ := r1.inv_agg
            obtain ⟨z, hz, hr⟩ := part_sound (P := P) (w := w) hn ha hrc hv
            exact ⟨z, by simp [execOp, hop, Instr.index, run_underlying hu, hvs, r2.inv_i, asIntOf, h0, run_sizeOf' hn, hz], hr⟩
          · simp at hv
        · simp at hv
      · simp at hc
    · simp at hc
  case extract x i =>
    obtain ⟨y, hy, rfl⟩ := hc
    have r1 := opd_sound he hy
    simp only [evalP] at hv
    split at hv
    · rename_i vs heq
      rw [heq] at r1
      obtain ⟨xs, hxs, hn, hr⟩ := r1.inv_tup
      have hlt : i < vs.length := (List.getElem?_eq_some_iff.1 hv).1
      have := hr i hlt
      rw [List.getD_eq_getElem?_getD, hv] at this
      have hlt' : i < xs.size := by omega
      refine ⟨xs[i], by simp [execOp, hop, Instr.extract, hxs, Array.getElem?_eq_getElem hlt'], ?_⟩
      rw [Array.getD_eq_getD_getElem?, Array.getElem?_eq_getElem hlt'] at this
      simpa using this
    · simp at hv
  case call c =>
    split at hc
    · -- len
      rename_i hcal
      split at hc
      · rename_i t x ht hx
        have hargs : (c.args.map a.eval)[0]? = some (a.eval x) := by rw [Array.getElem?_map, hx]; rfl
        have hlen : ∀ (z : Value), (Builtin.len_ c.argTypes o.type (c.args.map a.eval)).run P w = .ok z w → (execOp a.eval o).run P w = .ok (.value z) w := by
          intro z hz
          simp [execOp, hop, resolve, hcal, invoke, builtin, hz]
        split at hc
        · rename_i x' hu hx'
          simp only [Option.some.injEq] at hc; subst hc
          have r1 := opd_sound he hx'
          simp only [evalP] at hv
          split at hv
          · rename_i l heq
            simp only [Option.some.injEq] at hv; subst hv
            rw [heq] at r1
            obtain ⟨s, hs, rfl⟩ := r1.inv_s
            refine ⟨_, hlen (.int .i64 (s.data.toList.length : Nat)) ?_, .i _ _⟩
            simp only [Builtin.len_, ht, hargs]
            rw [← size_eq]
            simp [run_underlying hu, hs, goInt]
          · simp at hv
        · rename_i elem x' hu hx'
          simp only [Option.some.injEq] at hc; subst hc
          have r1 := opd_sound he hx'
          simp only [evalP] at hv
          have fin : ∀ (A : Option Addr) (n cap : Nat), a.eval x = .slice A n cap → (Builtin.len_ c.argTypes o.type (c.args.map a.eval)).run P w = .ok (.int .i64 n) w := by
            intro A n cap hx0
            simp only [Builtin.len_, ht, hargs]
            simp [run_underlying hu, hx0, goInt]
          split at hv
          · rename_i rows heq
            simp only [Option.some.injEq] at hv; subst hv
            rw [heq] at r1
            generalize hvx : a.eval x = vx at r1
            cases r1 with
            | sl A cap _ esz blk o cv hcap hA hr hl hcell h => exact ⟨_, hlen _ (fin _ _ _ hvx), .i _ _⟩
          · rename_i heq
            simp only [Option.some.injEq] at hv; subst hv
            rw [heq] at r1
            generalize hvx : a.eval x = vx at r1
            cases r1 with
            | nilS => exact ⟨_, hlen _ (fin _ _ _ hvx), .i _ _⟩
          · rename_i heq
            simp only [Option.some.injEq] at hv; subst hv
            rw [heq] at r1
            generalize hvx : a.eval x = vx at r1
            cases r1 with
            | row _ _ hid => exact ⟨_, hlen _ (fin _ _ _ hvx), .i _ _⟩
          · simp at hv
        · rename_i xo n elem hu
          simp only [Option.some.injEq] at hc; subst hc
          simp only [evalP, LOpd.ev, Option.some.injEq] at hv; subst hv
          refine ⟨_, hlen (.int .i64 n) ?_, .i _ _⟩
          simp only [Builtin.len_, ht, hargs]
          simp [run_underlying hu, goInt]
        · simp only [Option.some.injEq] at hc; subst hc
          simp [evalP] at hv
        · simp at hc
      · simp at hc
    · -- append
      split at hc
      · split at hc
        · split at hc
          · obtain ⟨_, hc⟩ := okb_eq hc
            simp only [Option.some.injEq] at hc; subst hc
            simp [evalP] at hv
          · simp at hc
        · simp at hc
      · simp at hc
    · -- copy
      split at hc
      · split at hc
        · split at hc
          · obtain ⟨_, hc⟩ := okb_eq hc
            simp only [Option.some.injEq] at hc; subst hc
            simp [evalP] at hv
          · simp at hc
        · simp at hc
      · simp at hc
    · -- max
      rename_i hcal
      obtain ⟨ys, hys, rfl⟩ := Option.map_eq_some_iff.1 hc
      obtain ⟨q1, q2⟩ := opds_sound he hys
      simp only [evalP] at hv
      split at hv
      · rename_i k x rest heq
        have hln := congrArg List.length heq
        rw [List.length_map, List.length_cons] at hln
        have h0 := q2 0 (by omega)
        rw [heq] at h0 q2
        cases hl : c.args.toList.map a.eval with
        | nil =>
          have h2 := congrArg List.length hl
          rw [List.length_map, List.length_nil] at h2
          omega
        | cons vx vs =>
          rw [hl] at h0 q2
          simp only [List.getD_cons_zero] at h0
          obtain rfl := h0.inv_i
          obtain ⟨z, h1, h2⟩ := fold_max (P := P) (w := w) rest vs x v (by have h3 := congrArg List.length hl; rw [List.length_map, List.length_cons] at h3; omega) (fun j hj => by
            have := q2 (j + 1) (by omega)
            simpa using this) hv
          refine ⟨z, ?_, h2⟩
          simp [execOp, hop, resolve, hcal, invoke, builtin, Builtin.max_, hl, h1]
      · simp at hv
    · rename_i hcal
      obtain ⟨ys, hys, rfl⟩ := Option.map_eq_some_iff.1 hc
      obtain ⟨q1, q2⟩ := opds_sound he hys
      simp only [evalP] at hv
      split at hv
      · rename_i k x rest heq
        have hln := congrArg List.length heq
        rw [List.length_map, List.length_cons] at hln
        have h0 := q2 0 (by omega)
        rw [heq] at h0 q2
        cases hl : c.args.toList.map a.eval with
        | nil =>
          have h2 := congrArg List.length hl
          rw [List.length_map, List.length_nil] at h2
          omega
        | cons vx vs =>
          rw [hl] at h0 q2
          simp only [List.getD_cons_zero] at h0
          obtain rfl := h0.inv_i
          obtain ⟨z, h1, h2⟩ := fold_min (P := P) (w := w) rest vs x v (by have h3 := congrArg List.length hl; rw [List.length_map, List.length_cons] at h3; omega) (fun j hj => by
            have := q2 (j + 1) (by omega)
            simpa using this) hv
          refine ⟨z, ?_, h2⟩
          simp [execOp, hop, resolve, hcal, invoke, builtin, Builtin.min_, hl, h1]
      · simp at hv
    · simp at hc
    · simp at hc
    · obtain ⟨_, hc⟩ := okb_eq hc
      obtain ⟨ys, _, rfl⟩ := Option.map_eq_some_iff.1 hc
      simp [evalP] at hv
    · split at hc
      · simp only [Option.some.injEq] at hc; subst hc
        simp [evalP] at hv
      · simp at hc
  case makeMap t r =>
    split at hc
    · obtain ⟨_, hc⟩ := okb_eq hc
      simp only [Option.some.injEq] at hc; subst hc
      simp [evalP] at hv
    · simp at hc
  case lookup t x k ok =>
    split at hc
    · split at hc
      · simp only [Option.some.injEq] at hc; subst hc
        simp [evalP] at hv
      · simp at hc
    · simp at hc
  case mapUpdate t m k x =>
    split at hc
    · split at hc
      · simp only [Option.some.injEq] at hc; subst hc
        simp [evalP] at hv
      · simp at hc
    · simp at hc
end
end Go.Proofs.Ythpcjekmgohelaa.Ab

/- ABSTRACT RUNS, 9: the heap moves on. -/
namespace Go.Proofs.Ythpcjekmgohelaa.Ab
open Go Go.RowKit
set_option linter.unusedSimpArgs false
set_option linter.unusedVariables false

structure Adv (G : GI) (F0 : Nat → Prop) (B0 : Nat) (w : World) (β κ : Nat → Nat) (H : Heap) (w' : World) (β' κ' : Nat → Nat) (H' : Heap) : Prop where
  hs : HS G F0 B0 w' β' κ' H'
  kept : Kept (Mut β H) w w'
  mt : ∀ b, Mut β' H' b → Mut β H b ∨ w.heap.size ≤ b
  len : H.length ≤ H'.length
  agree : ∀ i, i < H.length → β' i = β i ∧ κ' i = κ i

section
variable {G : GI} {F0 : Nat → Prop} {B0 : Nat} {w w' : World} {β κ β' κ' : Nat → Nat} {H H' : Heap}

theorem Adv.refl (hs : HS G F0 B0 w β κ H) : Adv G F0 B0 w β κ H w β κ H := ⟨hs, Kept.refl _ _, fun _ h => .inl h, Nat.le_refl _, fun _ _ => ⟨rfl, rfl⟩⟩

theorem le_of (hk : Kept (Mut β H) w w') (hm : ∀ b, Mut β' H' b → Mut β H b ∨ w.heap.size ≤ b) (hl : H.length ≤ H'.length) (ha : ∀ i, i < H.length → β' i = β i ∧ κ' i = κ i) :
    (RPof F0 B0 w β κ H).Le (RPof F0 B0 w' β' κ' H') where
  F := fun b ⟨h1, h2, h3⟩ => ⟨h1, Nat.lt_of_lt_of_le h2 hk.size, fun h => (hm b h).elim h3 (fun h => absurd h2 (Nat.not_lt.2 h))⟩
  same := fun b ⟨_, h2, h3⟩ => hk.block b h2 h3
  N := hl
  β := fun i hi => (ha i hi).1
  κ := fun i hi => (ha i hi).2

theorem Adv.le (h : Adv G F0 B0 w β κ H w' β' κ' H') : (RPof F0 B0 w β κ H).Le (RPof F0 B0 w' β' κ' H') := le_of h.kept h.mt h.len h.agree

theorem Adv.trans {w2 : World} {β2 κ2 : Nat → Nat} {H2 : Heap} (h : Adv G F0 B0 w β κ H w' β' κ' H') (k : Adv G F0 B0 w' β' κ' H' w2 β2 κ2 H2) : Adv G F0 B0 w β κ H w2 β2 κ2 H2 where
  hs := k.hs
  kept := h.kept.trans k.kept (fun x hx hm => (h.mt x hm).elim id (fun h2 => absurd hx (Nat.not_lt.2 h2)))
  mt := fun b hb => (k.mt b hb).elim (h.mt b) (fun h2 => .inr (Nat.le_trans h.kept.size h2))
  len := Nat.le_trans h.len k.len
  agree := fun i hi => ⟨(k.agree i (Nat.lt_of_lt_of_le hi h.len)).1.trans (h.agree i hi).1, (k.agree i (Nat.lt_of_lt_of_le hi h.len)).2.trans (h.agree i hi).2⟩

theorem ORel.le {R R' : RP} (hle : R.Le R') {id : Nat} (hid : id < R.N) {o : AObj} (hw : R'.w.heap[R.β id]? = R.w.heap[R.β id]?) (h : ORel R id o) : ORel R' id o := by
  have hb := hle.β id hid
  have hk := hle.κ id hid
  cases o with
  | box cs => obtain ⟨vs, T, h1, h2⟩ := h; exact ⟨vs, T, by rw [hb, hw]; exact h1, h2.le hle⟩
  | row esz rows fz =>
    obtain ⟨vs, T, h1, h2, h3, h4, h5⟩ := h
    exact ⟨vs, T, by rw [hb, hw]; exact h1, by rw [hk]; exact h2, by rw [hk]; exact h3, h4, fun i j hi hj => ⟨(h5 i j hi hj).1, (h5 i j hi hj).2.le hle⟩⟩
  | map es =>
    obtain ⟨ents, clock, h1, h2, h3⟩ := h
    exact ⟨ents, clock, by rw [hb, hw]; exact h1, h2, fun j hj => ⟨(h3 j hj).1.le hle, (h3 j hj).2.le hle⟩⟩
  | dead => trivial

theorem mut_alive {o : AObj} (h : o.mut = true) : o.alive = true := by cases o <;> simp_all [AObj.mut, AObj.alive]

theorem HS.gl (hs : HS G F0 B0 w β κ H) {b : Nat} (hb : b < G.NG) : ¬ Mut β H b := by
  rintro ⟨id, o, ho, hm, rfl⟩
  have := (hs.lt id o ho (mut_alive hm)).2
  omega

theorem adv_of (hs : HS G F0 B0 w β κ H) (hk : Kept (Mut β H) w w') (hm : ∀ b, Mut β' H' b → Mut β H b ∨ w.heap.size ≤ b) (hl : H.length ≤ H'.length) (ha : ∀ i, i < H.length → β' i = β i ∧ κ' i = κ i)
    (obj : ∀ id o, H'[id]? = some o → o.alive = true → (H[id]? = some o ∧ w'.heap[β id]? = w.heap[β id]?) ∨
      (ORel (RPof F0 B0 w' β' κ' H') id o ∧ β' id < w'.heap.size ∧ G.NG ≤ β' id ∧ (F0 (β' id) ∨ B0 ≤ β' id)))
    (inj : ∀ id id' o o', H'[id]? = some o → H'[id']? = some o' → o.alive = true → o'.alive = true → (o.mut = true ∨ o'.mut = true) → β' id = β' id' → id = id') :
    Adv G F0 B0 w β κ H w' β' κ' H' := by
  have hle := le_of (F0 := F0) (B0 := B0) hk hm hl ha
  refine ⟨⟨?_, Nat.le_trans hs.ng hk.size, Nat.le_trans hs.b0 hk.size, fun b hb => Nat.lt_of_lt_of_le (hs.f0 b hb) hk.size, ?_, ?_, inj, ?_⟩, hk, hm, hl, ha⟩
  · exact G.keep w w' hs.gw (fun b hb => hk.block b (Nat.lt_of_lt_of_le hb hs.ng) (hs.gl hb))
  · intro id o ho
    by_cases hal : o.alive = true
    · rcases obj id o ho hal with ⟨h1, h2⟩ | ⟨h1, _⟩
      · exact ORel.le hle (List.getElem?_eq_some_iff.1 h1).1 h2 (hs.obj id o h1)
      · exact h1
    · cases o <;> simp [AObj.alive] at hal
      trivial
  · intro id o ho hal
    rcases obj id o ho hal with ⟨h1, h2⟩ | ⟨_, h2, h3, _⟩
    · have hid := (List.getElem?_eq_some_iff.1 h1).1
      rw [(ha id hid).1]
      exact ⟨Nat.lt_of_lt_of_le (hs.lt id o h1 hal).1 hk.size, (hs.lt id o h1 hal).2⟩
    · exact ⟨h2, h3⟩
  · intro id o ho hal
    rcases obj id o ho hal with ⟨h1, h2⟩ | ⟨_, _, _, h4⟩
    · have hid := (List.getElem?_eq_some_iff.1 h1).1
      rw [(ha id hid).1]
      exact hs.al id o h1 hal
    · exact h4

def upd (f : Nat → Nat) (i x : Nat) : Nat → Nat := fun j => if j = i then x else f j
theorem upd_self (f : Nat → Nat) (i x : Nat) : upd f i x i = x := by simp [upd]
theorem upd_lt (f : Nat → Nat) {i x j : Nat} (h : j < i) : upd f i x j = f j := by simp [upd, Nat.ne_of_lt h]

theorem get_append {H : Heap} {o' : AObj} {id : Nat} {o : AObj} (h : (H ++ [o'])[id]? = some o) : (id < H.length ∧ H[id]? = some o) ∨ (id = H.length ∧ o = o') := by
  rcases Nat.lt_trichotomy id H.length with h1 | h1 | h1
  · rw [List.getElem?_append_left h1] at h; exact .inl ⟨h1, h⟩
  · subst h1; rw [List.getElem?_append_right (Nat.le_refl _)] at h; simp at h; exact .inr ⟨rfl, h.symm⟩
  · rw [List.getElem?_eq_none (by simp; omega)] at h; simp at h

/-- A new object in a new block. -/
theorem adv_new (hs : HS G F0 B0 w β κ H) (c : Obj) (o : AObj) (cap : Nat) (hal : o.alive = true)
    (ho : ORel (RPof F0 B0 { w with heap := w.heap.push c } (upd β H.length w.heap.size) (upd κ H.length cap) (H ++ [o])) H.length o) :
    Adv G F0 B0 w β κ H { w with heap := w.heap.push c } (upd β H.length w.heap.size) (upd κ H.length cap) (H ++ [o]) := by
  have hpush : ∀ b, b < w.heap.size → (w.heap.push c)[b]? = w.heap[b]? := fun b hb => by rw [Array.getElem?_push, if_neg (by omega)]
  refine adv_of hs ⟨rfl, rfl, rfl, by simp, fun b hb _ => hpush b hb⟩ ?_ (by simp) (fun i hi => ⟨upd_lt _ hi, upd_lt _ hi⟩) ?_ ?_
  · rintro b ⟨id, o1, h1, h2, rfl⟩
    rcases get_append h1 with ⟨h3, h4⟩ | ⟨rfl, rfl⟩
    · rw [upd_lt _ h3]; exact .inl ⟨id, o1, h4, h2, rfl⟩
    · rw [upd_self]; exact .inr (Nat.le_refl _)
  · intro id o1 h1 hal1
    rcases get_append h1 with ⟨h3, h4⟩ | ⟨rfl, rfl⟩
    · exact .inl ⟨h4, hpush _ (hs.lt id o1 h4 hal1).1⟩
    · rw [upd_self]
      exact .inr ⟨ho, by simp, hs.ng, .inr hs.b0⟩
  · intro id id' o1 o2 h1 h2 a1 a2 am he
    rcases get_append h1 with ⟨h3, h4⟩ | ⟨rfl, rfl⟩ <;> rcases get_append h2 with ⟨h5, h6⟩ | ⟨rfl, rfl⟩
    · rw [upd_lt _ h3, upd_lt _ h5] at he; exact hs.inj id id' o1 o2 h4 h6 a1 a2 am he
    · rw [upd_lt _ h3, upd_self] at he; have := (hs.lt id o1 h4 a1).1; omega
    · rw [upd_lt _ h5, upd_self] at he; have := (hs.lt id' o2 h6 a2).1; omega
    · rfl

/-- A new block that nobody writes any more: no object. -/
theorem adv_fresh (hs : HS G F0 B0 w β κ H) (c : Obj) : Adv G F0 B0 w β κ H { w with heap := w.heap.push c } β κ H := by
  have hpush : ∀ b, b < w.heap.size → (w.heap.push c)[b]? = w.heap[b]? := fun b hb => by rw [Array.getElem?_push, if_neg (by omega)]
  exact adv_of hs ⟨rfl, rfl, rfl, by simp, fun b hb _ => hpush b hb⟩ (fun b h => .inl h) (Nat.le_refl _) (fun _ _ => ⟨rfl, rfl⟩)
    (fun id o h1 hal => .inl ⟨h1, hpush _ (hs.lt id o h1 hal).1⟩) hs.inj

/-- A draw turns nothing. -/
theorem adv_drawn (hs : HS G F0 B0 w β κ H) (n : Nat) : Adv G F0 B0 w β κ H { w with drawn := n } β κ H :=
  adv_of hs ⟨rfl, rfl, rfl, Nat.le_refl _, fun _ _ _ => rfl⟩ (fun b h => .inl h) (Nat.le_refl _) (fun _ _ => ⟨rfl, rfl⟩) (fun id o h1 _ => .inl ⟨h1, rfl⟩) hs.inj

/-- An object that may be written is written. -/
theorem adv_set (hs : HS G F0 B0 w β κ H) {id : Nat} {o o2 : AObj} (ho : H[id]? = some o) (hm : o.mut = true) (hm2 : o2.mut = true)
    (hw : w'.heap.size = w.heap.size) (hos : w'.os = w.os) (htp : w'.tape = w.tape) (hout : w'.output = w.output) (hb : ∀ b, b ≠ β id → w'.heap[b]? = w.heap[b]?)
    (ho2 : ORel (RPof F0 B0 w' β κ (H.set id o2)) id o2) : Adv G F0 B0 w β κ H w' β κ (H.set id o2) := by
  have hid := (List.getElem?_eq_some_iff.1 ho).1
  have get : ∀ id' o', (H.set id o2)[id']? = some o' → (id' = id ∧ o' = o2) ∨ (id' ≠ id ∧ H[id']? = some o') := by
    intro id' o' h
    by_cases e : id = id'
    · subst e; rw [List.getElem?_set_self hid] at h; simp at h; exact .inl ⟨rfl, h.symm⟩
    · rw [List.getElem?_set_ne e] at h; exact .inr ⟨fun e' => e e'.symm, h⟩
  refine adv_of hs ⟨hos, htp, hout, Nat.le_of_eq hw.symm, fun b _ hn => hb b (fun e => hn ⟨id, o, ho, hm, e⟩)⟩ ?_ (by simp) (fun _ _ => ⟨rfl, rfl⟩) ?_ ?_
  · rintro b ⟨id', o', h1, h2, rfl⟩
    rcases get id' o' h1 with ⟨rfl, rfl⟩ | ⟨_, h3⟩
    · exact .inl ⟨_, o, ho, hm, rfl⟩
    · exact .inl ⟨id', o', h3, h2, rfl⟩
  · intro id' o' h1 hal
    rcases get id' o' h1 with ⟨rfl, rfl⟩ | ⟨hne, h3⟩
    · have := hs.lt _ o ho (mut_alive hm)
      exact .inr ⟨ho2, by rw [hw]; exact this.1, this.2, hs.al _ o ho (mut_alive hm)⟩
    · exact .inl ⟨h3, hb _ (fun e => hne (hs.inj id' id o' o h3 ho hal (mut_alive hm) (.inr hm) e))⟩
  · intro id1 id2 o1 o2' h1 h2 a1 a2 am he
    rcases get id1 o1 h1 with ⟨rfl, rfl⟩ | ⟨_, h3⟩ <;> rcases get id2 o2' h2 with ⟨rfl, rfl⟩ | ⟨_, h4⟩
    · rfl
    · exact hs.inj _ _ o o2' ho h4 (mut_alive hm) a2 (.inl hm) he
    · exact hs.inj _ _ o1 o h3 ho a1 (mut_alive hm) (.inr hm) he
    · exact hs.inj _ _ o1 o2' h3 h4 a1 a2 am he
end
end Go.Proofs.Ythpcjekmgohelaa.Ab

/- ABSTRACT RUNS, 10: new variables, loads, stores. -/
namespace Go.Proofs.Ythpcjekmgohelaa.Ab
open Go Go.RowKit
set_option linter.unusedSimpArgs false
set_option linter.unusedVariables false

section
variable {P : Program} {G : GI} {F0 : Nat → Prop} {B0 : Nat} {w w' : World} {β κ β' κ' : Nat → Nat} {H H' : Heap} {a : Act} {e : Env}

theorem le_new (hs : HS G F0 B0 w β κ H) (c : Obj) (o : AObj) (cap : Nat) :
    (RPof F0 B0 w β κ H).Le (RPof F0 B0 { w with heap := w.heap.push c } (upd β H.length w.heap.size) (upd κ H.length cap) (H ++ [o])) := by
  have hpush : ∀ b, b < w.heap.size → (w.heap.push c)[b]? = w.heap[b]? := fun b hb => by rw [Array.getElem?_push, if_neg (by omega)]
  refine le_of ⟨rfl, rfl, rfl, by simp, fun b hb _ => hpush b hb⟩ ?_ (by simp) (fun i hi => ⟨upd_lt _ hi, upd_lt _ hi⟩)
  rintro b ⟨id, o1, h1, h2, rfl⟩
  rcases get_append h1 with ⟨h3, h4⟩ | ⟨rfl, rfl⟩
  · rw [upd_lt _ h3]; exact .inl ⟨id, o1, h4, h2, rfl⟩
  · rw [upd_self]; exact .inr (Nat.le_refl _)

theorem push_self (w : World) (c : Obj) : ({ w with heap := w.heap.push c } : World).heap[w.heap.size]? = some c := by simp

/-- A new variable. -/
theorem adv_box (hs : HS G F0 B0 w β κ H) {vs : Array Value} {cs : List AVal} (t : TypeId) (hr : RelC (RPof F0 B0 w β κ H) vs cs) :
    ∃ β' κ', Adv G F0 B0 w β κ H { w with heap := w.heap.push (.cells vs t) } β' κ' (H ++ [.box cs]) ∧
      Rel (RPof F0 B0 { w with heap := w.heap.push (.cells vs t) } β' κ' (H ++ [.box cs])) (.pointer (some ⟨w.heap.size, 0, none⟩)) (.ptr H.length 0) := by
  refine ⟨_, _, adv_new hs (.cells vs t) (.box cs) 0 rfl ⟨vs, t, ?_, hr.le (le_new hs _ _ 0)⟩, ?_⟩
  · simp only [RPof]; rw [upd_self]; exact push_self w _
  · have := Rel.ptr (R := RPof F0 B0 { w with heap := w.heap.push (.cells vs t) } (upd β H.length w.heap.size) (upd κ H.length 0) (H ++ [.box cs])) H.length 0 (by simp [RPof])
    simpa [RPof, upd_self] using this

/-- What is told of a run of cells in memory. -/
structure Lies (R : RP) (blk base : Nat) (cs : List AVal) (cv : Nat → Value) : Prop where
  leaf : ∀ j, j < cs.length → leafA (cs.getD j .u) = true
  cell : ∀ j, j < cs.length → R.w.cell? ⟨blk, base + j, none⟩ = some (cv j)
  rel : ∀ j, j < cs.length → Rel R (cv j) (cs.getD j .u)

theorem load_sound {R : RP} {blk base off n : Nat} {ag : Bool} {cs : List AVal} {cv : Nat → Value} {t : TypeId} {v : AVal} (hl : Lies R blk base cs cv) (hn : szOf P t = some n) (hag : agOf P t = some ag)
    (hv : ldCells cs off n ag = some v) : ∃ z, (loadVar t ⟨blk, base + off, none⟩).run P R.w = .ok z R.w ∧ Rel R z v := by
  unfold loadVar
  simp only [Sem.run_bind, run_isAgg' hag, Result.andThen_ok]
  have hadd : ∀ j, (⟨blk, base + off, none⟩ : Addr).add j = ⟨blk, base + (off + j), none⟩ := by
    intro j; unfold Addr.add; split
    · rename_i h0; rw [h0]; rfl
    · simp [Nat.add_assoc]
  unfold ldCells at hv
  cases ag with
  | true =>
    simp only [if_true] at hv
    split at hv
    · rename_i hle
      simp only [Option.some.injEq] at hv; subst hv
      have hload := run_loadCells (P := P) R.w ⟨blk, base + off, none⟩ n (fun j => cv (off + j)) (fun j hj => by rw [hadd]; exact hl.cell _ (by omega))
      refine ⟨_, by simp [run_sizeOf' hn, hload]; rfl, ?_⟩
      have hlen : ((cs.drop off).take n).length = n := by simp; omega
      have key : ∀ j, j < n → ((cs.drop off).take n).getD j .u = cs.getD (off + j) .u := by
        intro j hj
        rw [List.getD_eq_getElem?_getD, List.getD_eq_getElem?_getD, List.getElem?_take_of_lt hj, List.getElem?_drop]
      refine .agg _ _ (by simp [hlen]) (fun j hj => ?_) (fun j hj => ?_)
      · rw [key j (by omega)]; exact hl.leaf _ (by omega)
      · rw [key j (by omega), getD_toList, List.getD_eq_getElem?_getD]
        have : j < n := by omega
        simp [this]
        exact hl.rel _ (by omega)
    · simp at hv
  | false =>
    simp only [Bool.false_eq_true, if_false] at hv
    have hlt : off < cs.length := (List.getElem?_eq_some_iff.1 hv).1
    refine ⟨cv off, by simp [hl.cell off hlt], ?_⟩
    have := hl.rel off hlt
    rw [List.getD_eq_getElem?_getD, hv] at this
    exact this

theorem cell_cells {w : World} {b : Nat} {vs : Array Value} {T : TypeId} {fr : Nat × Nat} (h : w.heap[b]? = some (.cells vs T fr)) (o : Nat) : w.cell? ⟨b, o, none⟩ = vs[o]? := by
  simp [World.cell?, h]

theorem Lies.box {R : RP} {id : Nat} {cs : List AVal} {vs : Array Value} {T : TypeId} (h : R.w.heap[R.β id]? = some (.cells vs T (0, 0))) (hr : RelC R vs cs) : Lies R (R.β id) 0 cs (fun j => vs.getD j undef) where
  leaf := fun j hj => (hr.2 j hj).1
  cell := fun j hj => by
    have : j < vs.size := by rw [hr.1]; exact hj
    rw [Nat.zero_add, cell_cells h, Array.getD_eq_getD_getElem?, Array.getElem?_eq_getElem this]; rfl
  rel := fun j hj => (hr.2 j hj).2

theorem flat_lt {i j esz n cap : Nat} (hi : i < n) (hj : j < esz) (hn : n ≤ cap) : i * esz + j < cap * esz := by
  have h1 : (i + 1) * esz ≤ cap * esz := Nat.mul_le_mul_right _ (by omega)
  rw [Nat.add_mul] at h1; omega

theorem Lies.row {R : RP} {id esz i : Nat} {rows : List (List AVal)} {vs : Array Value} {T : TypeId} (h : R.w.heap[R.β id]? = some (.cells vs T (0, 0))) (hcap : rows.length ≤ R.κ id) (hsz : R.κ id * esz ≤ vs.size)
    (hlen : ∀ r ∈ rows, r.length = esz) (hrel : ∀ i j, i < rows.length → j < esz → leafA ((rows.getD i []).getD j .u) = true ∧ Rel R (vs.getD (i * esz + j) undef) ((rows.getD i []).getD j .u)) (hi : i < rows.length) :
    Lies R (R.β id) (i * esz) (rows.getD i []) (fun j => vs.getD (i * esz + j) undef) := by
  have hl : (rows.getD i []).length = esz := by
    rw [List.getD_eq_getElem?_getD, List.getElem?_eq_getElem hi]
    exact hlen _ (List.getElem_mem hi)
  refine ⟨fun j hj => (hrel i j hi (by omega)).1, fun j hj => ?_, fun j hj => (hrel i j hi (by omega)).2⟩
  have : i * esz + j < vs.size := Nat.lt_of_lt_of_le (flat_lt hi (by omega) hcap) hsz
  rw [cell_cells h, Array.getD_eq_getD_getElem?, Array.getElem?_eq_getElem this]; rfl

/-! ### Stores -/
theorem setSeg_eq : ∀ (new cs : List AVal) (off : Nat), off + new.length ≤ cs.length → setSeg cs off new = cs.take off ++ new ++ cs.drop (off + new.length)
  | [], cs, off, _ => by simp [setSeg]
  | c :: new, cs, off, h => by
    simp only [setSeg, List.length_cons] at h ⊢
    rw [setSeg_eq new (cs.set off c) (off + 1) (by simp; omega)]
    have hlt : off < cs.length := by omega
    rw [List.take_set, List.take_succ_eq_append_getElem hlt, List.set_append_right _ _ (by simp; omega)]
    have e1 : off - (cs.take off).length = 0 := by simp; omega
    rw [e1]
    simp only [List.set_cons_zero, List.append_assoc, List.singleton_append, List.cons_append, List.nil_append]
    congr 2
    rw [List.drop_set, if_pos (by omega)]
    congr 1
    congr 1
    omega

theorem getD_splice_lo {α : Type} (cs new : List α) (off j : Nat) (d : α) (h : off + new.length ≤ cs.length) (hj : j < off) : (cs.take off ++ new ++ cs.drop (off + new.length)).getD j d = cs.getD j d := by
  rw [List.getD_eq_getElem?_getD, List.getD_eq_getElem?_getD, List.append_assoc, List.getElem?_append_left (by simp; omega), List.getElem?_take_of_lt hj]
theorem getD_splice_mid {α : Type} (cs new : List α) (off j : Nat) (d : α) (h : off + new.length ≤ cs.length) (hj : off ≤ j) (hj2 : j < off + new.length) : (cs.take off ++ new ++ cs.drop (off + new.length)).getD j d = new.getD (j - off) d := by
  have : (cs.take off).length = off := by simp; omega
  rw [List.getD_eq_getElem?_getD, List.getD_eq_getElem?_getD, List.append_assoc, List.getElem?_append_right (by omega), this, List.getElem?_append_left (by omega)]
theorem getD_splice_hi {α : Type} (cs new : List α) (off j : Nat) (d : α) (h : off + new.length ≤ cs.length) (hj : off + new.length ≤ j) : (cs.take off ++ new ++ cs.drop (off + new.length)).getD j d = cs.getD j d := by
  have : (cs.take off).length = off := by simp; omega
  rw [List.getD_eq_getElem?_getD, List.getD_eq_getElem?_getD, List.append_assoc, List.getElem?_append_right (by omega), this, List.getElem?_append_right (by omega), List.getElem?_drop]
  congr 2; omega

def splice (vs : Array Value) (off : Nat) (new : List Value) : Array Value := (vs.toList.take off ++ new ++ vs.toList.drop (off + new.length)).toArray

theorem splice_size (vs : Array Value) (off : Nat) (new : List Value) (h : off + new.length ≤ vs.size) : (splice vs off new).size = vs.size := by
  simp [splice]; omega

theorem splice_getD (vs : Array Value) (off j : Nat) (new : List Value) (h : off + new.length ≤ vs.size) :
    (splice vs off new).getD j undef = if j < off then vs.getD j undef else if j < off + new.length then new.getD (j - off) undef else vs.getD j undef := by
  have h' : off + new.length ≤ vs.toList.length := by simpa using h
  rw [getD_toList]
  simp only [splice]
  split
  · rename_i h1; rw [getD_splice_lo _ _ _ _ _ h' h1, getD_toList]
  · split
    · rename_i h1 h2; rw [getD_splice_mid _ _ _ _ _ h' (by omega) h2]
    · rename_i h1 h2; rw [getD_splice_hi _ _ _ _ _ h' (by omega), getD_toList]

theorem RelC.splice {R : RP} {vs : Array Value} {cs : List AVal} (h : RelC R vs cs) {new : Array Value} {anew : List AVal} (hn : RelC R new anew) {off : Nat} (hle : off + anew.length ≤ cs.length) :
    RelC R (splice vs off new.toList) (setSeg cs off anew) := by
  have e1 : new.toList.length = anew.length := by simpa using hn.1
  have e2 : vs.size = cs.length := h.1
  refine ⟨by rw [splice_size _ _ _ (by omega), setSeg_length, e2], fun j hj => ?_⟩
  rw [setSeg_length] at hj
  rw [splice_getD _ _ _ _ (by omega), setSeg_eq _ _ _ hle, e1]
  split
  · rename_i h1; rw [getD_splice_lo _ _ _ _ _ hle h1]; exact h.2 j hj
  · split
    · rename_i h1 h2; rw [getD_splice_mid _ _ _ _ _ hle (by omega) h2, ← getD_toList]; exact hn.2 _ (by omega)
    · rename_i h1 h2; rw [getD_splice_hi _ _ _ _ _ hle (by omega)]; exact h.2 j hj

theorem store_run {R : RP} {x : Value} {xs : List AVal} {t T : TypeId} {n : Nat} {g o : Nat} {cur : Array Value} {w : World} (hn : szOf P t = some n) (hx : RelC R x.cells xs) (hlen : xs.length = n)
    (hg : w.heap[g]? = some (.cells cur T (0, 0))) (hle : o + n ≤ cur.size) : (storeVar t ⟨g, o, none⟩ x).run P w = .ok () (w.setRow g (splice cur o x.cells.toList)) := by
  unfold storeVar
  have e1 : x.cells.size = n := by rw [hx.1, hlen]
  simp only [Sem.run_bind, run_sizeOf' hn, Result.andThen_ok, e1, ne_eq, not_true_eq_false, if_false]
  have := run_storeCells_at (P := P) g o T x.cells.toList 0 cur w hg (by simp; omega) (fun v hv => by
    obtain ⟨j, hj, rfl⟩ := List.getElem_of_mem hv
    have hj' : j < xs.length := by simp at hj; omega
    have h1 := hx.2 j hj'
    have h2 := h1.2.one h1.1
    rw [getD_toList, List.getD_eq_getElem?_getD, List.getElem?_eq_getElem hj] at h2
    exact h2)
  simp only [Nat.add_zero] at this
  simpa [splice] using this
end
end Go.Proofs.Ythpcjekmgohelaa.Ab
