/- THE ROW of LiftMore: whatever the input, it answers true, and the input reads as it did. -/
import Derived.Test.YthpcjekmgohelaaRows
import Derived.Test.YthpcjekmgohelaaLib23
import Derived.WalkKit
import Derived.ProofKit
import Derived.OpenShut
import Derived.ShutString
import Derived.ChangeOld
import Derived.Below
import Derived.SizedLaws
set_option linter.unusedVariables false
set_option linter.unusedSimpArgs false
namespace Go.Proofs.Ythpcjekmgohelaa.liftMore
open Go.ChangeShapes Go.WideShapes Go.ChangeAt Go.RowKit Ab
set_option linter.unusedVariables false
theorem own : ownKnob Try.prog.godebug = none := by kernel_rfl
theorem laidOut : laidOutB Try.prog = true := by kernel_rfl
theorem pt0 : ptys Try.prog 8 25 = some pt_Shape := by kernel_rfl
theorem st0 : isSt Try.prog 25 = true := by kernel_rfl
theorem pt1 : ptys Try.prog 8 5 = some pt_uint8 := by kernel_rfl
theorem st1 : isSt Try.prog 5 = false := by kernel_rfl
theorem pt2 : ptys Try.prog 8 5 = some pt_uint8 := by kernel_rfl
theorem st2 : isSt Try.prog 5 = false := by kernel_rfl
theorem pt3 : ptys Try.prog 8 5 = some pt_uint8 := by kernel_rfl
theorem st3 : isSt Try.prog 5 = false := by kernel_rfl
set_option maxRecDepth 100000 in
theorem lifted (os : Os) (started : os.Started) (H : Type) (enc : TypeId × Value → H) :
    ReturnsInHanded {} Try.checked os 5 .any (Rows.liftMoreSpec.pre6 enc Try.prog Try.f5 Rows.liftMoreRow.domain false) (Rows.liftMoreSpec.post enc Try.prog Try.f5 false true false false) := by
  refine returnsInHanded_of_change_sized (C := Try.checked) own started (by kernel_rfl) Try.func5
    (ChangeSpec.witness6 (enc := enc) (C := Try.checked) false ⟨#[], #[.agg #[.int .u8 0, .slice none 0 0, .slice none 0 0, .slice none 0 0, .slice none 0 0, .slice none 0 0], .int .u8 0, .int .u8 0, .int .u8 0], []⟩ 8 (by kernel_rfl) (by kernel_rfl) (by kernel_rfl) (by kernel_rfl)) ?_
  intro W base args ds gs before hval0 hW hcnd hsz0 _
  have hval : ∀ (j : Nat) t v, Try.f5.params[j]? = some t → args[j]? = some v → Value.okWide Try.prog W .any base t v := hval0
  have hW' := hW
  obtain ⟨p, q, hA0, hV, rfl, hfz, hnd⟩ := hW
  have hA : DataW.TrodAll enc Try.prog W 0 (fun _ => true) true Try.f5.params.toList args.toList ds p := hA0
  rw [Try.params5] at hA hval
  obtain ⟨v0, vs0, d0, ds0, p0, q0, hargs, rfl, rfl, h0, r0⟩ := trodAll_cons hA
  obtain ⟨v1, vs1, d1, ds1, p1, q1, rfl, rfl, rfl, h1, r1⟩ := trodAll_cons r0
  obtain ⟨v2, vs2, d2, ds2, p2, q2, rfl, rfl, rfl, h2, r2⟩ := trodAll_cons r1
  obtain ⟨v3, vs3, d3, ds3, p3, q3, rfl, rfl, rfl, h3, r3⟩ := trodAll_cons r2
  obtain ⟨rfl, rfl, rfl⟩ := trodAll_nil r3
  obtain rfl : args = #[v0, v1, v2, v3] := by cases args; simp_all
  obtain ⟨rfl, rfl⟩ := trodVars_none hV
  have k0 := h0
  have lt0 : ∀ x ∈ p0, x.block < W.heap.size := by obtain ⟨m, hm⟩ := k0; exact DataW.trod_lt m _ _ _ hm
  obtain ⟨a0, ha0, hr0⟩ := arg_ab (F0 := (· < W.heap.size)) (B0 := W.heap.size) (fun _ h => h) pt0 (hval 0 25 v0 rfl rfl) h0
  rw [st0] at ha0
  have k1 := h1
  have lt1 : ∀ x ∈ p1, x.block < W.heap.size := by obtain ⟨m, hm⟩ := k1; exact DataW.trod_lt m _ _ _ hm
  obtain ⟨a1, ha1, hr1⟩ := arg_ab (F0 := (· < W.heap.size)) (B0 := W.heap.size) (fun _ h => h) pt1 (hval 1 5 v1 rfl rfl) h1
  rw [st1] at ha1
  have k2 := h2
  have lt2 : ∀ x ∈ p2, x.block < W.heap.size := by obtain ⟨m, hm⟩ := k2; exact DataW.trod_lt m _ _ _ hm
  obtain ⟨a2, ha2, hr2⟩ := arg_ab (F0 := (· < W.heap.size)) (B0 := W.heap.size) (fun _ h => h) pt2 (hval 2 5 v2 rfl rfl) h2
  rw [st2] at ha2
  have k3 := h3
  have lt3 : ∀ x ∈ p3, x.block < W.heap.size := by obtain ⟨m, hm⟩ := k3; exact DataW.trod_lt m _ _ _ hm
  obtain ⟨a3, ha3, hr3⟩ := arg_ab (F0 := (· < W.heap.size)) (B0 := W.heap.size) (fun _ h => h) pt3 (hval 3 5 v3 rfl rfl) h3
  rw [st3] at ha3
  clear hA0 hval0 hsz0
  have hrl : RelL (RPof (· < W.heap.size) W.heap.size W id id []) #[v0, v1, v2, v3] [a0, a1, a2, a3] := by
    refine ⟨rfl, fun j hj => ?_⟩
    match j, hj with
    | 0, _ => exact hr0
    | 1, _ => exact hr1
    | 2, _ => exact hr2
    | 3, _ => exact hr3
  have hev := law_LiftMore_true (G := G0) ha0 ha1 ha2 ha3
  refine (hev (· < W.heap.size) W _ trivial (Nat.zero_le _) (fun _ h => h) hrl).mono fun e W' he => ?_
  obtain ⟨rv, rfl, bel, hrv⟩ := he
  cases hrv
  exact ⟨_, rfl, _, _, _, [], _, [], hW', trodAll_mk1 (shut_bool Try.underlying4 _), (trodAll_cons_mk (Below.trod laidOut (by kernel_rfl) (of_decide_eq_true (by kernel_rfl)) k0 bel lt0) (trodAll_cons_mk (Below.trod laidOut (by kernel_rfl) (of_decide_eq_true (by kernel_rfl)) k1 bel lt1) (trodAll_cons_mk (Below.trod laidOut (by kernel_rfl) (of_decide_eq_true (by kernel_rfl)) k2 bel lt2) (trodAll_cons_mk (Below.trod laidOut (by kernel_rfl) (of_decide_eq_true (by kernel_rfl)) k3 bel lt3) trodAll_mk0)))), rfl, bel.frame _, fun h => by cases h⟩
theorem over : Rows.liftMoreRow.holds Try.pinned (OpenSpec.ofChange Rows.liftMoreSpec) :=
  OpenClaim.holds_of_wide 5 Try.f5 rfl rfl rfl rfl rfl rfl rfl ⟨rfl, rfl, rfl, rfl, rfl⟩ rfl rfl rfl rfl rfl (by kernel_rfl) Try.func5 (by kernel_rfl)
    (of_decide_eq_true (by kernel_rfl)) (by unfold Func.isWrapper; first | (rw [if_pos (by decide +kernel)]; kernel_rfl) | (rw [if_neg (by decide +kernel)]; exact ⟨rfl, rfl⟩))
    (fun os started H enc _ => lifted os started H enc)
theorem proved : Rows.LiftMoreSaid := over
end Go.Proofs.Ythpcjekmgohelaa.liftMore
namespace Go.Proofs.Ythpcjekmgohelaa
/-- The row, under a short name, for the claim. -/
theorem liftMore_holds : Rows.LiftMoreSaid := liftMore.proved
#print axioms liftMore_holds
end Go.Proofs.Ythpcjekmgohelaa
