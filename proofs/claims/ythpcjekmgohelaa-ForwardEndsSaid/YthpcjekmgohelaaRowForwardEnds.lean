/- THE ROW of ForwardEnds: whatever the input, it answers true, and the input reads as it did. -/
import Derived.Test.YthpcjekmgohelaaRows
import Derived.Test.YthpcjekmgohelaaLib24
import Derived.WalkKit
import Derived.ProofKit
import Derived.OpenShut
import Derived.ShutString
import Derived.ChangeOld
import Derived.Below
import Derived.SizedLaws
set_option linter.unusedVariables false
set_option linter.unusedSimpArgs false
namespace Go.Proofs.Ythpcjekmgohelaa.forwardEnds
open Go.ChangeShapes Go.WideShapes Go.ChangeAt Go.RowKit Ab
set_option linter.unusedVariables false
theorem own : ownKnob Try.prog.godebug = none := by kernel_rfl
theorem laidOut : laidOutB Try.prog = true := by kernel_rfl
theorem pt0 : ptys Try.prog 8 25 = some pt_Shape := by kernel_rfl
theorem st0 : isSt Try.prog 25 = true := by kernel_rfl
theorem pt1 : ptys Try.prog 8 5 = some pt_uint8 := by kernel_rfl
theorem st1 : isSt Try.prog 5 = false := by kernel_rfl
set_option maxRecDepth 100000 in
theorem lifted (os : Os) (started : os.Started) (H : Type) (enc : TypeId × Value → H) :
    ReturnsInHanded {} Try.checked os 4 .any (Rows.forwardEndsSpec.pre6 enc Try.prog Try.f4 Rows.forwardEndsRow.domain false) (Rows.forwardEndsSpec.post enc Try.prog Try.f4 false true false false) := by
  refine returnsInHanded_of_change_sized (C := Try.checked) own started (by kernel_rfl) Try.func4
    (ChangeSpec.witness6 (enc := enc) (C := Try.checked) false ⟨#[], #[.agg #[.int .u8 0, .slice none 0 0, .slice none 0 0, .slice none 0 0, .slice none 0 0, .slice none 0 0], .int .u8 0], []⟩ 8 (by kernel_rfl) (by kernel_rfl) (by kernel_rfl) (by kernel_rfl)) ?_
  intro W base args ds gs before hval0 hW hcnd hsz0 _
  have hval : ∀ (j : Nat) t v, Try.f4.params[j]? = some t → args[j]? = some v → Value.okWide Try.prog W .any base t v := hval0
  have hW' := hW
  obtain ⟨p, q, hA0, hV, rfl, hfz, hnd⟩ := hW
  have hA : DataW.TrodAll enc Try.prog W 0 (fun _ => true) true Try.f4.params.toList args.toList ds p := hA0
  rw [Try.params4] at hA hval
  obtain ⟨v0, vs0, d0, ds0, p0, q0, hargs, rfl, rfl, h0, r0⟩ := trodAll_cons hA
  obtain ⟨v1, vs1, d1, ds1, p1, q1, rfl, rfl, rfl, h1, r1⟩ := trodAll_cons r0
  obtain ⟨rfl, rfl, rfl⟩ := trodAll_nil r1
  obtain rfl : args = #[v0, v1] := by cases args; simp_all
  obtain ⟨rfl, rfl⟩ := trodVars_none hV
  have k0 := h0
  have lt0 : ∀ x ∈ p0, x.block < W.heap.size := by obtain ⟨m, hm⟩ := k0; exact DataW.trod_lt m _ _ _ hm
  obtain ⟨a0, ha0, hr0⟩ := arg_ab (F0 := (· < W.heap.size)) (B0 := W.heap.size) (fun _ h => h) pt0 (hval 0 25 v0 rfl rfl) h0
  rw [st0] at ha0
  have k1 := h1
  have lt1 : ∀ x ∈ p1, x.block < W.heap.size := by obtain ⟨m, hm⟩ := k1; exact DataW.trod_lt m _ _ _ hm
  obtain ⟨a1, ha1, hr1⟩ := arg_ab (F0 := (· < W.heap.size)) (B0 := W.heap.size) (fun _ h => h) pt1 (hval 1 5 v1 rfl rfl) h1
  rw [st1] at ha1
  clear hA0 hval0 hsz0
  have hrl : RelL (RPof (· < W.heap.size) W.heap.size W id id []) #[v0, v1] [a0, a1] := by
    refine ⟨rfl, fun j hj => ?_⟩
    match j, hj with
    | 0, _ => exact hr0
    | 1, _ => exact hr1
  have hev := law_ForwardEnds_true (G := G0) ha0 ha1
  refine (hev (· < W.heap.size) W _ trivial (Nat.zero_le _) (fun _ h => h) hrl).mono fun e W' he => ?_
  obtain ⟨rv, rfl, bel, hrv⟩ := he
  cases hrv
  exact ⟨_, rfl, _, _, _, [], _, [], hW', trodAll_mk1 (shut_bool Try.underlying4 _), (trodAll_cons_mk (Below.trod laidOut (by kernel_rfl) (of_decide_eq_true (by kernel_rfl)) k0 bel lt0) (trodAll_cons_mk (Below.trod laidOut (by kernel_rfl) (of_decide_eq_true (by kernel_rfl)) k1 bel lt1) trodAll_mk0)), rfl, bel.frame _, fun h => by cases h⟩
theorem over : Rows.forwardEndsRow.holds Try.pinned (OpenSpec.ofChange Rows.forwardEndsSpec) :=
  OpenClaim.holds_of_wide 4 Try.f4 rfl rfl rfl rfl rfl rfl rfl ⟨rfl, rfl, rfl, rfl, rfl⟩ rfl rfl rfl rfl rfl (by kernel_rfl) Try.func4 (by kernel_rfl)
    (of_decide_eq_true (by kernel_rfl)) (by unfold Func.isWrapper; first | (rw [if_pos (by decide +kernel)]; kernel_rfl) | (rw [if_neg (by decide +kernel)]; exact ⟨rfl, rfl⟩))
    (fun os started H enc _ => lifted os started H enc)
theorem proved : Rows.ForwardEndsSaid := over
end Go.Proofs.Ythpcjekmgohelaa.forwardEnds
namespace Go.Proofs.Ythpcjekmgohelaa
/-- The row, under a short name, for the claim. -/
theorem forwardEnds_holds : Rows.ForwardEndsSaid := forwardEnds.proved
#print axioms forwardEnds_holds
end Go.Proofs.Ythpcjekmgohelaa
