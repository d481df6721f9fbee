/- CertCodes: the code of a certificate and its reading agree with the reference, and round trip: any certificate, any bytes; nothing is assumed. -/
import Derived.Test.YtkbfngepdgdecaaRows
import Derived.Test.YtkbfngepdgdecaaN12
import Derived.WalkKit
import Derived.ProofKit
import Derived.OpenShut
import Derived.ShutString
import Derived.ChangeOld
import Derived.SizedLaws
import Derived.Carry
namespace Go.Proofs.Ytkbfngepdgdecaa.certCodes
open Go.ChangeShapes Go.WideShapes Go.ChangeAt Go.RowKit Go.V Go.Cert
open Go.ChangeMaps (open_string shut_string)
set_option linter.unusedVariables false
theorem own : ownKnob Try.prog.godebug = none := by kernel_rfl
theorem laidOut : laidOutB Try.prog = true := by kernel_rfl
set_option maxRecDepth 100000 in
theorem lifted (os : Os) (started : os.Started) (H : Type) (enc : TypeId × Value → H) :
    ReturnsInHanded {} Try.checked os 9 .any (Rows.certCodesSpec.pre6 enc Try.prog Try.f9 Rows.certCodesRow.domain false) (Rows.certCodesSpec.post enc Try.prog Try.f9 false true false false) := by
  refine returnsInHanded_of_change_sized (C := Try.checked) own started (by kernel_rfl) Try.func9
    (ChangeSpec.witness6 (enc := enc) (C := Try.checked) false ⟨#[], #[((Try.prog.info? 28).bind (·.zero)).getD (.bool false), .slice none 0 0], []⟩ 8 (by kernel_rfl) (by kernel_rfl) (by kernel_rfl) (by kernel_rfl)) ?_
  intro W base args ds gs before hval0 hW hcnd hsz0 _
  have hsz : (DataW.weightsEach Try.prog (Try.f9.params.toList ++ Rows.certCodesSpec.plain.varTypes Try.prog) (ds ++ gs)).all (· ≤ reachBytes) = true := hsz0
  have hval : ∀ (j : Nat) t v, Try.f9.params[j]? = some t → args[j]? = some v → Value.okWide Try.prog W .any base t v := hval0
  have hW' := hW
  obtain ⟨p, q, hA0, hV, rfl, hfz, hnd⟩ := hW
  have hA : DataW.TrodAll enc Try.prog W 0 (fun _ => true) true Try.f9.params.toList args.toList ds p := hA0
  rw [Try.params9] at hA hval hsz
  obtain ⟨v0, vs0, d0, ds0, p0, q0, hargs, rfl, rfl, h0, r0⟩ := trodAll_cons hA
  obtain ⟨v1, vs1, d1, ds1, p1, q1, rfl, rfl, rfl, h1, r1⟩ := trodAll_cons r0
  obtain ⟨rfl, rfl, rfl⟩ := trodAll_nil r1
  obtain rfl : args = #[v0, v1] := by cases args; simp_all
  obtain ⟨rfl, rfl⟩ := trodVars_none hV
  have kk0 := h0
  have lt0 := trod_low kk0
  obtain ⟨x0, A0, R0⟩ := open_st plainL plainL_ok (by decide) Try.underlying28 (hval 0 28 v0 rfl rfl) h0
  obtain ⟨q0, s0, l0, rfl, hl0⟩ := dec28 A0
  have kk1 := h1
  have lt1 := trod_low kk1
  obtain ⟨x1, A1, R1⟩ := open_sl plainL plainL_ok (by decide) Try.underlying34 (hval 1 34 v1 rfl rfl) h1
  obtain ⟨k1, b1, rfl⟩ := dec34 A1
  clear hA0 hval0 hsz0 hsz
  have hcall : VCalls Try.prog 9 _ S0 (fun x _ => x = .b true) := (t9 k1 q0 s0 l0 b1 S0 hl0)
  refine (VCalls.calls Try.func9 (by kernel_rfl) hcall (relArgs_cons R0 (relArgs_cons R1 relArgs_nil))).mono fun e W' ⟨he, bel⟩ => ?_
  subst he
  exact ⟨_, rfl, _, _, _, [], _, [], hW', trodAll_mk1 (shut_bool Try.underlying4 _), (trodAll_cons_mk (Below.trod laidOut (by kernel_rfl) (of_decide_eq_true (by kernel_rfl)) kk0 bel lt0) (trodAll_cons_mk (Below.trod laidOut (by kernel_rfl) (of_decide_eq_true (by kernel_rfl)) kk1 bel lt1) trodAll_mk0)), rfl, bel.frame _, fun h => by cases h⟩
theorem over : Rows.certCodesRow.holds Try.pinned (OpenSpec.ofChange Rows.certCodesSpec) :=
  OpenClaim.holds_of_wide 9 Try.f9 rfl rfl rfl rfl rfl rfl rfl ⟨rfl, rfl, rfl, rfl, rfl⟩ rfl rfl rfl rfl rfl (by kernel_rfl) Try.func9 (by kernel_rfl)
    (of_decide_eq_true (by kernel_rfl)) (by unfold Func.isWrapper; first | (rw [if_pos (by decide +kernel)]; kernel_rfl) | (rw [if_neg (by decide +kernel)]; exact ⟨rfl, rfl⟩))
    (fun os started H enc _ => lifted os started H enc)
theorem proved : Rows.CertCodesSaid := over
#print axioms proved
end Go.Proofs.Ytkbfngepdgdecaa.certCodes
namespace Go.Proofs.Ytkbfngepdgdecaa
/-- The row, under a short name, for the claim. -/
theorem certCodes_holds : Rows.CertCodesSaid := certCodes.proved
end Go.Proofs.Ytkbfngepdgdecaa
