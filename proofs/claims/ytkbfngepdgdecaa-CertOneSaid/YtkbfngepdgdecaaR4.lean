/- CertOne: where each of n - f replicas at least sealed at most one header of each Seq, two certificates that hold, of one Seq, have one header: any seals; nothing is assumed. -/
import Derived.Test.YtkbfngepdgdecaaRows
import Derived.Test.YtkbfngepdgdecaaC36
import Derived.Test.YtkbfngepdgdecaaC34
import Derived.Test.YtkbfngepdgdecaaV18
import Derived.WalkKit
import Derived.ProofKit
import Derived.OpenShut
import Derived.ShutString
import Derived.ChangeOld
import Derived.SizedLaws
import Derived.Carry
namespace Go.Proofs.Ytkbfngepdgdecaa.certOne
open Go.ChangeShapes Go.WideShapes Go.ChangeAt Go.RowKit Go.V Go.Cert
open Go.ChangeMaps (open_string shut_string)
set_option linter.unusedVariables false
theorem own : ownKnob Try.prog.godebug = none := by kernel_rfl
theorem laidOut : laidOutB Try.prog = true := by kernel_rfl
set_option maxRecDepth 100000 in
theorem lifted (os : Os) (started : os.Started) (H : Type) (enc : TypeId × Value → H) :
    ReturnsInHanded {} Try.checked os 4 .any (Rows.certOneSpec.pre6 enc Try.prog Try.f4 Rows.certOneRow.domain false) (Rows.certOneSpec.post enc Try.prog Try.f4 false true false false) := by
  refine returnsInHanded_of_change_sized (C := Try.checked) own started (by kernel_rfl) Try.func4
    (ChangeSpec.witness6 (enc := enc) (C := Try.checked) false ⟨#[], #[.slice none 0 0, .int .i64 0, ((Try.prog.info? 28).bind (·.zero)).getD (.bool false), ((Try.prog.info? 28).bind (·.zero)).getD (.bool false)], []⟩ 8 (by kernel_rfl) (by kernel_rfl) (by kernel_rfl) (by kernel_rfl)) ?_
  intro W base args ds gs before hval0 hW hcnd hsz0 _
  have hsz : (DataW.weightsEach Try.prog (Try.f4.params.toList ++ Rows.certOneSpec.plain.varTypes Try.prog) (ds ++ gs)).all (· ≤ reachBytes) = true := hsz0
  have hval : ∀ (j : Nat) t v, Try.f4.params[j]? = some t → args[j]? = some v → Value.okWide Try.prog W .any base t v := hval0
  have hW' := hW
  obtain ⟨p, q, hA0, hV, rfl, hfz, hnd⟩ := hW
  have hA : DataW.TrodAll enc Try.prog W 0 (fun _ => true) true Try.f4.params.toList args.toList ds p := hA0
  rw [Try.params4] at hA hval hsz
  obtain ⟨v0, vs0, d0, ds0, p0, q0, hargs, rfl, rfl, h0, r0⟩ := trodAll_cons hA
  obtain ⟨v1, vs1, d1, ds1, p1, q1, rfl, rfl, rfl, h1, r1⟩ := trodAll_cons r0
  obtain ⟨v2, vs2, d2, ds2, p2, q2, rfl, rfl, rfl, h2, r2⟩ := trodAll_cons r1
  obtain ⟨v3, vs3, d3, ds3, p3, q3, rfl, rfl, rfl, h3, r3⟩ := trodAll_cons r2
  obtain ⟨rfl, rfl, rfl⟩ := trodAll_nil r3
  obtain rfl : args = #[v0, v1, v2, v3] := by cases args; simp_all
  obtain ⟨rfl, rfl⟩ := trodVars_none hV
  have kk0 := h0
  have lt0 := trod_low kk0
  obtain ⟨x0, A0, R0⟩ := open_sl plainL plainL_ok (by decide) Try.underlying22 (hval 0 22 v0 rfl rfl) h0
  obtain ⟨k0, sl0, rfl, hs0, hn0⟩ := dec22 A0
  obtain ⟨a1, rfl, rfl, rfl, y1⟩ := open_int Try.underlying3 (hval 1 3 v1 rfl rfl) h1
  have kk2 := h2
  have lt2 := trod_low kk2
  obtain ⟨x2, A2, R2⟩ := open_st plainL plainL_ok (by decide) Try.underlying28 (hval 2 28 v2 rfl rfl) h2
  obtain ⟨q2, s2, l2, rfl, hl2⟩ := dec28 A2
  have kk3 := h3
  have lt3 := trod_low kk3
  obtain ⟨x3, A3, R3⟩ := open_st plainL plainL_ok (by decide) Try.underlying28 (hval 3 28 v3 rfl rfl) h3
  obtain ⟨q3, s3, l3, rfl, hl3⟩ := dec28 A3
  clear hA0 hval0 hsz0 hsz
  have hcall : VCalls Try.prog 4 _ S0 (fun x _ => x = .b true) := (t4 k0 sl0 a1 q2 s2 q3 s3 l2 l3 S0 hs0 hn0 hl2 hl3)
  refine (VCalls.calls Try.func4 (by kernel_rfl) hcall (relArgs_cons R0 (relArgs_cons (.val _) (relArgs_cons R2 (relArgs_cons R3 relArgs_nil))))).mono fun e W' ⟨he, bel⟩ => ?_
  subst he
  exact ⟨_, rfl, _, _, _, [], _, [], hW', trodAll_mk1 (shut_bool Try.underlying4 _), (trodAll_cons_mk (Below.trod laidOut (by kernel_rfl) (of_decide_eq_true (by kernel_rfl)) kk0 bel lt0) (trodAll_cons_mk (shut_int Try.underlying3 y1) (trodAll_cons_mk (Below.trod laidOut (by kernel_rfl) (of_decide_eq_true (by kernel_rfl)) kk2 bel lt2) (trodAll_cons_mk (Below.trod laidOut (by kernel_rfl) (of_decide_eq_true (by kernel_rfl)) kk3 bel lt3) trodAll_mk0)))), rfl, bel.frame _, fun h => by cases h⟩
theorem over : Rows.certOneRow.holds Try.pinned (OpenSpec.ofChange Rows.certOneSpec) :=
  OpenClaim.holds_of_wide 4 Try.f4 rfl rfl rfl rfl rfl rfl rfl ⟨rfl, rfl, rfl, rfl, rfl⟩ rfl rfl rfl rfl rfl (by kernel_rfl) Try.func4 (by kernel_rfl)
    (of_decide_eq_true (by kernel_rfl)) (by unfold Func.isWrapper; first | (rw [if_pos (by decide +kernel)]; kernel_rfl) | (rw [if_neg (by decide +kernel)]; exact ⟨rfl, rfl⟩))
    (fun os started H enc _ => lifted os started H enc)
theorem proved : Rows.CertOneSaid := over
#print axioms proved
end Go.Proofs.Ytkbfngepdgdecaa.certOne
namespace Go.Proofs.Ytkbfngepdgdecaa
/-- The row, under a short name, for the claim. -/
theorem certOne_holds : Rows.CertOneSaid := certOne.proved
end Go.Proofs.Ytkbfngepdgdecaa
