/- PrintExprs: an expression's text is the document's, for every expression. -/
import Derived.Test.YtjdapkelojdefaaGreatDoorRows
import Derived.Test.YtjdapkelojdefaaGreatDoorTie
import Derived.Test.YtjdapkelojdefaaGreatDoorCards
import Derived.Test.YtjdapkelojdefaaGreatDoorN14
import Derived.Test.YtjdapkelojdefaaGreatDoorN15
import Derived.Test.YtjdapkelojdefaaGreatDoorN16
import Derived.WalkKit
import Derived.ProofKit
import Derived.OpenShut
import Derived.LaidMore
import Derived.Lay
import Derived.SevenTiedAt
import Derived.Stop.Joined
import Derived.Carry
namespace Go.Proofs.YtjdapkelojdefaaGreatDoor.printExprs
open Go.ChangeShapes Go.WideShapes Go.ChangeAt Go.RowKit Go.V Go.Lex Go.Parse Go.Print
set_option linter.unusedVariables false
abbrev plainL : List TypeId := [3, 9, 23, 24, 26]
theorem plainL_ok : plainSet Tryz.prog plainL = true := by kernel_rfl
theorem readable : (Tryz.prog.readableRec 26) = true := by kernel_rfl
set_option maxRecDepth 100000 in
theorem lifted (os : Os) (started : os.Started) (H : Type) (enc : TypeId × Value → H) :
    ReturnsInHanded {} Tryz.checked os 3 .any (fun w args => (Rows.printExprsSpec.pre enc Tryz.prog Tryz.f3 Rows.printExprsRow.domain false w args ∧ laidMetH Tryz.prog laid w) ∧ sizedMet enc Tryz.prog Tryz.f3 (OpenSpec.ofChange Rows.printExprsSpec) false w args)
      (Rows.printExprsSpec.post enc Tryz.prog Tryz.f3 false true false false) := by
  refine returnsInHanded_of_change_and (C := Tryz.checked) (X := fun w _ => laidMetH Tryz.prog laid w) (fun _ _ _ hh h => h.of_heap hh) own started (by kernel_rfl) Tryz.func3
    (ChangeSpec.witness_shaped (enc := enc) (C := Tryz.checked) (os := os) (X := fun w _ => laidMetH Tryz.prog laid w) false (World.laidAll Tryz.prog os laid) #[((Tryz.prog.info? 26).bind (·.zero)).getD (.bool false)] 8 (World.laidAll_os _ _ _)
      (World.shaped_of_ZipB (by kernel_rfl) (by kernel_rfl)) (by kernel_rfl) (by kernel_rfl) (by kernel_rfl)
      (by rw [MakeChecks.laidMetH_plain _ _ _ (by kernel_rfl)]; exact laidMet_laidAll _ (by kernel_rfl) (by kernel_rfl))) ?_
  intro W base args ds gs before hval0 hW _ _ hL _
  have hval : ∀ (j : Nat) t v, Tryz.f3.params[j]? = some t → args[j]? = some v → Value.okWide Tryz.prog W .any base t v := hval0
  have hW' := hW
  obtain ⟨p, q, hA0, hV, rfl, _, _⟩ := hW
  have hA : DataW.TrodAll enc Tryz.prog W 0 (fun _ => true) true Tryz.f3.params.toList args.toList ds p := hA0
  rw [Tryz.params3] at hA hval
  obtain ⟨v0, d0, rfl, rfl, h0⟩ := trodAll_one hA
  obtain ⟨rfl, rfl⟩ := trodVars_none hV
  have kk0 := h0
  have lt0 := trod_low kk0
  obtain ⟨x0, A0, R0⟩ := open_st plainL plainL_ok (by decide) Tryz.underlying26 (hval 0 26 v0 rfl rfl) h0
  obtain ⟨e, hE, hw⟩ := dec_expr A0
  have hg := glob hL
  clear hA0 hval0
  simp only [List.append_nil] at hW'
  have hcall : VCalls Tryz.prog 3 [.agg (exA e)] S0 (fun x _ => x = .b true) := (law_exprs e hE S0).mono fun x S h => h.1
  refine (VCalls.calls Tryz.func3 (by kernel_rfl) hcall (relArgs_cons (hw _ _ R0) relArgs_nil) hg).mono fun e W' ⟨he, bel⟩ => ?_
  subst he
  exact ⟨_, rfl, _, _, _, [], _, [], hW', trodAll_mk1 (shut_bool Tryz.underlying4 _), trodAll_mk1 (Below.trod laidOut (by kernel_rfl) (of_decide_eq_true (by kernel_rfl)) kk0 bel lt0), rfl, bel.frame _, fun h => by cases h⟩
set_option maxRecDepth 100000 in
theorem holds : Rows.PrintExprsSaid :=
  OpenClaim.holds_of_wide 3 Tryz.f3 rfl rfl rfl rfl rfl rfl rfl ⟨rfl, rfl, rfl, rfl, rfl⟩ rfl rfl rfl rfl rfl named Tryz.func3 closed
    inst wrap (fun os started H enc _ => lifted os started H enc)
set_option maxRecDepth 100000 in
theorem card_holds : Rows.PrintExprsCardSaid :=
  Claim7.holds_tied_plain_at .later [] [.data, .data, .data, .data, .pinned] true (true, "0f34642f8992b1075237f3421270bcf439b825cca4cbd37d97063662688ca1a8") false holds (fun _ h => by cases h) wft (fun _ h => by cases h) Go.Proofs.YtjdapkelojdefaaGreatDoor.printExprs_row_tie rfl ⟨rfl, rfl⟩ main rfl
    (fun f fn hf hfn => by
      obtain rfl : f = 3 := Option.some.inj (named.symm.trans hf) |>.symm
      obtain rfl : fn = Tryz.f3 := (Option.some.inj (Tryz.func3.symm.trans hfn)).symm
      exact ⟨looks, fun j t ht => by
        rw [Tryz.params3] at ht
        have hm : t ∈ [26] := by simpa using Array.mem_of_getElem? ht
        exact (show Tryz.prog.wantsStandIn t = false by simpa using List.all_eq_true.1 stand t hm)⟩)
    goes
#print axioms card_holds
end Go.Proofs.YtjdapkelojdefaaGreatDoor.printExprs
namespace Go.Proofs.YtjdapkelojdefaaGreatDoor
/-- The card, under a short name, for the claim. -/
theorem printExprs_holds : Rows.PrintExprsCardSaid := printExprs.card_holds
end Go.Proofs.YtjdapkelojdefaaGreatDoor
