/- PrintScripts: a script's text is the document's, for all statements. -/
import Derived.Test.YtjdapkelojdefaaGreatDoorRows
import Derived.Test.YtjdapkelojdefaaGreatDoorTie
import Derived.Test.YtjdapkelojdefaaGreatDoorCards
import Derived.Test.YtjdapkelojdefaaGreatDoorN13
import Derived.Test.YtjdapkelojdefaaGreatDoorN14
import Derived.Test.YtjdapkelojdefaaGreatDoorN15
import Derived.Test.YtjdapkelojdefaaGreatDoorN16
import Derived.Test.YtjdapkelojdefaaGreatDoorN11
import Derived.WalkKit
import Derived.ProofKit
import Derived.OpenShut
import Derived.LaidMore
import Derived.Lay
import Derived.SevenTiedAt
import Derived.SizedLaws
import Derived.Stop.Joined
import Derived.Carry
namespace Go.Proofs.YtjdapkelojdefaaGreatDoor.printScripts
open Go.ChangeShapes Go.WideShapes Go.ChangeAt Go.RowKit Go.V Go.Lex Go.Parse Go.Print
set_option linter.unusedVariables false
abbrev plainL : List TypeId := [3, 9, 4, 23, 24, 26, 132, 37, 107, 38, 68, 39, 71, 40, 42, 35]
theorem plainL_ok : X3z Tryz.prog plainL = true := by kernel_rfl
theorem readable : (Tryz.prog.readableRec 26) = true := by kernel_rfl
theorem readable2 : (Tryz.prog.readableRec 35) = true := by kernel_rfl
set_option maxRecDepth 100000 in
theorem lifted (os : Os) (started : os.Started) (H : Type) (enc : TypeId × Value → H) :
    ReturnsInHanded {} Tryz.checked os 4 .any (fun w args => (Rows.printScriptsSpec.pre enc Tryz.prog Tryz.f4 Rows.printScriptsRow.domain false w args ∧ laidMetH Tryz.prog laid w) ∧ sizedMet enc Tryz.prog Tryz.f4 (OpenSpec.ofChange Rows.printScriptsSpec) false w args)
      (Rows.printScriptsSpec.post enc Tryz.prog Tryz.f4 false true false false) := by
  refine returnsInHanded_of_change_and (C := Tryz.checked) (X := fun w _ => laidMetH Tryz.prog laid w) (fun _ _ _ hh h => h.of_heap hh) own started (by kernel_rfl) Tryz.func4
    (ChangeSpec.witness_shaped (enc := enc) (C := Tryz.checked) (os := os) (X := fun w _ => laidMetH Tryz.prog laid w) false (World.laidAll Tryz.prog os laid) #[((Tryz.prog.info? 35).bind (·.zero)).getD (.bool false)] 8 (World.laidAll_os _ _ _)
      (World.shaped_of_ZipB (by kernel_rfl) (by kernel_rfl)) (by kernel_rfl) (by kernel_rfl) (by kernel_rfl)
      (by rw [MakeChecks.laidMetH_plain _ _ _ (by kernel_rfl)]; exact laidMet_laidAll _ (by kernel_rfl) (by kernel_rfl))) ?_
  intro W base args ds gs before hval0 hW hcnd hsz0 hL _
  have hsz : (DataW.weightsEach Tryz.prog (Tryz.f4.params.toList ++ Rows.printScriptsSpec.plain.varTypes Tryz.prog) (ds ++ gs)).all (· ≤ reachBytes) = true := hsz0
  have hval : ∀ (j : Nat) t v, Tryz.f4.params[j]? = some t → args[j]? = some v → Value.okWide Tryz.prog W .any base t v := hval0
  have hW' := hW
  obtain ⟨p, q, hA0, hV, rfl, _, _⟩ := hW
  have hA : DataW.TrodAll enc Tryz.prog W 0 (fun _ => true) true Tryz.f4.params.toList args.toList ds p := hA0
  rw [Tryz.params4] at hA hval hsz
  obtain ⟨v1, d1, rfl, rfl, h1⟩ := trodAll_one hA
  obtain ⟨rfl, rfl⟩ := trodVars_none hV
  have hs1 : ∀ n ∈ d1.weights Tryz.prog 35, n ≤ reachBytes := fun n hn => by
    have := List.all_eq_true.1 hsz n (Q5b (j := 0) rfl rfl n hn)
    simpa using this
  have kk1 := h1
  have lt1 := trod_low kk1
  obtain ⟨x1, A1, R1⟩ := open_sl plainL plainL_ok (by decide) Tryz.underlying35 (hval 0 35 v1 rfl rfl) h1 hs1
  obtain ⟨l, hI, hw1⟩ := dec_stms A1
  have hg := glob hL
  clear hA0 hval0 hsz0 hsz
  simp only [List.append_nil] at hW'
  have hcall : VCalls Tryz.prog 4 [.sl .any (l.map stmA)] S0 (fun x _ => x = .b true) := (law_scripts l hI (fun hX σ => x_Script l hX .any σ) S0).mono fun x S h => h.1
  refine (VCalls.calls Tryz.func4 (by kernel_rfl) hcall (relArgs_cons (hw1 _ _ R1) relArgs_nil) hg).mono fun e W' ⟨he, bel⟩ => ?_
  subst he
  exact ⟨_, rfl, _, _, _, [], _, [], hW', trodAll_mk1 (shut_bool Tryz.underlying4 _), trodAll_mk1 (Below.trod laidOut (by kernel_rfl) (of_decide_eq_true (by kernel_rfl)) kk1 bel lt1), rfl, bel.frame _, fun h => by cases h⟩
set_option maxRecDepth 100000 in
theorem holds : Rows.PrintScriptsSaid :=
  OpenClaim.holds_of_wide 4 Tryz.f4 rfl rfl rfl rfl rfl rfl rfl ⟨rfl, rfl, rfl, rfl, rfl⟩ rfl rfl rfl rfl rfl named Tryz.func4 closed
    inst wrap (fun os started H enc _ => lifted os started H enc)
set_option maxRecDepth 100000 in
theorem card_holds : Rows.PrintScriptsCardSaid :=
  Claim7.holds_tied_plain_at .later [] [.data, .data, .data, .data, .pinned] true (true, "0f34642f8992b1075237f3421270bcf439b825cca4cbd37d97063662688ca1a8") false holds (fun _ h => by cases h) wft (fun _ h => by cases h) Go.Proofs.YtjdapkelojdefaaGreatDoor.printScripts_row_tie rfl ⟨rfl, rfl⟩ main rfl
    (fun f fn hf hfn => by
      obtain rfl : f = 4 := Option.some.inj (named.symm.trans hf) |>.symm
      obtain rfl : fn = Tryz.f4 := (Option.some.inj (Tryz.func4.symm.trans hfn)).symm
      exact ⟨looks, fun j t ht => by
        rw [Tryz.params4] at ht
        have hm : t ∈ [35] := by simpa using Array.mem_of_getElem? ht
        exact (show Tryz.prog.wantsStandIn t = false by simpa using List.all_eq_true.1 stand t hm)⟩)
    goes
#print axioms card_holds
end Go.Proofs.YtjdapkelojdefaaGreatDoor.printScripts
namespace Go.Proofs.YtjdapkelojdefaaGreatDoor
/-- The card, under a short name, for the claim. -/
theorem printScripts_holds : Rows.PrintScriptsCardSaid := printScripts.card_holds
end Go.Proofs.YtjdapkelojdefaaGreatDoor
