/- PrintBack: what is written is read as what it is of, for every expression and all statements. -/
import Derived.Test.YtjdapkelojdefaaGreatDoorRows
import Derived.Test.YtjdapkelojdefaaGreatDoorTie
import Derived.Test.YtjdapkelojdefaaGreatDoorCards
import Derived.Test.YtjdapkelojdefaaGreatDoorN16
import Derived.Test.YtjdapkelojdefaaGreatDoorN17
import Derived.Test.YtjdapkelojdefaaGreatDoorN18
import Derived.Test.YtjdapkelojdefaaGreatDoorN19
import Derived.Test.YtjdapkelojdefaaGreatDoorN12
import Derived.WalkKit
import Derived.ProofKit
import Derived.OpenShut
import Derived.LaidMore
import Derived.Lay
import Derived.SevenTiedAt
import Derived.SizedLaws
import Derived.Stop.Joined
import Derived.Carry
namespace Go.Proofs.YtjdapkelojdefaaGreatDoor.printBack
open Go.ChangeShapes Go.WideShapes Go.ChangeAt Go.RowKit Go.V Go.Lex Go.Parse Go.Print
set_option linter.unusedVariables false
abbrev plainL : List TypeId := [3, 9, 4, 23, 24, 26, 132, 37, 107, 38, 68, 39, 71, 40, 42, 35]
theorem plainL_ok : X5x Tryz.prog plainL = true := by kernel_rfl
theorem readable : (Tryz.prog.readableRec 26) = true := by kernel_rfl
theorem readable2 : (Tryz.prog.readableRec 35) = true := by kernel_rfl
set_option maxRecDepth 100000 in
theorem lifted (os : Os) (started : os.Started) (H : Type) (enc : TypeId × Value → H) :
    ReturnsInHanded {} Tryz.checked os 7 .any (fun w args => (Rows.printBackSpec.pre enc Tryz.prog Tryz.f7 Rows.printBackRow.domain false w args ∧ laidMetH Tryz.prog laid w) ∧ sizedMet enc Tryz.prog Tryz.f7 (OpenSpec.ofChange Rows.printBackSpec) false w args)
      (Rows.printBackSpec.post enc Tryz.prog Tryz.f7 false true false false) := by
  refine returnsInHanded_of_change_and (C := Tryz.checked) (X := fun w _ => laidMetH Tryz.prog laid w) (fun _ _ _ hh h => h.of_heap hh) own started (by kernel_rfl) Tryz.func7
    (ChangeSpec.witness_shaped (enc := enc) (C := Tryz.checked) (os := os) (X := fun w _ => laidMetH Tryz.prog laid w) false (World.laidAll Tryz.prog os laid) #[((Tryz.prog.info? 26).bind (·.zero)).getD (.bool false), ((Tryz.prog.info? 35).bind (·.zero)).getD (.bool false)] 8 (World.laidAll_os _ _ _)
      (World.shaped_of_ZipB (by kernel_rfl) (by kernel_rfl)) (by kernel_rfl) (by kernel_rfl) (by kernel_rfl)
      (by rw [MakeChecks.laidMetH_plain _ _ _ (by kernel_rfl)]; exact laidMet_laidAll _ (by kernel_rfl) (by kernel_rfl))) ?_
  intro W base args ds gs before hval0 hW hcnd hsz0 hL _
  have hsz : (DataW.weightsEach Tryz.prog (Tryz.f7.params.toList ++ Rows.printBackSpec.plain.varTypes Tryz.prog) (ds ++ gs)).all (· ≤ reachBytes) = true := hsz0
  have hval : ∀ (j : Nat) t v, Tryz.f7.params[j]? = some t → args[j]? = some v → Value.okWide Tryz.prog W .any base t v := hval0
  have hW' := hW
  obtain ⟨p, q, hA0, hV, rfl, _, _⟩ := hW
  have hA : DataW.TrodAll enc Tryz.prog W 0 (fun _ => true) true Tryz.f7.params.toList args.toList ds p := hA0
  rw [Tryz.params7] at hA hval hsz
  obtain ⟨v0, v1, d0, d1, p0, p1, rfl, rfl, rfl, h0, h1⟩ := trodAll_two hA
  obtain ⟨rfl, rfl⟩ := trodVars_none hV
  have hs0 : ∀ n ∈ d0.weights Tryz.prog 26, n ≤ reachBytes := fun n hn => by
    have := List.all_eq_true.1 hsz n (Q5n (j := 0) rfl rfl n hn)
    simpa using this
  have hs1 : ∀ n ∈ d1.weights Tryz.prog 35, n ≤ reachBytes := fun n hn => by
    have := List.all_eq_true.1 hsz n (Q5n (j := 1) rfl rfl n hn)
    simpa using this
  have kk0 := h0
  have lt0 := trod_low kk0
  have kk1 := h1
  have lt1 := trod_low kk1
  obtain ⟨x0, A0, R0⟩ := open_st plainL plainL_ok (by decide) Tryz.underlying26 (hval 0 26 v0 rfl rfl) h0 hs0
  obtain ⟨x1, A1, R1⟩ := open_sl plainL plainL_ok (by decide) Tryz.underlying35 (hval 1 35 v1 rfl rfl) h1 hs1
  obtain ⟨e, hE, hw⟩ := dec_expr A0
  obtain ⟨l, hI, hw1⟩ := dec_stms A1
  have hg := glob hL
  clear hA0 hval0 hsz0 hsz
  simp only [List.append_nil] at hW'
  have hcall : VCalls Tryz.prog 7 [.agg (exA e), .sl .any (l.map stmA)] S0 (fun x _ => x = .b true) := (law_back e hE l hI S0).mono fun x S h => h.1
  refine (VCalls.calls Tryz.func7 (by kernel_rfl) hcall (X5h (hw _ _ R0) (X5h (hw1 _ _ R1) relArgs_nil)) hg).mono fun e W' ⟨he, bel⟩ => ?_
  subst he
  exact ⟨_, rfl, _, _, _, [], _, [], hW', trodAll_mk1 (shut_bool Tryz.underlying4 _), trodAll_mk2 (Below.trod laidOut (by kernel_rfl) (of_decide_eq_true (by kernel_rfl)) kk0 bel lt0) (Below.trod laidOut (by kernel_rfl) (of_decide_eq_true (by kernel_rfl)) kk1 bel lt1), rfl, bel.frame _, fun h => by cases h⟩
set_option maxRecDepth 100000 in
theorem holds : Rows.PrintBackSaid :=
  OpenClaim.holds_of_wide 7 Tryz.f7 rfl rfl rfl rfl rfl rfl rfl ⟨rfl, rfl, rfl, rfl, rfl⟩ rfl rfl rfl rfl rfl named Tryz.func7 closed
    inst wrap (fun os started H enc _ => lifted os started H enc)
set_option maxRecDepth 100000 in
theorem card_holds : Rows.PrintBackCardSaid :=
  Claim7.holds_tied_plain_at .later [] [.data, .data, .data, .data, .pinned] true (true, "0f34642f8992b1075237f3421270bcf439b825cca4cbd37d97063662688ca1a8") false holds (fun _ h => by cases h) wft (fun _ h => by cases h) Go.Proofs.YtjdapkelojdefaaGreatDoor.printBack_row_tie rfl ⟨rfl, rfl⟩ main rfl
    (fun f fn hf hfn => by
      obtain rfl : f = 7 := Option.some.inj (named.symm.trans hf) |>.symm
      obtain rfl : fn = Tryz.f7 := (Option.some.inj (Tryz.func7.symm.trans hfn)).symm
      exact ⟨looks, fun j t ht => by
        rw [Tryz.params7] at ht
        have hm : t ∈ [26, 35] := by simpa using Array.mem_of_getElem? ht
        exact (show Tryz.prog.wantsStandIn t = false by simpa using List.all_eq_true.1 stand t hm)⟩)
    goes
#print axioms card_holds
end Go.Proofs.YtjdapkelojdefaaGreatDoor.printBack
namespace Go.Proofs.YtjdapkelojdefaaGreatDoor
/-- The card, under a short name, for the claim. -/
theorem printBack_holds : Rows.PrintBackCardSaid := printBack.card_holds
end Go.Proofs.YtjdapkelojdefaaGreatDoor
