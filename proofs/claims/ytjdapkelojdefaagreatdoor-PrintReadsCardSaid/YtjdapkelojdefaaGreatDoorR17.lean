/- PrintReads: what is read from a text and is written is read as the same, for every text. -/
import Derived.Test.YtjdapkelojdefaaGreatDoorRows
import Derived.Test.YtjdapkelojdefaaGreatDoorTie
import Derived.Test.YtjdapkelojdefaaGreatDoorCards
import Derived.Test.YtjdapkelojdefaaGreatDoorN16
import Derived.Test.YtjdapkelojdefaaGreatDoorN17
import Derived.Test.YtjdapkelojdefaaGreatDoorN18
import Derived.WalkKit
import Derived.ProofKit
import Derived.OpenShut
import Derived.ShutString
import Derived.LaidMore
import Derived.Lay
import Derived.SevenTiedAt
import Derived.SizedLaws
import Derived.Stop.Joined
import Derived.Carry
namespace Go.Proofs.YtjdapkelojdefaaGreatDoor.printReads
open Go.ChangeShapes Go.WideShapes Go.ChangeAt Go.RowKit Go.V Go.Lex
open Go.ChangeMaps (open_string shut_string)
set_option linter.unusedVariables false
theorem walk (a0 : ByteArray) (w : World) (hg : Glob (K0 w)) (y0 : a0.size ≤ 140737488351232) : Calls Tryz.prog 6 #[.string a0] w fun e w' => e = .returned (.bool true) ∧ Below w.heap.size w w' := by
  refine VCalls.calls (args := [.s a0]) Tryz.func6 (by kernel_rfl) ?_ rel_args1 hg
  have h := law_reads a0.data.toList S0
  simp only [bs_list] at h
  exact h.mono fun x σ' hx => hx.1
set_option maxRecDepth 100000 in
theorem lifted (os : Os) (started : os.Started) (H : Type) (enc : TypeId × Value → H) :
    ReturnsInHanded {} Tryz.checked os 6 .any (fun w args => (Rows.printReadsSpec.pre enc Tryz.prog Tryz.f6 Rows.printReadsRow.domain false w args ∧ laidMetH Tryz.prog laid w) ∧ sizedMet enc Tryz.prog Tryz.f6 (OpenSpec.ofChange Rows.printReadsSpec) false w args)
      (Rows.printReadsSpec.post enc Tryz.prog Tryz.f6 false true false false) := by
  refine returnsInHanded_of_change_and (C := Tryz.checked) (X := fun w _ => laidMetH Tryz.prog laid w) (fun _ _ _ hh h => h.of_heap hh) own started (by kernel_rfl) Tryz.func6
    (ChangeSpec.witness_shaped (enc := enc) (C := Tryz.checked) (os := os) (X := fun w _ => laidMetH Tryz.prog laid w) false (World.laidAll Tryz.prog os laid) #[.string ByteArray.empty] 8 (World.laidAll_os _ _ _)
      (World.shaped_of_ZipB (by kernel_rfl) (by kernel_rfl)) (by kernel_rfl) (by kernel_rfl) (by kernel_rfl)
      (by rw [MakeChecks.laidMetH_plain _ _ _ (by kernel_rfl)]; exact laidMet_laidAll _ (by kernel_rfl) (by kernel_rfl))) ?_
  intro W base args ds gs before hval0 hW hcnd hsz0 hL _
  have hsz : (DataW.weightsEach Tryz.prog (Tryz.f6.params.toList ++ Rows.printReadsSpec.plain.varTypes Tryz.prog) (ds ++ gs)).all (· ≤ reachBytes) = true := hsz0
  have hval : ∀ (j : Nat) t v, Tryz.f6.params[j]? = some t → args[j]? = some v → Value.okWide Tryz.prog W .any base t v := hval0
  have hW' := hW
  obtain ⟨p, q, hA0, hV, rfl, hfz, hnd⟩ := hW
  have hA : DataW.TrodAll enc Tryz.prog W 0 (fun _ => true) true Tryz.f6.params.toList args.toList ds p := hA0
  rw [Tryz.params6] at hA hval hsz
  obtain ⟨v0, vs0, d0, ds0, p0, q0, hargs, rfl, rfl, h0, r0⟩ := trodAll_cons hA
  obtain ⟨rfl, rfl, rfl⟩ := trodAll_nil r0
  obtain rfl : args = #[v0] := by cases args; simp_all
  obtain ⟨rfl, rfl⟩ := trodVars_none hV
  obtain ⟨a0, rfl, rfl, rfl, y0⟩ := open_string Tryz.underlying9 (hval 0 9 v0 rfl rfl) h0
  have w0 : a0.size ≤ 140737488351232 := by
    have z := sized_string hsz (j := 0) (t := 9) rfl rfl
    rw [Array.length_toList] at z
    exact z
  have hg := glob hL
  clear hA0 hval0 hsz0 hsz
  refine (walk a0 W hg w0).mono fun e W' ⟨he, bel⟩ => ?_
  subst he
  exact ⟨_, rfl, _, _, _, [], _, [], hW', trodAll_mk1 (shut_bool Tryz.underlying4 _), (trodAll_cons_mk (shut_string Tryz.underlying9 y0) trodAll_mk0), rfl, bel.frame _, fun h => by cases h⟩
set_option maxRecDepth 100000 in
theorem holds : Rows.PrintReadsSaid :=
  OpenClaim.holds_of_wide 6 Tryz.f6 rfl rfl rfl rfl rfl rfl rfl ⟨rfl, rfl, rfl, rfl, rfl⟩ rfl rfl rfl rfl rfl named Tryz.func6 closed
    inst wrap (fun os started H enc _ => lifted os started H enc)
set_option maxRecDepth 100000 in
theorem card_holds : Rows.PrintReadsCardSaid :=
  Claim7.holds_tied_plain_at .later [] [.data, .data, .data, .data, .pinned] true (true, "0f34642f8992b1075237f3421270bcf439b825cca4cbd37d97063662688ca1a8") false holds (fun _ h => by cases h) wft (fun _ h => by cases h) Go.Proofs.YtjdapkelojdefaaGreatDoor.printReads_row_tie rfl ⟨rfl, rfl⟩ main rfl
    (fun f fn hf hfn => by
      obtain rfl : f = 6 := Option.some.inj (named.symm.trans hf) |>.symm
      obtain rfl : fn = Tryz.f6 := (Option.some.inj (Tryz.func6.symm.trans hfn)).symm
      exact ⟨looks, fun j t ht => by
        rw [Tryz.params6] at ht
        have hm : t ∈ [9] := by simpa using Array.mem_of_getElem? ht
        exact (show Tryz.prog.wantsStandIn t = false by simpa using List.all_eq_true.1 stand t hm)⟩)
    goes
#print axioms card_holds
end Go.Proofs.YtjdapkelojdefaaGreatDoor.printReads
namespace Go.Proofs.YtjdapkelojdefaaGreatDoor
/-- The card, under a short name, for the claim. -/
theorem printReads_holds : Rows.PrintReadsCardSaid := printReads.card_holds
end Go.Proofs.YtjdapkelojdefaaGreatDoor
