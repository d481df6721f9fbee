import Derived.Test.YtkbfngepdgdecaaC20
import Derived.Test.YtkbfngepdgdecaaC21
set_option linter.unusedSimpArgs false
set_option linter.unusedVariables false
namespace Go.Cert
open Go.V
theorem aB_all (l : List UInt8) : (aB l).all AV.one = true := by
  rw [List.all_eq_true]
  intro x hx
  obtain ⟨b, _, rfl⟩ := List.mem_map.1 hx
  rfl
/-- A certificate's cells behind the number: what simp is to know. -/
theorem cR {l : List UInt8} (hh : l.length = 128) (s : Int) : (aB l ++ [AV.i s]).length = 129 ∧ (aB l ++ [AV.i s]).all AV.one = true ∧ (aB l ++ [AV.i s]).take 129 = aB l ++ [AV.i s] ∧ (aB l ++ [AV.i s]).drop 129 = [] ∧ (aB l ++ [AV.i s]).take 128 = aB l ∧ (aB l ++ [AV.i s]).drop 128 = [AV.i s] := by
  have hl : (aB l ++ [AV.i s]).length = 129 := by rw [List.length_append, aB_len, hh]; rfl
  refine ⟨hl, ?_, List.take_of_length_le (by omega), List.drop_of_length_le (by omega), by rw [List.take_left' (by rw [aB_len, hh])], by rw [List.drop_left' (by rw [aB_len, hh])]⟩
  rw [List.all_append, aB_all]
  rfl
theorem aR {l : List UInt8} (hh : l.length = 128) : (aB l).length = 128 ∧ (aB l).all AV.one = true ∧ (aB l).take 128 = aB l ∧ (aB l).drop 128 = [] := by
  have hl : (aB l).length = 128 := by rw [aB_len, hh]
  exact ⟨hl, aB_all l, List.take_of_length_le (by omega), List.drop_of_length_le (by omega)⟩
theorem zs_len : zs.length = 128 := by simp [zs]
end Go.Cert
namespace Go.Proofs.Ytkbfngepdgdecaa
open Go Go.V Go.Cert
def h6 (n : Nat) : Hint := if n = 6 then .no else .ro
theorem h6_6 : h6 6 = .no := rfl
theorem h6_5 : h6 5 = .ro := rfl
abbrev cA (q : Int) (l : List UInt8) (s : Int) : AV := .agg (.i q :: (aB l ++ [.i s]))
/-- What collecting comes to. -/
def colE (m : Nat) (n q : Int) : Int := if ¬ isN n ∨ bad q then 1 else if isQ n m = true then 0 else 5
def colC (m : Nat) (n q : Int) (l : List UInt8) : AV := if colE m n q = 0 then cA q l m else cA 0 zs 0
theorem colE_yes {m : Nat} {n q : Int} (hg : ¬ (¬ isN n ∨ bad q)) (h : isQ n m = true) : colE m n q = 0 := by rw [colE, if_neg hg, if_pos h]
theorem colE_no {m : Nat} {n q : Int} (hg : ¬ (¬ isN n ∨ bad q)) (h : ¬ isQ n m = true) : colE m n q = 5 := by rw [colE, if_neg hg, if_neg h]
set_option maxHeartbeats 1000000 in
set_option maxRecDepth 100000 in
theorem t14a (ρ : Nat) (n q : Int) (l : List UInt8) (σ : Sg) (hh : l.length = 128) (h37 : ∀ σ, VCalls Try.prog 37 [.ref ρ 0, .i n, .agg (.i q :: aB l)] σ (fun x σ' => x = .tup [.i 0, .i 1] ∧ σ' = σ)) : VCalls Try.prog 14 [.ref ρ 0, .i n, .agg (.i q :: aB l)] σ (fun x σ' => x = .tup [cA 0 zs 0, .i 1] ∧ σ' = σ) := by
  obtain ⟨z26, h26, hz26⟩ := zero26
  obtain ⟨z28, h28, hz28⟩ := zero28
  have hz := cR zs_len 0
  have hl := aR hh
  (refine vfun (h6) mixed Try.func14 (by kernel_rfl) ?_; simp only [bodyOf, Try.f14, Option.getD_some])
  repeat' (first | with_reducible rfl | exact .inr trivial | with_reducible apply And.intro | with_reducible apply vqx_step | with_reducible apply vqm_step | with_reducible refine vkp_free (by decide +kernel) ?_ | with_reducible intro _ | ((first | (with_reducible first | refine .rs ?_ | refine .ds (by kernel_rfl) ?_ | refine .dg (by kernel_rfl) ?_ | refine .rg ?_ | refine .ite ?_ | refine .ret ?_ | refine .skip ?_ | refine .exit ?_ | refine .scope ?_ | refine .seq (.label ?_) | refine .block ?_ | refine .seq ?_)); (try simp only [vO, vQ, ↓vP, vE, vS, vB, vL, vF, vM, vN, vbs_full, Nat.reduceEqDiff, Nat.reduceAdd, Nat.reduceLeDiff, ne_eq, not_false_eq_true, Nat.reduceMul, Nat.reduceSub, Int.toNat_zero, Int.reduceToNat, Try.underlying3, info3, Try.underlying26, Try.underlying27, Try.underlying28, Try.underlying34, Try.underlying35, info34, info35, h26, h28, hz26, hz28, Option.getD_some, h6_6, h6_5, hz, hl, vT])) | ((simp (disch := first | assumption | omega) only [w64, w8, tg_eq, n1, n2, nn, Int.tdiv_eq_ediv_of_nonneg, Sg.set_same, Sg.set_ne, Sg.set_ne', Sg.del_ne, Sg.del_ne']); (try simp only [vO, vQ, ↓vP, vE, vS, vB, vL, vF, vM, vN, vbs_full, Nat.reduceEqDiff, Nat.reduceAdd, Nat.reduceLeDiff, ne_eq, not_false_eq_true, Nat.reduceMul, Nat.reduceSub, Int.toNat_zero, Int.reduceToNat, Try.underlying3, info3, Try.underlying26, Try.underlying27, Try.underlying28, Try.underlying34, Try.underlying35, info34, info35, h26, h28, hz26, hz28, Option.getD_some, h6_6, h6_5, hz, hl, vT])) | ((((with_reducible refine (h37 _).mono ?_); rintro _ σ' ⟨rfl, rfl⟩)); (try simp only [vO, vQ, ↓vP, vE, vS, vB, vL, vF, vM, vN, vbs_full, Nat.reduceEqDiff, Nat.reduceAdd, Nat.reduceLeDiff, ne_eq, not_false_eq_true, Nat.reduceMul, Nat.reduceSub, Int.toNat_zero, Int.reduceToNat, Try.underlying3, info3, Try.underlying26, Try.underlying27, Try.underlying28, Try.underlying34, Try.underlying35, info34, info35, h26, h28, hz26, hz28, Option.getD_some, h6_6, h6_5, hz, hl, vT])) | with_reducible refine vfresh_set ?_ | with_reducible refine vfresh_intro (fun _ _ => ?_) | with_reducible refine vif_intro (fun _ => ?_) (fun _ => ?_) | omega | ((with_reducible first | refine vop_at ?_ | refine vops_at ?_ | refine vquiet_at ?_ | refine vmix_at ?_ | refine Holds_at ?_); simp only [vO, vQ, ↓vP, vE, vS, vB, vL, vF, vM, vN, vbs_full, Nat.reduceEqDiff, Nat.reduceAdd, Nat.reduceLeDiff, ne_eq, not_false_eq_true, Nat.reduceMul, Nat.reduceSub, Int.toNat_zero, Int.reduceToNat, Try.underlying3, info3, Try.underlying26, Try.underlying27, Try.underlying28, Try.underlying34, Try.underlying35, info34, info35, h26, h28, hz26, hz28, Option.getD_some, h6_6, h6_5, hz, hl, vT]))
  all_goals exact ⟨_, (by repeat (first | exact Sg.sub.refl _ | refine Sg.sub.set_both ?_ | refine Sg.sub.set_fresh ?_ (by first | assumption | exact Sg.set_none ‹_› ‹_›) | refine Sg.sub.del_fresh ?_ (by first | assumption | exact Sg.set_none ‹_› ‹_›))), rfl⟩
set_option maxHeartbeats 1000000 in
set_option maxRecDepth 100000 in
theorem t14b (ρ m1 m2 : Nat) (V : AV) (ps : Ps) (n q : Int) (l : List UInt8) (σ : Sg) (hh : l.length = 128) (hq : ¬ bad q) (hn : isN n) (hρ : σ ρ = some (.cells 94 [.map m1, V, .map m2])) (hm : σ m1 = some (.map (knownM ps))) : VCalls Try.prog 14 [.ref ρ 0, .i n, .agg (.i q :: aB l)] σ (fun x σ' => x = .tup [colC (bitsOf (fun m => decide (((m : Int), certText q l) ∈ ps)) n.toNat) n q l, .i (colE (bitsOf (fun m => decide (((m : Int), certText q l) ∈ ps)) n.toNat) n q)] ∧ σ' = σ) := by
  obtain ⟨z26, h26, hz26⟩ := zero26
  obtain ⟨z28, h28, hz28⟩ := zero28
  have hz := cR zs_len 0
  have hl := aR hh
  have hc := fun s => cR hh s
  have hg : ¬ (¬ isN n ∨ bad q) := fun h => h.elim (fun h => h hn) hq
  have h37 : ∀ β, σ β = none → VCalls Try.prog 37 [.ref ρ 0, .i n, .agg (.i q :: aB l)] (σ.set β (.cells 28 (.i 0 :: (aB zs ++ [.i 0])))) (fun x σ' => x = .tup [.i (bitsOf (fun m => decide (((m : Int), certText q l) ∈ ps)) n.toNat), .i 0] ∧ σ' = σ.set β (.cells 28 (.i 0 :: (aB zs ++ [.i 0])))) := fun β hβ =>
    t37 ρ m1 m2 V ps n q l _ hh hq hn (by rw [Sg.set_other _ _ (fun e => by rw [e, hβ] at hρ; cases hρ)]; exact hρ) (by rw [Sg.set_other _ _ (fun e => by rw [e, hβ] at hm; cases hm)]; exact hm)
  (refine vfun (h6) mixed Try.func14 (by kernel_rfl) ?_; simp only [bodyOf, Try.f14, Option.getD_some])
  repeat' (first | with_reducible rfl | exact .inr trivial | with_reducible apply And.intro | with_reducible apply vqx_step | with_reducible apply vqm_step | with_reducible refine vkp_free (by decide +kernel) ?_ | with_reducible intro _ | ((first | (with_reducible first | refine .rs ?_ | refine .ds (by kernel_rfl) ?_ | refine .dg (by kernel_rfl) ?_ | refine .rg ?_ | refine .ite ?_ | refine .ret ?_ | refine .skip ?_ | refine .exit ?_ | refine .scope ?_ | refine .seq (.label ?_) | refine .block ?_ | refine .seq ?_)); (try simp only [vO, vQ, ↓vP, vE, vS, vB, vL, vF, vM, vN, vbs_full, Nat.reduceEqDiff, Nat.reduceAdd, Nat.reduceLeDiff, ne_eq, not_false_eq_true, Nat.reduceMul, Nat.reduceSub, Int.toNat_zero, Int.reduceToNat, Try.underlying3, info3, Try.underlying26, Try.underlying27, Try.underlying28, Try.underlying34, Try.underlying35, info34, info35, h26, h28, hz26, hz28, Option.getD_some, h6_6, h6_5, hz, hl, hc, vT])) | ((simp (disch := first | assumption | omega) only [w64, w8, tg_eq, n1, n2, nn, Int.tdiv_eq_ediv_of_nonneg, Sg.set_same, Sg.set_ne, Sg.set_ne', Sg.del_ne, Sg.del_ne']); (try simp only [vO, vQ, ↓vP, vE, vS, vB, vL, vF, vM, vN, vbs_full, Nat.reduceEqDiff, Nat.reduceAdd, Nat.reduceLeDiff, ne_eq, not_false_eq_true, Nat.reduceMul, Nat.reduceSub, Int.toNat_zero, Int.reduceToNat, Try.underlying3, info3, Try.underlying26, Try.underlying27, Try.underlying28, Try.underlying34, Try.underlying35, info34, info35, h26, h28, hz26, hz28, Option.getD_some, h6_6, h6_5, hz, hl, hc, vT])) | ((((with_reducible refine (h37 _ (by assumption)).mono ?_); rintro _ σ' ⟨rfl, rfl⟩)); (try simp only [vO, vQ, ↓vP, vE, vS, vB, vL, vF, vM, vN, vbs_full, Nat.reduceEqDiff, Nat.reduceAdd, Nat.reduceLeDiff, ne_eq, not_false_eq_true, Nat.reduceMul, Nat.reduceSub, Int.toNat_zero, Int.reduceToNat, Try.underlying3, info3, Try.underlying26, Try.underlying27, Try.underlying28, Try.underlying34, Try.underlying35, info34, info35, h26, h28, hz26, hz28, Option.getD_some, h6_6, h6_5, hz, hl, hc, vT])) | ((((with_reducible refine (t38 _ _ _).mono ?_); rintro _ σ' ⟨rfl, rfl⟩)); (try simp only [vO, vQ, ↓vP, vE, vS, vB, vL, vF, vM, vN, vbs_full, Nat.reduceEqDiff, Nat.reduceAdd, Nat.reduceLeDiff, ne_eq, not_false_eq_true, Nat.reduceMul, Nat.reduceSub, Int.toNat_zero, Int.reduceToNat, Try.underlying3, info3, Try.underlying26, Try.underlying27, Try.underlying28, Try.underlying34, Try.underlying35, info34, info35, h26, h28, hz26, hz28, Option.getD_some, h6_6, h6_5, hz, hl, hc, vT])) | with_reducible refine vfresh_set ?_ | with_reducible refine vfresh_intro (fun _ _ => ?_) | with_reducible refine vif_intro (fun _ => ?_) (fun _ => ?_) | omega | ((with_reducible first | refine vop_at ?_ | refine vops_at ?_ | refine vquiet_at ?_ | refine vmix_at ?_ | refine Holds_at ?_); simp only [vO, vQ, ↓vP, vE, vS, vB, vL, vF, vM, vN, vbs_full, Nat.reduceEqDiff, Nat.reduceAdd, Nat.reduceLeDiff, ne_eq, not_false_eq_true, Nat.reduceMul, Nat.reduceSub, Int.toNat_zero, Int.reduceToNat, Try.underlying3, info3, Try.underlying26, Try.underlying27, Try.underlying28, Try.underlying34, Try.underlying35, info34, info35, h26, h28, hz26, hz28, Option.getD_some, h6_6, h6_5, hz, hl, hc, vT]))
  · rename_i h
    have he := colE_yes hg h
    exact ⟨σ, (by repeat (first | exact Sg.sub.refl _ | refine Sg.sub.set_both ?_ | refine Sg.sub.set_fresh ?_ (by first | assumption | exact Sg.set_none ‹_› ‹_›) | refine Sg.sub.del_fresh ?_ (by first | assumption | exact Sg.set_none ‹_› ‹_›))), by rw [colC, he]; rfl, rfl⟩
  · rename_i h
    have he := colE_no hg h
    exact ⟨σ, (by repeat (first | exact Sg.sub.refl _ | refine Sg.sub.set_both ?_ | refine Sg.sub.set_fresh ?_ (by first | assumption | exact Sg.set_none ‹_› ‹_›) | refine Sg.sub.del_fresh ?_ (by first | assumption | exact Sg.set_none ‹_› ‹_›))), by rw [colC, he]; rfl, rfl⟩
theorem min16 {n : Int} (h : isN n) : min n.toNat 16 = n.toNat := by have := h.2.1; omega
theorem t14 (ρ m1 m2 : Nat) (V : AV) (ps : Ps) (n q : Int) (l : List UInt8) (σ : Sg) (hh : l.length = 128) (hρ : σ ρ = some (.cells 94 [.map m1, V, .map m2])) (hm : σ m1 = some (.map (knownM ps))) : VCalls Try.prog 14 [.ref ρ 0, .i n, .agg (.i q :: aB l)] σ (fun x σ' => x = .tup [colC (bitsOf (fun m => decide (((m : Int), certText q l) ∈ ps)) (min n.toNat 16)) n q l, .i (colE (bitsOf (fun m => decide (((m : Int), certText q l) ∈ ps)) (min n.toNat 16)) n q)] ∧ σ' = σ) := by
  by_cases hb : isN n ∧ ¬ bad q
  · rw [min16 hb.1]
    exact t14b ρ m1 m2 V ps n q l σ hh hb.2 hb.1 hρ hm
  · have hc : ¬ isN n ∨ bad q := by
      by_cases hq : bad q
      · exact .inr hq
      · exact .inl (fun h => hb ⟨h, hq⟩)
    have h37 : ∀ σ, VCalls Try.prog 37 [.ref ρ 0, .i n, .agg (.i q :: aB l)] σ (fun x σ' => x = .tup [.i 0, .i 1] ∧ σ' = σ) := fun σ => by
      by_cases hq : bad q
      · exact t37a ρ n q l σ hh hq
      · exact t37n ρ n q l σ hh hq (fun h => hb ⟨h, hq⟩)
    have he : ∀ m, colE m n q = 1 := fun m => if_pos hc
    have hC : ∀ m, colC m n q l = cA 0 zs 0 := fun m => by rw [colC, he]; rfl
    rw [hC, he]
    exact t14a ρ n q l σ hh h37
end Go.Proofs.Ytkbfngepdgdecaa
