/-wraps-/
import Derived.Test.YtkbfngepdgdecaaC22
set_option linter.unusedSimpArgs false
set_option linter.unusedVariables false
namespace Go.Cert
open Go.V
theorem ne_of {σ : Sg} {ρ x : Nat} {o : Ob} (h : σ ρ = some o) (hx : σ x = none) : ρ ≠ x := fun e => by rw [e, hx] at h; cases h
theorem ne_of2 {σ : Sg} {ρ x : Nat} {o : Ob} (hx : σ x = none) (h : σ ρ = some o) : ρ ≠ x := ne_of h hx
theorem ne_of2' {σ : Sg} {ρ x : Nat} {o : Ob} (hx : σ x = none) (h : σ ρ = some o) : x ≠ ρ := Ne.symm (ne_of h hx)
theorem ne_ob {σ : Sg} {ρ x : Nat} {o o' : Ob} (h : σ ρ = some o) (hx : σ x = some o') (hn : o ≠ o') : ρ ≠ x := fun e => by rw [e, hx] at h; cases h; exact hn rfl
theorem at1 {σ : Sg} {ρ x : Nat} {o a : Ob} (h : σ ρ = some o) (hx : σ x = none) : (σ.set x a) ρ = some o := by rw [Sg.set_other _ _ (ne_of h hx), h]
theorem at2 {σ : Sg} {ρ x y : Nat} {o a b : Ob} (h : σ ρ = some o) (hx : σ x = none) (hy : σ y = none) : ((σ.set x a).set y b) ρ = some o := by rw [Sg.set_other _ _ (ne_of h hy), at1 h hx]
theorem at3 {σ : Sg} {ρ x y z : Nat} {o a b c : Ob} (h : σ ρ = some o) (hx : σ x = none) (hy : σ y = none) (hz : σ z = none) : (((σ.set x a).set y b).set z c) ρ = some o := by rw [Sg.set_other _ _ (ne_of h hz), at2 h hx hy]
end Go.Cert
namespace Go.Proofs.Ytkbfngepdgdecaa
open Go Go.V Go.Cert
def h610 (n : Nat) : Hint := if n = 6 ∨ n = 10 then .no else .ro
theorem h610_6 : h610 6 = .no := rfl
theorem h610_10 : h610 10 = .no := rfl
theorem h610_5 : h610 5 = .ro := rfl
set_option maxHeartbeats 1000000 in
set_option maxRecDepth 100000 in
theorem t15a (ρ : Nat) (n q : Int) (l : List UInt8) (σ : Sg) (hh : l.length = 128) (hq : bad q) : VCalls Try.prog 15 [.ref ρ 0, .i n, .agg (.i q :: aB l)] σ (fun x σ' => x = .tup [cA 0 zs 0, .i 1] ∧ σ' = σ) := by
  obtain ⟨z26, h26, hz26⟩ := zero26
  obtain ⟨z28, h28, hz28⟩ := zero28
  have hz := cR zs_len 0
  have hl := aR hh
  have h13 := fun σ => t13a q l σ hh hq
  (refine vfun (h610) mixed Try.func15 (by kernel_rfl) ?_; simp only [bodyOf, Try.f15, Option.getD_some])
  repeat' (first | with_reducible rfl | exact .inr trivial | with_reducible apply And.intro | with_reducible apply vqx_step | with_reducible apply vqm_step | with_reducible refine vkp_free (by decide +kernel) ?_ | with_reducible intro _ | ((first | (with_reducible first | refine .rs ?_ | refine .ds (by kernel_rfl) ?_ | refine .dg (by kernel_rfl) ?_ | refine .rg ?_ | refine .ite ?_ | refine .ret ?_ | refine .skip ?_ | refine .exit ?_ | refine .scope ?_ | refine .seq (.label ?_) | refine .block ?_ | refine .seq ?_)); (try simp only [vO, vQ, ↓vP, vE, vS, vB, vL, vF, vM, vN, vbs_full, Nat.reduceEqDiff, Nat.reduceAdd, Nat.reduceLeDiff, ne_eq, not_false_eq_true, Nat.reduceMul, Nat.reduceSub, Int.toNat_zero, Int.reduceToNat, Try.underlying3, info3, Try.underlying26, Try.underlying27, Try.underlying28, Try.underlying34, Try.underlying35, info34, info35, h26, h28, hz26, hz28, Option.getD_some, h610_6, h610_5, h610_10, hz, hl, vT])) | ((simp (disch := first | assumption | omega) only [w64, w8, tg_eq, Go.V.n1, Go.V.n2, Go.V.nn, Int.tdiv_eq_ediv_of_nonneg, Sg.set_same, Sg.set_ne, Sg.set_ne', Sg.del_ne, Sg.del_ne']); (try simp only [vO, vQ, ↓vP, vE, vS, vB, vL, vF, vM, vN, vbs_full, Nat.reduceEqDiff, Nat.reduceAdd, Nat.reduceLeDiff, ne_eq, not_false_eq_true, Nat.reduceMul, Nat.reduceSub, Int.toNat_zero, Int.reduceToNat, Try.underlying3, info3, Try.underlying26, Try.underlying27, Try.underlying28, Try.underlying34, Try.underlying35, info34, info35, h26, h28, hz26, hz28, Option.getD_some, h610_6, h610_5, h610_10, hz, hl, vT])) | ((((with_reducible refine (h13 _).mono ?_); rintro _ σ' ⟨rfl, rfl⟩)); (try simp only [vO, vQ, ↓vP, vE, vS, vB, vL, vF, vM, vN, vbs_full, Nat.reduceEqDiff, Nat.reduceAdd, Nat.reduceLeDiff, ne_eq, not_false_eq_true, Nat.reduceMul, Nat.reduceSub, Int.toNat_zero, Int.reduceToNat, Try.underlying3, info3, Try.underlying26, Try.underlying27, Try.underlying28, Try.underlying34, Try.underlying35, info34, info35, h26, h28, hz26, hz28, Option.getD_some, h610_6, h610_5, h610_10, hz, hl, vT])) | ((((with_reducible refine (t39 _ _).mono ?_); rintro _ σ' ⟨rfl, rfl⟩)); (try simp only [vO, vQ, ↓vP, vE, vS, vB, vL, vF, vM, vN, vbs_full, Nat.reduceEqDiff, Nat.reduceAdd, Nat.reduceLeDiff, ne_eq, not_false_eq_true, Nat.reduceMul, Nat.reduceSub, Int.toNat_zero, Int.reduceToNat, Try.underlying3, info3, Try.underlying26, Try.underlying27, Try.underlying28, Try.underlying34, Try.underlying35, info34, info35, h26, h28, hz26, hz28, Option.getD_some, h610_6, h610_5, h610_10, hz, hl, vT])) | with_reducible refine vfresh_set ?_ | with_reducible refine vfresh_intro (fun _ _ => ?_) | with_reducible refine vif_intro (fun _ => ?_) (fun _ => ?_) | omega | ((with_reducible first | refine vop_at ?_ | refine vops_at ?_ | refine vquiet_at ?_ | refine vmix_at ?_ | refine Holds_at ?_); simp only [vO, vQ, ↓vP, vE, vS, vB, vL, vF, vM, vN, vbs_full, Nat.reduceEqDiff, Nat.reduceAdd, Nat.reduceLeDiff, ne_eq, not_false_eq_true, Nat.reduceMul, Nat.reduceSub, Int.toNat_zero, Int.reduceToNat, Try.underlying3, info3, Try.underlying26, Try.underlying27, Try.underlying28, Try.underlying34, Try.underlying35, info34, info35, h26, h28, hz26, hz28, Option.getD_some, h610_6, h610_5, h610_10, hz, hl, vT]))
  all_goals exact ⟨_, (by repeat (first | exact Sg.sub.refl _ | refine Sg.sub.set_both ?_ | refine Sg.sub.set_fresh ?_ (by first | assumption | exact Sg.set_none ‹_› ‹_›) | refine Sg.sub.del_fresh ?_ (by first | assumption | exact Sg.set_none ‹_› ‹_›))), rfl⟩
theorem chk_self {m : Nat} {n q : Int} (hn : isN n) (hq : ¬ bad q) (hm : m < 2 ^ n.toNat) : chk m n q (m : Int) = if isQ n (m : Int) = true then 0 else 5 := by
  rw [chk_good hn hq]
  by_cases h : isQ n (m : Int) = true
  · rw [if_pos ⟨h, by rw [pow_cast]; omega, Nat.and_self _⟩, if_pos h]
  · rw [if_neg (fun x => h x.1), if_neg h]
set_option maxHeartbeats 1000000 in
set_option maxRecDepth 100000 in
theorem t15 (ρ : Nat) (ps : Ps) (k : Own) (n q : Int) (l : List UInt8) (σ : Sg) (hl : ps.length ≤ 2 ^ 32) (hh : l.length = 128) (hρ : σ ρ = some (.cells 97 [.sl k (pairsA ps)])) (hq : ¬ bad q) : VCalls Try.prog 15 [.ref ρ 0, .i n, .agg (.i q :: aB l)] σ (fun x σ' => x = .tup [colC (bitsOf (fun m => decide (((m : Int), certText q l) ∈ ps)) (min n.toNat 16)) n q l, .i (colE (bitsOf (fun m => decide (((m : Int), certText q l) ∈ ps)) (min n.toNat 16)) n q)] ∧ σ' = σ) := by
  obtain ⟨z26, h26, hz26⟩ := zero26
  obtain ⟨z28, h28, hz28⟩ := zero28
  have hz := cR zs_len 0
  have hl1 := aR hh
  have hc := fun s => cR hh s
  have h13 := fun σ => t13 q l σ hh hq
  (refine vfun (h610) mixed Try.func15 (by kernel_rfl) ?_; simp only [bodyOf, Try.f15, Option.getD_some])
  repeat' (first | with_reducible rfl | exact .inr trivial | with_reducible apply And.intro | with_reducible apply vqx_step | with_reducible apply vqm_step | with_reducible refine vkp_free (by decide +kernel) ?_ | with_reducible intro _ | ((with_reducible refine .dms (fun β => β = ρ) [(0, false), (1, false), (2, false), (3, false), (4, false), (5, false), (6, true), (7, true)] (by decide) (by decide +kernel) ?_); (simp only [vO, vQ, ↓vP, vE, vS, vB, vL, vF, vM, vN, vbs_full, Nat.reduceEqDiff, Nat.reduceAdd, Nat.reduceLeDiff, ne_eq, not_false_eq_true, Nat.reduceMul, Nat.reduceSub, Int.toNat_zero, Int.reduceToNat, Try.underlying3, info3, Try.underlying26, Try.underlying27, Try.underlying28, Try.underlying34, Try.underlying35, info34, info35, h26, h28, hz26, hz28, Option.getD_some, h610_6, h610_5, h610_10, hz, hl1, hc, vT])) | ((first | (with_reducible first | refine .rs ?_ | refine .ds (by kernel_rfl) ?_ | refine .dg (by kernel_rfl) ?_ | refine .rg ?_ | refine .ite ?_ | refine .ret ?_ | refine .skip ?_ | refine .exit ?_ | refine .scope ?_ | refine .seq (.label ?_) | refine .block ?_ | refine .seq ?_)); (try simp only [vO, vQ, ↓vP, vE, vS, vB, vL, vF, vM, vN, vbs_full, Nat.reduceEqDiff, Nat.reduceAdd, Nat.reduceLeDiff, ne_eq, not_false_eq_true, Nat.reduceMul, Nat.reduceSub, Int.toNat_zero, Int.reduceToNat, Try.underlying3, info3, Try.underlying26, Try.underlying27, Try.underlying28, Try.underlying34, Try.underlying35, info34, info35, h26, h28, hz26, hz28, Option.getD_some, h610_6, h610_5, h610_10, hz, hl1, hc, vT])) | ((simp (disch := first | assumption | omega) only [w64, w8, tg_eq, Go.V.n1, Go.V.n2, Go.V.nn, Int.tdiv_eq_ediv_of_nonneg, Sg.set_same, Sg.set_ne, Sg.set_ne', Sg.del_ne, Sg.del_ne']); (try simp only [vO, vQ, ↓vP, vE, vS, vB, vL, vF, vM, vN, vbs_full, Nat.reduceEqDiff, Nat.reduceAdd, Nat.reduceLeDiff, ne_eq, not_false_eq_true, Nat.reduceMul, Nat.reduceSub, Int.toNat_zero, Int.reduceToNat, Try.underlying3, info3, Try.underlying26, Try.underlying27, Try.underlying28, Try.underlying34, Try.underlying35, info34, info35, h26, h28, hz26, hz28, Option.getD_some, h610_6, h610_5, h610_10, hz, hl1, hc, vT])) | ((((with_reducible refine (h13 _).mono ?_); rintro _ σ' ⟨y, rfl, τ, hτ, rfl, rfl⟩; obtain ⟨hne, hτ'⟩ := Sg.of_set_none hτ)); (try simp only [vO, vQ, ↓vP, vE, vS, vB, vL, vF, vM, vN, vbs_full, Nat.reduceEqDiff, Nat.reduceAdd, Nat.reduceLeDiff, ne_eq, not_false_eq_true, Nat.reduceMul, Nat.reduceSub, Int.toNat_zero, Int.reduceToNat, Try.underlying3, info3, Try.underlying26, Try.underlying27, Try.underlying28, Try.underlying34, Try.underlying35, info34, info35, h26, h28, hz26, hz28, Option.getD_some, h610_6, h610_5, h610_10, hz, hl1, hc, vT])) | ((((with_reducible refine (t39 _ _).mono ?_); rintro _ σ' ⟨rfl, rfl⟩)); (try simp only [vO, vQ, ↓vP, vE, vS, vB, vL, vF, vM, vN, vbs_full, Nat.reduceEqDiff, Nat.reduceAdd, Nat.reduceLeDiff, ne_eq, not_false_eq_true, Nat.reduceMul, Nat.reduceSub, Int.toNat_zero, Int.reduceToNat, Try.underlying3, info3, Try.underlying26, Try.underlying27, Try.underlying28, Try.underlying34, Try.underlying35, info34, info35, h26, h28, hz26, hz28, Option.getD_some, h610_6, h610_5, h610_10, hz, hl1, hc, vT])) | ((with_reducible exact t40 ρ ps k _ n (certText q l) _ hl (keepAt (by assumption) (at2 hρ (by assumption) (by assumption)))); (try simp only [vO, vQ, ↓vP, vE, vS, vB, vL, vF, vM, vN, vbs_full, Nat.reduceEqDiff, Nat.reduceAdd, Nat.reduceLeDiff, ne_eq, not_false_eq_true, Nat.reduceMul, Nat.reduceSub, Int.toNat_zero, Int.reduceToNat, Try.underlying3, info3, Try.underlying26, Try.underlying27, Try.underlying28, Try.underlying34, Try.underlying35, info34, info35, h26, h28, hz26, hz28, Option.getD_some, h610_6, h610_5, h610_10, hz, hl1, hc, vT])) | (((refine vkp_keep (by intro β h; subst h; exact Sg.set_other _ _ (ne_of hρ (by assumption))) ?_)); (try simp only [vO, vQ, ↓vP, vE, vS, vB, vL, vF, vM, vN, vbs_full, Nat.reduceEqDiff, Nat.reduceAdd, Nat.reduceLeDiff, ne_eq, not_false_eq_true, Nat.reduceMul, Nat.reduceSub, Int.toNat_zero, Int.reduceToNat, Try.underlying3, info3, Try.underlying26, Try.underlying27, Try.underlying28, Try.underlying34, Try.underlying35, info34, info35, h26, h28, hz26, hz28, Option.getD_some, h610_6, h610_5, h610_10, hz, hl1, hc, vT])) | ((((with_reducible refine (t17 ρ ps k n q _ l _ hl hh (at3 hρ (by assumption) (by assumption) (by assumption))).mono ?_); rintro _ σ' ⟨rfl, rfl⟩)); (try simp only [vO, vQ, ↓vP, vE, vS, vB, vL, vF, vM, vN, vbs_full, Nat.reduceEqDiff, Nat.reduceAdd, Nat.reduceLeDiff, ne_eq, not_false_eq_true, Nat.reduceMul, Nat.reduceSub, Int.toNat_zero, Int.reduceToNat, Try.underlying3, info3, Try.underlying26, Try.underlying27, Try.underlying28, Try.underlying34, Try.underlying35, info34, info35, h26, h28, hz26, hz28, Option.getD_some, h610_6, h610_5, h610_10, hz, hl1, hc, vT])) | with_reducible refine vfresh_set ?_ | with_reducible refine vfresh_intro (fun _ _ => ?_) | with_reducible refine vif_intro (fun _ => ?_) (fun _ => ?_) | omega | ((with_reducible first | refine vop_at ?_ | refine vops_at ?_ | refine vquiet_at ?_ | refine vmix_at ?_ | refine Holds_at ?_); simp only [vO, vQ, ↓vP, vE, vS, vB, vL, vF, vM, vN, vbs_full, Nat.reduceEqDiff, Nat.reduceAdd, Nat.reduceLeDiff, ne_eq, not_false_eq_true, Nat.reduceMul, Nat.reduceSub, Int.toNat_zero, Int.reduceToNat, Try.underlying3, info3, Try.underlying26, Try.underlying27, Try.underlying28, Try.underlying34, Try.underlying35, info34, info35, h26, h28, hz26, hz28, Option.getD_some, h610_6, h610_5, h610_10, hz, hl1, hc, vT]))
  · have he : ∀ m, colE m n q = 1 := fun m => if_pos (.inl (most0 ‹_›))
    exact ⟨σ, (by repeat (first | exact Sg.sub.refl _ | refine Sg.sub.set_both ?_ | refine Sg.sub.set_fresh ?_ (by first | assumption | exact Sg.set_none ‹_› ‹_›) | refine Sg.sub.del_fresh ?_ (by first | assumption | exact Sg.set_none ‹_› ‹_›))), by rw [colC, he]; rfl, rfl⟩
  · rename_i h
    have hn := most1 (by assumption)
    rw [min16 hn] at h ⊢
    rw [chk_self hn hq (bitsOf_lt _ _)] at h
    have he : colE (bitsOf (fun m => decide (((m : Int), certText q l) ∈ ps)) n.toNat) n q = 0 := by
      rw [colE, if_neg (fun h => h.elim (fun h => h hn) hq)]
      exact h
    exact ⟨σ, (by repeat (first | exact Sg.sub.refl _ | refine Sg.sub.set_both ?_ | refine Sg.sub.set_fresh ?_ (by first | assumption | exact Sg.set_none ‹_› ‹_›) | refine Sg.sub.del_fresh ?_ (by first | assumption | exact Sg.set_none ‹_› ‹_›))), by rw [colC, he]; rfl, rfl⟩
  · rename_i h
    have hn := most1 (by assumption)
    rw [min16 hn] at h ⊢
    have he : colE (bitsOf (fun m => decide (((m : Int), certText q l) ∈ ps)) n.toNat) n q = 5 := by
      rw [colE, if_neg (fun h => h.elim (fun h => h hn) hq)]
      rw [chk_self hn hq (bitsOf_lt _ _)] at h
      split at h
      · exact absurd rfl h
      · rename_i h1
        rw [if_neg h1]
    have hk : chk (bitsOf (fun m => decide (((m : Int), certText q l) ∈ ps)) n.toNat) n q (bitsOf (fun m => decide (((m : Int), certText q l) ∈ ps)) n.toNat) = 5 := by
      rw [chk_self hn hq (bitsOf_lt _ _)] at h ⊢
      split at h
      · exact absurd rfl h
      · rename_i h1
        rw [if_neg h1]
    exact ⟨σ, (by repeat (first | exact Sg.sub.refl _ | refine Sg.sub.set_both ?_ | refine Sg.sub.set_fresh ?_ (by first | assumption | exact Sg.set_none ‹_› ‹_›) | refine Sg.sub.del_fresh ?_ (by first | assumption | exact Sg.set_none ‹_› ‹_›))), by rw [colC, he, hk]; rfl, rfl⟩
end Go.Proofs.Ytkbfngepdgdecaa
