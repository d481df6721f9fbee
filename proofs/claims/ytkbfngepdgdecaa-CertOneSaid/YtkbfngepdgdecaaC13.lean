import Derived.Test.YtkbfngepdgdecaaC12
import Derived.Test.YtkbfngepdgdecaaC7
set_option linter.unusedSimpArgs false
set_option linter.unusedVariables false
namespace Go.Proofs.Ytkbfngepdgdecaa
open Go Go.V Go.Cert
/-- What checking comes to, m: the bits of who signed. -/
def chk (m : Nat) (n q s : Int) : Int := if ¬ isN n ∨ bad q then 1 else if isQ n s = true ∧ s < 2 ^ n.toNat ∧ s.toNat &&& m = s.toNat then 0 else 5
theorem most0 {n : Int} (h : most n = 0) : ¬ isN n := most_not (by omega)
theorem most1 {n : Int} (h : ¬ most n = 0) : isN n := by
  unfold most at h
  split at h
  · assumption
  · exact absurd rfl h
theorem isQ_of {n s : Int} (h : isQ n s = true) : isN n ∧ 0 ≤ s ∧ s ≤ 65535 := by
  unfold isQ at h
  have := of_decide_eq_true h
  exact ⟨this.1, this.2.1, this.2.2.1⟩
theorem shl_n {n : Int} (h : isN n) : IntKind.i64.wrap (1 * 2 ^ (min n.toNat IntKind.i64.bits)) = (2 ^ n.toNat : Int) := by
  have hk : n.toNat ≤ 16 := by have := h.2.1; omega
  have hp : 2 ^ n.toNat ≤ 65536 := by
    have := Nat.pow_le_pow_right (n := 2) (by omega) hk
    simpa using this
  show IntKind.i64.wrap (1 * 2 ^ (min n.toNat 64)) = (2 ^ n.toNat : Int)
  rw [Int.one_mul, Nat.min_eq_left (by omega), pow_cast, i64_nat (by omega)]
theorem and_s {s : Int} {m : Nat} (h : 0 ≤ s ∧ s ≤ 65535) (hm : m < 65536) : (IntKind.i64.wrap ↑(BitVec.ofInt IntKind.i64.bits s &&& BitVec.ofInt IntKind.i64.bits (m : Int)).toNat = s) = (s.toNat &&& m = s.toNat) := by
  obtain ⟨s, rfl⟩ := Int.eq_ofNat_of_zero_le h.1
  show (IntKind.i64.wrap ↑(BitVec.ofInt 64 (s : Int) &&& BitVec.ofInt 64 (m : Int)).toNat = (s : Int)) = (s &&& m = s)
  rw [and_nat (by omega) (by omega), i64_nat (Nat.lt_of_le_of_lt Nat.and_le_right (by omega))]
  exact propext ⟨fun h => by omega, fun h => by omega⟩
theorem bits16 (K : Nat → Bool) (n : Nat) : bitsOf K (min n 16) < 65536 :=
  Nat.lt_of_lt_of_le (bitsOf_lt K _) (by
    have := Nat.pow_le_pow_right (n := 2) (by omega) (Nat.min_le_right n 16)
    simpa using this)
theorem chk_good {m : Nat} {n q s : Int} (hn : isN n) (hq : ¬ bad q) : chk m n q s = if isQ n s = true ∧ s < 2 ^ n.toNat ∧ s.toNat &&& m = s.toNat then 0 else 5 := by
  unfold chk
  rw [if_neg (fun h => h.elim (fun h => h hn) hq)]
theorem sz28 : ∃ z, tInfo Try.prog 28 = some (some z, 130, 144) := ⟨_, info28⟩
set_option maxHeartbeats 1000000 in
set_option maxRecDepth 100000 in
theorem t17 (ρ : Nat) (ps : Ps) (k : Own) (n q s : Int) (l : List UInt8) (σ : Sg) (hl : ps.length ≤ 2 ^ 32) (hh : l.length = 128) (hρ : σ ρ = some (.cells 97 [.sl k (pairsA ps)])) : VCalls Try.prog 17 [.ref ρ 0, .i n, .agg (.i q :: (aB l ++ [.i s]))] σ (fun x σ' => x = .i (chk (bitsOf (fun m => decide (((m : Int), certText q l) ∈ ps)) (min n.toNat 16)) n q s) ∧ σ' = σ) := by
  obtain ⟨z26, h26⟩ := sz26
  obtain ⟨z28, h28⟩ := sz28
  have ht : (aB l ++ [AV.i s]).take 128 = aB l := by rw [List.take_left' (by rw [aB_len, hh])]
  have hd : (aB l ++ [AV.i s]).drop 128 = [AV.i s] := by rw [List.drop_left' (by rw [aB_len, hh])]
  have hlen : (aB l ++ [AV.i s]).length = 129 := by rw [List.length_append, aB_len, hh]; rfl
  by_cases hq : bad q
  · have h13 := t13a q l σ hh hq
    (refine vfun (fun _ => .ro) mixed Try.func17 (by kernel_rfl) ?_; simp only [bodyOf, Try.f17, Option.getD_some])
    repeat' (first | with_reducible rfl | exact .inr trivial | with_reducible apply And.intro | with_reducible apply vqx_step | with_reducible apply vqm_step | with_reducible refine vkp_free (by decide +kernel) ?_ | with_reducible intro _ | ((first | (with_reducible first | refine .rs ?_ | refine .ds (by kernel_rfl) ?_ | refine .dg (by kernel_rfl) ?_ | refine .rg ?_ | refine .ite ?_ | refine .ret ?_ | refine .skip ?_ | refine .exit ?_ | refine .scope ?_ | refine .seq (.label ?_) | refine .block ?_ | refine .seq ?_)); (try simp only [vO, vQ, ↓vP, vE, vS, vB, vL, vF, vM, vN, vbs_full, Nat.reduceEqDiff, Nat.reduceAdd, Nat.reduceLeDiff, ne_eq, not_false_eq_true, Nat.reduceMul, Nat.reduceSub, Int.toNat_zero, Int.reduceToNat, Try.underlying3, info3, Try.underlying26, Try.underlying27, Try.underlying28, Try.underlying34, Try.underlying35, info34, info35, h26, h28, ht, hd, hlen, vT])) | ((simp (disch := first | assumption | omega) only [w64, w8, tg_eq, n1, n2, nn, Int.tdiv_eq_ediv_of_nonneg, Sg.set_same, Sg.set_ne, Sg.set_ne', Sg.del_ne, Sg.del_ne']); (try simp only [vO, vQ, ↓vP, vE, vS, vB, vL, vF, vM, vN, vbs_full, Nat.reduceEqDiff, Nat.reduceAdd, Nat.reduceLeDiff, ne_eq, not_false_eq_true, Nat.reduceMul, Nat.reduceSub, Int.toNat_zero, Int.reduceToNat, Try.underlying3, info3, Try.underlying26, Try.underlying27, Try.underlying28, Try.underlying34, Try.underlying35, info34, info35, h26, h28, ht, hd, hlen, vT])) | ((((with_reducible refine h13.mono ?_); rintro _ σ' ⟨rfl, rfl⟩)); (try simp only [vO, vQ, ↓vP, vE, vS, vB, vL, vF, vM, vN, vbs_full, Nat.reduceEqDiff, Nat.reduceAdd, Nat.reduceLeDiff, ne_eq, not_false_eq_true, Nat.reduceMul, Nat.reduceSub, Int.toNat_zero, Int.reduceToNat, Try.underlying3, info3, Try.underlying26, Try.underlying27, Try.underlying28, Try.underlying34, Try.underlying35, info34, info35, h26, h28, ht, hd, hlen, vT])) | ((((with_reducible refine (t39 _ _).mono ?_); rintro _ σ' ⟨rfl, rfl⟩)); (try simp only [vO, vQ, ↓vP, vE, vS, vB, vL, vF, vM, vN, vbs_full, Nat.reduceEqDiff, Nat.reduceAdd, Nat.reduceLeDiff, ne_eq, not_false_eq_true, Nat.reduceMul, Nat.reduceSub, Int.toNat_zero, Int.reduceToNat, Try.underlying3, info3, Try.underlying26, Try.underlying27, Try.underlying28, Try.underlying34, Try.underlying35, info34, info35, h26, h28, ht, hd, hlen, vT])) | with_reducible refine vfresh_set ?_ | with_reducible refine vfresh_intro (fun _ _ => ?_) | with_reducible refine vif_intro (fun _ => ?_) (fun _ => ?_) | omega | ((with_reducible first | refine vop_at ?_ | refine vops_at ?_ | refine vquiet_at ?_ | refine vmix_at ?_ | refine Holds_at ?_); simp only [vO, vQ, ↓vP, vE, vS, vB, vL, vF, vM, vN, vbs_full, Nat.reduceEqDiff, Nat.reduceAdd, Nat.reduceLeDiff, ne_eq, not_false_eq_true, Nat.reduceMul, Nat.reduceSub, Int.toNat_zero, Int.reduceToNat, Try.underlying3, info3, Try.underlying26, Try.underlying27, Try.underlying28, Try.underlying34, Try.underlying35, info34, info35, h26, h28, ht, hd, hlen, vT]))
    all_goals exact ⟨_, .refl _, by rw [chk, if_pos (.inr hq)], rfl⟩
  · have h13 := t13 q l σ hh hq
    (refine vfun (fun _ => .ro) mixed Try.func17 (by kernel_rfl) ?_; simp only [bodyOf, Try.f17, Option.getD_some])
    repeat' (first | with_reducible rfl | exact .inr trivial | with_reducible apply And.intro | with_reducible apply vqx_step | with_reducible apply vqm_step | with_reducible refine vkp_free (by decide +kernel) ?_ | with_reducible intro _ | ((first | (with_reducible first | refine .rs ?_ | refine .ds (by kernel_rfl) ?_ | refine .dg (by kernel_rfl) ?_ | refine .rg ?_ | refine .ite ?_ | refine .ret ?_ | refine .skip ?_ | refine .exit ?_ | refine .scope ?_ | refine .seq (.label ?_) | refine .block ?_ | refine .seq ?_)); (try simp only [vO, vQ, ↓vP, vE, vS, vB, vL, vF, vM, vN, vbs_full, Nat.reduceEqDiff, Nat.reduceAdd, Nat.reduceLeDiff, ne_eq, not_false_eq_true, Nat.reduceMul, Nat.reduceSub, Int.toNat_zero, Int.reduceToNat, Try.underlying3, info3, Try.underlying26, Try.underlying27, Try.underlying28, Try.underlying34, Try.underlying35, info34, info35, h26, h28, ht, hd, hlen, vT])) | ((simp (disch := first | assumption | omega) only [w64, w8, tg_eq, n1, n2, nn, Int.tdiv_eq_ediv_of_nonneg, Sg.set_same, Sg.set_ne, Sg.set_ne', Sg.del_ne, Sg.del_ne']); (try simp only [vO, vQ, ↓vP, vE, vS, vB, vL, vF, vM, vN, vbs_full, Nat.reduceEqDiff, Nat.reduceAdd, Nat.reduceLeDiff, ne_eq, not_false_eq_true, Nat.reduceMul, Nat.reduceSub, Int.toNat_zero, Int.reduceToNat, Try.underlying3, info3, Try.underlying26, Try.underlying27, Try.underlying28, Try.underlying34, Try.underlying35, info34, info35, h26, h28, ht, hd, hlen, vT])) | ((((with_reducible refine h13.mono ?_); rintro _ σ' ⟨y, rfl, τ, hτ, rfl, rfl⟩; have hne : ρ ≠ τ := fun e => by rw [e, hτ] at hρ; cases hρ)); (try simp only [vO, vQ, ↓vP, vE, vS, vB, vL, vF, vM, vN, vbs_full, Nat.reduceEqDiff, Nat.reduceAdd, Nat.reduceLeDiff, ne_eq, not_false_eq_true, Nat.reduceMul, Nat.reduceSub, Int.toNat_zero, Int.reduceToNat, Try.underlying3, info3, Try.underlying26, Try.underlying27, Try.underlying28, Try.underlying34, Try.underlying35, info34, info35, h26, h28, ht, hd, hlen, vT])) | ((((with_reducible refine (t39 _ _).mono ?_); rintro _ σ' ⟨rfl, rfl⟩)); (try simp only [vO, vQ, ↓vP, vE, vS, vB, vL, vF, vM, vN, vbs_full, Nat.reduceEqDiff, Nat.reduceAdd, Nat.reduceLeDiff, ne_eq, not_false_eq_true, Nat.reduceMul, Nat.reduceSub, Int.toNat_zero, Int.reduceToNat, Try.underlying3, info3, Try.underlying26, Try.underlying27, Try.underlying28, Try.underlying34, Try.underlying35, info34, info35, h26, h28, ht, hd, hlen, vT])) | ((((with_reducible refine (t41 _ _ _).mono ?_); rintro _ σ' ⟨rfl, rfl⟩)); (try simp only [vO, vQ, ↓vP, vE, vS, vB, vL, vF, vM, vN, vbs_full, Nat.reduceEqDiff, Nat.reduceAdd, Nat.reduceLeDiff, ne_eq, not_false_eq_true, Nat.reduceMul, Nat.reduceSub, Int.toNat_zero, Int.reduceToNat, Try.underlying3, info3, Try.underlying26, Try.underlying27, Try.underlying28, Try.underlying34, Try.underlying35, info34, info35, h26, h28, ht, hd, hlen, vT])) | ((((with_reducible refine (t40 ρ ps k _ n (certText q l) _ hl (by rw [Sg.set_other _ _ (by assumption)]; exact hρ)).mono ?_); rintro _ σ' ⟨rfl, rfl⟩)); (try simp only [vO, vQ, ↓vP, vE, vS, vB, vL, vF, vM, vN, vbs_full, Nat.reduceEqDiff, Nat.reduceAdd, Nat.reduceLeDiff, ne_eq, not_false_eq_true, Nat.reduceMul, Nat.reduceSub, Int.toNat_zero, Int.reduceToNat, Try.underlying3, info3, Try.underlying26, Try.underlying27, Try.underlying28, Try.underlying34, Try.underlying35, info34, info35, h26, h28, ht, hd, hlen, vT])) | with_reducible refine vfresh_set ?_ | with_reducible refine vfresh_intro (fun _ _ => ?_) | with_reducible refine vif_intro (fun _ => ?_) (fun _ => ?_) | omega | ((with_reducible first | refine vop_at ?_ | refine vops_at ?_ | refine vquiet_at ?_ | refine vmix_at ?_ | refine Holds_at ?_); simp only [vO, vQ, ↓vP, vE, vS, vB, vL, vF, vM, vN, vbs_full, Nat.reduceEqDiff, Nat.reduceAdd, Nat.reduceLeDiff, ne_eq, not_false_eq_true, Nat.reduceMul, Nat.reduceSub, Int.toNat_zero, Int.reduceToNat, Try.underlying3, info3, Try.underlying26, Try.underlying27, Try.underlying28, Try.underlying34, Try.underlying35, info34, info35, h26, h28, ht, hd, hlen, vT]))
    · exact ⟨σ, (by repeat (first | exact Sg.sub.refl _ | refine Sg.sub.set_both ?_ | refine Sg.sub.set_fresh ?_ (by first | assumption | exact Sg.set_none ‹_› ‹_›) | refine Sg.sub.del_fresh ?_ (by first | assumption | exact Sg.set_none ‹_› ‹_›))), by rw [chk, if_pos (.inl (most0 ‹_›))], rfl⟩
    · have := (isQ_of ‹_›).1.1
      omega
    · have hN := most1 ‹_›
      have h2 := ‹IntKind.i64.wrap _ ≤ s›
      rw [shl_n hN] at h2
      exact ⟨σ, (by repeat (first | exact Sg.sub.refl _ | refine Sg.sub.set_both ?_ | refine Sg.sub.set_fresh ?_ (by first | assumption | exact Sg.set_none ‹_› ‹_›) | refine Sg.sub.del_fresh ?_ (by first | assumption | exact Sg.set_none ‹_› ‹_›))), by rw [chk_good hN hq, if_neg (fun h => by have := h.2.1; omega)], rfl⟩
    · have hN := most1 ‹_›
      have h2 := ‹¬ IntKind.i64.wrap _ ≤ s›
      have h3 := ‹IntKind.i64.wrap _ = s›
      rw [shl_n hN] at h2
      rw [and_s (isQ_of ‹_›).2 (bits16 _ _)] at h3
      exact ⟨σ, (by repeat (first | exact Sg.sub.refl _ | refine Sg.sub.set_both ?_ | refine Sg.sub.set_fresh ?_ (by first | assumption | exact Sg.set_none ‹_› ‹_›) | refine Sg.sub.del_fresh ?_ (by first | assumption | exact Sg.set_none ‹_› ‹_›))), by rw [chk_good hN hq, if_pos ⟨‹_›, by omega, h3⟩], rfl⟩
    · have hN := most1 ‹_›
      have h3 := ‹¬ IntKind.i64.wrap _ = s›
      rw [and_s (isQ_of ‹_›).2 (bits16 _ _)] at h3
      exact ⟨σ, (by repeat (first | exact Sg.sub.refl _ | refine Sg.sub.set_both ?_ | refine Sg.sub.set_fresh ?_ (by first | assumption | exact Sg.set_none ‹_› ‹_›) | refine Sg.sub.del_fresh ?_ (by first | assumption | exact Sg.set_none ‹_› ‹_›))), by rw [chk_good hN hq, if_neg (fun h => h3 h.2.2)], rfl⟩
    · have hN := most1 ‹_›
      exact ⟨σ, (by repeat (first | exact Sg.sub.refl _ | refine Sg.sub.set_both ?_ | refine Sg.sub.set_fresh ?_ (by first | assumption | exact Sg.set_none ‹_› ‹_›) | refine Sg.sub.del_fresh ?_ (by first | assumption | exact Sg.set_none ‹_› ‹_›))), by rw [chk_good hN hq, if_neg (fun h => ‹¬ isQ n s = true› h.1)], rfl⟩
end Go.Proofs.Ytkbfngepdgdecaa
