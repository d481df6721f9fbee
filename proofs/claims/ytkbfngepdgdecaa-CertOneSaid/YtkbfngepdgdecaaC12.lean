import Derived.Test.YtkbfngepdgdecaaC11
set_option linter.unusedSimpArgs false
set_option linter.unusedVariables false
namespace Go.Cert
open Go.V
/-- The bits of those of 1..k of whom K holds. -/
def bitsOf (K : Nat → Bool) : Nat → Nat
  | 0 => 0
  | k + 1 => bitsOf K k + if K (k + 1) = true then 2 ^ k else 0
theorem bits_no {K : Nat → Bool} {j : Nat} (h : ¬ K (j + 1) = true) : AV.i (bitsOf K j : Nat) = AV.i (bitsOf K (j + 1) : Nat) := by rw [bitsOf, if_neg h, Nat.add_zero]
theorem bitsOf_lt (K : Nat → Bool) : ∀ k, bitsOf K k < 2 ^ k
  | 0 => by simp [bitsOf]
  | k + 1 => by
    have := bitsOf_lt K k
    rw [bitsOf, Nat.pow_succ]
    split <;> omega
theorem or_bit {a k : Nat} (h : a < 2 ^ k) : a ||| 2 ^ k = a + 2 ^ k := by
  have := Nat.two_pow_add_eq_or_of_lt h 1
  rw [Nat.mul_one] at this
  rw [Nat.or_comm, ← this, Nat.add_comm]
theorem or_i64 {a k : Nat} (h : a < 2 ^ k) (hk : k ≤ 16) : IntKind.i64.wrap ↑(BitVec.ofInt IntKind.i64.bits (a : Int) ||| BitVec.ofInt IntKind.i64.bits (IntKind.i64.wrap (1 * 2 ^ (min k IntKind.i64.bits)))).toNat = ((a + 2 ^ k : Nat) : Int) := by
  have hp : 2 ^ k ≤ 65536 := by
    have := Nat.pow_le_pow_right (n := 2) (by omega) hk
    simpa using this
  show IntKind.i64.wrap ↑(BitVec.ofInt 64 (a : Int) ||| BitVec.ofInt 64 (IntKind.i64.wrap (1 * 2 ^ (min k 64)))).toNat = ((a + 2 ^ k : Nat) : Int)
  rw [Int.one_mul, Nat.min_eq_left (by omega), pow_cast, i64_nat (n := 2 ^ k) (by omega), BitVec.toNat_or, BitVec.ofInt_natCast, BitVec.ofInt_natCast, BitVec.toNat_ofNat, BitVec.toNat_ofNat, Nat.mod_eq_of_lt (by omega), Nat.mod_eq_of_lt (by omega), or_bit h]
  exact i64_nat (by omega)
end Go.Cert
namespace Go.Proofs.Ytkbfngepdgdecaa
open Go Go.V Go.Cert
set_option maxHeartbeats 1000000 in
set_option maxRecDepth 100000 in
theorem t40 (ρ : Nat) (ps : Ps) (k k' : Own) (n : Int) (l : List UInt8) (σ : Sg) (hl : ps.length ≤ 2 ^ 32) (hρ : σ ρ = some (.cells 97 [.sl k (pairsA ps)])) : VCalls Try.prog 40 [.ref ρ 0, .i n, .sl k' (bytesL l)] σ (fun x σ' => x = .i (bitsOf (fun m => decide (((m : Int), l) ∈ ps)) (min n.toNat 16)) ∧ σ' = σ) := by
  (refine vfun (fun _ => .no) mixed Try.func40 (by kernel_rfl) ?_; simp only [bodyOf, Try.f40, Option.getD_some])
  repeat' (first | with_reducible rfl | exact .inr trivial | with_reducible apply And.intro | with_reducible apply vqx_step | with_reducible apply vqm_step | with_reducible refine vkp_free (by decide +kernel) ?_ | with_reducible intro _ | ((first | (with_reducible first | refine .rs ?_ | refine .ds (by kernel_rfl) ?_ | refine .dg (by kernel_rfl) ?_ | refine .rg ?_ | refine .ite ?_ | refine .ret ?_ | refine .skip ?_ | refine .exit ?_ | refine .scope ?_ | refine .seq (.label ?_) | refine .block ?_ | refine .seq ?_)); (try simp only [vO, vQ, ↓vP, vE, vS, vB, vL, vF, vM, vN, vbs_full, Nat.reduceEqDiff, Nat.reduceAdd, Nat.reduceLeDiff, ne_eq, not_false_eq_true, Nat.reduceMul, Nat.reduceSub, Int.toNat_zero, Int.reduceToNat, Try.underlying3, info3, Try.underlying34, info34, vT])) | ((simp (disch := first | assumption | omega) only [w64, w8, tg_eq, n1, n2, nn, Int.tdiv_eq_ediv_of_nonneg, Sg.set_same, Sg.set_ne, Sg.set_ne', Sg.del_ne, Sg.del_ne']); (try simp only [vO, vQ, ↓vP, vE, vS, vB, vL, vF, vM, vN, vbs_full, Nat.reduceEqDiff, Nat.reduceAdd, Nat.reduceLeDiff, ne_eq, not_false_eq_true, Nat.reduceMul, Nat.reduceSub, Int.toNat_zero, Int.reduceToNat, Try.underlying3, info3, Try.underlying34, info34, vT])) | with_reducible refine vfresh_set ?_ | with_reducible refine vfresh_intro (fun _ _ => ?_) | with_reducible refine vif_intro (fun _ => ?_) (fun _ => ?_) | omega | ((with_reducible first | refine vop_at ?_ | refine vops_at ?_ | refine vquiet_at ?_ | refine vmix_at ?_ | refine Holds_at ?_); simp only [vO, vQ, ↓vP, vE, vS, vB, vL, vF, vM, vN, vbs_full, Nat.reduceEqDiff, Nat.reduceAdd, Nat.reduceLeDiff, ne_eq, not_false_eq_true, Nat.reduceMul, Nat.reduceSub, Int.toNat_zero, Int.reduceToNat, Try.underlying3, info3, Try.underlying34, info34, vT]))
  refine VW.loop3 (0 : Nat) () () (fun j _ _ => j ≤ min n.toNat 16) (fun j _ _ => [(0, .ref ρ 0), (1, .i n), (2, .sl k' (bytesL l)), (7, .i (bitsOf (fun m => decide (((m : Int), l) ∈ ps)) j)), (8, .i ((j : Int) + 1))]) (fun _ _ _ => σ) (fun j _ _ => 16 - j) (Nat.zero_le _) (.refl _) ?_ ?_
  · simp only [vO, vQ, ↓vP, vE, vS, vB, vL, vF, vM, vN, vbs_full, Nat.reduceEqDiff, Nat.reduceAdd, Nat.reduceLeDiff, ne_eq, not_false_eq_true, Nat.reduceMul, Nat.reduceSub, Int.toNat_zero, Int.reduceToNat, vT]
    exact ⟨rfl, rfl⟩
  rintro j _ _ h1
  have h56 := t56 ρ ps k k' ((j : Int) + 1) l σ hl hρ
  have hw : IntKind.i64.wrap ((j : Int) + 1 - 1) = (j : Int) := by rw [w64 (by omega) (by omega)]; omega
  have hw2 : IntKind.i64.wrap ((j : Int) + 1 + 1) = (j : Int) + 1 + 1 := w64 (by omega) (by omega)
  have hor : j ≤ 16 → _ := fun h => or_i64 (bitsOf_lt (fun m => decide (((m : Int), l) ∈ ps)) j) h
  have hor := hor (by omega)
  repeat' (first | with_reducible rfl | exact .inr trivial | with_reducible apply And.intro | with_reducible apply vqx_step | with_reducible apply vqm_step | with_reducible refine vkp_free (by decide +kernel) ?_ | with_reducible intro _ | ((first | (with_reducible first | refine .rs ?_ | refine .ds (by kernel_rfl) ?_ | refine .dg (by kernel_rfl) ?_ | refine .rg ?_ | refine .ite ?_ | refine .ret ?_ | refine .skip ?_ | refine .exit ?_ | refine .scope ?_ | refine .seq (.label ?_) | refine .block ?_ | refine .seq ?_)); (try simp only [vO, vQ, ↓vP, vE, vS, vB, vL, vF, vM, vN, vbs_full, Nat.reduceEqDiff, Nat.reduceAdd, Nat.reduceLeDiff, ne_eq, not_false_eq_true, Nat.reduceMul, Nat.reduceSub, Int.toNat_zero, Int.reduceToNat, Try.underlying3, info3, Try.underlying34, info34, hw, hw2, hor, Int.toNat_natCast, vT])) | ((simp (disch := first | assumption | omega) only [w64, w8, tg_eq, n1, n2, nn, Int.tdiv_eq_ediv_of_nonneg, Sg.set_same, Sg.set_ne, Sg.set_ne', Sg.del_ne, Sg.del_ne']); (try simp only [vO, vQ, ↓vP, vE, vS, vB, vL, vF, vM, vN, vbs_full, Nat.reduceEqDiff, Nat.reduceAdd, Nat.reduceLeDiff, ne_eq, not_false_eq_true, Nat.reduceMul, Nat.reduceSub, Int.toNat_zero, Int.reduceToNat, Try.underlying3, info3, Try.underlying34, info34, hw, hw2, hor, Int.toNat_natCast, vT])) | ((((with_reducible refine h56.mono ?_); rintro _ σ' ⟨rfl, rfl⟩)); (try simp only [vO, vQ, ↓vP, vE, vS, vB, vL, vF, vM, vN, vbs_full, Nat.reduceEqDiff, Nat.reduceAdd, Nat.reduceLeDiff, ne_eq, not_false_eq_true, Nat.reduceMul, Nat.reduceSub, Int.toNat_zero, Int.reduceToNat, Try.underlying3, info3, Try.underlying34, info34, hw, hw2, hor, Int.toNat_natCast, vT])) | with_reducible refine vfresh_set ?_ | with_reducible refine vfresh_intro (fun _ _ => ?_) | with_reducible refine vif_intro (fun _ => ?_) (fun _ => ?_) | omega | ((with_reducible first | refine vop_at ?_ | refine vops_at ?_ | refine vquiet_at ?_ | refine vmix_at ?_ | refine Holds_at ?_); simp only [vO, vQ, ↓vP, vE, vS, vB, vL, vF, vM, vN, vbs_full, Nat.reduceEqDiff, Nat.reduceAdd, Nat.reduceLeDiff, ne_eq, not_false_eq_true, Nat.reduceMul, Nat.reduceSub, Int.toNat_zero, Int.reduceToNat, Try.underlying3, info3, Try.underlying34, info34, hw, hw2, hor, Int.toNat_natCast, vT]))
  · exact ⟨j + 1, (), (), ⟨by omega, by omega⟩, .refl _, by rw [bitsOf, if_pos (decide_eq_true (by exact ‹_›))], i_eq (by omega)⟩
  · exact ⟨j + 1, (), (), ⟨by omega, by omega⟩, .refl _, bits_no (K := fun m : Nat => decide (((m : Int), l) ∈ ps)) (fun h => ‹¬ ((j : Int) + 1, l) ∈ ps› (of_decide_eq_true h)), i_eq (by omega)⟩
  · exact ⟨_, .refl _, by rw [show min n.toNat 16 = j by omega], rfl⟩
  · exact ⟨_, .refl _, by rw [show min n.toNat 16 = j by omega], rfl⟩
end Go.Proofs.Ytkbfngepdgdecaa
