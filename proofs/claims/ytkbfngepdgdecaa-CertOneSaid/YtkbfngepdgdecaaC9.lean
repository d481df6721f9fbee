import Derived.Test.YtkbfngepdgdecaaC8
import Derived.Test.YtkbfngepdgdecaaC3
set_option linter.unusedSimpArgs false
set_option linter.unusedVariables false
namespace Go.Proofs.Ytkbfngepdgdecaa
open Go Go.V Go.Cert
set_option maxHeartbeats 1000000 in
set_option maxRecDepth 100000 in
theorem t97 (x : Int) (σ : Sg) (hx : 0 ≤ x ∧ x < 65536) : VCalls Try.prog 97 [.val (.int .u64 x)] σ (fun y σ' => y = .i (cnt 16 x.toNat) ∧ σ' = σ) := by
  (refine vfun (fun _ => .no) mixed Try.func97 (by kernel_rfl) ?_; simp only [bodyOf, Try.f97, Option.getD_some])
  repeat' (first | with_reducible rfl | exact .inr trivial | with_reducible apply And.intro | with_reducible apply vqx_step | with_reducible apply vqm_step | with_reducible refine vkp_free (by decide +kernel) ?_ | with_reducible intro _ | ((first | (with_reducible first | refine .rs ?_ | refine .ds (by kernel_rfl) ?_ | refine .dg (by kernel_rfl) ?_ | refine .rg ?_ | refine .ite ?_ | refine .ret ?_ | refine .skip ?_ | refine .exit ?_ | refine .scope ?_ | refine .seq (.label ?_) | refine .block ?_ | refine .seq ?_)); (try simp only [vO, vQ, ↓vP, vE, vS, vB, vL, vF, vM, vN, vbs_full, Nat.reduceEqDiff, Nat.reduceAdd, Nat.reduceLeDiff, ne_eq, not_false_eq_true, Nat.reduceMul, Nat.reduceSub, Int.toNat_zero, Int.reduceToNat, Try.underlying137, info137, Try.underlying3, info3, nadd, nadd1, nadd2, nadd3, n1add, n2add, vT])) | ((simp (disch := first | assumption | omega) only [w64, w8, tg_eq, n1, n2, nn, Int.tdiv_eq_ediv_of_nonneg, Sg.set_same, Sg.set_ne, Sg.set_ne', Sg.del_ne, Sg.del_ne']); (try simp only [vO, vQ, ↓vP, vE, vS, vB, vL, vF, vM, vN, vbs_full, Nat.reduceEqDiff, Nat.reduceAdd, Nat.reduceLeDiff, ne_eq, not_false_eq_true, Nat.reduceMul, Nat.reduceSub, Int.toNat_zero, Int.reduceToNat, Try.underlying137, info137, Try.underlying3, info3, nadd, nadd1, nadd2, nadd3, n1add, n2add, vT])) | with_reducible refine vfresh_set ?_ | with_reducible refine vfresh_intro (fun _ _ => ?_) | with_reducible refine vif_intro (fun _ => ?_) (fun _ => ?_) | omega | ((with_reducible first | refine vop_at ?_ | refine vops_at ?_ | refine vquiet_at ?_ | refine vmix_at ?_ | refine Holds_at ?_); simp only [vO, vQ, ↓vP, vE, vS, vB, vL, vF, vM, vN, vbs_full, Nat.reduceEqDiff, Nat.reduceAdd, Nat.reduceLeDiff, ne_eq, not_false_eq_true, Nat.reduceMul, Nat.reduceSub, Int.toNat_zero, Int.reduceToNat, Try.underlying137, info137, Try.underlying3, info3, nadd, nadd1, nadd2, nadd3, n1add, n2add, vT]))
  refine ⟨_, .refl _, ?_, rfl⟩
  rw [← sw_cnt x hx]
  rfl
set_option maxHeartbeats 1000000 in
set_option maxRecDepth 100000 in
theorem t64 (x : Int) (σ : Sg) (hx : 0 ≤ x ∧ x < 65536) : VCalls Try.prog 64 [.val (.int .u64 x)] σ (fun y σ' => y = .i (cnt 16 x.toNat) ∧ σ' = σ) := by
  (refine vfun (fun _ => .no) mixed Try.func64 (by kernel_rfl) ?_; simp only [bodyOf, Try.f64, Option.getD_some])
  repeat' (first | with_reducible rfl | exact .inr trivial | with_reducible apply And.intro | with_reducible apply vqx_step | with_reducible apply vqm_step | with_reducible refine vkp_free (by decide +kernel) ?_ | with_reducible intro _ | ((first | (with_reducible first | refine .rs ?_ | refine .ds (by kernel_rfl) ?_ | refine .dg (by kernel_rfl) ?_ | refine .rg ?_ | refine .ite ?_ | refine .ret ?_ | refine .skip ?_ | refine .exit ?_ | refine .scope ?_ | refine .seq (.label ?_) | refine .block ?_ | refine .seq ?_)); (try simp only [vO, vQ, ↓vP, vE, vS, vB, vL, vF, vM, vN, vbs_full, Nat.reduceEqDiff, Nat.reduceAdd, Nat.reduceLeDiff, ne_eq, not_false_eq_true, Nat.reduceMul, Nat.reduceSub, Int.toNat_zero, Int.reduceToNat, Try.underlying137, info137, Try.underlying106, Try.underlying3, info3, nadd, nadd1, nadd2, nadd3, n1add, n2add, vT])) | ((simp (disch := first | assumption | omega) only [w64, w8, tg_eq, n1, n2, nn, Int.tdiv_eq_ediv_of_nonneg, Sg.set_same, Sg.set_ne, Sg.set_ne', Sg.del_ne, Sg.del_ne']); (try simp only [vO, vQ, ↓vP, vE, vS, vB, vL, vF, vM, vN, vbs_full, Nat.reduceEqDiff, Nat.reduceAdd, Nat.reduceLeDiff, ne_eq, not_false_eq_true, Nat.reduceMul, Nat.reduceSub, Int.toNat_zero, Int.reduceToNat, Try.underlying137, info137, Try.underlying106, Try.underlying3, info3, nadd, nadd1, nadd2, nadd3, n1add, n2add, vT])) | ((((with_reducible refine (t97 _ _ hx).mono ?_); rintro _ σ' ⟨rfl, rfl⟩)); (try simp only [vO, vQ, ↓vP, vE, vS, vB, vL, vF, vM, vN, vbs_full, Nat.reduceEqDiff, Nat.reduceAdd, Nat.reduceLeDiff, ne_eq, not_false_eq_true, Nat.reduceMul, Nat.reduceSub, Int.toNat_zero, Int.reduceToNat, Try.underlying137, info137, Try.underlying106, Try.underlying3, info3, nadd, nadd1, nadd2, nadd3, n1add, n2add, vT])) | with_reducible refine vfresh_set ?_ | with_reducible refine vfresh_intro (fun _ _ => ?_) | with_reducible refine vif_intro (fun _ => ?_) (fun _ => ?_) | omega | ((with_reducible first | refine vop_at ?_ | refine vops_at ?_ | refine vquiet_at ?_ | refine vmix_at ?_ | refine Holds_at ?_); simp only [vO, vQ, ↓vP, vE, vS, vB, vL, vF, vM, vN, vbs_full, Nat.reduceEqDiff, Nat.reduceAdd, Nat.reduceLeDiff, ne_eq, not_false_eq_true, Nat.reduceMul, Nat.reduceSub, Int.toNat_zero, Int.reduceToNat, Try.underlying137, info137, Try.underlying106, Try.underlying3, info3, nadd, nadd1, nadd2, nadd3, n1add, n2add, vT]))
  all_goals exact ⟨_, .refl _, rfl⟩
/-- What counts as a quorum of n: the bits of s. -/
def isQ (n s : Int) : Bool := decide (isN n ∧ 0 ≤ s ∧ s ≤ 65535 ∧ 2 * (n / 3) + 1 ≤ (cnt n.toNat s.toNat : Int))
theorem cnt_zero : ∀ n, cnt n 0 = 0
  | 0 => rfl
  | n + 1 => by rw [cnt, cnt_zero n]; simp
theorem most_pos {n : Int} (h : 0 < most n) : isN n ∧ most n = 2 * (n / 3) + 1 := by
  unfold most at *
  split at h
  · rename_i hn; exact ⟨hn, by simp [hn]⟩
  · omega
theorem most_not {n : Int} (h : ¬ 0 < most n) : ¬ isN n := fun hn => h (by
  unfold most
  rw [if_pos hn]
  have := hn.1
  omega)
theorem msk (n s : Int) (hn : 0 ≤ n ∧ n ≤ 16) (hs : 0 ≤ s ∧ s ≤ 65535) : IntKind.u64.wrap ↑(BitVec.ofInt IntKind.u64.bits s &&& BitVec.ofInt IntKind.u64.bits (IntKind.u64.wrap (IntKind.u64.wrap (1 * 2 ^ min n.toNat IntKind.u64.bits) - 1))).toNat = ((s.toNat % 2 ^ n.toNat : Nat) : Int) := by
  obtain ⟨s, rfl⟩ := Int.eq_ofNat_of_zero_le hs.1
  obtain ⟨n, rfl⟩ := Int.eq_ofNat_of_zero_le hn.1
  have hp : 2 ^ n ≤ 65536 := by
    have := Nat.pow_le_pow_right (n := 2) (by omega) (show n ≤ 16 by omega)
    simpa using this
  have hp0 : 0 < 2 ^ n := Nat.two_pow_pos n
  show IntKind.u64.wrap ↑(BitVec.ofInt 64 (s : Int) &&& BitVec.ofInt 64 (IntKind.u64.wrap (IntKind.u64.wrap (1 * 2 ^ min n 64) - 1))).toNat = ((s % 2 ^ n : Nat) : Int)
  rw [Int.one_mul, Nat.min_eq_left (by omega), pow_cast, u64_nat (n := 2 ^ n) (by omega), show (((2 ^ n : Nat) : Int) - 1) = ((2 ^ n - 1 : Nat) : Int) by omega, u64_nat (n := 2 ^ n - 1) (by omega), and_nat (by omega) (by omega), Nat.and_two_pow_sub_one_eq_mod]
  exact u64_nat (by have := Nat.mod_le s (2 ^ n); omega)
theorem cnt_le (s : Nat) : ∀ n, cnt n s ≤ n
  | 0 => Nat.le_refl _
  | n + 1 => by
    have := cnt_le s n
    have := Nat.mod_lt (s / 2 ^ n) (show 0 < 2 by omega)
    rw [cnt]
    omega
set_option maxHeartbeats 1000000 in
set_option maxRecDepth 100000 in
theorem t38 (n s : Int) (σ : Sg) : VCalls Try.prog 38 [.i n, .i s] σ (fun y σ' => y = .b (isQ n s) ∧ σ' = σ) := by
  (refine vfun (fun _ => .no) mixed Try.func38 (by kernel_rfl) ?_; simp only [bodyOf, Try.f38, Option.getD_some])
  repeat' (first | with_reducible rfl | exact .inr trivial | with_reducible apply And.intro | with_reducible apply vqx_step | with_reducible apply vqm_step | with_reducible refine vkp_free (by decide +kernel) ?_ | with_reducible intro _ | ((first | (with_reducible first | refine .rs ?_ | refine .ds (by kernel_rfl) ?_ | refine .dg (by kernel_rfl) ?_ | refine .rg ?_ | refine .ite ?_ | refine .ret ?_ | refine .skip ?_ | refine .exit ?_ | refine .scope ?_ | refine .seq (.label ?_) | refine .block ?_ | refine .seq ?_)); (try simp only [vO, vQ, ↓vP, vE, vS, vB, vL, vF, vM, vN, vbs_full, Nat.reduceEqDiff, Nat.reduceAdd, Nat.reduceLeDiff, ne_eq, not_false_eq_true, Nat.reduceMul, Nat.reduceSub, Int.toNat_zero, Int.reduceToNat, Try.underlying137, info137, Try.underlying106, Try.underlying3, info3, nadd, nadd1, nadd2, nadd3, n1add, n2add, vT])) | ((simp (disch := first | assumption | omega) only [w64, w8, tg_eq, n1, n2, nn, Int.tdiv_eq_ediv_of_nonneg, Sg.set_same, Sg.set_ne, Sg.set_ne', Sg.del_ne, Sg.del_ne']); (try simp only [vO, vQ, ↓vP, vE, vS, vB, vL, vF, vM, vN, vbs_full, Nat.reduceEqDiff, Nat.reduceAdd, Nat.reduceLeDiff, ne_eq, not_false_eq_true, Nat.reduceMul, Nat.reduceSub, Int.toNat_zero, Int.reduceToNat, Try.underlying137, info137, Try.underlying106, Try.underlying3, info3, nadd, nadd1, nadd2, nadd3, n1add, n2add, vT])) | ((((with_reducible refine (t63 _ _).mono ?_); rintro _ σ' ⟨rfl, rfl⟩)); (try simp only [vO, vQ, ↓vP, vE, vS, vB, vL, vF, vM, vN, vbs_full, Nat.reduceEqDiff, Nat.reduceAdd, Nat.reduceLeDiff, ne_eq, not_false_eq_true, Nat.reduceMul, Nat.reduceSub, Int.toNat_zero, Int.reduceToNat, Try.underlying137, info137, Try.underlying106, Try.underlying3, info3, nadd, nadd1, nadd2, nadd3, n1add, n2add, vT])) | ((((with_reducible refine (t65 _ _).mono ?_); rintro _ σ' ⟨rfl, rfl⟩)); (try simp only [vO, vQ, ↓vP, vE, vS, vB, vL, vF, vM, vN, vbs_full, Nat.reduceEqDiff, Nat.reduceAdd, Nat.reduceLeDiff, ne_eq, not_false_eq_true, Nat.reduceMul, Nat.reduceSub, Int.toNat_zero, Int.reduceToNat, Try.underlying137, info137, Try.underlying106, Try.underlying3, info3, nadd, nadd1, nadd2, nadd3, n1add, n2add, vT])) | ((((with_reducible refine (t64 _ _ ?_).mono ?_); rotate_left; rintro _ σ' ⟨rfl, rfl⟩)); (try simp only [vO, vQ, ↓vP, vE, vS, vB, vL, vF, vM, vN, vbs_full, Nat.reduceEqDiff, Nat.reduceAdd, Nat.reduceLeDiff, ne_eq, not_false_eq_true, Nat.reduceMul, Nat.reduceSub, Int.toNat_zero, Int.reduceToNat, Try.underlying137, info137, Try.underlying106, Try.underlying3, info3, nadd, nadd1, nadd2, nadd3, n1add, n2add, vT])) | with_reducible refine vfresh_set ?_ | with_reducible refine vfresh_intro (fun _ _ => ?_) | with_reducible refine vif_intro (fun _ => ?_) (fun _ => ?_) | omega | ((with_reducible first | refine vop_at ?_ | refine vops_at ?_ | refine vquiet_at ?_ | refine vmix_at ?_ | refine Holds_at ?_); simp only [vO, vQ, ↓vP, vE, vS, vB, vL, vF, vM, vN, vbs_full, Nat.reduceEqDiff, Nat.reduceAdd, Nat.reduceLeDiff, ne_eq, not_false_eq_true, Nat.reduceMul, Nat.reduceSub, Int.toNat_zero, Int.reduceToNat, Try.underlying137, info137, Try.underlying106, Try.underlying3, info3, nadd, nadd1, nadd2, nadd3, n1add, n2add, vT]))
  · have := (most_pos ‹_›).1.1
    omega
  · have hN := (most_pos ‹_›).1
    rw [msk n _ ⟨by have := hN.1; omega, hN.2.1⟩ (by split <;> omega)]
    omega
  · have hN := (most_pos ‹_›).1
    rw [msk n _ ⟨by have := hN.1; omega, hN.2.1⟩ (by split <;> omega)]
    have : (if 0 ≤ s ∧ s ≤ 65535 then s else 0) ≤ 65535 := by split <;> omega
    have := Nat.mod_le (if 0 ≤ s ∧ s ≤ 65535 then s else 0).toNat (2 ^ n.toNat)
    omega
  · obtain ⟨hN, hm⟩ := most_pos ‹_›
    refine ⟨_, .refl _, ?_, rfl⟩
    rw [msk n _ ⟨by have := hN.1; omega, hN.2.1⟩ (by split <;> omega), hm, Int.toNat_natCast, cnt_mod, Nat.min_eq_right (by have := hN.2.1; omega)]
    refine congrArg AV.b ?_
    unfold isQ
    rw [decide_eq_decide]
    split
    · rename_i hs
      exact ⟨fun h => ⟨hN, hs.1, hs.2, h⟩, fun h => h.2.2.2⟩
    · rename_i hs
      refine ⟨fun h => ?_, fun h => absurd ⟨h.2.1, h.2.2.1⟩ hs⟩
      rw [show (0 : Int).toNat = 0 from rfl, cnt_zero] at h
      have := hN.1
      omega
  · have hN := most_not ‹¬ 0 < most n›
    exact ⟨_, .refl _, by simp [isQ, hN], rfl⟩
end Go.Proofs.Ytkbfngepdgdecaa
