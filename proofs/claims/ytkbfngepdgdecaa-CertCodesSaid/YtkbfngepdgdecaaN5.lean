/- Part 5 of the proof: C9, C10, C11, C12, C2, C5. -/
import Derived.Test.YtkbfngepdgdecaaN4

set_option linter.unusedSimpArgs false
set_option linter.unusedVariables false
namespace Go.Proofs.Ytkbfngepdgdecaa
open Go Go.V Go.Cert
set_option maxHeartbeats 1000000 in
set_option maxRecDepth 100000 in
theorem t97 (x : Int) (σ : Sg) (hx : 0 ≤ x ∧ x < 65536) : VCalls Try.prog 97 [.val (.int .u64 x)] σ (fun y σ' => y = .i (cnt 16 x.toNat) ∧ σ' = σ) := by
  (refine vfun (fun _ => .no) mixed Try.func97 (by kernel_rfl) ?_; simp only [bodyOf, Try.f97, Option.getD_some])
  repeat' (first | with_reducible rfl | exact .inr trivial | with_reducible apply And.intro | with_reducible apply vqx_step | with_reducible apply vqm_step | with_reducible refine vkp_free (by decide +kernel) ?_ | with_reducible intro _ | ((first | (with_reducible first | refine .rs ?_ | refine .ds (by kernel_rfl) ?_ | refine .dg (by kernel_rfl) ?_ | refine .rg ?_ | refine .ite ?_ | refine .ret ?_ | refine .skip ?_ | refine .exit ?_ | refine .scope ?_ | refine .seq (.label ?_) | refine .block ?_ | refine .seq ?_)); (try simp only [vO, vQ, ↓vP, vE, vS, vB, vL, vF, vM, vN, vbs_full, Nat.reduceEqDiff, Nat.reduceAdd, Nat.reduceLeDiff, ne_eq, not_false_eq_true, Nat.reduceMul, Nat.reduceSub, Int.toNat_zero, Int.reduceToNat, Try.underlying137, info137, Try.underlying3, info3, nadd, nadd1, nadd2, nadd3, n1add, n2add, vT])) | ((simp (disch := first | assumption | omega) only [w64, w8, tg_eq, n1, n2, nn, Int.tdiv_eq_ediv_of_nonneg, Sg.set_same, Sg.set_ne, Sg.set_ne', Sg.del_ne, Sg.del_ne']); (try simp only [vO, vQ, ↓vP, vE, vS, vB, vL, vF, vM, vN, vbs_full, Nat.reduceEqDiff, Nat.reduceAdd, Nat.reduceLeDiff, ne_eq, not_false_eq_true, Nat.reduceMul, Nat.reduceSub, Int.toNat_zero, Int.reduceToNat, Try.underlying137, info137, Try.underlying3, info3, nadd, nadd1, nadd2, nadd3, n1add, n2add, vT])) | with_reducible refine vfresh_set ?_ | with_reducible refine vfresh_intro (fun _ _ => ?_) | with_reducible refine vif_intro (fun _ => ?_) (fun _ => ?_) | omega | ((with_reducible first | refine vop_at ?_ | refine vops_at ?_ | refine vquiet_at ?_ | refine vmix_at ?_ | refine Holds_at ?_); simp only [vO, vQ, ↓vP, vE, vS, vB, vL, vF, vM, vN, vbs_full, Nat.reduceEqDiff, Nat.reduceAdd, Nat.reduceLeDiff, ne_eq, not_false_eq_true, Nat.reduceMul, Nat.reduceSub, Int.toNat_zero, Int.reduceToNat, Try.underlying137, info137, Try.underlying3, info3, nadd, nadd1, nadd2, nadd3, n1add, n2add, vT]))
  refine ⟨_, .refl _, ?_, rfl⟩
  rw [← sw_cnt x hx]
  rfl
set_option maxHeartbeats 1000000 in
set_option maxRecDepth 100000 in
theorem t64 (x : Int) (σ : Sg) (hx : 0 ≤ x ∧ x < 65536) : VCalls Try.prog 64 [.val (.int .u64 x)] σ (fun y σ' => y = .i (cnt 16 x.toNat) ∧ σ' = σ) := by
  (refine vfun (fun _ => .no) mixed Try.func64 (by kernel_rfl) ?_; simp only [bodyOf, Try.f64, Option.getD_some])
  repeat' (first | with_reducible rfl | exact .inr trivial | with_reducible apply And.intro | with_reducible apply vqx_step | with_reducible apply vqm_step | with_reducible refine vkp_free (by decide +kernel) ?_ | with_reducible intro _ | ((first | (with_reducible first | refine .rs ?_ | refine .ds (by kernel_rfl) ?_ | refine .dg (by kernel_rfl) ?_ | refine .rg ?_ | refine .ite ?_ | refine .ret ?_ | refine .skip ?_ | refine .exit ?_ | refine .scope ?_ | refine .seq (.label ?_) | refine .block ?_ | refine .seq ?_)); (try simp only [vO, vQ, ↓vP, vE, vS, vB, vL, vF, vM, vN, vbs_full, Nat.reduceEqDiff, Nat.reduceAdd, Nat.reduceLeDiff, ne_eq, not_false_eq_true, Nat.reduceMul, Nat.reduceSub, Int.toNat_zero, Int.reduceToNat, Try.underlying137, info137, Try.underlying106, Try.underlying3, info3, nadd, nadd1, nadd2, nadd3, n1add, n2add, vT])) | ((simp (disch := first | assumption | omega) only [w64, w8, tg_eq, n1, n2, nn, Int.tdiv_eq_ediv_of_nonneg, Sg.set_same, Sg.set_ne, Sg.set_ne', Sg.del_ne, Sg.del_ne']); (try simp only [vO, vQ, ↓vP, vE, vS, vB, vL, vF, vM, vN, vbs_full, Nat.reduceEqDiff, Nat.reduceAdd, Nat.reduceLeDiff, ne_eq, not_false_eq_true, Nat.reduceMul, Nat.reduceSub, Int.toNat_zero, Int.reduceToNat, Try.underlying137, info137, Try.underlying106, Try.underlying3, info3, nadd, nadd1, nadd2, nadd3, n1add, n2add, vT])) | ((((with_reducible refine (t97 _ _ hx).mono ?_); rintro _ σ' ⟨rfl, rfl⟩)); (try simp only [vO, vQ, ↓vP, vE, vS, vB, vL, vF, vM, vN, vbs_full, Nat.reduceEqDiff, Nat.reduceAdd, Nat.reduceLeDiff, ne_eq, not_false_eq_true, Nat.reduceMul, Nat.reduceSub, Int.toNat_zero, Int.reduceToNat, Try.underlying137, info137, Try.underlying106, Try.underlying3, info3, nadd, nadd1, nadd2, nadd3, n1add, n2add, vT])) | with_reducible refine vfresh_set ?_ | with_reducible refine vfresh_intro (fun _ _ => ?_) | with_reducible refine vif_intro (fun _ => ?_) (fun _ => ?_) | omega | ((with_reducible first | refine vop_at ?_ | refine vops_at ?_ | refine vquiet_at ?_ | refine vmix_at ?_ | refine Holds_at ?_); simp only [vO, vQ, ↓vP, vE, vS, vB, vL, vF, vM, vN, vbs_full, Nat.reduceEqDiff, Nat.reduceAdd, Nat.reduceLeDiff, ne_eq, not_false_eq_true, Nat.reduceMul, Nat.reduceSub, Int.toNat_zero, Int.reduceToNat, Try.underlying137, info137, Try.underlying106, Try.underlying3, info3, nadd, nadd1, nadd2, nadd3, n1add, n2add, vT]))
  all_goals exact ⟨_, .refl _, rfl⟩
/-- What counts as a quorum of n: the bits of s. -/
def isQ (n s : Int) : Bool := decide (isN n ∧ 0 ≤ s ∧ s ≤ 65535 ∧ 2 * (n / 3) + 1 ≤ (cnt n.toNat s.toNat : Int))
theorem cnt_zero : ∀ n, cnt n 0 = 0
  | 0 => rfl
  | n + 1 => by rw [cnt, cnt_zero n]; simp
theorem most_pos {n : Int} (h : 0 < most n) : isN n ∧ most n = 2 * (n / 3) + 1 := by
  unfold most at *
  split at h
  · rename_i hn; exact ⟨hn, by simp [hn]⟩
  · omega
theorem most_not {n : Int} (h : ¬ 0 < most n) : ¬ isN n := fun hn => h (by
  unfold most
  rw [if_pos hn]
  have := hn.1
  omega)
theorem msk (n s : Int) (hn : 0 ≤ n ∧ n ≤ 16) (hs : 0 ≤ s ∧ s ≤ 65535) : IntKind.u64.wrap ↑(BitVec.ofInt IntKind.u64.bits s &&& BitVec.ofInt IntKind.u64.bits (IntKind.u64.wrap (IntKind.u64.wrap (1 * 2 ^ min n.toNat IntKind.u64.bits) - 1))).toNat = ((s.toNat % 2 ^ n.toNat : Nat) : Int) := by
  obtain ⟨s, rfl⟩ := Int.eq_ofNat_of_zero_le hs.1
  obtain ⟨n, rfl⟩ := Int.eq_ofNat_of_zero_le hn.1
  have hp : 2 ^ n ≤ 65536 := by
    have := Nat.pow_le_pow_right (n := 2) (by omega) (show n ≤ 16 by omega)
    simpa using this
  have hp0 : 0 < 2 ^ n := Nat.two_pow_pos n
  show IntKind.u64.wrap ↑(BitVec.ofInt 64 (s : Int) &&& BitVec.ofInt 64 (IntKind.u64.wrap (IntKind.u64.wrap (1 * 2 ^ min n 64) - 1))).toNat = ((s % 2 ^ n : Nat) : Int)
  rw [Int.one_mul, Nat.min_eq_left (by omega), pow_cast, u64_nat (n := 2 ^ n) (by omega), show (((2 ^ n : Nat) : Int) - 1) = ((2 ^ n - 1 : Nat) : Int) by omega, u64_nat (n := 2 ^ n - 1) (by omega), and_nat (by omega) (by omega), Nat.and_two_pow_sub_one_eq_mod]
  exact u64_nat (by have := Nat.mod_le s (2 ^ n); omega)
theorem cnt_le (s : Nat) : ∀ n, cnt n s ≤ n
  | 0 => Nat.le_refl _
  | n + 1 => by
    have := cnt_le s n
    have := Nat.mod_lt (s / 2 ^ n) (show 0 < 2 by omega)
    rw [cnt]
    omega
set_option maxHeartbeats 1000000 in
set_option maxRecDepth 100000 in
theorem t38 (n s : Int) (σ : Sg) : VCalls Try.prog 38 [.i n, .i s] σ (fun y σ' => y = .b (isQ n s) ∧ σ' = σ) := by
  (refine vfun (fun _ => .no) mixed Try.func38 (by kernel_rfl) ?_; simp only [bodyOf, Try.f38, Option.getD_some])
  repeat' (first | with_reducible rfl | exact .inr trivial | with_reducible apply And.intro | with_reducible apply vqx_step | with_reducible apply vqm_step | with_reducible refine vkp_free (by decide +kernel) ?_ | with_reducible intro _ | ((first | (with_reducible first | refine .rs ?_ | refine .ds (by kernel_rfl) ?_ | refine .dg (by kernel_rfl) ?_ | refine .rg ?_ | refine .ite ?_ | refine .ret ?_ | refine .skip ?_ | refine .exit ?_ | refine .scope ?_ | refine .seq (.label ?_) | refine .block ?_ | refine .seq ?_)); (try simp only [vO, vQ, ↓vP, vE, vS, vB, vL, vF, vM, vN, vbs_full, Nat.reduceEqDiff, Nat.reduceAdd, Nat.reduceLeDiff, ne_eq, not_false_eq_true, Nat.reduceMul, Nat.reduceSub, Int.toNat_zero, Int.reduceToNat, Try.underlying137, info137, Try.underlying106, Try.underlying3, info3, nadd, nadd1, nadd2, nadd3, n1add, n2add, vT])) | ((simp (disch := first | assumption | omega) only [w64, w8, tg_eq, n1, n2, nn, Int.tdiv_eq_ediv_of_nonneg, Sg.set_same, Sg.set_ne, Sg.set_ne', Sg.del_ne, Sg.del_ne']); (try simp only [vO, vQ, ↓vP, vE, vS, vB, vL, vF, vM, vN, vbs_full, Nat.reduceEqDiff, Nat.reduceAdd, Nat.reduceLeDiff, ne_eq, not_false_eq_true, Nat.reduceMul, Nat.reduceSub, Int.toNat_zero, Int.reduceToNat, Try.underlying137, info137, Try.underlying106, Try.underlying3, info3, nadd, nadd1, nadd2, nadd3, n1add, n2add, vT])) | ((((with_reducible refine (t63 _ _).mono ?_); rintro _ σ' ⟨rfl, rfl⟩)); (try simp only [vO, vQ, ↓vP, vE, vS, vB, vL, vF, vM, vN, vbs_full, Nat.reduceEqDiff, Nat.reduceAdd, Nat.reduceLeDiff, ne_eq, not_false_eq_true, Nat.reduceMul, Nat.reduceSub, Int.toNat_zero, Int.reduceToNat, Try.underlying137, info137, Try.underlying106, Try.underlying3, info3, nadd, nadd1, nadd2, nadd3, n1add, n2add, vT])) | ((((with_reducible refine (t65 _ _).mono ?_); rintro _ σ' ⟨rfl, rfl⟩)); (try simp only [vO, vQ, ↓vP, vE, vS, vB, vL, vF, vM, vN, vbs_full, Nat.reduceEqDiff, Nat.reduceAdd, Nat.reduceLeDiff, ne_eq, not_false_eq_true, Nat.reduceMul, Nat.reduceSub, Int.toNat_zero, Int.reduceToNat, Try.underlying137, info137, Try.underlying106, Try.underlying3, info3, nadd, nadd1, nadd2, nadd3, n1add, n2add, vT])) | ((((with_reducible refine (t64 _ _ ?_).mono ?_); rotate_left; rintro _ σ' ⟨rfl, rfl⟩)); (try simp only [vO, vQ, ↓vP, vE, vS, vB, vL, vF, vM, vN, vbs_full, Nat.reduceEqDiff, Nat.reduceAdd, Nat.reduceLeDiff, ne_eq, not_false_eq_true, Nat.reduceMul, Nat.reduceSub, Int.toNat_zero, Int.reduceToNat, Try.underlying137, info137, Try.underlying106, Try.underlying3, info3, nadd, nadd1, nadd2, nadd3, n1add, n2add, vT])) | with_reducible refine vfresh_set ?_ | with_reducible refine vfresh_intro (fun _ _ => ?_) | with_reducible refine vif_intro (fun _ => ?_) (fun _ => ?_) | omega | ((with_reducible first | refine vop_at ?_ | refine vops_at ?_ | refine vquiet_at ?_ | refine vmix_at ?_ | refine Holds_at ?_); simp only [vO, vQ, ↓vP, vE, vS, vB, vL, vF, vM, vN, vbs_full, Nat.reduceEqDiff, Nat.reduceAdd, Nat.reduceLeDiff, ne_eq, not_false_eq_true, Nat.reduceMul, Nat.reduceSub, Int.toNat_zero, Int.reduceToNat, Try.underlying137, info137, Try.underlying106, Try.underlying3, info3, nadd, nadd1, nadd2, nadd3, n1add, n2add, vT]))
  · have := (most_pos ‹_›).1.1
    omega
  · have hN := (most_pos ‹_›).1
    rw [msk n _ ⟨by have := hN.1; omega, hN.2.1⟩ (by split <;> omega)]
    omega
  · have hN := (most_pos ‹_›).1
    rw [msk n _ ⟨by have := hN.1; omega, hN.2.1⟩ (by split <;> omega)]
    have : (if 0 ≤ s ∧ s ≤ 65535 then s else 0) ≤ 65535 := by split <;> omega
    have := Nat.mod_le (if 0 ≤ s ∧ s ≤ 65535 then s else 0).toNat (2 ^ n.toNat)
    omega
  · obtain ⟨hN, hm⟩ := most_pos ‹_›
    refine ⟨_, .refl _, ?_, rfl⟩
    rw [msk n _ ⟨by have := hN.1; omega, hN.2.1⟩ (by split <;> omega), hm, Int.toNat_natCast, cnt_mod, Nat.min_eq_right (by have := hN.2.1; omega)]
    refine congrArg AV.b ?_
    unfold isQ
    rw [decide_eq_decide]
    split
    · rename_i hs
      exact ⟨fun h => ⟨hN, hs.1, hs.2, h⟩, fun h => h.2.2.2⟩
    · rename_i hs
      refine ⟨fun h => ?_, fun h => absurd ⟨h.2.1, h.2.2.1⟩ hs⟩
      rw [show (0 : Int).toNat = 0 from rfl, cnt_zero] at h
      have := hN.1
      omega
  · have hN := most_not ‹¬ 0 < most n›
    exact ⟨_, .refl _, by simp [isQ, hN], rfl⟩
end Go.Proofs.Ytkbfngepdgdecaa

set_option linter.unusedSimpArgs false
set_option linter.unusedVariables false
namespace Go.Cert
open Go.V
/-- The members of s below k, counted from 1. -/
def mem : Nat → Nat → List Nat
  | 0, _ => []
  | k + 1, s => mem k s ++ if s / 2 ^ k % 2 = 1 then [k + 1] else []
def memA (s : Int) : List Nat := if 0 ≤ s ∧ s < 65536 then mem 16 s.toNat else []
def intsL (l : List Nat) : List (List AV) := l.map fun k : Nat => [AV.i (k : Int)]
theorem intsL_len (l : List Nat) : (intsL l).length = l.length := by simp [intsL]
theorem intsL_all (l : List Nat) : allLen (intsL l) 1 = True := by
  refine eq_true (fun e he => ?_)
  obtain ⟨b, _, rfl⟩ := List.mem_map.1 he
  rfl
theorem mem_step (k s : Nat) : mem (k + 1) s = mem k s ++ if s / 2 ^ k % 2 = 1 then [k + 1] else [] := rfl
theorem tmod_nat (m : Nat) : ((m : Int).tmod 2 = 1) = (m % 2 = 1) := by
  rw [Int.tmod_eq_emod_of_nonneg (by omega)]
  exact propext ⟨fun h => by omega, fun h => by omega⟩
theorem intsL_app (a b : List Nat) : intsL a ++ intsL b = intsL (a ++ b) := by simp [intsL]
theorem intsL_get (l : List Nat) (j : Nat) (h : j < l.length) : (intsL l).getD j [] = [.i (l[j] : Nat)] := by
  simp [intsL, List.getD_eq_getElem?_getD, List.getElem?_eq_getElem h]
theorem mem_len (s : Nat) : ∀ k, (mem k s).length ≤ k
  | 0 => Nat.le_refl _
  | k + 1 => by
    have := mem_len s k
    rw [mem, List.length_append]
    split <;> simp <;> omega
theorem mem_cnt (s : Nat) (n : Int) : ∀ k, (mem k s).countP (fun m : Nat => decide ((m : Int) ≤ n)) = cnt (min k n.toNat) s
  | 0 => by simp [mem, cnt]
  | k + 1 => by
    have hb := Nat.mod_two_eq_zero_or_one (s / 2 ^ k)
    rw [mem, List.countP_append, mem_cnt s n k]
    rcases Nat.lt_or_ge k n.toNat with h | h
    · rw [Nat.min_eq_left (by omega), Nat.min_eq_left (by omega), cnt]
      split
      · rename_i h1
        have : decide (((k + 1 : Nat) : Int) ≤ n) = true := by simp; omega
        rw [List.countP_singleton, this, h1]
        rfl
      · rename_i h1
        rw [List.countP_nil]
        omega
    · rw [Nat.min_eq_right (by omega), Nat.min_eq_right (by omega)]
      split
      · have : decide (((k + 1 : Nat) : Int) ≤ n) = false := by simp; omega
        rw [List.countP_singleton, this]
        rfl
      · rw [List.countP_nil]
        omega
theorem Grown.use {e sz : Nat} {es : List (List AV)} {σ S : Sg} {V : AV} (h : Grown e sz es σ V S) : ∃ k, V = .sl k es ∧ σ.sub S := by
  rcases h with ⟨rfl, rfl, rfl⟩ | ⟨τ, hτ, rfl, rfl⟩
  · exact ⟨_, rfl, .refl _⟩
  · exact ⟨_, rfl, Sg.sub.set_fresh (.refl _) hτ⟩
end Go.Cert
namespace Go.Proofs.Ytkbfngepdgdecaa
open Go Go.V Go.Cert
set_option maxHeartbeats 1000000 in
set_option maxRecDepth 100000 in
theorem t67 (s : Int) (σ : Sg) : VCalls Try.prog 67 [.i s] σ (fun x σ' => Grown 3 1 (intsL (memA s)) σ x σ') := by
  (refine vfun (fun _ => .no) mixed Try.func67 (by kernel_rfl) ?_; simp only [bodyOf, Try.f67, Option.getD_some])
  repeat' (first | with_reducible rfl | exact .inr trivial | with_reducible apply And.intro | with_reducible apply vqx_step | with_reducible apply vqm_step | with_reducible refine vkp_free (by decide +kernel) ?_ | with_reducible intro _ | ((first | (with_reducible first | refine .rs ?_ | refine .ds (by kernel_rfl) ?_ | refine .dg (by kernel_rfl) ?_ | refine .rg ?_ | refine .ite ?_ | refine .ret ?_ | refine .skip ?_ | refine .exit ?_ | refine .scope ?_ | refine .seq (.label ?_) | refine .block ?_ | refine .seq ?_)); (try simp only [vO, vQ, ↓vP, vE, vS, vB, vL, vF, vM, vN, vbs_full, Nat.reduceEqDiff, Nat.reduceAdd, Nat.reduceLeDiff, ne_eq, not_false_eq_true, Nat.reduceMul, Nat.reduceSub, Int.toNat_zero, Int.reduceToNat, Try.underlying137, info137, Try.underlying3, info3, Try.underlying108, info108, nadd, nadd1, nadd2, nadd3, n1add, n2add, vT])) | ((simp (disch := first | assumption | omega) only [w64, w8, tg_eq, n1, n2, nn, Int.tdiv_eq_ediv_of_nonneg, Sg.set_same, Sg.set_ne, Sg.set_ne', Sg.del_ne, Sg.del_ne']); (try simp only [vO, vQ, ↓vP, vE, vS, vB, vL, vF, vM, vN, vbs_full, Nat.reduceEqDiff, Nat.reduceAdd, Nat.reduceLeDiff, ne_eq, not_false_eq_true, Nat.reduceMul, Nat.reduceSub, Int.toNat_zero, Int.reduceToNat, Try.underlying137, info137, Try.underlying3, info3, Try.underlying108, info108, nadd, nadd1, nadd2, nadd3, n1add, n2add, vT])) | with_reducible refine vfresh_set ?_ | with_reducible refine vfresh_intro (fun _ _ => ?_) | with_reducible refine vif_intro (fun _ => ?_) (fun _ => ?_) | omega | ((with_reducible first | refine vop_at ?_ | refine vops_at ?_ | refine vquiet_at ?_ | refine vmix_at ?_ | refine Holds_at ?_); simp only [vO, vQ, ↓vP, vE, vS, vB, vL, vF, vM, vN, vbs_full, Nat.reduceEqDiff, Nat.reduceAdd, Nat.reduceLeDiff, ne_eq, not_false_eq_true, Nat.reduceMul, Nat.reduceSub, Int.toNat_zero, Int.reduceToNat, Try.underlying137, info137, Try.underlying3, info3, Try.underlying108, info108, nadd, nadd1, nadd2, nadd3, n1add, n2add, vT]))
  · exact ⟨_, .refl _, by rw [memA, if_neg (by omega)]; exact .nil _ _ _⟩
  · exact ⟨_, .refl _, by rw [memA, if_neg (by omega)]; exact .nil _ _ _⟩
  obtain ⟨s, rfl⟩ := Int.eq_ofNat_of_zero_le (show 0 ≤ s by omega)
  refine VW.loop3 (0 : Nat) (.sl .nil []) σ (fun j V S => j ≤ 16 ∧ Grown 3 1 (intsL (mem j s)) σ V S) (fun j V _ => [(0, .i (s : Int)), (3, V), (4, .i ((j : Int) + 1))]) (fun _ _ S => S) (fun j _ _ => 16 - j) ⟨by omega, .nil _ _ _⟩ (.refl _) ?_ ?_
  · simp only [vO, vQ, ↓vP, vE, vS, vB, vL, vF, vM, vN, vbs_full, Nat.reduceEqDiff, Nat.reduceAdd, Nat.reduceLeDiff, ne_eq, not_false_eq_true, Nat.reduceMul, Nat.reduceSub, Int.toNat_zero, Int.reduceToNat, vT]
    rfl
  rintro j V S ⟨h1, hG⟩
  have hlen := mem_len s j
  have hw : IntKind.i64.wrap ((j : Int) + 1 - 1) = (j : Int) := by rw [w64 (by omega) (by omega)]; omega
  have hw2 : IntKind.i64.wrap ((j : Int) + 1 + 1) = (j : Int) + 1 + 1 := w64 (by omega) (by omega)
  have hsh : (s : Int).fdiv (2 ^ (min j IntKind.i64.bits)) = ((s / 2 ^ j : Nat) : Int) := shr_nat _ _ (by omega)
  have hend : ¬ (j : Int) + 1 ≤ 16 → memA (s : Int) = mem j s := fun h => by
    obtain rfl : j = 16 := by omega
    rw [memA, if_pos (by omega), Int.toNat_natCast]
  rcases hG with ⟨h5, rfl, rfl⟩ | ⟨τ, hτ, rfl, rfl⟩
  · have h0 : mem j s = [] := by simpa [intsL] using h5
    repeat' (first | with_reducible rfl | exact .inr trivial | with_reducible apply And.intro | with_reducible apply vqx_step | with_reducible apply vqm_step | with_reducible refine vkp_free (by decide +kernel) ?_ | with_reducible intro _ | ((first | (with_reducible first | refine .rs ?_ | refine .ds (by kernel_rfl) ?_ | refine .dg (by kernel_rfl) ?_ | refine .rg ?_ | refine .ite ?_ | refine .ret ?_ | refine .skip ?_ | refine .exit ?_ | refine .scope ?_ | refine .seq (.label ?_) | refine .block ?_ | refine .seq ?_)); (try simp only [vO, vQ, ↓vP, vE, vS, vB, vL, vF, vM, vN, vbs_full, Nat.reduceEqDiff, Nat.reduceAdd, Nat.reduceLeDiff, ne_eq, not_false_eq_true, Nat.reduceMul, Nat.reduceSub, Int.toNat_zero, Int.reduceToNat, Try.underlying3, Try.underlying108, info3, info108, intsL_len, intsL_all, hw, hw2, hsh, tmod_nat, Int.toNat_natCast, vT])) | ((simp (disch := first | assumption | omega) only [w64, w8, tg_eq, n1, n2, nn, Int.tdiv_eq_ediv_of_nonneg, Sg.set_same, Sg.set_ne, Sg.set_ne', Sg.del_ne, Sg.del_ne']); (try simp only [vO, vQ, ↓vP, vE, vS, vB, vL, vF, vM, vN, vbs_full, Nat.reduceEqDiff, Nat.reduceAdd, Nat.reduceLeDiff, ne_eq, not_false_eq_true, Nat.reduceMul, Nat.reduceSub, Int.toNat_zero, Int.reduceToNat, Try.underlying3, Try.underlying108, info3, info108, intsL_len, intsL_all, hw, hw2, hsh, tmod_nat, Int.toNat_natCast, vT])) | with_reducible refine vfresh_set ?_ | with_reducible refine vfresh_intro (fun _ _ => ?_) | with_reducible refine vif_intro (fun _ => ?_) (fun _ => ?_) | omega | ((with_reducible first | refine vop_at ?_ | refine vops_at ?_ | refine vquiet_at ?_ | refine vmix_at ?_ | refine Holds_at ?_); simp only [vO, vQ, ↓vP, vE, vS, vB, vL, vF, vM, vN, vbs_full, Nat.reduceEqDiff, Nat.reduceAdd, Nat.reduceLeDiff, ne_eq, not_false_eq_true, Nat.reduceMul, Nat.reduceSub, Int.toNat_zero, Int.reduceToNat, Try.underlying3, Try.underlying108, info3, info108, intsL_len, intsL_all, hw, hw2, hsh, tmod_nat, Int.toNat_natCast, vT]))
    · exact ⟨j + 1, .sl (.tok _ 1) (intsL (mem (j + 1) s)), _, ⟨⟨by omega, .tok (by assumption)⟩, by omega⟩, .refl _, by rw [mem_step, h0, if_pos ‹_›]; rfl, i_eq (by omega)⟩
    · exact ⟨j + 1, .sl .nil [], S, ⟨⟨by omega, by rw [mem_step, if_neg ‹_›, List.append_nil, h0]; exact .nil _ _ _⟩, by omega⟩, .refl _, rfl, i_eq (by omega)⟩
    · exact ⟨S, .refl _, by rw [hend ‹_›, h0]; exact .nil _ _ _⟩
  · repeat' (first | with_reducible rfl | exact .inr trivial | with_reducible apply And.intro | with_reducible apply vqx_step | with_reducible apply vqm_step | with_reducible refine vkp_free (by decide +kernel) ?_ | with_reducible intro _ | ((first | (with_reducible first | refine .rs ?_ | refine .ds (by kernel_rfl) ?_ | refine .dg (by kernel_rfl) ?_ | refine .rg ?_ | refine .ite ?_ | refine .ret ?_ | refine .skip ?_ | refine .exit ?_ | refine .scope ?_ | refine .seq (.label ?_) | refine .block ?_ | refine .seq ?_)); (try simp only [vO, vQ, ↓vP, vE, vS, vB, vL, vF, vM, vN, vbs_full, Nat.reduceEqDiff, Nat.reduceAdd, Nat.reduceLeDiff, ne_eq, not_false_eq_true, Nat.reduceMul, Nat.reduceSub, Int.toNat_zero, Int.reduceToNat, Try.underlying3, Try.underlying108, info3, info108, intsL_len, intsL_all, hw, hw2, hsh, tmod_nat, Int.toNat_natCast, vT])) | ((simp (disch := first | assumption | omega) only [w64, w8, tg_eq, n1, n2, nn, Int.tdiv_eq_ediv_of_nonneg, Sg.set_same, Sg.set_ne, Sg.set_ne', Sg.del_ne, Sg.del_ne']); (try simp only [vO, vQ, ↓vP, vE, vS, vB, vL, vF, vM, vN, vbs_full, Nat.reduceEqDiff, Nat.reduceAdd, Nat.reduceLeDiff, ne_eq, not_false_eq_true, Nat.reduceMul, Nat.reduceSub, Int.toNat_zero, Int.reduceToNat, Try.underlying3, Try.underlying108, info3, info108, intsL_len, intsL_all, hw, hw2, hsh, tmod_nat, Int.toNat_natCast, vT])) | with_reducible refine vfresh_set ?_ | with_reducible refine vfresh_intro (fun _ _ => ?_) | with_reducible refine vif_intro (fun _ => ?_) (fun _ => ?_) | omega | ((with_reducible first | refine vop_at ?_ | refine vops_at ?_ | refine vquiet_at ?_ | refine vmix_at ?_ | refine Holds_at ?_); simp only [vO, vQ, ↓vP, vE, vS, vB, vL, vF, vM, vN, vbs_full, Nat.reduceEqDiff, Nat.reduceAdd, Nat.reduceLeDiff, ne_eq, not_false_eq_true, Nat.reduceMul, Nat.reduceSub, Int.toNat_zero, Int.reduceToNat, Try.underlying3, Try.underlying108, info3, info108, intsL_len, intsL_all, hw, hw2, hsh, tmod_nat, Int.toNat_natCast, vT]))
    · exact ⟨j + 1, .sl (.tok _ 1) (intsL (mem (j + 1) s)), _, ⟨⟨by omega, .tok (by assumption)⟩, by omega⟩, (by repeat (first | exact Sg.sub.refl _ | refine Sg.sub.set_both ?_ | refine Sg.sub.set_fresh ?_ (by first | assumption | exact Sg.set_none ‹_› ‹_›) | refine Sg.sub.del_fresh ?_ (by first | assumption | exact Sg.set_none ‹_› ‹_›))), by rw [mem_step, if_pos ‹_›, ← intsL_app]; rfl, i_eq (by omega)⟩
    · exact ⟨j + 1, _, _, ⟨⟨by omega, by rw [mem_step, if_neg ‹_›, List.append_nil]; exact .tok hτ⟩, by omega⟩, .refl _, rfl, i_eq (by omega)⟩
    · exact ⟨_, .refl _, by rw [hend ‹_›]; exact .tok hτ⟩
set_option maxHeartbeats 1000000 in
set_option maxRecDepth 100000 in
theorem t41 (n s : Int) (σ : Sg) : VCalls Try.prog 41 [.i n, .i s] σ (fun y σ' => y = .b (isQ n s) ∧ σ' = σ) := by
  have hl : (memA s).length ≤ 16 := by unfold memA; split; exact mem_len _ _; exact Nat.zero_le _
  (refine vfun (fun _ => .no) mixed Try.func41 (by kernel_rfl) ?_; simp only [bodyOf, Try.f41, Option.getD_some])
  repeat' (first | with_reducible rfl | exact .inr trivial | with_reducible apply And.intro | with_reducible apply vqx_step | with_reducible apply vqm_step | with_reducible refine vkp_free (by decide +kernel) ?_ | with_reducible intro _ | ((first | (with_reducible first | refine .rs ?_ | refine .ds (by kernel_rfl) ?_ | refine .dg (by kernel_rfl) ?_ | refine .rg ?_ | refine .ite ?_ | refine .ret ?_ | refine .skip ?_ | refine .exit ?_ | refine .scope ?_ | refine .seq (.label ?_) | refine .block ?_ | refine .seq ?_)); (try simp only [vO, vQ, ↓vP, vE, vS, vB, vL, vF, vM, vN, vbs_full, Nat.reduceEqDiff, Nat.reduceAdd, Nat.reduceLeDiff, ne_eq, not_false_eq_true, Nat.reduceMul, Nat.reduceSub, Int.toNat_zero, Int.reduceToNat, Try.underlying137, info137, Try.underlying3, info3, Try.underlying108, info108, vT])) | ((simp (disch := first | assumption | omega) only [w64, w8, tg_eq, n1, n2, nn, Int.tdiv_eq_ediv_of_nonneg, Sg.set_same, Sg.set_ne, Sg.set_ne', Sg.del_ne, Sg.del_ne']); (try simp only [vO, vQ, ↓vP, vE, vS, vB, vL, vF, vM, vN, vbs_full, Nat.reduceEqDiff, Nat.reduceAdd, Nat.reduceLeDiff, ne_eq, not_false_eq_true, Nat.reduceMul, Nat.reduceSub, Int.toNat_zero, Int.reduceToNat, Try.underlying137, info137, Try.underlying3, info3, Try.underlying108, info108, vT])) | ((((with_reducible refine (t39 _ _).mono ?_); rintro _ σ' ⟨rfl, rfl⟩)); (try simp only [vO, vQ, ↓vP, vE, vS, vB, vL, vF, vM, vN, vbs_full, Nat.reduceEqDiff, Nat.reduceAdd, Nat.reduceLeDiff, ne_eq, not_false_eq_true, Nat.reduceMul, Nat.reduceSub, Int.toNat_zero, Int.reduceToNat, Try.underlying137, info137, Try.underlying3, info3, Try.underlying108, info108, vT])) | ((((with_reducible refine (t67 _ _).mono ?_); rintro y σ' hG; obtain ⟨k, rfl, hsub⟩ := Grown.use hG)); (try simp only [vO, vQ, ↓vP, vE, vS, vB, vL, vF, vM, vN, vbs_full, Nat.reduceEqDiff, Nat.reduceAdd, Nat.reduceLeDiff, ne_eq, not_false_eq_true, Nat.reduceMul, Nat.reduceSub, Int.toNat_zero, Int.reduceToNat, Try.underlying137, info137, Try.underlying3, info3, Try.underlying108, info108, vT])) | with_reducible refine vfresh_set ?_ | with_reducible refine vfresh_intro (fun _ _ => ?_) | with_reducible refine vif_intro (fun _ => ?_) (fun _ => ?_) | omega | ((with_reducible first | refine vop_at ?_ | refine vops_at ?_ | refine vquiet_at ?_ | refine vmix_at ?_ | refine Holds_at ?_); simp only [vO, vQ, ↓vP, vE, vS, vB, vL, vF, vM, vN, vbs_full, Nat.reduceEqDiff, Nat.reduceAdd, Nat.reduceLeDiff, ne_eq, not_false_eq_true, Nat.reduceMul, Nat.reduceSub, Int.toNat_zero, Int.reduceToNat, Try.underlying137, info137, Try.underlying3, info3, Try.underlying108, info108, vT]))
  refine VW.loop3 (0 : Nat) (0 : Nat) () (fun j c _ => j ≤ (memA s).length ∧ c = ((memA s).take j).countP (fun m : Nat => decide ((m : Int) ≤ n))) (fun j c _ => [(0, .i n), (5, .i (most n)), (6, .sl k (intsL (memA s))), (7, .i c), (8, .i j)]) (fun _ _ _ => _) (fun j _ _ => (memA s).length - j) ⟨Nat.zero_le _, rfl⟩ (.refl _) ?_ ?_
  · simp only [vO, vQ, ↓vP, vE, vS, vB, vL, vF, vM, vN, vbs_full, Nat.reduceEqDiff, Nat.reduceAdd, Nat.reduceLeDiff, ne_eq, not_false_eq_true, Nat.reduceMul, Nat.reduceSub, Int.toNat_zero, Int.reduceToNat, vT]
    exact ⟨rfl, rfl⟩
  rintro j c _ ⟨h1, hc⟩
  have hcl : c ≤ j := by rw [hc]; exact Nat.le_trans List.countP_le_length (by simp; omega)
  rcases Nat.lt_or_ge j (memA s).length with hj | hj
  · have hg := intsL_get _ j hj
    have hst : ((memA s).take (j + 1)).countP (fun m : Nat => decide ((m : Int) ≤ n)) = c + if ((memA s)[j] : Int) ≤ n then 1 else 0 := by
      rw [List.take_add_one, List.getElem?_eq_getElem hj, List.countP_append, ← hc]
      show c + List.countP _ [(memA s)[j]] = _
      rw [List.countP_singleton]
      simp
    have hw1 : IntKind.i64.wrap ((c + 1 : Nat) : Int) = ((c + 1 : Nat) : Int) := w64 (by omega) (by omega)
    have hw2 : IntKind.i64.wrap ((j + 1 : Nat) : Int) = ((j + 1 : Nat) : Int) := w64 (by omega) (by omega)
    repeat' (first | with_reducible rfl | exact .inr trivial | with_reducible apply And.intro | with_reducible apply vqx_step | with_reducible apply vqm_step | with_reducible refine vkp_free (by decide +kernel) ?_ | with_reducible intro _ | ((first | (with_reducible first | refine .rs ?_ | refine .ds (by kernel_rfl) ?_ | refine .dg (by kernel_rfl) ?_ | refine .rg ?_ | refine .ite ?_ | refine .ret ?_ | refine .skip ?_ | refine .exit ?_ | refine .scope ?_ | refine .seq (.label ?_) | refine .block ?_ | refine .seq ?_)); (try simp only [vO, vQ, ↓vP, vE, vS, vB, vL, vF, vM, vN, vbs_full, Nat.reduceEqDiff, Nat.reduceAdd, Nat.reduceLeDiff, ne_eq, not_false_eq_true, Nat.reduceMul, Nat.reduceSub, Int.toNat_zero, Int.reduceToNat, Try.underlying3, Try.underlying108, info3, info108, intsL_len, hg, nadd, nadd1, nadd2, nadd3, n1add, n2add, vT])) | ((simp (disch := first | assumption | omega) only [w64, w8, tg_eq, n1, n2, nn, Int.tdiv_eq_ediv_of_nonneg, Sg.set_same, Sg.set_ne, Sg.set_ne', Sg.del_ne, Sg.del_ne']); (try simp only [vO, vQ, ↓vP, vE, vS, vB, vL, vF, vM, vN, vbs_full, Nat.reduceEqDiff, Nat.reduceAdd, Nat.reduceLeDiff, ne_eq, not_false_eq_true, Nat.reduceMul, Nat.reduceSub, Int.toNat_zero, Int.reduceToNat, Try.underlying3, Try.underlying108, info3, info108, intsL_len, hg, nadd, nadd1, nadd2, nadd3, n1add, n2add, vT])) | with_reducible refine vfresh_set ?_ | with_reducible refine vfresh_intro (fun _ _ => ?_) | with_reducible refine vif_intro (fun _ => ?_) (fun _ => ?_) | omega | ((with_reducible first | refine vop_at ?_ | refine vops_at ?_ | refine vquiet_at ?_ | refine vmix_at ?_ | refine Holds_at ?_); simp only [vO, vQ, ↓vP, vE, vS, vB, vL, vF, vM, vN, vbs_full, Nat.reduceEqDiff, Nat.reduceAdd, Nat.reduceLeDiff, ne_eq, not_false_eq_true, Nat.reduceMul, Nat.reduceSub, Int.toNat_zero, Int.reduceToNat, Try.underlying3, Try.underlying108, info3, info108, intsL_len, hg, nadd, nadd1, nadd2, nadd3, n1add, n2add, vT]))
    · exact ⟨j + 1, c + 1, (), ⟨⟨hj, by rw [hst, if_pos ‹_›]⟩, by omega⟩, .refl _, i_eq hw1, i_eq hw2⟩
    · exact ⟨j + 1, c, (), ⟨⟨hj, by rw [hst, if_neg ‹_›]; rfl⟩, by omega⟩, .refl _, rfl, i_eq hw2⟩
  · rw [List.take_of_length_le hj] at hc
    repeat' (first | with_reducible rfl | exact .inr trivial | with_reducible apply And.intro | with_reducible apply vqx_step | with_reducible apply vqm_step | with_reducible refine vkp_free (by decide +kernel) ?_ | with_reducible intro _ | ((first | (with_reducible first | refine .rs ?_ | refine .ds (by kernel_rfl) ?_ | refine .dg (by kernel_rfl) ?_ | refine .rg ?_ | refine .ite ?_ | refine .ret ?_ | refine .skip ?_ | refine .exit ?_ | refine .scope ?_ | refine .seq (.label ?_) | refine .block ?_ | refine .seq ?_)); (try simp only [vO, vQ, ↓vP, vE, vS, vB, vL, vF, vM, vN, vbs_full, Nat.reduceEqDiff, Nat.reduceAdd, Nat.reduceLeDiff, ne_eq, not_false_eq_true, Nat.reduceMul, Nat.reduceSub, Int.toNat_zero, Int.reduceToNat, Try.underlying3, Try.underlying108, info3, info108, intsL_len, nadd, nadd1, nadd2, nadd3, n1add, n2add, vT])) | ((simp (disch := first | assumption | omega) only [w64, w8, tg_eq, n1, n2, nn, Int.tdiv_eq_ediv_of_nonneg, Sg.set_same, Sg.set_ne, Sg.set_ne', Sg.del_ne, Sg.del_ne']); (try simp only [vO, vQ, ↓vP, vE, vS, vB, vL, vF, vM, vN, vbs_full, Nat.reduceEqDiff, Nat.reduceAdd, Nat.reduceLeDiff, ne_eq, not_false_eq_true, Nat.reduceMul, Nat.reduceSub, Int.toNat_zero, Int.reduceToNat, Try.underlying3, Try.underlying108, info3, info108, intsL_len, nadd, nadd1, nadd2, nadd3, n1add, n2add, vT])) | with_reducible refine vfresh_set ?_ | with_reducible refine vfresh_intro (fun _ _ => ?_) | with_reducible refine vif_intro (fun _ => ?_) (fun _ => ?_) | omega | ((with_reducible first | refine vop_at ?_ | refine vops_at ?_ | refine vquiet_at ?_ | refine vmix_at ?_ | refine Holds_at ?_); simp only [vO, vQ, ↓vP, vE, vS, vB, vL, vF, vM, vN, vbs_full, Nat.reduceEqDiff, Nat.reduceAdd, Nat.reduceLeDiff, ne_eq, not_false_eq_true, Nat.reduceMul, Nat.reduceSub, Int.toNat_zero, Int.reduceToNat, Try.underlying3, Try.underlying108, info3, info108, intsL_len, nadd, nadd1, nadd2, nadd3, n1add, n2add, vT]))
    · obtain ⟨hN, hm⟩ := most_pos ‹_›
      refine ⟨_, hsub, congrArg AV.b ?_, rfl⟩
      unfold isQ
      rw [decide_eq_decide, hm, hc]
      unfold memA
      split
      · rename_i hs
        rw [mem_cnt, Nat.min_eq_right (by have := hN.2.1; omega)]
        exact ⟨fun h => ⟨hN, hs.1, by omega, h⟩, fun h => h.2.2.2⟩
      · rename_i hs
        refine ⟨fun h => ?_, fun h => absurd ⟨h.2.1, by omega⟩ hs⟩
        rw [List.countP_nil] at h
        have := hN.1
        omega
    · have hN := most_not ‹¬ 0 < most n›
      exact ⟨_, hsub, by simp [isQ, hN], rfl⟩
set_option maxHeartbeats 1000000 in
set_option maxRecDepth 100000 in
theorem t18 (f : Int) (σ : Sg) : VCalls Try.prog 18 [.i f] σ (fun y σ' => (1 ≤ f ∧ f ≤ 5 → y = .tup [.i (3 * f + 1), .i 0]) ∧ (¬ (1 ≤ f ∧ f ≤ 5) → y = .tup [.i 0, .i 1]) ∧ σ' = σ) := by
  (refine vfun (fun _ => .no) mixed Try.func18 (by kernel_rfl) ?_; simp only [bodyOf, Try.f18, Option.getD_some])
  repeat' (first | with_reducible rfl | exact .inr trivial | with_reducible apply And.intro | with_reducible apply vqx_step | with_reducible apply vqm_step | with_reducible refine vkp_free (by decide +kernel) ?_ | with_reducible intro _ | ((first | (with_reducible first | refine .rs ?_ | refine .ds (by kernel_rfl) ?_ | refine .dg (by kernel_rfl) ?_ | refine .rg ?_ | refine .ite ?_ | refine .ret ?_ | refine .skip ?_ | refine .exit ?_ | refine .scope ?_ | refine .seq (.label ?_) | refine .block ?_ | refine .seq ?_)); (try simp only [vO, vQ, ↓vP, vE, vS, vB, vL, vF, vM, vN, vbs_full, Nat.reduceEqDiff, Nat.reduceAdd, Nat.reduceLeDiff, ne_eq, not_false_eq_true, Nat.reduceMul, Nat.reduceSub, Int.toNat_zero, Int.reduceToNat, Try.underlying3, info3, Try.underlying35, info35, vT])) | ((simp (disch := first | assumption | omega) only [w64, w8, tg_eq, n1, n2, nn, Int.tdiv_eq_ediv_of_nonneg, Sg.set_same, Sg.set_ne, Sg.set_ne', Sg.del_ne, Sg.del_ne']); (try simp only [vO, vQ, ↓vP, vE, vS, vB, vL, vF, vM, vN, vbs_full, Nat.reduceEqDiff, Nat.reduceAdd, Nat.reduceLeDiff, ne_eq, not_false_eq_true, Nat.reduceMul, Nat.reduceSub, Int.toNat_zero, Int.reduceToNat, Try.underlying3, info3, Try.underlying35, info35, vT])) | with_reducible refine vfresh_set ?_ | with_reducible refine vfresh_intro (fun _ _ => ?_) | with_reducible refine vif_intro (fun _ => ?_) (fun _ => ?_) | omega | ((with_reducible first | refine vop_at ?_ | refine vops_at ?_ | refine vquiet_at ?_ | refine vmix_at ?_ | refine Holds_at ?_); simp only [vO, vQ, ↓vP, vE, vS, vB, vL, vF, vM, vN, vbs_full, Nat.reduceEqDiff, Nat.reduceAdd, Nat.reduceLeDiff, ne_eq, not_false_eq_true, Nat.reduceMul, Nat.reduceSub, Int.toNat_zero, Int.reduceToNat, Try.underlying3, info3, Try.underlying35, info35, vT]))
  · exact ⟨_, .refl _, fun h => absurd h.1 (by omega), fun _ => trivial, rfl⟩
  · exact ⟨_, .refl _, fun h => absurd h.2 (by omega), fun _ => trivial, rfl⟩
  · refine ⟨_, .refl _, fun h => ?_, fun h => absurd ⟨by omega, by omega⟩ h, rfl⟩
    rw [w64 (n := 3 * f) (by omega) (by omega), w64 (by omega) (by omega)]
end Go.Proofs.Ytkbfngepdgdecaa

set_option linter.unusedSimpArgs false
set_option linter.unusedVariables false
namespace Go.Cert
open Go.V
/-- Who signed what. -/
abbrev Ps := List (Int × List UInt8)
def pairsA (ps : Ps) : List (List AV) := ps.map fun p => [AV.i p.1, AV.s (bs p.2)]
theorem pairsA_len (ps : Ps) : (pairsA ps).length = ps.length := by simp [pairsA]
theorem pairsA_app (a b : Ps) : pairsA a ++ pairsA b = pairsA (a ++ b) := by simp [pairsA]
theorem pairsA_all (ps : Ps) : allLen (pairsA ps) 2 = True := by
  refine eq_true (fun e he => ?_)
  obtain ⟨b, _, rfl⟩ := List.mem_map.1 he
  rfl
theorem pairsA_get (ps : Ps) (j : Nat) (h : j < ps.length) : (pairsA ps).getD j [] = [AV.i ps[j].1, AV.s (bs ps[j].2)] := by
  simp [pairsA, List.getD_eq_getElem?_getD, List.getElem?_eq_getElem h]
theorem keepAt {ρ : Nat} {S σ' : Sg} {o : Option Ob} (h : Keep (fun β => β = ρ) S σ') (hS : S ρ = o) : σ' ρ = o := (h ρ rfl).trans hS
theorem vlo_at {P : Program} {t : TypeId} {o o' : Option Ob} {off : Nat} {R : AV → Prop} (h : o = o') (hw : vlo P t o' off R) : vlo P t o off R := h ▸ hw
theorem vst_at {i : Option (Option Value × Nat × Nat)} {o o' : Option Ob} {β off : Nat} {x : AV} {σ : Sg} {R : Sg → Prop} (h : o = o') (hw : vst i o' β off x σ R) : vst i o β off x σ R := h ▸ hw
theorem S4 {s : Sg} {ρ τ x : Nat} {c o o2 : Ob} (hn : τ ≠ ρ) (hx : x ≠ ρ) : ((((s.set ρ c).set τ o).del τ).set x o2) ρ = some c := by
  simp [Sg.set, Sg.del, Ne.symm hn, Ne.symm hx]
theorem S5 {s : Sg} {ρ τ x : Nat} {c c' o o2 : Ob} (hn : τ ≠ ρ) (hx : x ≠ ρ) (hτ : s τ = none) : ((s.set ρ c').set x o2).sub (((((s.set ρ c).set τ o).del τ).set x o2).set ρ c') := by
  intro β v h
  unfold Sg.set Sg.del at *
  by_cases h1 : β = ρ
  · subst h1
    simpa [Ne.symm hx] using h
  · by_cases h2 : β = x
    · subst h2
      simpa [h1] using h
    · by_cases h3 : β = τ
      · subst h3
        simp [h1, h2, hτ] at h
      · simpa [h1, h2, h3] using h
theorem nin_step {ps : Ps} {j : Nat} {p : Int × List UInt8} (h : p ∉ ps.take j) (hj : j < ps.length) (hne : ps[j] = p → False) : p ∉ ps.take (j + 1) := by
  rw [List.take_add_one, List.getElem?_eq_getElem hj]
  intro hm
  rcases List.mem_append.1 hm with h1 | h1
  · exact h h1
  · simp at h1
    exact hne h1.symm
/-- The reference's registry at ρ. -/
def RR (σ : Sg) (ρ : Nat) (ps : Ps) (N : List Nat) : Prop :=
  (ps = [] ∧ N = [ρ] ∧ σ ρ = some (.cells 97 [.sl .nil []])) ∨ ∃ τ, τ ≠ ρ ∧ N = [ρ, τ] ∧ σ ρ = some (.cells 97 [.sl (.tok τ 2) (pairsA ps)]) ∧ σ τ = some (.tok (some 100))
theorem RR.at {σ : Sg} {ρ : Nat} {ps : Ps} {N : List Nat} (h : RR σ ρ ps N) : ∃ k, σ ρ = some (.cells 97 [.sl k (pairsA ps)]) := by
  rcases h with ⟨rfl, _, h⟩ | ⟨τ, _, _, h, _⟩
  · exact ⟨_, h⟩
  · exact ⟨_, h⟩
/-- Only what is named in N or is new has changed. -/
def Only (N N' : List Nat) (σ σ' : Sg) : Prop := (∀ β, β ∉ N → σ β ≠ none → σ' β = σ β) ∧ ∀ β ∈ N', β ∈ N ∨ σ β = none
end Go.Cert
namespace Go.Proofs.Ytkbfngepdgdecaa
open Go Go.V Go.Cert
set_option maxHeartbeats 1000000 in
set_option maxRecDepth 100000 in
theorem t56 (ρ : Nat) (ps : Ps) (k k' : Own) (w : Int) (l : List UInt8) (σ : Sg) (hl : ps.length ≤ 2 ^ 32) (hρ : σ ρ = some (.cells 97 [.sl k (pairsA ps)])) : VCalls Try.prog 56 [.ref ρ 0, .i w, .sl k' (bytesL l)] σ (fun x σ' => x = .b (decide ((w, l) ∈ ps)) ∧ σ' = σ) := by
  (refine vfun (fun _ => .no) mixed Try.func56 (by kernel_rfl) ?_; simp only [bodyOf, Try.f56, Option.getD_some])
  repeat' (first | with_reducible rfl | exact .inr trivial | with_reducible apply And.intro | with_reducible apply vqx_step | with_reducible apply vqm_step | with_reducible refine vkp_free (by decide +kernel) ?_ | with_reducible intro _ | ((first | (with_reducible first | refine .rs ?_ | refine .ds (by kernel_rfl) ?_ | refine .dg (by kernel_rfl) ?_ | refine .rg ?_ | refine .ite ?_ | refine .ret ?_ | refine .skip ?_ | refine .exit ?_ | refine .scope ?_ | refine .seq (.label ?_) | refine .block ?_ | refine .seq ?_)); (try simp only [vO, vQ, ↓vP, vE, vS, vB, vL, vF, vM, vN, vbs_full, Nat.reduceEqDiff, Nat.reduceAdd, Nat.reduceLeDiff, ne_eq, not_false_eq_true, Nat.reduceMul, Nat.reduceSub, Int.toNat_zero, Int.reduceToNat, Try.underlying3, info3, Try.underlying34, info34, Try.underlying9, info9, Try.underlying5, info5, Try.underlying95, info95, Try.underlying96, Try.underlying97, info97, Try.underlying99, Try.underlying100, info100, hρ, vT])) | ((simp (disch := first | assumption | omega) only [w64, w8, tg_eq, n1, n2, nn, Int.tdiv_eq_ediv_of_nonneg, Sg.set_same, Sg.set_ne, Sg.set_ne', Sg.del_ne, Sg.del_ne']); (try simp only [vO, vQ, ↓vP, vE, vS, vB, vL, vF, vM, vN, vbs_full, Nat.reduceEqDiff, Nat.reduceAdd, Nat.reduceLeDiff, ne_eq, not_false_eq_true, Nat.reduceMul, Nat.reduceSub, Int.toNat_zero, Int.reduceToNat, Try.underlying3, info3, Try.underlying34, info34, Try.underlying9, info9, Try.underlying5, info5, Try.underlying95, info95, Try.underlying96, Try.underlying97, info97, Try.underlying99, Try.underlying100, info100, hρ, vT])) | with_reducible refine vfresh_set ?_ | with_reducible refine vfresh_intro (fun _ _ => ?_) | with_reducible refine vif_intro (fun _ => ?_) (fun _ => ?_) | omega | ((with_reducible first | refine vop_at ?_ | refine vops_at ?_ | refine vquiet_at ?_ | refine vmix_at ?_ | refine Holds_at ?_); simp only [vO, vQ, ↓vP, vE, vS, vB, vL, vF, vM, vN, vbs_full, Nat.reduceEqDiff, Nat.reduceAdd, Nat.reduceLeDiff, ne_eq, not_false_eq_true, Nat.reduceMul, Nat.reduceSub, Int.toNat_zero, Int.reduceToNat, Try.underlying3, info3, Try.underlying34, info34, Try.underlying9, info9, Try.underlying5, info5, Try.underlying95, info95, Try.underlying96, Try.underlying97, info97, Try.underlying99, Try.underlying100, info100, hρ, vT]))
  refine VW.loop3 (0 : Nat) () () (fun j _ _ => j ≤ ps.length ∧ (w, l) ∉ ps.take j) (fun j _ _ => [(0, .ref ρ 0), (1, .i w), (2, .sl k' (bytesL l)), (7, .i j)]) (fun _ _ _ => σ) (fun j _ _ => ps.length - j) ⟨Nat.zero_le _, by simp⟩ (.refl _) ?_ ?_
  · simp only [vO, vQ, ↓vP, vE, vS, vB, vL, vF, vM, vN, vbs_full, Nat.reduceEqDiff, Nat.reduceAdd, Nat.reduceLeDiff, ne_eq, not_false_eq_true, Nat.reduceMul, Nat.reduceSub, Int.toNat_zero, Int.reduceToNat, vT]
    rfl
  rintro j _ _ ⟨h1, h2⟩
  rcases Nat.lt_or_ge j ps.length with hj | hj
  · have hg := pairsA_get _ j hj
    repeat' (first | with_reducible rfl | exact .inr trivial | with_reducible apply And.intro | with_reducible apply vqx_step | with_reducible apply vqm_step | with_reducible refine vkp_free (by decide +kernel) ?_ | with_reducible intro _ | ((first | (with_reducible first | refine .rs ?_ | refine .ds (by kernel_rfl) ?_ | refine .dg (by kernel_rfl) ?_ | refine .rg ?_ | refine .ite ?_ | refine .ret ?_ | refine .skip ?_ | refine .exit ?_ | refine .scope ?_ | refine .seq (.label ?_) | refine .block ?_ | refine .seq ?_)); (try simp only [vO, vQ, ↓vP, vE, vS, vB, vL, vF, vM, vN, vbs_full, Nat.reduceEqDiff, Nat.reduceAdd, Nat.reduceLeDiff, ne_eq, not_false_eq_true, Nat.reduceMul, Nat.reduceSub, Int.toNat_zero, Int.reduceToNat, Try.underlying3, info3, Try.underlying34, info34, Try.underlying9, info9, Try.underlying5, info5, Try.underlying95, info95, Try.underlying96, Try.underlying97, info97, Try.underlying99, Try.underlying100, info100, hρ, hg, pairsA_len, nadd, nadd1, nadd2, nadd3, n1add, n2add, vT])) | ((simp (disch := first | assumption | omega) only [w64, w8, tg_eq, n1, n2, nn, Int.tdiv_eq_ediv_of_nonneg, Sg.set_same, Sg.set_ne, Sg.set_ne', Sg.del_ne, Sg.del_ne']); (try simp only [vO, vQ, ↓vP, vE, vS, vB, vL, vF, vM, vN, vbs_full, Nat.reduceEqDiff, Nat.reduceAdd, Nat.reduceLeDiff, ne_eq, not_false_eq_true, Nat.reduceMul, Nat.reduceSub, Int.toNat_zero, Int.reduceToNat, Try.underlying3, info3, Try.underlying34, info34, Try.underlying9, info9, Try.underlying5, info5, Try.underlying95, info95, Try.underlying96, Try.underlying97, info97, Try.underlying99, Try.underlying100, info100, hρ, hg, pairsA_len, nadd, nadd1, nadd2, nadd3, n1add, n2add, vT])) | ((with_reducible refine ⟨bs l, (bs_bytesAV l).symm, ?_⟩); (try simp only [vO, vQ, ↓vP, vE, vS, vB, vL, vF, vM, vN, vbs_full, Nat.reduceEqDiff, Nat.reduceAdd, Nat.reduceLeDiff, ne_eq, not_false_eq_true, Nat.reduceMul, Nat.reduceSub, Int.toNat_zero, Int.reduceToNat, Try.underlying3, info3, Try.underlying34, info34, Try.underlying9, info9, Try.underlying5, info5, Try.underlying95, info95, Try.underlying96, Try.underlying97, info97, Try.underlying99, Try.underlying100, info100, hρ, hg, pairsA_len, nadd, nadd1, nadd2, nadd3, n1add, n2add, vT])) | with_reducible refine vfresh_set ?_ | with_reducible refine vfresh_intro (fun _ _ => ?_) | with_reducible refine vif_intro (fun _ => ?_) (fun _ => ?_) | omega | ((with_reducible first | refine vop_at ?_ | refine vops_at ?_ | refine vquiet_at ?_ | refine vmix_at ?_ | refine Holds_at ?_); simp only [vO, vQ, ↓vP, vE, vS, vB, vL, vF, vM, vN, vbs_full, Nat.reduceEqDiff, Nat.reduceAdd, Nat.reduceLeDiff, ne_eq, not_false_eq_true, Nat.reduceMul, Nat.reduceSub, Int.toNat_zero, Int.reduceToNat, Try.underlying3, info3, Try.underlying34, info34, Try.underlying9, info9, Try.underlying5, info5, Try.underlying95, info95, Try.underlying96, Try.underlying97, info97, Try.underlying99, Try.underlying100, info100, hρ, hg, pairsA_len, nadd, nadd1, nadd2, nadd3, n1add, n2add, vT]))
    · refine ⟨_, .refl _, ?_, rfl⟩
      rw [decide_eq_true]
      exact List.mem_iff_getElem.2 ⟨j, hj, by rw [← ‹ps[j].1 = w›, ← ‹ps[j].2 = l›]⟩
    · refine ⟨j + 1, (), (), ⟨⟨hj, nin_step h2 hj fun e => ‹¬ ps[j].2 = l› (by rw [e])⟩, by omega⟩, .refl _, i_eq (w64 (by omega) (by omega))⟩
    · refine ⟨j + 1, (), (), ⟨⟨hj, nin_step h2 hj fun e => ‹¬ ps[j].1 = w› (by rw [e])⟩, by omega⟩, .refl _, i_eq (w64 (by omega) (by omega))⟩
  · repeat' (first | with_reducible rfl | exact .inr trivial | with_reducible apply And.intro | with_reducible apply vqx_step | with_reducible apply vqm_step | with_reducible refine vkp_free (by decide +kernel) ?_ | with_reducible intro _ | ((first | (with_reducible first | refine .rs ?_ | refine .ds (by kernel_rfl) ?_ | refine .dg (by kernel_rfl) ?_ | refine .rg ?_ | refine .ite ?_ | refine .ret ?_ | refine .skip ?_ | refine .exit ?_ | refine .scope ?_ | refine .seq (.label ?_) | refine .block ?_ | refine .seq ?_)); (try simp only [vO, vQ, ↓vP, vE, vS, vB, vL, vF, vM, vN, vbs_full, Nat.reduceEqDiff, Nat.reduceAdd, Nat.reduceLeDiff, ne_eq, not_false_eq_true, Nat.reduceMul, Nat.reduceSub, Int.toNat_zero, Int.reduceToNat, Try.underlying3, info3, Try.underlying34, info34, Try.underlying9, info9, Try.underlying5, info5, Try.underlying95, info95, Try.underlying96, Try.underlying97, info97, Try.underlying99, Try.underlying100, info100, hρ, pairsA_len, nadd, nadd1, nadd2, nadd3, n1add, n2add, vT])) | ((simp (disch := first | assumption | omega) only [w64, w8, tg_eq, n1, n2, nn, Int.tdiv_eq_ediv_of_nonneg, Sg.set_same, Sg.set_ne, Sg.set_ne', Sg.del_ne, Sg.del_ne']); (try simp only [vO, vQ, ↓vP, vE, vS, vB, vL, vF, vM, vN, vbs_full, Nat.reduceEqDiff, Nat.reduceAdd, Nat.reduceLeDiff, ne_eq, not_false_eq_true, Nat.reduceMul, Nat.reduceSub, Int.toNat_zero, Int.reduceToNat, Try.underlying3, info3, Try.underlying34, info34, Try.underlying9, info9, Try.underlying5, info5, Try.underlying95, info95, Try.underlying96, Try.underlying97, info97, Try.underlying99, Try.underlying100, info100, hρ, pairsA_len, nadd, nadd1, nadd2, nadd3, n1add, n2add, vT])) | with_reducible refine vfresh_set ?_ | with_reducible refine vfresh_intro (fun _ _ => ?_) | with_reducible refine vif_intro (fun _ => ?_) (fun _ => ?_) | omega | ((with_reducible first | refine vop_at ?_ | refine vops_at ?_ | refine vquiet_at ?_ | refine vmix_at ?_ | refine Holds_at ?_); simp only [vO, vQ, ↓vP, vE, vS, vB, vL, vF, vM, vN, vbs_full, Nat.reduceEqDiff, Nat.reduceAdd, Nat.reduceLeDiff, ne_eq, not_false_eq_true, Nat.reduceMul, Nat.reduceSub, Int.toNat_zero, Int.reduceToNat, Try.underlying3, info3, Try.underlying34, info34, Try.underlying9, info9, Try.underlying5, info5, Try.underlying95, info95, Try.underlying96, Try.underlying97, info97, Try.underlying99, Try.underlying100, info100, hρ, pairsA_len, nadd, nadd1, nadd2, nadd3, n1add, n2add, vT]))
    rw [List.take_of_length_le hj] at h2
    exact ⟨_, .refl _, by rw [decide_eq_false h2], rfl⟩
set_option maxHeartbeats 1000000 in
set_option maxRecDepth 100000 in
theorem t31 (σ : Sg) : VCalls Try.prog 31 [] σ (fun x σ' => ∃ ρ, σ ρ = none ∧ x = .ref ρ 0 ∧ σ' = σ.set ρ (.cells 97 [.sl .nil []])) := by
  (refine vfun (fun _ => .no) mixed Try.func31 (by kernel_rfl) ?_; simp only [bodyOf, Try.f31, Option.getD_some])
  repeat' (first | with_reducible rfl | exact .inr trivial | with_reducible apply And.intro | with_reducible apply vqx_step | with_reducible apply vqm_step | with_reducible refine vkp_free (by decide +kernel) ?_ | with_reducible intro _ | ((first | (with_reducible first | refine .rs ?_ | refine .ds (by kernel_rfl) ?_ | refine .dg (by kernel_rfl) ?_ | refine .rg ?_ | refine .ite ?_ | refine .ret ?_ | refine .skip ?_ | refine .exit ?_ | refine .scope ?_ | refine .seq (.label ?_) | refine .block ?_ | refine .seq ?_)); (try simp only [vO, vQ, ↓vP, vE, vS, vB, vL, vF, vM, vN, vbs_full, Nat.reduceEqDiff, Nat.reduceAdd, Nat.reduceLeDiff, ne_eq, not_false_eq_true, Nat.reduceMul, Nat.reduceSub, Int.toNat_zero, Int.reduceToNat, Try.underlying3, info3, Try.underlying34, info34, Try.underlying9, info9, Try.underlying5, info5, Try.underlying95, info95, Try.underlying96, Try.underlying97, info97, Try.underlying99, Try.underlying100, info100, Try.underlying31, vT])) | ((simp (disch := first | assumption | omega) only [w64, w8, tg_eq, n1, n2, nn, Int.tdiv_eq_ediv_of_nonneg, Sg.set_same, Sg.set_ne, Sg.set_ne', Sg.del_ne, Sg.del_ne']); (try simp only [vO, vQ, ↓vP, vE, vS, vB, vL, vF, vM, vN, vbs_full, Nat.reduceEqDiff, Nat.reduceAdd, Nat.reduceLeDiff, ne_eq, not_false_eq_true, Nat.reduceMul, Nat.reduceSub, Int.toNat_zero, Int.reduceToNat, Try.underlying3, info3, Try.underlying34, info34, Try.underlying9, info9, Try.underlying5, info5, Try.underlying95, info95, Try.underlying96, Try.underlying97, info97, Try.underlying99, Try.underlying100, info100, Try.underlying31, vT])) | with_reducible refine vfresh_set ?_ | with_reducible refine vfresh_intro (fun _ _ => ?_) | with_reducible refine vif_intro (fun _ => ?_) (fun _ => ?_) | omega | ((with_reducible first | refine vop_at ?_ | refine vops_at ?_ | refine vquiet_at ?_ | refine vmix_at ?_ | refine Holds_at ?_); simp only [vO, vQ, ↓vP, vE, vS, vB, vL, vF, vM, vN, vbs_full, Nat.reduceEqDiff, Nat.reduceAdd, Nat.reduceLeDiff, ne_eq, not_false_eq_true, Nat.reduceMul, Nat.reduceSub, Int.toNat_zero, Int.reduceToNat, Try.underlying3, info3, Try.underlying34, info34, Try.underlying9, info9, Try.underlying5, info5, Try.underlying95, info95, Try.underlying96, Try.underlying97, info97, Try.underlying99, Try.underlying100, info100, Try.underlying31, vT]))
  exact ⟨_, .refl _, _, by assumption, rfl, rfl⟩
/-- What signing comes to: known, or one more at the end. -/
def signOK (w : Int) (l : List UInt8) : Prop := 1 ≤ w ∧ w ≤ 64 ∧ l.length ≤ 65536
instance (w : Int) (l : List UInt8) : Decidable (signOK w l) := by unfold signOK; infer_instance
def add (ps : Ps) (w : Int) (l : List UInt8) : Ps := if (w, l) ∈ ps then ps else ps ++ [(w, l)]
theorem pairsA_unit (w : Int) (l : List UInt8) : [[AV.i w, AV.s (bs l)]] = pairsA [(w, l)] := rfl
set_option maxHeartbeats 1000000 in
set_option maxRecDepth 100000 in
theorem t32 (s : Sg) (ρ τ : Nat) (ps : Ps) (k' : Own) (w : Int) (l : List UInt8) (hl : ps.length ≤ 2 ^ 32) (hs : signOK w l) (hρ : s ρ = none) (hτ : s τ = none) (hn : τ ≠ ρ) :
    VCalls Try.prog 32 [.ref ρ 0, .i w, .sl k' (bytesL l)] ((s.set ρ (.cells 97 [.sl (.tok τ 2) (pairsA ps)])).set τ (.tok (some 100))) (fun x σ' => x = .i 0 ∧ ∃ τ', s τ' = none ∧ τ' ≠ ρ ∧ σ' = (s.set ρ (.cells 97 [.sl (.tok τ' 2) (pairsA (add ps w l))])).set τ' (.tok (some 100))) := by
  obtain ⟨hs1, hs2, hs3⟩ := hs
  have h56 := t56 ρ ps (.tok τ 2) k' w l ((s.set ρ (.cells 97 [.sl (.tok τ 2) (pairsA ps)])).set τ (.tok (some 100))) hl (by rw [Sg.set_other _ _ (Ne.symm hn), Sg.set_same])
  have hat : ((s.set ρ (.cells 97 [.sl (.tok τ 2) (pairsA ps)])).set τ (.tok (some 100))) ρ = some (.cells 97 [.sl (.tok τ 2) (pairsA ps)]) := by rw [Sg.set_other _ _ (Ne.symm hn), Sg.set_same]
  (refine vfun (fun _ => .no) mixed Try.func32 (by kernel_rfl) ?_; simp only [bodyOf, Try.f32, Option.getD_some])
  repeat' (first | with_reducible rfl | exact .inr trivial | with_reducible apply And.intro | with_reducible apply vqx_step | with_reducible apply vqm_step | with_reducible refine vkp_free (by decide +kernel) ?_ | with_reducible intro _ | ((with_reducible refine .dm (fun β => β = ρ) [(0, false), (1, false), (2, false), (3, false), (4, false), (5, false), (6, false), (7, false), (8, false), (9, false), (10, true), (11, true), (12, false), (13, true)] (by decide) (by decide +kernel) ?_); (simp only [vO, vQ, ↓vP, vE, vS, vB, vL, vF, vM, vN, vbs_full, Nat.reduceEqDiff, Nat.reduceAdd, Nat.reduceLeDiff, ne_eq, not_false_eq_true, Nat.reduceMul, Nat.reduceSub, Int.toNat_zero, Int.reduceToNat, Try.underlying3, info3, Try.underlying34, info34, Try.underlying9, info9, Try.underlying5, info5, Try.underlying35, info35, Try.underlying95, info95, Try.underlying96, Try.underlying97, info97, Try.underlying99, Try.underlying100, info100, pairsA_len, pairsA_all, nadd, nadd1, nadd2, nadd3, n1add, n2add, vT])) | ((first | (with_reducible first | refine .rs ?_ | refine .ds (by kernel_rfl) ?_ | refine .dg (by kernel_rfl) ?_ | refine .rg ?_ | refine .ite ?_ | refine .ret ?_ | refine .skip ?_ | refine .exit ?_ | refine .scope ?_ | refine .seq (.label ?_) | refine .block ?_ | refine .seq ?_)); (try simp only [vO, vQ, ↓vP, vE, vS, vB, vL, vF, vM, vN, vbs_full, Nat.reduceEqDiff, Nat.reduceAdd, Nat.reduceLeDiff, ne_eq, not_false_eq_true, Nat.reduceMul, Nat.reduceSub, Int.toNat_zero, Int.reduceToNat, Try.underlying3, info3, Try.underlying34, info34, Try.underlying9, info9, Try.underlying5, info5, Try.underlying35, info35, Try.underlying95, info95, Try.underlying96, Try.underlying97, info97, Try.underlying99, Try.underlying100, info100, pairsA_len, pairsA_all, nadd, nadd1, nadd2, nadd3, n1add, n2add, vT])) | ((simp (disch := first | assumption | omega) only [w64, w8, tg_eq, n1, n2, nn, Int.tdiv_eq_ediv_of_nonneg, Sg.set_same, Sg.set_ne, Sg.set_ne', Sg.del_ne, Sg.del_ne']); (try simp only [vO, vQ, ↓vP, vE, vS, vB, vL, vF, vM, vN, vbs_full, Nat.reduceEqDiff, Nat.reduceAdd, Nat.reduceLeDiff, ne_eq, not_false_eq_true, Nat.reduceMul, Nat.reduceSub, Int.toNat_zero, Int.reduceToNat, Try.underlying3, info3, Try.underlying34, info34, Try.underlying9, info9, Try.underlying5, info5, Try.underlying35, info35, Try.underlying95, info95, Try.underlying96, Try.underlying97, info97, Try.underlying99, Try.underlying100, info100, pairsA_len, pairsA_all, nadd, nadd1, nadd2, nadd3, n1add, n2add, vT])) | ((((with_reducible refine h56.mono ?_); rintro _ σ' ⟨rfl, rfl⟩)); (try simp only [vO, vQ, ↓vP, vE, vS, vB, vL, vF, vM, vN, vbs_full, Nat.reduceEqDiff, Nat.reduceAdd, Nat.reduceLeDiff, ne_eq, not_false_eq_true, Nat.reduceMul, Nat.reduceSub, Int.toNat_zero, Int.reduceToNat, Try.underlying3, info3, Try.underlying34, info34, Try.underlying9, info9, Try.underlying5, info5, Try.underlying35, info35, Try.underlying95, info95, Try.underlying96, Try.underlying97, info97, Try.underlying99, Try.underlying100, info100, pairsA_len, pairsA_all, nadd, nadd1, nadd2, nadd3, n1add, n2add, vT])) | ((with_reducible refine ⟨bs l, (bs_bytesAV l).symm, ?_⟩); (try simp only [vO, vQ, ↓vP, vE, vS, vB, vL, vF, vM, vN, vbs_full, Nat.reduceEqDiff, Nat.reduceAdd, Nat.reduceLeDiff, ne_eq, not_false_eq_true, Nat.reduceMul, Nat.reduceSub, Int.toNat_zero, Int.reduceToNat, Try.underlying3, info3, Try.underlying34, info34, Try.underlying9, info9, Try.underlying5, info5, Try.underlying35, info35, Try.underlying95, info95, Try.underlying96, Try.underlying97, info97, Try.underlying99, Try.underlying100, info100, pairsA_len, pairsA_all, nadd, nadd1, nadd2, nadd3, n1add, n2add, vT])) | (((refine vlo_at (keepAt (by assumption) hat) ?_)); (try simp only [vO, vQ, ↓vP, vE, vS, vB, vL, vF, vM, vN, vbs_full, Nat.reduceEqDiff, Nat.reduceAdd, Nat.reduceLeDiff, ne_eq, not_false_eq_true, Nat.reduceMul, Nat.reduceSub, Int.toNat_zero, Int.reduceToNat, Try.underlying3, info3, Try.underlying34, info34, Try.underlying9, info9, Try.underlying5, info5, Try.underlying35, info35, Try.underlying95, info95, Try.underlying96, Try.underlying97, info97, Try.underlying99, Try.underlying100, info100, pairsA_len, pairsA_all, nadd, nadd1, nadd2, nadd3, n1add, n2add, vT])) | (((refine vst_at (S4 hn (by assumption)) ?_)); (try simp only [vO, vQ, ↓vP, vE, vS, vB, vL, vF, vM, vN, vbs_full, Nat.reduceEqDiff, Nat.reduceAdd, Nat.reduceLeDiff, ne_eq, not_false_eq_true, Nat.reduceMul, Nat.reduceSub, Int.toNat_zero, Int.reduceToNat, Try.underlying3, info3, Try.underlying34, info34, Try.underlying9, info9, Try.underlying5, info5, Try.underlying35, info35, Try.underlying95, info95, Try.underlying96, Try.underlying97, info97, Try.underlying99, Try.underlying100, info100, pairsA_len, pairsA_all, nadd, nadd1, nadd2, nadd3, n1add, n2add, vT])) | ((with_reducible refine vkp_free (by decide +kernel) ?_); (try simp only [vO, vQ, ↓vP, vE, vS, vB, vL, vF, vM, vN, vbs_full, Nat.reduceEqDiff, Nat.reduceAdd, Nat.reduceLeDiff, ne_eq, not_false_eq_true, Nat.reduceMul, Nat.reduceSub, Int.toNat_zero, Int.reduceToNat, Try.underlying3, info3, Try.underlying34, info34, Try.underlying9, info9, Try.underlying5, info5, Try.underlying35, info35, Try.underlying95, info95, Try.underlying96, Try.underlying97, info97, Try.underlying99, Try.underlying100, info100, pairsA_len, pairsA_all, nadd, nadd1, nadd2, nadd3, n1add, n2add, vT])) | (((refine vkp_keep (by intro β h; subst h; first | rfl | simp (disch := first | assumption | omega) only [Sg.set_ne, Sg.set_ne', Sg.del_ne, Sg.del_ne']) ?_)); (try simp only [vO, vQ, ↓vP, vE, vS, vB, vL, vF, vM, vN, vbs_full, Nat.reduceEqDiff, Nat.reduceAdd, Nat.reduceLeDiff, ne_eq, not_false_eq_true, Nat.reduceMul, Nat.reduceSub, Int.toNat_zero, Int.reduceToNat, Try.underlying3, info3, Try.underlying34, info34, Try.underlying9, info9, Try.underlying5, info5, Try.underlying35, info35, Try.underlying95, info95, Try.underlying96, Try.underlying97, info97, Try.underlying99, Try.underlying100, info100, pairsA_len, pairsA_all, nadd, nadd1, nadd2, nadd3, n1add, n2add, vT])) | with_reducible refine vfresh_set ?_ | with_reducible refine vfresh_intro (fun _ _ => ?_) | with_reducible refine vif_intro (fun _ => ?_) (fun _ => ?_) | omega | ((with_reducible first | refine vop_at ?_ | refine vops_at ?_ | refine vquiet_at ?_ | refine vmix_at ?_ | refine Holds_at ?_); simp only [vO, vQ, ↓vP, vE, vS, vB, vL, vF, vM, vN, vbs_full, Nat.reduceEqDiff, Nat.reduceAdd, Nat.reduceLeDiff, ne_eq, not_false_eq_true, Nat.reduceMul, Nat.reduceSub, Int.toNat_zero, Int.reduceToNat, Try.underlying3, info3, Try.underlying34, info34, Try.underlying9, info9, Try.underlying5, info5, Try.underlying35, info35, Try.underlying95, info95, Try.underlying96, Try.underlying97, info97, Try.underlying99, Try.underlying100, info100, pairsA_len, pairsA_all, nadd, nadd1, nadd2, nadd3, n1add, n2add, vT]))
  · exact ⟨_, .refl _, τ, hτ, hn, by rw [add, if_pos ‹_›]⟩
  · rename_i x hx hxρ _
    exact ⟨_, S5 hn hxρ hτ, x, hx, hxρ, by rw [add, if_neg ‹_›, ← pairsA_app]; rfl⟩
end Go.Proofs.Ytkbfngepdgdecaa

set_option linter.unusedSimpArgs false
set_option linter.unusedVariables false
namespace Go.Cert
open Go.V
/-- The bits of those of 1..k of whom K holds. -/
def bitsOf (K : Nat → Bool) : Nat → Nat
  | 0 => 0
  | k + 1 => bitsOf K k + if K (k + 1) = true then 2 ^ k else 0
theorem bits_no {K : Nat → Bool} {j : Nat} (h : ¬ K (j + 1) = true) : AV.i (bitsOf K j : Nat) = AV.i (bitsOf K (j + 1) : Nat) := by rw [bitsOf, if_neg h, Nat.add_zero]
theorem bitsOf_lt (K : Nat → Bool) : ∀ k, bitsOf K k < 2 ^ k
  | 0 => by simp [bitsOf]
  | k + 1 => by
    have := bitsOf_lt K k
    rw [bitsOf, Nat.pow_succ]
    split <;> omega
theorem or_bit {a k : Nat} (h : a < 2 ^ k) : a ||| 2 ^ k = a + 2 ^ k := by
  have := Nat.two_pow_add_eq_or_of_lt h 1
  rw [Nat.mul_one] at this
  rw [Nat.or_comm, ← this, Nat.add_comm]
theorem or_i64 {a k : Nat} (h : a < 2 ^ k) (hk : k ≤ 16) : IntKind.i64.wrap ↑(BitVec.ofInt IntKind.i64.bits (a : Int) ||| BitVec.ofInt IntKind.i64.bits (IntKind.i64.wrap (1 * 2 ^ (min k IntKind.i64.bits)))).toNat = ((a + 2 ^ k : Nat) : Int) := by
  have hp : 2 ^ k ≤ 65536 := by
    have := Nat.pow_le_pow_right (n := 2) (by omega) hk
    simpa using this
  show IntKind.i64.wrap ↑(BitVec.ofInt 64 (a : Int) ||| BitVec.ofInt 64 (IntKind.i64.wrap (1 * 2 ^ (min k 64)))).toNat = ((a + 2 ^ k : Nat) : Int)
  rw [Int.one_mul, Nat.min_eq_left (by omega), pow_cast, i64_nat (n := 2 ^ k) (by omega), BitVec.toNat_or, BitVec.ofInt_natCast, BitVec.ofInt_natCast, BitVec.toNat_ofNat, BitVec.toNat_ofNat, Nat.mod_eq_of_lt (by omega), Nat.mod_eq_of_lt (by omega), or_bit h]
  exact i64_nat (by omega)
end Go.Cert
namespace Go.Proofs.Ytkbfngepdgdecaa
open Go Go.V Go.Cert
set_option maxHeartbeats 1000000 in
set_option maxRecDepth 100000 in
theorem t40 (ρ : Nat) (ps : Ps) (k k' : Own) (n : Int) (l : List UInt8) (σ : Sg) (hl : ps.length ≤ 2 ^ 32) (hρ : σ ρ = some (.cells 97 [.sl k (pairsA ps)])) : VCalls Try.prog 40 [.ref ρ 0, .i n, .sl k' (bytesL l)] σ (fun x σ' => x = .i (bitsOf (fun m => decide (((m : Int), l) ∈ ps)) (min n.toNat 16)) ∧ σ' = σ) := by
  (refine vfun (fun _ => .no) mixed Try.func40 (by kernel_rfl) ?_; simp only [bodyOf, Try.f40, Option.getD_some])
  repeat' (first | with_reducible rfl | exact .inr trivial | with_reducible apply And.intro | with_reducible apply vqx_step | with_reducible apply vqm_step | with_reducible refine vkp_free (by decide +kernel) ?_ | with_reducible intro _ | ((first | (with_reducible first | refine .rs ?_ | refine .ds (by kernel_rfl) ?_ | refine .dg (by kernel_rfl) ?_ | refine .rg ?_ | refine .ite ?_ | refine .ret ?_ | refine .skip ?_ | refine .exit ?_ | refine .scope ?_ | refine .seq (.label ?_) | refine .block ?_ | refine .seq ?_)); (try simp only [vO, vQ, ↓vP, vE, vS, vB, vL, vF, vM, vN, vbs_full, Nat.reduceEqDiff, Nat.reduceAdd, Nat.reduceLeDiff, ne_eq, not_false_eq_true, Nat.reduceMul, Nat.reduceSub, Int.toNat_zero, Int.reduceToNat, Try.underlying3, info3, Try.underlying34, info34, vT])) | ((simp (disch := first | assumption | omega) only [w64, w8, tg_eq, n1, n2, nn, Int.tdiv_eq_ediv_of_nonneg, Sg.set_same, Sg.set_ne, Sg.set_ne', Sg.del_ne, Sg.del_ne']); (try simp only [vO, vQ, ↓vP, vE, vS, vB, vL, vF, vM, vN, vbs_full, Nat.reduceEqDiff, Nat.reduceAdd, Nat.reduceLeDiff, ne_eq, not_false_eq_true, Nat.reduceMul, Nat.reduceSub, Int.toNat_zero, Int.reduceToNat, Try.underlying3, info3, Try.underlying34, info34, vT])) | with_reducible refine vfresh_set ?_ | with_reducible refine vfresh_intro (fun _ _ => ?_) | with_reducible refine vif_intro (fun _ => ?_) (fun _ => ?_) | omega | ((with_reducible first | refine vop_at ?_ | refine vops_at ?_ | refine vquiet_at ?_ | refine vmix_at ?_ | refine Holds_at ?_); simp only [vO, vQ, ↓vP, vE, vS, vB, vL, vF, vM, vN, vbs_full, Nat.reduceEqDiff, Nat.reduceAdd, Nat.reduceLeDiff, ne_eq, not_false_eq_true, Nat.reduceMul, Nat.reduceSub, Int.toNat_zero, Int.reduceToNat, Try.underlying3, info3, Try.underlying34, info34, vT]))
  refine VW.loop3 (0 : Nat) () () (fun j _ _ => j ≤ min n.toNat 16) (fun j _ _ => [(0, .ref ρ 0), (1, .i n), (2, .sl k' (bytesL l)), (7, .i (bitsOf (fun m => decide (((m : Int), l) ∈ ps)) j)), (8, .i ((j : Int) + 1))]) (fun _ _ _ => σ) (fun j _ _ => 16 - j) (Nat.zero_le _) (.refl _) ?_ ?_
  · simp only [vO, vQ, ↓vP, vE, vS, vB, vL, vF, vM, vN, vbs_full, Nat.reduceEqDiff, Nat.reduceAdd, Nat.reduceLeDiff, ne_eq, not_false_eq_true, Nat.reduceMul, Nat.reduceSub, Int.toNat_zero, Int.reduceToNat, vT]
    exact ⟨rfl, rfl⟩
  rintro j _ _ h1
  have h56 := t56 ρ ps k k' ((j : Int) + 1) l σ hl hρ
  have hw : IntKind.i64.wrap ((j : Int) + 1 - 1) = (j : Int) := by rw [w64 (by omega) (by omega)]; omega
  have hw2 : IntKind.i64.wrap ((j : Int) + 1 + 1) = (j : Int) + 1 + 1 := w64 (by omega) (by omega)
  have hor : j ≤ 16 → _ := fun h => or_i64 (bitsOf_lt (fun m => decide (((m : Int), l) ∈ ps)) j) h
  have hor := hor (by omega)
  repeat' (first | with_reducible rfl | exact .inr trivial | with_reducible apply And.intro | with_reducible apply vqx_step | with_reducible apply vqm_step | with_reducible refine vkp_free (by decide +kernel) ?_ | with_reducible intro _ | ((first | (with_reducible first | refine .rs ?_ | refine .ds (by kernel_rfl) ?_ | refine .dg (by kernel_rfl) ?_ | refine .rg ?_ | refine .ite ?_ | refine .ret ?_ | refine .skip ?_ | refine .exit ?_ | refine .scope ?_ | refine .seq (.label ?_) | refine .block ?_ | refine .seq ?_)); (try simp only [vO, vQ, ↓vP, vE, vS, vB, vL, vF, vM, vN, vbs_full, Nat.reduceEqDiff, Nat.reduceAdd, Nat.reduceLeDiff, ne_eq, not_false_eq_true, Nat.reduceMul, Nat.reduceSub, Int.toNat_zero, Int.reduceToNat, Try.underlying3, info3, Try.underlying34, info34, hw, hw2, hor, Int.toNat_natCast, vT])) | ((simp (disch := first | assumption | omega) only [w64, w8, tg_eq, n1, n2, nn, Int.tdiv_eq_ediv_of_nonneg, Sg.set_same, Sg.set_ne, Sg.set_ne', Sg.del_ne, Sg.del_ne']); (try simp only [vO, vQ, ↓vP, vE, vS, vB, vL, vF, vM, vN, vbs_full, Nat.reduceEqDiff, Nat.reduceAdd, Nat.reduceLeDiff, ne_eq, not_false_eq_true, Nat.reduceMul, Nat.reduceSub, Int.toNat_zero, Int.reduceToNat, Try.underlying3, info3, Try.underlying34, info34, hw, hw2, hor, Int.toNat_natCast, vT])) | ((((with_reducible refine h56.mono ?_); rintro _ σ' ⟨rfl, rfl⟩)); (try simp only [vO, vQ, ↓vP, vE, vS, vB, vL, vF, vM, vN, vbs_full, Nat.reduceEqDiff, Nat.reduceAdd, Nat.reduceLeDiff, ne_eq, not_false_eq_true, Nat.reduceMul, Nat.reduceSub, Int.toNat_zero, Int.reduceToNat, Try.underlying3, info3, Try.underlying34, info34, hw, hw2, hor, Int.toNat_natCast, vT])) | with_reducible refine vfresh_set ?_ | with_reducible refine vfresh_intro (fun _ _ => ?_) | with_reducible refine vif_intro (fun _ => ?_) (fun _ => ?_) | omega | ((with_reducible first | refine vop_at ?_ | refine vops_at ?_ | refine vquiet_at ?_ | refine vmix_at ?_ | refine Holds_at ?_); simp only [vO, vQ, ↓vP, vE, vS, vB, vL, vF, vM, vN, vbs_full, Nat.reduceEqDiff, Nat.reduceAdd, Nat.reduceLeDiff, ne_eq, not_false_eq_true, Nat.reduceMul, Nat.reduceSub, Int.toNat_zero, Int.reduceToNat, Try.underlying3, info3, Try.underlying34, info34, hw, hw2, hor, Int.toNat_natCast, vT]))
  · exact ⟨j + 1, (), (), ⟨by omega, by omega⟩, .refl _, by rw [bitsOf, if_pos (decide_eq_true (by exact ‹_›))], i_eq (by omega)⟩
  · exact ⟨j + 1, (), (), ⟨by omega, by omega⟩, .refl _, bits_no (K := fun m : Nat => decide (((m : Int), l) ∈ ps)) (fun h => ‹¬ ((j : Int) + 1, l) ∈ ps› (of_decide_eq_true h)), i_eq (by omega)⟩
  · exact ⟨_, .refl _, by rw [show min n.toNat 16 = j by omega], rfl⟩
  · exact ⟨_, .refl _, by rw [show min n.toNat 16 = j by omega], rfl⟩
end Go.Proofs.Ytkbfngepdgdecaa

set_option linter.unusedSimpArgs false
set_option linter.unusedVariables false
namespace Go.Cert
open Go.V
/-- Byte strings in a row, each with its length ahead. -/
def partB (ls : List (List UInt8)) : List UInt8 := (ls.map fun l => be 4 l.length ++ l).flatten
theorem rowB_part (ls : List (List UInt8)) : rowB ls = be 4 ls.length ++ partB ls := rfl
theorem partB_step (ls : List (List UInt8)) (j : Nat) (h : j < ls.length) : partB (ls.take j) ++ (be 4 ls[j].length ++ ls[j]) = partB (ls.take (j + 1)) := by
  unfold partB
  rw [List.take_add_one, List.getElem?_eq_getElem h]
  rw [List.map_append, List.flatten_append]
  simp
theorem partB_len (ls : List (List UInt8)) (h : ∀ l ∈ ls, l.length ≤ 65536) : (partB ls).length ≤ ls.length * 65540 := by
  unfold partB
  induction ls with
  | nil => simp
  | cons a r ih =>
    have h1 := ih (fun l hl => h l (by simp [hl]))
    have h2 := h a (by simp)
    simp only [List.map_cons, List.flatten_cons, List.length_append, be_len, List.length_cons] at h1 ⊢
    omega
theorem partB_pre (es : List (Own × List UInt8)) (hn : es.length ≤ 4096) (hs : ∀ e ∈ es, e.2.length ≤ 65536) (j : Nat) : (partB ((es.map (·.2)).take j)).length ≤ 268451840 := by
  have := partB_len ((es.map (·.2)).take j) (fun l hl => by
    obtain ⟨e, he, rfl⟩ := List.mem_map.1 (List.mem_of_mem_take hl)
    exact hs e he)
  have h2 : ((es.map (·.2)).take j).length ≤ 4096 := by simp; omega
  omega
abbrev Es := List (Own × List UInt8)
def rowsA (es : Es) : List (List AV) := es.map fun e => [.sl e.1 (bytesL e.2)]
theorem rowsA_len (es : Es) : (rowsA es).length = es.length := by simp [rowsA]
theorem rowsA_step (es : Es) (j : Nat) (h : j < es.length) (hs : ∀ e ∈ es, e.2.length ≤ 65536) :
    ∃ k l, (rowsA es).getD j [] = [.sl k (bytesL l)] ∧ l.length ≤ 65536 ∧ partB ((es.map (·.2)).take j) ++ (be 4 l.length ++ l) = partB ((es.map (·.2)).take (j + 1)) := by
  refine ⟨es[j].1, es[j].2, ?_, hs _ (List.getElem_mem h), ?_⟩
  · simp [rowsA, List.getD_eq_getElem?_getD, List.getElem?_eq_getElem h]
  · have := partB_step (es.map (·.2)) j (by simpa using h)
    simpa using this
theorem partB_zero (es : Es) : partB ((es.map (·.2)).take 0) = [] := by simp [partB]
theorem rowB_all (es : Es) : be 4 es.length ++ partB ((es.map (·.2)).take es.length) = rowB (es.map (·.2)) := by
  rw [rowB_part, List.take_of_length_le (by simp)]
  simp
end Go.Cert
namespace Go.Proofs.Ytkbfngepdgdecaa
open Go Go.V Go.Cert
set_option maxHeartbeats 1000000 in
set_option maxRecDepth 100000 in
theorem t34 (k : Own) (es : Es) (σ : Sg) (hn : es.length ≤ 4096) (hs : ∀ e ∈ es, e.2.length ≤ 65536) : VCalls Try.prog 34 [.sl k (rowsA es)] σ (fun x σ' => ∃ y, x = .tup [y, .i 0] ∧ OwnB (rowB (es.map (·.2))) σ y σ') := by
  have h : ∀ σ, VCalls Try.prog 58 [.sl .nil [], .i (es.length : Int), .i 4] σ (fun x σ' => OwnB (be 4 es.length) σ x σ') := fun σ => t58 es.length 4 σ (by omega)
  (refine vfun (fun _ => .no) mixed Try.func34 (by kernel_rfl) ?_; simp only [bodyOf, Try.f34, Option.getD_some])
  repeat' (first | with_reducible rfl | exact .inr trivial | with_reducible apply And.intro | with_reducible apply vqx_step | with_reducible apply vqm_step | with_reducible refine vkp_free (by decide +kernel) ?_ | with_reducible intro _ | ((first | (with_reducible first | refine .rs ?_ | refine .ds (by kernel_rfl) ?_ | refine .dg (by kernel_rfl) ?_ | refine .rg ?_ | refine .ite ?_ | refine .ret ?_ | refine .skip ?_ | refine .exit ?_ | refine .scope ?_ | refine .seq (.label ?_) | refine .block ?_ | refine .seq ?_)); (try simp only [vO, vQ, ↓vP, vE, vS, vB, vL, vF, vM, vN, vbs_full, Nat.reduceEqDiff, Nat.reduceAdd, Nat.reduceLeDiff, ne_eq, not_false_eq_true, Nat.reduceMul, Nat.reduceSub, Int.toNat_zero, Int.reduceToNat, Try.underlying34, Try.underlying5, Try.underlying3, Try.underlying70, info34, info5, info3, info70, nadd, nadd1, nadd2, nadd3, n1add, n2add, rowsA_len, vT])) | ((simp (disch := first | assumption | omega) only [w64, w8, tg_eq, Go.V.n1, Go.V.n2, Go.V.nn, Int.tdiv_eq_ediv_of_nonneg, Sg.set_same, Sg.set_ne, Sg.set_ne', Sg.del_ne, Sg.del_ne']); (try simp only [vO, vQ, ↓vP, vE, vS, vB, vL, vF, vM, vN, vbs_full, Nat.reduceEqDiff, Nat.reduceAdd, Nat.reduceLeDiff, ne_eq, not_false_eq_true, Nat.reduceMul, Nat.reduceSub, Int.toNat_zero, Int.reduceToNat, Try.underlying34, Try.underlying5, Try.underlying3, Try.underlying70, info34, info5, info3, info70, nadd, nadd1, nadd2, nadd3, n1add, n2add, rowsA_len, vT])) | ((((with_reducible refine (h _).mono ?_); rintro y σ' ⟨τ, hτ, rfl, rfl⟩)); (try simp only [vO, vQ, ↓vP, vE, vS, vB, vL, vF, vM, vN, vbs_full, Nat.reduceEqDiff, Nat.reduceAdd, Nat.reduceLeDiff, ne_eq, not_false_eq_true, Nat.reduceMul, Nat.reduceSub, Int.toNat_zero, Int.reduceToNat, Try.underlying34, Try.underlying5, Try.underlying3, Try.underlying70, info34, info5, info3, info70, nadd, nadd1, nadd2, nadd3, n1add, n2add, rowsA_len, vT])) | with_reducible refine vfresh_set ?_ | with_reducible refine vfresh_intro (fun _ _ => ?_) | with_reducible refine vif_intro (fun _ => ?_) (fun _ => ?_) | omega | ((with_reducible first | refine vop_at ?_ | refine vops_at ?_ | refine vquiet_at ?_ | refine vmix_at ?_ | refine Holds_at ?_); simp only [vO, vQ, ↓vP, vE, vS, vB, vL, vF, vM, vN, vbs_full, Nat.reduceEqDiff, Nat.reduceAdd, Nat.reduceLeDiff, ne_eq, not_false_eq_true, Nat.reduceMul, Nat.reduceSub, Int.toNat_zero, Int.reduceToNat, Try.underlying34, Try.underlying5, Try.underlying3, Try.underlying70, info34, info5, info3, info70, nadd, nadd1, nadd2, nadd3, n1add, n2add, rowsA_len, vT]))
  refine VW.loop3 (0 : Nat) (.sl (.tok _ 1) (bytesL (be 4 es.length))) (σ.set _ (.tok (some 5))) (fun j V S => j ≤ es.length ∧ OwnB (be 4 es.length ++ partB ((es.map (·.2)).take j)) σ V S) (fun j V _ => [(4, V), (15, .sl k (rowsA es)), (16, .i es.length), (17, .i j)]) (fun _ _ S => S) (fun j _ _ => es.length - j) ⟨Nat.zero_le _, _, ‹_›, by rw [partB_zero, List.append_nil], rfl⟩ (.refl _) ?_ ?_
  · simp only [vO, vQ, ↓vP, vE, vS, vB, vL, vF, vM, vN, vbs_full, Nat.reduceEqDiff, Nat.reduceAdd, Nat.reduceLeDiff, ne_eq, not_false_eq_true, Nat.reduceMul, Nat.reduceSub, Int.toNat_zero, Int.reduceToNat, vT]
    rfl
  rintro j V S ⟨h1, τ, hτ, rfl, rfl⟩
  rcases Nat.lt_or_ge j es.length with hj | hj
  · have hb := partB_pre es hn hs j
    obtain ⟨kj, lj, hg, hl, hst⟩ := rowsA_step es j hj hs
    repeat' (first | with_reducible rfl | exact .inr trivial | with_reducible apply And.intro | with_reducible apply vqx_step | with_reducible apply vqm_step | with_reducible refine vkp_free (by decide +kernel) ?_ | with_reducible intro _ | ((first | (with_reducible first | refine .rs ?_ | refine .ds (by kernel_rfl) ?_ | refine .dg (by kernel_rfl) ?_ | refine .rg ?_ | refine .ite ?_ | refine .ret ?_ | refine .skip ?_ | refine .exit ?_ | refine .scope ?_ | refine .seq (.label ?_) | refine .block ?_ | refine .seq ?_)); (try simp only [vO, vQ, ↓vP, vE, vS, vB, vL, vF, vM, vN, vbs_full, Nat.reduceEqDiff, Nat.reduceAdd, Nat.reduceLeDiff, ne_eq, not_false_eq_true, Nat.reduceMul, Nat.reduceSub, Int.toNat_zero, Int.reduceToNat, Try.underlying34, Try.underlying5, Try.underlying3, Try.underlying70, info34, info5, info3, info70, nadd, nadd1, nadd2, nadd3, n1add, n2add, rowsA_len, hg, List.length_append, be_len, vT])) | ((simp (disch := first | assumption | omega) only [w64, w8, tg_eq, Go.V.n1, Go.V.n2, Go.V.nn, Int.tdiv_eq_ediv_of_nonneg, Sg.set_same, Sg.set_ne, Sg.set_ne', Sg.del_ne, Sg.del_ne']); (try simp only [vO, vQ, ↓vP, vE, vS, vB, vL, vF, vM, vN, vbs_full, Nat.reduceEqDiff, Nat.reduceAdd, Nat.reduceLeDiff, ne_eq, not_false_eq_true, Nat.reduceMul, Nat.reduceSub, Int.toNat_zero, Int.reduceToNat, Try.underlying34, Try.underlying5, Try.underlying3, Try.underlying70, info34, info5, info3, info70, nadd, nadd1, nadd2, nadd3, n1add, n2add, rowsA_len, hg, List.length_append, be_len, vT])) | ((((with_reducible refine (t59 _ _ _ hl).mono ?_); rintro _ σ' ⟨y, rfl, τ', hτ', rfl, rfl⟩; obtain ⟨hne, hτ''⟩ := Sg.of_set_none hτ')); (try simp only [vO, vQ, ↓vP, vE, vS, vB, vL, vF, vM, vN, vbs_full, Nat.reduceEqDiff, Nat.reduceAdd, Nat.reduceLeDiff, ne_eq, not_false_eq_true, Nat.reduceMul, Nat.reduceSub, Int.toNat_zero, Int.reduceToNat, Try.underlying34, Try.underlying5, Try.underlying3, Try.underlying70, info34, info5, info3, info70, nadd, nadd1, nadd2, nadd3, n1add, n2add, rowsA_len, hg, List.length_append, be_len, vT])) | with_reducible refine vfresh_set ?_ | with_reducible refine vfresh_intro (fun _ _ => ?_) | with_reducible refine vif_intro (fun _ => ?_) (fun _ => ?_) | omega | ((with_reducible first | refine vop_at ?_ | refine vops_at ?_ | refine vquiet_at ?_ | refine vmix_at ?_ | refine Holds_at ?_); simp only [vO, vQ, ↓vP, vE, vS, vB, vL, vF, vM, vN, vbs_full, Nat.reduceEqDiff, Nat.reduceAdd, Nat.reduceLeDiff, ne_eq, not_false_eq_true, Nat.reduceMul, Nat.reduceSub, Int.toNat_zero, Int.reduceToNat, Try.underlying34, Try.underlying5, Try.underlying3, Try.underlying70, info34, info5, info3, info70, nadd, nadd1, nadd2, nadd3, n1add, n2add, rowsA_len, hg, List.length_append, be_len, vT]))
    all_goals rename_i z hz _ _
    all_goals exact ⟨j + 1, .sl (.tok z 1) (bytesL (be 4 es.length ++ partB ((es.map (·.2)).take (j + 1)))), _, ⟨⟨hj, z, hz, rfl, rfl⟩, by omega⟩, (by repeat (first | exact Sg.sub.refl _ | refine Sg.sub.set_both ?_ | refine Sg.sub.set_fresh ?_ (by first | assumption | exact Sg.set_none ‹_› ‹_›) | refine Sg.sub.del_fresh ?_ (by first | assumption | exact Sg.set_none ‹_› ‹_›))), by rw [List.append_assoc, hst], rfl⟩
  · obtain rfl : j = es.length := by omega
    repeat' (first | with_reducible rfl | exact .inr trivial | with_reducible apply And.intro | with_reducible apply vqx_step | with_reducible apply vqm_step | with_reducible refine vkp_free (by decide +kernel) ?_ | with_reducible intro _ | ((first | (with_reducible first | refine .rs ?_ | refine .ds (by kernel_rfl) ?_ | refine .dg (by kernel_rfl) ?_ | refine .rg ?_ | refine .ite ?_ | refine .ret ?_ | refine .skip ?_ | refine .exit ?_ | refine .scope ?_ | refine .seq (.label ?_) | refine .block ?_ | refine .seq ?_)); (try simp only [vO, vQ, ↓vP, vE, vS, vB, vL, vF, vM, vN, vbs_full, Nat.reduceEqDiff, Nat.reduceAdd, Nat.reduceLeDiff, ne_eq, not_false_eq_true, Nat.reduceMul, Nat.reduceSub, Int.toNat_zero, Int.reduceToNat, Try.underlying34, Try.underlying5, Try.underlying3, Try.underlying70, info34, info5, info3, info70, nadd, nadd1, nadd2, nadd3, n1add, n2add, rowsA_len, vT])) | ((simp (disch := first | assumption | omega) only [w64, w8, tg_eq, Go.V.n1, Go.V.n2, Go.V.nn, Int.tdiv_eq_ediv_of_nonneg, Sg.set_same, Sg.set_ne, Sg.set_ne', Sg.del_ne, Sg.del_ne']); (try simp only [vO, vQ, ↓vP, vE, vS, vB, vL, vF, vM, vN, vbs_full, Nat.reduceEqDiff, Nat.reduceAdd, Nat.reduceLeDiff, ne_eq, not_false_eq_true, Nat.reduceMul, Nat.reduceSub, Int.toNat_zero, Int.reduceToNat, Try.underlying34, Try.underlying5, Try.underlying3, Try.underlying70, info34, info5, info3, info70, nadd, nadd1, nadd2, nadd3, n1add, n2add, rowsA_len, vT])) | with_reducible refine vfresh_set ?_ | with_reducible refine vfresh_intro (fun _ _ => ?_) | with_reducible refine vif_intro (fun _ => ?_) (fun _ => ?_) | omega | ((with_reducible first | refine vop_at ?_ | refine vops_at ?_ | refine vquiet_at ?_ | refine vmix_at ?_ | refine Holds_at ?_); simp only [vO, vQ, ↓vP, vE, vS, vB, vL, vF, vM, vN, vbs_full, Nat.reduceEqDiff, Nat.reduceAdd, Nat.reduceLeDiff, ne_eq, not_false_eq_true, Nat.reduceMul, Nat.reduceSub, Int.toNat_zero, Int.reduceToNat, Try.underlying34, Try.underlying5, Try.underlying3, Try.underlying70, info34, info5, info3, info70, nadd, nadd1, nadd2, nadd3, n1add, n2add, rowsA_len, vT]))
    all_goals exact ⟨_, .refl _, _, rfl, τ, hτ, by rw [rowB_all], rfl⟩
set_option maxHeartbeats 1000000 in
set_option maxRecDepth 100000 in
theorem t60 (k : Own) (es : Es) (σ : Sg) (hn : es.length ≤ 4096) (hs : ∀ e ∈ es, e.2.length ≤ 65536) : VCalls Try.prog 60 [.sl k (rowsA es)] σ (fun x σ' => ∃ y, x = .tup [y, .i 0] ∧ OwnB (rowB (es.map (·.2))) σ y σ') := by
  (refine vfun (fun _ => .no) mixed Try.func60 (by kernel_rfl) ?_; simp only [bodyOf, Try.f60, Option.getD_some])
  repeat' (first | with_reducible rfl | exact .inr trivial | with_reducible apply And.intro | with_reducible apply vqx_step | with_reducible apply vqm_step | with_reducible refine vkp_free (by decide +kernel) ?_ | with_reducible intro _ | ((first | (with_reducible first | refine .rs ?_ | refine .ds (by kernel_rfl) ?_ | refine .dg (by kernel_rfl) ?_ | refine .rg ?_ | refine .ite ?_ | refine .ret ?_ | refine .skip ?_ | refine .exit ?_ | refine .scope ?_ | refine .seq (.label ?_) | refine .block ?_ | refine .seq ?_)); (try simp only [vO, vQ, ↓vP, vE, vS, vB, vL, vF, vM, vN, vbs_full, Nat.reduceEqDiff, Nat.reduceAdd, Nat.reduceLeDiff, ne_eq, not_false_eq_true, Nat.reduceMul, Nat.reduceSub, Int.toNat_zero, Int.reduceToNat, Try.underlying34, Try.underlying5, Try.underlying3, Try.underlying70, info34, info5, info3, info70, nadd, nadd1, nadd2, nadd3, n1add, n2add, rowsA_len, vT])) | ((simp (disch := first | assumption | omega) only [w64, w8, tg_eq, Go.V.n1, Go.V.n2, Go.V.nn, Int.tdiv_eq_ediv_of_nonneg, Sg.set_same, Sg.set_ne, Sg.set_ne', Sg.del_ne, Sg.del_ne']); (try simp only [vO, vQ, ↓vP, vE, vS, vB, vL, vF, vM, vN, vbs_full, Nat.reduceEqDiff, Nat.reduceAdd, Nat.reduceLeDiff, ne_eq, not_false_eq_true, Nat.reduceMul, Nat.reduceSub, Int.toNat_zero, Int.reduceToNat, Try.underlying34, Try.underlying5, Try.underlying3, Try.underlying70, info34, info5, info3, info70, nadd, nadd1, nadd2, nadd3, n1add, n2add, rowsA_len, vT])) | ((((with_reducible refine (t94 _ _ (by omega)).mono ?_); rintro y σ' ⟨τ, hτ, rfl, rfl⟩)); (try simp only [vO, vQ, ↓vP, vE, vS, vB, vL, vF, vM, vN, vbs_full, Nat.reduceEqDiff, Nat.reduceAdd, Nat.reduceLeDiff, ne_eq, not_false_eq_true, Nat.reduceMul, Nat.reduceSub, Int.toNat_zero, Int.reduceToNat, Try.underlying34, Try.underlying5, Try.underlying3, Try.underlying70, info34, info5, info3, info70, nadd, nadd1, nadd2, nadd3, n1add, n2add, rowsA_len, vT])) | with_reducible refine vfresh_set ?_ | with_reducible refine vfresh_intro (fun _ _ => ?_) | with_reducible refine vif_intro (fun _ => ?_) (fun _ => ?_) | omega | ((with_reducible first | refine vop_at ?_ | refine vops_at ?_ | refine vquiet_at ?_ | refine vmix_at ?_ | refine Holds_at ?_); simp only [vO, vQ, ↓vP, vE, vS, vB, vL, vF, vM, vN, vbs_full, Nat.reduceEqDiff, Nat.reduceAdd, Nat.reduceLeDiff, ne_eq, not_false_eq_true, Nat.reduceMul, Nat.reduceSub, Int.toNat_zero, Int.reduceToNat, Try.underlying34, Try.underlying5, Try.underlying3, Try.underlying70, info34, info5, info3, info70, nadd, nadd1, nadd2, nadd3, n1add, n2add, rowsA_len, vT]))
  refine VW.loop3 (0 : Nat) (.sl (.tok _ 1) (bytesL (be 4 es.length))) (σ.set _ (.tok (some 5))) (fun j V S => j ≤ es.length ∧ OwnB (be 4 es.length ++ partB ((es.map (·.2)).take j)) σ V S) (fun j V _ => [(0, .sl k (rowsA es)), (4, V), (5, .i j)]) (fun _ _ S => S) (fun j _ _ => es.length - j) ⟨Nat.zero_le _, _, ‹_›, by rw [partB_zero, List.append_nil], rfl⟩ (.refl _) ?_ ?_
  · simp only [vO, vQ, ↓vP, vE, vS, vB, vL, vF, vM, vN, vbs_full, Nat.reduceEqDiff, Nat.reduceAdd, Nat.reduceLeDiff, ne_eq, not_false_eq_true, Nat.reduceMul, Nat.reduceSub, Int.toNat_zero, Int.reduceToNat, vT]
    rfl
  rintro j V S ⟨h1, τ, hτ, rfl, rfl⟩
  rcases Nat.lt_or_ge j es.length with hj | hj
  · have hb := partB_pre es hn hs j
    obtain ⟨kj, lj, hg, hl, hst⟩ := rowsA_step es j hj hs
    repeat' (first | with_reducible rfl | exact .inr trivial | with_reducible apply And.intro | with_reducible apply vqx_step | with_reducible apply vqm_step | with_reducible refine vkp_free (by decide +kernel) ?_ | with_reducible intro _ | ((first | (with_reducible first | refine .rs ?_ | refine .ds (by kernel_rfl) ?_ | refine .dg (by kernel_rfl) ?_ | refine .rg ?_ | refine .ite ?_ | refine .ret ?_ | refine .skip ?_ | refine .exit ?_ | refine .scope ?_ | refine .seq (.label ?_) | refine .block ?_ | refine .seq ?_)); (try simp only [vO, vQ, ↓vP, vE, vS, vB, vL, vF, vM, vN, vbs_full, Nat.reduceEqDiff, Nat.reduceAdd, Nat.reduceLeDiff, ne_eq, not_false_eq_true, Nat.reduceMul, Nat.reduceSub, Int.toNat_zero, Int.reduceToNat, Try.underlying34, Try.underlying5, Try.underlying3, Try.underlying70, info34, info5, info3, info70, nadd, nadd1, nadd2, nadd3, n1add, n2add, rowsA_len, hg, List.length_append, be_len, vT])) | ((simp (disch := first | assumption | omega) only [w64, w8, tg_eq, Go.V.n1, Go.V.n2, Go.V.nn, Int.tdiv_eq_ediv_of_nonneg, Sg.set_same, Sg.set_ne, Sg.set_ne', Sg.del_ne, Sg.del_ne']); (try simp only [vO, vQ, ↓vP, vE, vS, vB, vL, vF, vM, vN, vbs_full, Nat.reduceEqDiff, Nat.reduceAdd, Nat.reduceLeDiff, ne_eq, not_false_eq_true, Nat.reduceMul, Nat.reduceSub, Int.toNat_zero, Int.reduceToNat, Try.underlying34, Try.underlying5, Try.underlying3, Try.underlying70, info34, info5, info3, info70, nadd, nadd1, nadd2, nadd3, n1add, n2add, rowsA_len, hg, List.length_append, be_len, vT])) | ((((with_reducible refine (t95 _ _ _ hl).mono ?_); rintro _ σ' ⟨y, rfl, τ', hτ', rfl, rfl⟩; obtain ⟨hne, hτ''⟩ := Sg.of_set_none hτ')); (try simp only [vO, vQ, ↓vP, vE, vS, vB, vL, vF, vM, vN, vbs_full, Nat.reduceEqDiff, Nat.reduceAdd, Nat.reduceLeDiff, ne_eq, not_false_eq_true, Nat.reduceMul, Nat.reduceSub, Int.toNat_zero, Int.reduceToNat, Try.underlying34, Try.underlying5, Try.underlying3, Try.underlying70, info34, info5, info3, info70, nadd, nadd1, nadd2, nadd3, n1add, n2add, rowsA_len, hg, List.length_append, be_len, vT])) | with_reducible refine vfresh_set ?_ | with_reducible refine vfresh_intro (fun _ _ => ?_) | with_reducible refine vif_intro (fun _ => ?_) (fun _ => ?_) | omega | ((with_reducible first | refine vop_at ?_ | refine vops_at ?_ | refine vquiet_at ?_ | refine vmix_at ?_ | refine Holds_at ?_); simp only [vO, vQ, ↓vP, vE, vS, vB, vL, vF, vM, vN, vbs_full, Nat.reduceEqDiff, Nat.reduceAdd, Nat.reduceLeDiff, ne_eq, not_false_eq_true, Nat.reduceMul, Nat.reduceSub, Int.toNat_zero, Int.reduceToNat, Try.underlying34, Try.underlying5, Try.underlying3, Try.underlying70, info34, info5, info3, info70, nadd, nadd1, nadd2, nadd3, n1add, n2add, rowsA_len, hg, List.length_append, be_len, vT]))
    all_goals rename_i z hz _ _
    all_goals exact ⟨j + 1, .sl (.tok z 1) (bytesL (be 4 es.length ++ partB ((es.map (·.2)).take (j + 1)))), _, ⟨⟨hj, z, hz, rfl, rfl⟩, by omega⟩, (by repeat (first | exact Sg.sub.refl _ | refine Sg.sub.set_both ?_ | refine Sg.sub.set_fresh ?_ (by first | assumption | exact Sg.set_none ‹_› ‹_›) | refine Sg.sub.del_fresh ?_ (by first | assumption | exact Sg.set_none ‹_› ‹_›))), by rw [List.append_assoc, hst], rfl⟩
  · obtain rfl : j = es.length := by omega
    repeat' (first | with_reducible rfl | exact .inr trivial | with_reducible apply And.intro | with_reducible apply vqx_step | with_reducible apply vqm_step | with_reducible refine vkp_free (by decide +kernel) ?_ | with_reducible intro _ | ((first | (with_reducible first | refine .rs ?_ | refine .ds (by kernel_rfl) ?_ | refine .dg (by kernel_rfl) ?_ | refine .rg ?_ | refine .ite ?_ | refine .ret ?_ | refine .skip ?_ | refine .exit ?_ | refine .scope ?_ | refine .seq (.label ?_) | refine .block ?_ | refine .seq ?_)); (try simp only [vO, vQ, ↓vP, vE, vS, vB, vL, vF, vM, vN, vbs_full, Nat.reduceEqDiff, Nat.reduceAdd, Nat.reduceLeDiff, ne_eq, not_false_eq_true, Nat.reduceMul, Nat.reduceSub, Int.toNat_zero, Int.reduceToNat, Try.underlying34, Try.underlying5, Try.underlying3, Try.underlying70, info34, info5, info3, info70, nadd, nadd1, nadd2, nadd3, n1add, n2add, rowsA_len, vT])) | ((simp (disch := first | assumption | omega) only [w64, w8, tg_eq, Go.V.n1, Go.V.n2, Go.V.nn, Int.tdiv_eq_ediv_of_nonneg, Sg.set_same, Sg.set_ne, Sg.set_ne', Sg.del_ne, Sg.del_ne']); (try simp only [vO, vQ, ↓vP, vE, vS, vB, vL, vF, vM, vN, vbs_full, Nat.reduceEqDiff, Nat.reduceAdd, Nat.reduceLeDiff, ne_eq, not_false_eq_true, Nat.reduceMul, Nat.reduceSub, Int.toNat_zero, Int.reduceToNat, Try.underlying34, Try.underlying5, Try.underlying3, Try.underlying70, info34, info5, info3, info70, nadd, nadd1, nadd2, nadd3, n1add, n2add, rowsA_len, vT])) | with_reducible refine vfresh_set ?_ | with_reducible refine vfresh_intro (fun _ _ => ?_) | with_reducible refine vif_intro (fun _ => ?_) (fun _ => ?_) | omega | ((with_reducible first | refine vop_at ?_ | refine vops_at ?_ | refine vquiet_at ?_ | refine vmix_at ?_ | refine Holds_at ?_); simp only [vO, vQ, ↓vP, vE, vS, vB, vL, vF, vM, vN, vbs_full, Nat.reduceEqDiff, Nat.reduceAdd, Nat.reduceLeDiff, ne_eq, not_false_eq_true, Nat.reduceMul, Nat.reduceSub, Int.toNat_zero, Int.reduceToNat, Try.underlying34, Try.underlying5, Try.underlying3, Try.underlying70, info34, info5, info3, info70, nadd, nadd1, nadd2, nadd3, n1add, n2add, rowsA_len, vT]))
    all_goals exact ⟨_, .refl _, _, rfl, τ, hτ, by rw [rowB_all], rfl⟩
set_option maxHeartbeats 1000000 in
set_option maxRecDepth 100000 in
theorem t57 (k : Own) (es : Es) (σ : Sg) (hn : es.length ≤ 4096) (hs : ∀ e ∈ es, e.2.length ≤ 65536) : VCalls Try.prog 57 [.sl k (rowsA es)] σ (fun x σ' => OwnB (rowB (es.map (·.2))) σ x σ') := by
  (refine vfun (fun _ => .no) mixed Try.func57 (by kernel_rfl) ?_; simp only [bodyOf, Try.f57, Option.getD_some])
  repeat' (first | with_reducible rfl | exact .inr trivial | with_reducible apply And.intro | with_reducible apply vqx_step | with_reducible apply vqm_step | with_reducible refine vkp_free (by decide +kernel) ?_ | with_reducible intro _ | ((first | (with_reducible first | refine .rs ?_ | refine .ds (by kernel_rfl) ?_ | refine .dg (by kernel_rfl) ?_ | refine .rg ?_ | refine .ite ?_ | refine .ret ?_ | refine .skip ?_ | refine .exit ?_ | refine .scope ?_ | refine .seq (.label ?_) | refine .block ?_ | refine .seq ?_)); (try simp only [vO, vQ, ↓vP, vE, vS, vB, vL, vF, vM, vN, vbs_full, Nat.reduceEqDiff, Nat.reduceAdd, Nat.reduceLeDiff, ne_eq, not_false_eq_true, Nat.reduceMul, Nat.reduceSub, Int.toNat_zero, Int.reduceToNat, Try.underlying34, Try.underlying70, info34, info70, nadd, nadd1, nadd2, nadd3, n1add, n2add, rowsA_len, vT])) | ((simp (disch := first | assumption | omega) only [w64, w8, tg_eq, Go.V.n1, Go.V.n2, Go.V.nn, Int.tdiv_eq_ediv_of_nonneg, Sg.set_same, Sg.set_ne, Sg.set_ne', Sg.del_ne, Sg.del_ne']); (try simp only [vO, vQ, ↓vP, vE, vS, vB, vL, vF, vM, vN, vbs_full, Nat.reduceEqDiff, Nat.reduceAdd, Nat.reduceLeDiff, ne_eq, not_false_eq_true, Nat.reduceMul, Nat.reduceSub, Int.toNat_zero, Int.reduceToNat, Try.underlying34, Try.underlying70, info34, info70, nadd, nadd1, nadd2, nadd3, n1add, n2add, rowsA_len, vT])) | ((((with_reducible refine (t34 _ _ _ hn hs).mono ?_); rintro _ σ' ⟨y, rfl, τ, hτ, rfl, rfl⟩)); (try simp only [vO, vQ, ↓vP, vE, vS, vB, vL, vF, vM, vN, vbs_full, Nat.reduceEqDiff, Nat.reduceAdd, Nat.reduceLeDiff, ne_eq, not_false_eq_true, Nat.reduceMul, Nat.reduceSub, Int.toNat_zero, Int.reduceToNat, Try.underlying34, Try.underlying70, info34, info70, nadd, nadd1, nadd2, nadd3, n1add, n2add, rowsA_len, vT])) | with_reducible refine vfresh_set ?_ | with_reducible refine vfresh_intro (fun _ _ => ?_) | with_reducible refine vif_intro (fun _ => ?_) (fun _ => ?_) | omega | ((with_reducible first | refine vop_at ?_ | refine vops_at ?_ | refine vquiet_at ?_ | refine vmix_at ?_ | refine Holds_at ?_); simp only [vO, vQ, ↓vP, vE, vS, vB, vL, vF, vM, vN, vbs_full, Nat.reduceEqDiff, Nat.reduceAdd, Nat.reduceLeDiff, ne_eq, not_false_eq_true, Nat.reduceMul, Nat.reduceSub, Int.toNat_zero, Int.reduceToNat, Try.underlying34, Try.underlying70, info34, info70, nadd, nadd1, nadd2, nadd3, n1add, n2add, rowsA_len, vT]))
  all_goals exact ⟨_, .refl _, _, by assumption, rfl, rfl⟩
set_option maxHeartbeats 1000000 in
set_option maxRecDepth 100000 in
theorem t36 (k : Own) (es : Es) (σ : Sg) (hn : es.length ≤ 4096) (hs : ∀ e ∈ es, e.2.length ≤ 65536) : VCalls Try.prog 36 [.sl k (rowsA es)] σ (fun x σ' => OwnB (rowB (es.map (·.2))) σ x σ') := by
  (refine vfun (fun _ => .no) mixed Try.func36 (by kernel_rfl) ?_; simp only [bodyOf, Try.f36, Option.getD_some])
  repeat' (first | with_reducible rfl | exact .inr trivial | with_reducible apply And.intro | with_reducible apply vqx_step | with_reducible apply vqm_step | with_reducible refine vkp_free (by decide +kernel) ?_ | with_reducible intro _ | ((first | (with_reducible first | refine .rs ?_ | refine .ds (by kernel_rfl) ?_ | refine .dg (by kernel_rfl) ?_ | refine .rg ?_ | refine .ite ?_ | refine .ret ?_ | refine .skip ?_ | refine .exit ?_ | refine .scope ?_ | refine .seq (.label ?_) | refine .block ?_ | refine .seq ?_)); (try simp only [vO, vQ, ↓vP, vE, vS, vB, vL, vF, vM, vN, vbs_full, Nat.reduceEqDiff, Nat.reduceAdd, Nat.reduceLeDiff, ne_eq, not_false_eq_true, Nat.reduceMul, Nat.reduceSub, Int.toNat_zero, Int.reduceToNat, Try.underlying34, Try.underlying70, info34, info70, nadd, nadd1, nadd2, nadd3, n1add, n2add, rowsA_len, vT])) | ((simp (disch := first | assumption | omega) only [w64, w8, tg_eq, Go.V.n1, Go.V.n2, Go.V.nn, Int.tdiv_eq_ediv_of_nonneg, Sg.set_same, Sg.set_ne, Sg.set_ne', Sg.del_ne, Sg.del_ne']); (try simp only [vO, vQ, ↓vP, vE, vS, vB, vL, vF, vM, vN, vbs_full, Nat.reduceEqDiff, Nat.reduceAdd, Nat.reduceLeDiff, ne_eq, not_false_eq_true, Nat.reduceMul, Nat.reduceSub, Int.toNat_zero, Int.reduceToNat, Try.underlying34, Try.underlying70, info34, info70, nadd, nadd1, nadd2, nadd3, n1add, n2add, rowsA_len, vT])) | ((((with_reducible refine (t60 _ _ _ hn hs).mono ?_); rintro _ σ' ⟨y, rfl, τ, hτ, rfl, rfl⟩)); (try simp only [vO, vQ, ↓vP, vE, vS, vB, vL, vF, vM, vN, vbs_full, Nat.reduceEqDiff, Nat.reduceAdd, Nat.reduceLeDiff, ne_eq, not_false_eq_true, Nat.reduceMul, Nat.reduceSub, Int.toNat_zero, Int.reduceToNat, Try.underlying34, Try.underlying70, info34, info70, nadd, nadd1, nadd2, nadd3, n1add, n2add, rowsA_len, vT])) | with_reducible refine vfresh_set ?_ | with_reducible refine vfresh_intro (fun _ _ => ?_) | with_reducible refine vif_intro (fun _ => ?_) (fun _ => ?_) | omega | ((with_reducible first | refine vop_at ?_ | refine vops_at ?_ | refine vquiet_at ?_ | refine vmix_at ?_ | refine Holds_at ?_); simp only [vO, vQ, ↓vP, vE, vS, vB, vL, vF, vM, vN, vbs_full, Nat.reduceEqDiff, Nat.reduceAdd, Nat.reduceLeDiff, ne_eq, not_false_eq_true, Nat.reduceMul, Nat.reduceSub, Int.toNat_zero, Int.reduceToNat, Try.underlying34, Try.underlying70, info34, info70, nadd, nadd1, nadd2, nadd3, n1add, n2add, rowsA_len, vT]))
  all_goals exact ⟨_, .refl _, _, by assumption, rfl, rfl⟩
end Go.Proofs.Ytkbfngepdgdecaa

set_option linter.unusedSimpArgs false
set_option linter.unusedVariables false
namespace Go.Cert
open Go.V
def aB (l : List UInt8) : List AV := l.map fun b => AV.u8 b.toNat
theorem aB_len (l : List UInt8) : (aB l).length = l.length := by simp [aB]
theorem aB_drop (l : List UInt8) (k : Nat) : (aB l).drop k = aB (l.drop k) := by simp [aB]
theorem aB_take (l : List UInt8) (k : Nat) : (aB l).take k = aB (l.take k) := by simp [aB]
theorem aB_chunks : ∀ (n : Nat) (l : List UInt8), n ≤ l.length → chunks 1 n (aB l) = bytesL (l.take n)
  | 0, _, _ => by simp [chunks, bytesL]
  | n + 1, [], h => by simp at h
  | n + 1, a :: l, h => by
    show ((aB (a :: l)).take 1) :: chunks 1 n ((aB (a :: l)).drop 1) = _
    rw [show (aB (a :: l)).drop 1 = aB l by simp [aB], aB_chunks n l (by simpa using h)]
    simp [aB, bytesL]
def bad (q : Int) : Prop := q < 0 ∨ 1099511627776 < q
instance (q : Int) : Decidable (bad q) := by unfold bad; infer_instance
/-- The four sums behind a header's number. -/
def sums (l : List UInt8) : List (List UInt8) := [l.take 32, (l.drop 32).take 32, (l.drop 64).take 32, (l.drop 96).take 32]
def hdB (q : Int) (l : List UInt8) : List UInt8 := rowB (be 8 q.toNat :: sums l)
def sealT : List UInt8 := [115, 101, 97, 108]
def certText (q : Int) (l : List UInt8) : List UInt8 := rowB [sealT, hdB q l]
theorem hdB_len (q : Int) (l : List UInt8) : (hdB q l).length ≤ 200 := by
  simp [hdB, rowB_part, partB, sums, be_len]
  omega
end Go.Cert
namespace Go.Proofs.Ytkbfngepdgdecaa
open Go Go.V Go.Cert
theorem vown2_ro (e : TypeId) (s : Nat) (es : List (List AV)) (σ : Sg) (R : AV → Sg → Prop) : vown2 .ro e s es σ R = R (.sl .full es) σ := rfl
theorem sz26 : ∃ z, tInfo Try.prog 26 = some (some z, 129, 136) := ⟨_, info26⟩
theorem sz24 : ∃ z, tInfo Try.prog 24 = some (some z, 32, 32) := ⟨_, info24⟩
set_option maxHeartbeats 1000000 in
set_option maxRecDepth 100000 in
theorem t33a (q : Int) (l : List UInt8) (σ : Sg) (hl : l.length = 128) (hq : bad q) : VCalls Try.prog 33 [.agg (.i q :: aB l)] σ (fun x σ' => x = .tup [.sl .nil [], .i 1] ∧ σ' = σ) := by
  have hlen : (aB l).length = 128 := by rw [aB_len, hl]
  obtain ⟨z26, h26⟩ := sz26
  obtain ⟨z24, h24⟩ := sz24
  have hq2 : ¬ q < 0 → 1099511627776 < q := by unfold bad at hq; omega
  (refine vfun (fun _ => .ro) mixed Try.func33 (by kernel_rfl) ?_; simp only [bodyOf, Try.f33, Option.getD_some])
  repeat' (first | with_reducible rfl | exact .inr trivial | with_reducible apply And.intro | with_reducible apply vqx_step | with_reducible apply vqm_step | with_reducible refine vkp_free (by decide +kernel) ?_ | with_reducible intro _ | ((with_reducible refine .dms (fun _ => False) [] (by decide) (by kernel_rfl) ?_); (simp only [vO, vQ, ↓vP, vE, vS, vB, vL, vF, vM, vN, vbs_full, Nat.reduceEqDiff, Nat.reduceAdd, Nat.reduceLeDiff, ne_eq, not_false_eq_true, Nat.reduceMul, Nat.reduceSub, Int.toNat_zero, Int.reduceToNat, Try.underlying3, info3, Try.underlying23, Try.underlying24, Try.underlying25, Try.underlying26, Try.underlying34, Try.underlying70, info34, info70, h24, h26, aB_drop, aB_take, List.drop_drop, nadd, nadd1, nadd2, nadd3, n1add, n2add, vT])) | ((first | (with_reducible first | refine .rs ?_ | refine .ds (by kernel_rfl) ?_ | refine .dg (by kernel_rfl) ?_ | refine .rg ?_ | refine .ite ?_ | refine .ret ?_ | refine .skip ?_ | refine .exit ?_ | refine .scope ?_ | refine .seq (.label ?_) | refine .block ?_ | refine .seq ?_)); (try simp only [vO, vQ, ↓vP, vE, vS, vB, vL, vF, vM, vN, vbs_full, Nat.reduceEqDiff, Nat.reduceAdd, Nat.reduceLeDiff, ne_eq, not_false_eq_true, Nat.reduceMul, Nat.reduceSub, Int.toNat_zero, Int.reduceToNat, Try.underlying3, info3, Try.underlying23, Try.underlying24, Try.underlying25, Try.underlying26, Try.underlying34, Try.underlying70, info34, info70, h24, h26, aB_drop, aB_take, List.drop_drop, nadd, nadd1, nadd2, nadd3, n1add, n2add, vT])) | ((simp (disch := first | assumption | omega) only [w64, w8, tg_eq, Go.V.n1, Go.V.n2, Go.V.nn, Int.tdiv_eq_ediv_of_nonneg, Sg.set_same, Sg.set_ne, Sg.set_ne', Sg.del_ne, Sg.del_ne']); (try simp only [vO, vQ, ↓vP, vE, vS, vB, vL, vF, vM, vN, vbs_full, Nat.reduceEqDiff, Nat.reduceAdd, Nat.reduceLeDiff, ne_eq, not_false_eq_true, Nat.reduceMul, Nat.reduceSub, Int.toNat_zero, Int.reduceToNat, Try.underlying3, info3, Try.underlying23, Try.underlying24, Try.underlying25, Try.underlying26, Try.underlying34, Try.underlying70, info34, info70, h24, h26, aB_drop, aB_take, List.drop_drop, nadd, nadd1, nadd2, nadd3, n1add, n2add, vT])) | with_reducible refine vfresh_set ?_ | with_reducible refine vfresh_intro (fun _ _ => ?_) | with_reducible refine vif_intro (fun _ => ?_) (fun _ => ?_) | omega | ((with_reducible first | refine vop_at ?_ | refine vops_at ?_ | refine vquiet_at ?_ | refine vmix_at ?_ | refine Holds_at ?_); simp only [vO, vQ, ↓vP, vE, vS, vB, vL, vF, vM, vN, vbs_full, Nat.reduceEqDiff, Nat.reduceAdd, Nat.reduceLeDiff, ne_eq, not_false_eq_true, Nat.reduceMul, Nat.reduceSub, Int.toNat_zero, Int.reduceToNat, Try.underlying3, info3, Try.underlying23, Try.underlying24, Try.underlying25, Try.underlying26, Try.underlying34, Try.underlying70, info34, info70, h24, h26, aB_drop, aB_take, List.drop_drop, nadd, nadd1, nadd2, nadd3, n1add, n2add, vT]))
  all_goals first | exact ⟨_, .refl _, rfl⟩ | (exfalso; unfold bad at hq; omega)
set_option maxHeartbeats 1000000 in
set_option maxRecDepth 100000 in
theorem t33 (q : Int) (l : List UInt8) (σ : Sg) (hl : l.length = 128) (hq : ¬ bad q) : VCalls Try.prog 33 [.agg (.i q :: aB l)] σ (fun x σ' => ∃ y, x = .tup [y, .i 0] ∧ OwnB (hdB q l) σ y σ') := by
  have hlen : (aB l).length = 128 := by rw [aB_len, hl]
  have hc0 := aB_chunks 32 l (by omega)
  have hc1 := aB_chunks 32 (l.drop 32) (by simp [hl])
  have hc2 := aB_chunks 32 (l.drop 64) (by simp [hl])
  have hc3 := aB_chunks 32 (l.drop 96) (by simp [hl])
  have hk : ∀ m : List UInt8, (bytesL (m.take 32)).take 32 = bytesL (m.take 32) := fun m => List.take_of_length_le (by rw [bytesL_len, List.length_take]; omega)
  have h47 : ∀ σ, VCalls Try.prog 47 [.i q] σ (fun x σ' => OwnB (be 8 q.toNat) σ x σ') := fun σ => by
    have := t47 q.toNat σ
    rwa [Int.toNat_of_nonneg (by unfold bad at hq; omega)] at this
  have h57 : ∀ τ σ, VCalls Try.prog 57 [.sl .full [[.sl (.tok τ 1) (bytesL (be 8 q.toNat))], [.sl .view (bytesL (l.take 32))], [.sl .view (bytesL ((l.drop 32).take 32))], [.sl .view (bytesL ((l.drop 64).take 32))], [.sl .view (bytesL ((l.drop 96).take 32))]]] σ (fun x σ' => OwnB (hdB q l) σ x σ') := fun τ σ =>
    t57 .full [(.tok τ 1, be 8 q.toNat), (.view, l.take 32), (.view, (l.drop 32).take 32), (.view, (l.drop 64).take 32), (.view, (l.drop 96).take 32)] σ (by simp) (by simp [be_len]; omega)
  have hq' : ¬ q < 0 ∧ ¬ 1099511627776 < q := by unfold bad at hq; omega
  obtain ⟨hq1, hq2⟩ := hq'
  obtain ⟨z26, h26⟩ := sz26
  obtain ⟨z24, h24⟩ := sz24
  (refine vfun (fun _ => .ro) mixed Try.func33 (by kernel_rfl) ?_; simp only [bodyOf, Try.f33, Option.getD_some])
  repeat' (first | with_reducible rfl | exact .inr trivial | with_reducible apply And.intro | with_reducible apply vqx_step | with_reducible apply vqm_step | with_reducible refine vkp_free (by decide +kernel) ?_ | with_reducible intro _ | ((with_reducible refine .dms (fun _ => False) [(0, false), (3, false), (5, false), (7, false), (9, false), (1, false), (4, false), (6, false), (8, false), (10, false), (2, true), (11, false), (12, true), (13, false), (14, false)] (by decide) (by decide +kernel) ?_); (simp only [vO, vQ, ↓vP, vE, vS, vB, vL, vF, vM, vN, vbs_full, Nat.reduceEqDiff, Nat.reduceAdd, Nat.reduceLeDiff, ne_eq, not_false_eq_true, Nat.reduceMul, Nat.reduceSub, Int.toNat_zero, Int.reduceToNat, Try.underlying3, info3, Try.underlying5, info5, Try.underlying23, Try.underlying24, Try.underlying25, Try.underlying26, Try.underlying34, Try.underlying70, info34, info70, h24, h26, ↓hc0, ↓hc1, ↓hc2, ↓hc3, hk, hl, aB_len, List.length_drop, vown2_ro, aB_drop, aB_take, List.drop_drop, nadd, nadd1, nadd2, nadd3, n1add, n2add, vT])) | ((first | (with_reducible first | refine .rs ?_ | refine .ds (by kernel_rfl) ?_ | refine .dg (by kernel_rfl) ?_ | refine .rg ?_ | refine .ite ?_ | refine .ret ?_ | refine .skip ?_ | refine .exit ?_ | refine .scope ?_ | refine .seq (.label ?_) | refine .block ?_ | refine .seq ?_)); (try simp only [vO, vQ, ↓vP, vE, vS, vB, vL, vF, vM, vN, vbs_full, Nat.reduceEqDiff, Nat.reduceAdd, Nat.reduceLeDiff, ne_eq, not_false_eq_true, Nat.reduceMul, Nat.reduceSub, Int.toNat_zero, Int.reduceToNat, Try.underlying3, info3, Try.underlying5, info5, Try.underlying23, Try.underlying24, Try.underlying25, Try.underlying26, Try.underlying34, Try.underlying70, info34, info70, h24, h26, ↓hc0, ↓hc1, ↓hc2, ↓hc3, hk, hl, aB_len, List.length_drop, vown2_ro, aB_drop, aB_take, List.drop_drop, nadd, nadd1, nadd2, nadd3, n1add, n2add, vT])) | ((simp (disch := first | assumption | omega) only [w64, w8, tg_eq, Go.V.n1, Go.V.n2, Go.V.nn, Int.tdiv_eq_ediv_of_nonneg, Sg.set_same, Sg.set_ne, Sg.set_ne', Sg.del_ne, Sg.del_ne']); (try simp only [vO, vQ, ↓vP, vE, vS, vB, vL, vF, vM, vN, vbs_full, Nat.reduceEqDiff, Nat.reduceAdd, Nat.reduceLeDiff, ne_eq, not_false_eq_true, Nat.reduceMul, Nat.reduceSub, Int.toNat_zero, Int.reduceToNat, Try.underlying3, info3, Try.underlying5, info5, Try.underlying23, Try.underlying24, Try.underlying25, Try.underlying26, Try.underlying34, Try.underlying70, info34, info70, h24, h26, ↓hc0, ↓hc1, ↓hc2, ↓hc3, hk, hl, aB_len, List.length_drop, vown2_ro, aB_drop, aB_take, List.drop_drop, nadd, nadd1, nadd2, nadd3, n1add, n2add, vT])) | ((with_reducible refine vkp_keep (fun _ h => h.elim) ?_); (try simp only [vO, vQ, ↓vP, vE, vS, vB, vL, vF, vM, vN, vbs_full, Nat.reduceEqDiff, Nat.reduceAdd, Nat.reduceLeDiff, ne_eq, not_false_eq_true, Nat.reduceMul, Nat.reduceSub, Int.toNat_zero, Int.reduceToNat, Try.underlying3, info3, Try.underlying5, info5, Try.underlying23, Try.underlying24, Try.underlying25, Try.underlying26, Try.underlying34, Try.underlying70, info34, info70, h24, h26, ↓hc0, ↓hc1, ↓hc2, ↓hc3, hk, hl, aB_len, List.length_drop, vown2_ro, aB_drop, aB_take, List.drop_drop, nadd, nadd1, nadd2, nadd3, n1add, n2add, vT])) | ((((with_reducible refine (h47 _).mono ?_); rintro y σ' ⟨τ, hτ, rfl, rfl⟩)); (try simp only [vO, vQ, ↓vP, vE, vS, vB, vL, vF, vM, vN, vbs_full, Nat.reduceEqDiff, Nat.reduceAdd, Nat.reduceLeDiff, ne_eq, not_false_eq_true, Nat.reduceMul, Nat.reduceSub, Int.toNat_zero, Int.reduceToNat, Try.underlying3, info3, Try.underlying5, info5, Try.underlying23, Try.underlying24, Try.underlying25, Try.underlying26, Try.underlying34, Try.underlying70, info34, info70, h24, h26, ↓hc0, ↓hc1, ↓hc2, ↓hc3, hk, hl, aB_len, List.length_drop, vown2_ro, aB_drop, aB_take, List.drop_drop, nadd, nadd1, nadd2, nadd3, n1add, n2add, vT])) | ((((with_reducible refine (h57 _ _).mono ?_); rintro y σ' ⟨τ', hτ', rfl, rfl⟩)); (try simp only [vO, vQ, ↓vP, vE, vS, vB, vL, vF, vM, vN, vbs_full, Nat.reduceEqDiff, Nat.reduceAdd, Nat.reduceLeDiff, ne_eq, not_false_eq_true, Nat.reduceMul, Nat.reduceSub, Int.toNat_zero, Int.reduceToNat, Try.underlying3, info3, Try.underlying5, info5, Try.underlying23, Try.underlying24, Try.underlying25, Try.underlying26, Try.underlying34, Try.underlying70, info34, info70, h24, h26, ↓hc0, ↓hc1, ↓hc2, ↓hc3, hk, hl, aB_len, List.length_drop, vown2_ro, aB_drop, aB_take, List.drop_drop, nadd, nadd1, nadd2, nadd3, n1add, n2add, vT])) | with_reducible refine vfresh_set ?_ | with_reducible refine vfresh_intro (fun _ _ => ?_) | with_reducible refine vif_intro (fun _ => ?_) (fun _ => ?_) | omega | ((with_reducible first | refine vop_at ?_ | refine vops_at ?_ | refine vquiet_at ?_ | refine vmix_at ?_ | refine Holds_at ?_); simp only [vO, vQ, ↓vP, vE, vS, vB, vL, vF, vM, vN, vbs_full, Nat.reduceEqDiff, Nat.reduceAdd, Nat.reduceLeDiff, ne_eq, not_false_eq_true, Nat.reduceMul, Nat.reduceSub, Int.toNat_zero, Int.reduceToNat, Try.underlying3, info3, Try.underlying5, info5, Try.underlying23, Try.underlying24, Try.underlying25, Try.underlying26, Try.underlying34, Try.underlying70, info34, info70, h24, h26, ↓hc0, ↓hc1, ↓hc2, ↓hc3, hk, hl, aB_len, List.length_drop, vown2_ro, aB_drop, aB_take, List.drop_drop, nadd, nadd1, nadd2, nadd3, n1add, n2add, vT]))
  all_goals
    obtain ⟨hne, h0⟩ := Sg.of_set_none ‹_ = none›
    exact ⟨σ.set _ (.tok (some 5)), (by repeat (first | exact Sg.sub.refl _ | refine Sg.sub.set_both ?_ | refine Sg.sub.set_fresh ?_ (by first | assumption | exact Sg.set_none ‹_› ‹_›) | refine Sg.sub.del_fresh ?_ (by first | assumption | exact Sg.set_none ‹_› ‹_›))), _, rfl, _, h0, rfl, rfl⟩
end Go.Proofs.Ytkbfngepdgdecaa
