import Derived.Test.YtkbfngepdgdecaaC9
set_option linter.unusedSimpArgs false
set_option linter.unusedVariables false
namespace Go.Cert
open Go.V
/-- The members of s below k, counted from 1. -/
def mem : Nat → Nat → List Nat
  | 0, _ => []
  | k + 1, s => mem k s ++ if s / 2 ^ k % 2 = 1 then [k + 1] else []
def memA (s : Int) : List Nat := if 0 ≤ s ∧ s < 65536 then mem 16 s.toNat else []
def intsL (l : List Nat) : List (List AV) := l.map fun k : Nat => [AV.i (k : Int)]
theorem intsL_len (l : List Nat) : (intsL l).length = l.length := by simp [intsL]
theorem intsL_all (l : List Nat) : allLen (intsL l) 1 = True := by
  refine eq_true (fun e he => ?_)
  obtain ⟨b, _, rfl⟩ := List.mem_map.1 he
  rfl
theorem mem_step (k s : Nat) : mem (k + 1) s = mem k s ++ if s / 2 ^ k % 2 = 1 then [k + 1] else [] := rfl
theorem tmod_nat (m : Nat) : ((m : Int).tmod 2 = 1) = (m % 2 = 1) := by
  rw [Int.tmod_eq_emod_of_nonneg (by omega)]
  exact propext ⟨fun h => by omega, fun h => by omega⟩
theorem intsL_app (a b : List Nat) : intsL a ++ intsL b = intsL (a ++ b) := by simp [intsL]
theorem intsL_get (l : List Nat) (j : Nat) (h : j < l.length) : (intsL l).getD j [] = [.i (l[j] : Nat)] := by
  simp [intsL, List.getD_eq_getElem?_getD, List.getElem?_eq_getElem h]
theorem mem_len (s : Nat) : ∀ k, (mem k s).length ≤ k
  | 0 => Nat.le_refl _
  | k + 1 => by
    have := mem_len s k
    rw [mem, List.length_append]
    split <;> simp <;> omega
theorem mem_cnt (s : Nat) (n : Int) : ∀ k, (mem k s).countP (fun m : Nat => decide ((m : Int) ≤ n)) = cnt (min k n.toNat) s
  | 0 => by simp [mem, cnt]
  | k + 1 => by
    have hb := Nat.mod_two_eq_zero_or_one (s / 2 ^ k)
    rw [mem, List.countP_append, mem_cnt s n k]
    rcases Nat.lt_or_ge k n.toNat with h | h
    · rw [Nat.min_eq_left (by omega), Nat.min_eq_left (by omega), cnt]
      split
      · rename_i h1
        have : decide (((k + 1 : Nat) : Int) ≤ n) = true := by simp; omega
        rw [List.countP_singleton, this, h1]
        rfl
      · rename_i h1
        rw [List.countP_nil]
        omega
    · rw [Nat.min_eq_right (by omega), Nat.min_eq_right (by omega)]
      split
      · have : decide (((k + 1 : Nat) : Int) ≤ n) = false := by simp; omega
        rw [List.countP_singleton, this]
        rfl
      · rw [List.countP_nil]
        omega
theorem Grown.use {e sz : Nat} {es : List (List AV)} {σ S : Sg} {V : AV} (h : Grown e sz es σ V S) : ∃ k, V = .sl k es ∧ σ.sub S := by
  rcases h with ⟨rfl, rfl, rfl⟩ | ⟨τ, hτ, rfl, rfl⟩
  · exact ⟨_, rfl, .refl _⟩
  · exact ⟨_, rfl, Sg.sub.set_fresh (.refl _) hτ⟩
end Go.Cert
namespace Go.Proofs.Ytkbfngepdgdecaa
open Go Go.V Go.Cert
set_option maxHeartbeats 1000000 in
set_option maxRecDepth 100000 in
theorem t67 (s : Int) (σ : Sg) : VCalls Try.prog 67 [.i s] σ (fun x σ' => Grown 3 1 (intsL (memA s)) σ x σ') := by
  (refine vfun (fun _ => .no) mixed Try.func67 (by kernel_rfl) ?_; simp only [bodyOf, Try.f67, Option.getD_some])
  repeat' (first | with_reducible rfl | exact .inr trivial | with_reducible apply And.intro | with_reducible apply vqx_step | with_reducible apply vqm_step | with_reducible refine vkp_free (by decide +kernel) ?_ | with_reducible intro _ | ((first | (with_reducible first | refine .rs ?_ | refine .ds (by kernel_rfl) ?_ | refine .dg (by kernel_rfl) ?_ | refine .rg ?_ | refine .ite ?_ | refine .ret ?_ | refine .skip ?_ | refine .exit ?_ | refine .scope ?_ | refine .seq (.label ?_) | refine .block ?_ | refine .seq ?_)); (try simp only [vO, vQ, ↓vP, vE, vS, vB, vL, vF, vM, vN, vbs_full, Nat.reduceEqDiff, Nat.reduceAdd, Nat.reduceLeDiff, ne_eq, not_false_eq_true, Nat.reduceMul, Nat.reduceSub, Int.toNat_zero, Int.reduceToNat, Try.underlying137, info137, Try.underlying3, info3, Try.underlying108, info108, nadd, nadd1, nadd2, nadd3, n1add, n2add, vT])) | ((simp (disch := first | assumption | omega) only [w64, w8, tg_eq, n1, n2, nn, Int.tdiv_eq_ediv_of_nonneg, Sg.set_same, Sg.set_ne, Sg.set_ne', Sg.del_ne, Sg.del_ne']); (try simp only [vO, vQ, ↓vP, vE, vS, vB, vL, vF, vM, vN, vbs_full, Nat.reduceEqDiff, Nat.reduceAdd, Nat.reduceLeDiff, ne_eq, not_false_eq_true, Nat.reduceMul, Nat.reduceSub, Int.toNat_zero, Int.reduceToNat, Try.underlying137, info137, Try.underlying3, info3, Try.underlying108, info108, nadd, nadd1, nadd2, nadd3, n1add, n2add, vT])) | with_reducible refine vfresh_set ?_ | with_reducible refine vfresh_intro (fun _ _ => ?_) | with_reducible refine vif_intro (fun _ => ?_) (fun _ => ?_) | omega | ((with_reducible first | refine vop_at ?_ | refine vops_at ?_ | refine vquiet_at ?_ | refine vmix_at ?_ | refine Holds_at ?_); simp only [vO, vQ, ↓vP, vE, vS, vB, vL, vF, vM, vN, vbs_full, Nat.reduceEqDiff, Nat.reduceAdd, Nat.reduceLeDiff, ne_eq, not_false_eq_true, Nat.reduceMul, Nat.reduceSub, Int.toNat_zero, Int.reduceToNat, Try.underlying137, info137, Try.underlying3, info3, Try.underlying108, info108, nadd, nadd1, nadd2, nadd3, n1add, n2add, vT]))
  · exact ⟨_, .refl _, by rw [memA, if_neg (by omega)]; exact .nil _ _ _⟩
  · exact ⟨_, .refl _, by rw [memA, if_neg (by omega)]; exact .nil _ _ _⟩
  obtain ⟨s, rfl⟩ := Int.eq_ofNat_of_zero_le (show 0 ≤ s by omega)
  refine VW.loop3 (0 : Nat) (.sl .nil []) σ (fun j V S => j ≤ 16 ∧ Grown 3 1 (intsL (mem j s)) σ V S) (fun j V _ => [(0, .i (s : Int)), (3, V), (4, .i ((j : Int) + 1))]) (fun _ _ S => S) (fun j _ _ => 16 - j) ⟨by omega, .nil _ _ _⟩ (.refl _) ?_ ?_
  · simp only [vO, vQ, ↓vP, vE, vS, vB, vL, vF, vM, vN, vbs_full, Nat.reduceEqDiff, Nat.reduceAdd, Nat.reduceLeDiff, ne_eq, not_false_eq_true, Nat.reduceMul, Nat.reduceSub, Int.toNat_zero, Int.reduceToNat, vT]
    rfl
  rintro j V S ⟨h1, hG⟩
  have hlen := mem_len s j
  have hw : IntKind.i64.wrap ((j : Int) + 1 - 1) = (j : Int) := by rw [w64 (by omega) (by omega)]; omega
  have hw2 : IntKind.i64.wrap ((j : Int) + 1 + 1) = (j : Int) + 1 + 1 := w64 (by omega) (by omega)
  have hsh : (s : Int).fdiv (2 ^ (min j IntKind.i64.bits)) = ((s / 2 ^ j : Nat) : Int) := shr_nat _ _ (by omega)
  have hend : ¬ (j : Int) + 1 ≤ 16 → memA (s : Int) = mem j s := fun h => by
    obtain rfl : j = 16 := by omega
    rw [memA, if_pos (by omega), Int.toNat_natCast]
  rcases hG with ⟨h5, rfl, rfl⟩ | ⟨τ, hτ, rfl, rfl⟩
  · have h0 : mem j s = [] := by simpa [intsL] using h5
    repeat' (first | with_reducible rfl | exact .inr trivial | with_reducible apply And.intro | with_reducible apply vqx_step | with_reducible apply vqm_step | with_reducible refine vkp_free (by decide +kernel) ?_ | with_reducible intro _ | ((first | (with_reducible first | refine .rs ?_ | refine .ds (by kernel_rfl) ?_ | refine .dg (by kernel_rfl) ?_ | refine .rg ?_ | refine .ite ?_ | refine .ret ?_ | refine .skip ?_ | refine .exit ?_ | refine .scope ?_ | refine .seq (.label ?_) | refine .block ?_ | refine .seq ?_)); (try simp only [vO, vQ, ↓vP, vE, vS, vB, vL, vF, vM, vN, vbs_full, Nat.reduceEqDiff, Nat.reduceAdd, Nat.reduceLeDiff, ne_eq, not_false_eq_true, Nat.reduceMul, Nat.reduceSub, Int.toNat_zero, Int.reduceToNat, Try.underlying3, Try.underlying108, info3, info108, intsL_len, intsL_all, hw, hw2, hsh, tmod_nat, Int.toNat_natCast, vT])) | ((simp (disch := first | assumption | omega) only [w64, w8, tg_eq, n1, n2, nn, Int.tdiv_eq_ediv_of_nonneg, Sg.set_same, Sg.set_ne, Sg.set_ne', Sg.del_ne, Sg.del_ne']); (try simp only [vO, vQ, ↓vP, vE, vS, vB, vL, vF, vM, vN, vbs_full, Nat.reduceEqDiff, Nat.reduceAdd, Nat.reduceLeDiff, ne_eq, not_false_eq_true, Nat.reduceMul, Nat.reduceSub, Int.toNat_zero, Int.reduceToNat, Try.underlying3, Try.underlying108, info3, info108, intsL_len, intsL_all, hw, hw2, hsh, tmod_nat, Int.toNat_natCast, vT])) | with_reducible refine vfresh_set ?_ | with_reducible refine vfresh_intro (fun _ _ => ?_) | with_reducible refine vif_intro (fun _ => ?_) (fun _ => ?_) | omega | ((with_reducible first | refine vop_at ?_ | refine vops_at ?_ | refine vquiet_at ?_ | refine vmix_at ?_ | refine Holds_at ?_); simp only [vO, vQ, ↓vP, vE, vS, vB, vL, vF, vM, vN, vbs_full, Nat.reduceEqDiff, Nat.reduceAdd, Nat.reduceLeDiff, ne_eq, not_false_eq_true, Nat.reduceMul, Nat.reduceSub, Int.toNat_zero, Int.reduceToNat, Try.underlying3, Try.underlying108, info3, info108, intsL_len, intsL_all, hw, hw2, hsh, tmod_nat, Int.toNat_natCast, vT]))
    · exact ⟨j + 1, .sl (.tok _ 1) (intsL (mem (j + 1) s)), _, ⟨⟨by omega, .tok (by assumption)⟩, by omega⟩, .refl _, by rw [mem_step, h0, if_pos ‹_›]; rfl, i_eq (by omega)⟩
    · exact ⟨j + 1, .sl .nil [], S, ⟨⟨by omega, by rw [mem_step, if_neg ‹_›, List.append_nil, h0]; exact .nil _ _ _⟩, by omega⟩, .refl _, rfl, i_eq (by omega)⟩
    · exact ⟨S, .refl _, by rw [hend ‹_›, h0]; exact .nil _ _ _⟩
  · repeat' (first | with_reducible rfl | exact .inr trivial | with_reducible apply And.intro | with_reducible apply vqx_step | with_reducible apply vqm_step | with_reducible refine vkp_free (by decide +kernel) ?_ | with_reducible intro _ | ((first | (with_reducible first | refine .rs ?_ | refine .ds (by kernel_rfl) ?_ | refine .dg (by kernel_rfl) ?_ | refine .rg ?_ | refine .ite ?_ | refine .ret ?_ | refine .skip ?_ | refine .exit ?_ | refine .scope ?_ | refine .seq (.label ?_) | refine .block ?_ | refine .seq ?_)); (try simp only [vO, vQ, ↓vP, vE, vS, vB, vL, vF, vM, vN, vbs_full, Nat.reduceEqDiff, Nat.reduceAdd, Nat.reduceLeDiff, ne_eq, not_false_eq_true, Nat.reduceMul, Nat.reduceSub, Int.toNat_zero, Int.reduceToNat, Try.underlying3, Try.underlying108, info3, info108, intsL_len, intsL_all, hw, hw2, hsh, tmod_nat, Int.toNat_natCast, vT])) | ((simp (disch := first | assumption | omega) only [w64, w8, tg_eq, n1, n2, nn, Int.tdiv_eq_ediv_of_nonneg, Sg.set_same, Sg.set_ne, Sg.set_ne', Sg.del_ne, Sg.del_ne']); (try simp only [vO, vQ, ↓vP, vE, vS, vB, vL, vF, vM, vN, vbs_full, Nat.reduceEqDiff, Nat.reduceAdd, Nat.reduceLeDiff, ne_eq, not_false_eq_true, Nat.reduceMul, Nat.reduceSub, Int.toNat_zero, Int.reduceToNat, Try.underlying3, Try.underlying108, info3, info108, intsL_len, intsL_all, hw, hw2, hsh, tmod_nat, Int.toNat_natCast, vT])) | with_reducible refine vfresh_set ?_ | with_reducible refine vfresh_intro (fun _ _ => ?_) | with_reducible refine vif_intro (fun _ => ?_) (fun _ => ?_) | omega | ((with_reducible first | refine vop_at ?_ | refine vops_at ?_ | refine vquiet_at ?_ | refine vmix_at ?_ | refine Holds_at ?_); simp only [vO, vQ, ↓vP, vE, vS, vB, vL, vF, vM, vN, vbs_full, Nat.reduceEqDiff, Nat.reduceAdd, Nat.reduceLeDiff, ne_eq, not_false_eq_true, Nat.reduceMul, Nat.reduceSub, Int.toNat_zero, Int.reduceToNat, Try.underlying3, Try.underlying108, info3, info108, intsL_len, intsL_all, hw, hw2, hsh, tmod_nat, Int.toNat_natCast, vT]))
    · exact ⟨j + 1, .sl (.tok _ 1) (intsL (mem (j + 1) s)), _, ⟨⟨by omega, .tok (by assumption)⟩, by omega⟩, (by repeat (first | exact Sg.sub.refl _ | refine Sg.sub.set_both ?_ | refine Sg.sub.set_fresh ?_ (by first | assumption | exact Sg.set_none ‹_› ‹_›) | refine Sg.sub.del_fresh ?_ (by first | assumption | exact Sg.set_none ‹_› ‹_›))), by rw [mem_step, if_pos ‹_›, ← intsL_app]; rfl, i_eq (by omega)⟩
    · exact ⟨j + 1, _, _, ⟨⟨by omega, by rw [mem_step, if_neg ‹_›, List.append_nil]; exact .tok hτ⟩, by omega⟩, .refl _, rfl, i_eq (by omega)⟩
    · exact ⟨_, .refl _, by rw [hend ‹_›]; exact .tok hτ⟩
set_option maxHeartbeats 1000000 in
set_option maxRecDepth 100000 in
theorem t41 (n s : Int) (σ : Sg) : VCalls Try.prog 41 [.i n, .i s] σ (fun y σ' => y = .b (isQ n s) ∧ σ' = σ) := by
  have hl : (memA s).length ≤ 16 := by unfold memA; split; exact mem_len _ _; exact Nat.zero_le _
  (refine vfun (fun _ => .no) mixed Try.func41 (by kernel_rfl) ?_; simp only [bodyOf, Try.f41, Option.getD_some])
  repeat' (first | with_reducible rfl | exact .inr trivial | with_reducible apply And.intro | with_reducible apply vqx_step | with_reducible apply vqm_step | with_reducible refine vkp_free (by decide +kernel) ?_ | with_reducible intro _ | ((first | (with_reducible first | refine .rs ?_ | refine .ds (by kernel_rfl) ?_ | refine .dg (by kernel_rfl) ?_ | refine .rg ?_ | refine .ite ?_ | refine .ret ?_ | refine .skip ?_ | refine .exit ?_ | refine .scope ?_ | refine .seq (.label ?_) | refine .block ?_ | refine .seq ?_)); (try simp only [vO, vQ, ↓vP, vE, vS, vB, vL, vF, vM, vN, vbs_full, Nat.reduceEqDiff, Nat.reduceAdd, Nat.reduceLeDiff, ne_eq, not_false_eq_true, Nat.reduceMul, Nat.reduceSub, Int.toNat_zero, Int.reduceToNat, Try.underlying137, info137, Try.underlying3, info3, Try.underlying108, info108, vT])) | ((simp (disch := first | assumption | omega) only [w64, w8, tg_eq, n1, n2, nn, Int.tdiv_eq_ediv_of_nonneg, Sg.set_same, Sg.set_ne, Sg.set_ne', Sg.del_ne, Sg.del_ne']); (try simp only [vO, vQ, ↓vP, vE, vS, vB, vL, vF, vM, vN, vbs_full, Nat.reduceEqDiff, Nat.reduceAdd, Nat.reduceLeDiff, ne_eq, not_false_eq_true, Nat.reduceMul, Nat.reduceSub, Int.toNat_zero, Int.reduceToNat, Try.underlying137, info137, Try.underlying3, info3, Try.underlying108, info108, vT])) | ((((with_reducible refine (t39 _ _).mono ?_); rintro _ σ' ⟨rfl, rfl⟩)); (try simp only [vO, vQ, ↓vP, vE, vS, vB, vL, vF, vM, vN, vbs_full, Nat.reduceEqDiff, Nat.reduceAdd, Nat.reduceLeDiff, ne_eq, not_false_eq_true, Nat.reduceMul, Nat.reduceSub, Int.toNat_zero, Int.reduceToNat, Try.underlying137, info137, Try.underlying3, info3, Try.underlying108, info108, vT])) | ((((with_reducible refine (t67 _ _).mono ?_); rintro y σ' hG; obtain ⟨k, rfl, hsub⟩ := Grown.use hG)); (try simp only [vO, vQ, ↓vP, vE, vS, vB, vL, vF, vM, vN, vbs_full, Nat.reduceEqDiff, Nat.reduceAdd, Nat.reduceLeDiff, ne_eq, not_false_eq_true, Nat.reduceMul, Nat.reduceSub, Int.toNat_zero, Int.reduceToNat, Try.underlying137, info137, Try.underlying3, info3, Try.underlying108, info108, vT])) | with_reducible refine vfresh_set ?_ | with_reducible refine vfresh_intro (fun _ _ => ?_) | with_reducible refine vif_intro (fun _ => ?_) (fun _ => ?_) | omega | ((with_reducible first | refine vop_at ?_ | refine vops_at ?_ | refine vquiet_at ?_ | refine vmix_at ?_ | refine Holds_at ?_); simp only [vO, vQ, ↓vP, vE, vS, vB, vL, vF, vM, vN, vbs_full, Nat.reduceEqDiff, Nat.reduceAdd, Nat.reduceLeDiff, ne_eq, not_false_eq_true, Nat.reduceMul, Nat.reduceSub, Int.toNat_zero, Int.reduceToNat, Try.underlying137, info137, Try.underlying3, info3, Try.underlying108, info108, vT]))
  refine VW.loop3 (0 : Nat) (0 : Nat) () (fun j c _ => j ≤ (memA s).length ∧ c = ((memA s).take j).countP (fun m : Nat => decide ((m : Int) ≤ n))) (fun j c _ => [(0, .i n), (5, .i (most n)), (6, .sl k (intsL (memA s))), (7, .i c), (8, .i j)]) (fun _ _ _ => _) (fun j _ _ => (memA s).length - j) ⟨Nat.zero_le _, rfl⟩ (.refl _) ?_ ?_
  · simp only [vO, vQ, ↓vP, vE, vS, vB, vL, vF, vM, vN, vbs_full, Nat.reduceEqDiff, Nat.reduceAdd, Nat.reduceLeDiff, ne_eq, not_false_eq_true, Nat.reduceMul, Nat.reduceSub, Int.toNat_zero, Int.reduceToNat, vT]
    exact ⟨rfl, rfl⟩
  rintro j c _ ⟨h1, hc⟩
  have hcl : c ≤ j := by rw [hc]; exact Nat.le_trans List.countP_le_length (by simp; omega)
  rcases Nat.lt_or_ge j (memA s).length with hj | hj
  · have hg := intsL_get _ j hj
    have hst : ((memA s).take (j + 1)).countP (fun m : Nat => decide ((m : Int) ≤ n)) = c + if ((memA s)[j] : Int) ≤ n then 1 else 0 := by
      rw [List.take_add_one, List.getElem?_eq_getElem hj, List.countP_append, ← hc]
      show c + List.countP _ [(memA s)[j]] = _
      rw [List.countP_singleton]
      simp
    have hw1 : IntKind.i64.wrap ((c + 1 : Nat) : Int) = ((c + 1 : Nat) : Int) := w64 (by omega) (by omega)
    have hw2 : IntKind.i64.wrap ((j + 1 : Nat) : Int) = ((j + 1 : Nat) : Int) := w64 (by omega) (by omega)
    repeat' (first | with_reducible rfl | exact .inr trivial | with_reducible apply And.intro | with_reducible apply vqx_step | with_reducible apply vqm_step | with_reducible refine vkp_free (by decide +kernel) ?_ | with_reducible intro _ | ((first | (with_reducible first | refine .rs ?_ | refine .ds (by kernel_rfl) ?_ | refine .dg (by kernel_rfl) ?_ | refine .rg ?_ | refine .ite ?_ | refine .ret ?_ | refine .skip ?_ | refine .exit ?_ | refine .scope ?_ | refine .seq (.label ?_) | refine .block ?_ | refine .seq ?_)); (try simp only [vO, vQ, ↓vP, vE, vS, vB, vL, vF, vM, vN, vbs_full, Nat.reduceEqDiff, Nat.reduceAdd, Nat.reduceLeDiff, ne_eq, not_false_eq_true, Nat.reduceMul, Nat.reduceSub, Int.toNat_zero, Int.reduceToNat, Try.underlying3, Try.underlying108, info3, info108, intsL_len, hg, nadd, nadd1, nadd2, nadd3, n1add, n2add, vT])) | ((simp (disch := first | assumption | omega) only [w64, w8, tg_eq, n1, n2, nn, Int.tdiv_eq_ediv_of_nonneg, Sg.set_same, Sg.set_ne, Sg.set_ne', Sg.del_ne, Sg.del_ne']); (try simp only [vO, vQ, ↓vP, vE, vS, vB, vL, vF, vM, vN, vbs_full, Nat.reduceEqDiff, Nat.reduceAdd, Nat.reduceLeDiff, ne_eq, not_false_eq_true, Nat.reduceMul, Nat.reduceSub, Int.toNat_zero, Int.reduceToNat, Try.underlying3, Try.underlying108, info3, info108, intsL_len, hg, nadd, nadd1, nadd2, nadd3, n1add, n2add, vT])) | with_reducible refine vfresh_set ?_ | with_reducible refine vfresh_intro (fun _ _ => ?_) | with_reducible refine vif_intro (fun _ => ?_) (fun _ => ?_) | omega | ((with_reducible first | refine vop_at ?_ | refine vops_at ?_ | refine vquiet_at ?_ | refine vmix_at ?_ | refine Holds_at ?_); simp only [vO, vQ, ↓vP, vE, vS, vB, vL, vF, vM, vN, vbs_full, Nat.reduceEqDiff, Nat.reduceAdd, Nat.reduceLeDiff, ne_eq, not_false_eq_true, Nat.reduceMul, Nat.reduceSub, Int.toNat_zero, Int.reduceToNat, Try.underlying3, Try.underlying108, info3, info108, intsL_len, hg, nadd, nadd1, nadd2, nadd3, n1add, n2add, vT]))
    · exact ⟨j + 1, c + 1, (), ⟨⟨hj, by rw [hst, if_pos ‹_›]⟩, by omega⟩, .refl _, i_eq hw1, i_eq hw2⟩
    · exact ⟨j + 1, c, (), ⟨⟨hj, by rw [hst, if_neg ‹_›]; rfl⟩, by omega⟩, .refl _, rfl, i_eq hw2⟩
  · rw [List.take_of_length_le hj] at hc
    repeat' (first | with_reducible rfl | exact .inr trivial | with_reducible apply And.intro | with_reducible apply vqx_step | with_reducible apply vqm_step | with_reducible refine vkp_free (by decide +kernel) ?_ | with_reducible intro _ | ((first | (with_reducible first | refine .rs ?_ | refine .ds (by kernel_rfl) ?_ | refine .dg (by kernel_rfl) ?_ | refine .rg ?_ | refine .ite ?_ | refine .ret ?_ | refine .skip ?_ | refine .exit ?_ | refine .scope ?_ | refine .seq (.label ?_) | refine .block ?_ | refine .seq ?_)); (try simp only [vO, vQ, ↓vP, vE, vS, vB, vL, vF, vM, vN, vbs_full, Nat.reduceEqDiff, Nat.reduceAdd, Nat.reduceLeDiff, ne_eq, not_false_eq_true, Nat.reduceMul, Nat.reduceSub, Int.toNat_zero, Int.reduceToNat, Try.underlying3, Try.underlying108, info3, info108, intsL_len, nadd, nadd1, nadd2, nadd3, n1add, n2add, vT])) | ((simp (disch := first | assumption | omega) only [w64, w8, tg_eq, n1, n2, nn, Int.tdiv_eq_ediv_of_nonneg, Sg.set_same, Sg.set_ne, Sg.set_ne', Sg.del_ne, Sg.del_ne']); (try simp only [vO, vQ, ↓vP, vE, vS, vB, vL, vF, vM, vN, vbs_full, Nat.reduceEqDiff, Nat.reduceAdd, Nat.reduceLeDiff, ne_eq, not_false_eq_true, Nat.reduceMul, Nat.reduceSub, Int.toNat_zero, Int.reduceToNat, Try.underlying3, Try.underlying108, info3, info108, intsL_len, nadd, nadd1, nadd2, nadd3, n1add, n2add, vT])) | with_reducible refine vfresh_set ?_ | with_reducible refine vfresh_intro (fun _ _ => ?_) | with_reducible refine vif_intro (fun _ => ?_) (fun _ => ?_) | omega | ((with_reducible first | refine vop_at ?_ | refine vops_at ?_ | refine vquiet_at ?_ | refine vmix_at ?_ | refine Holds_at ?_); simp only [vO, vQ, ↓vP, vE, vS, vB, vL, vF, vM, vN, vbs_full, Nat.reduceEqDiff, Nat.reduceAdd, Nat.reduceLeDiff, ne_eq, not_false_eq_true, Nat.reduceMul, Nat.reduceSub, Int.toNat_zero, Int.reduceToNat, Try.underlying3, Try.underlying108, info3, info108, intsL_len, nadd, nadd1, nadd2, nadd3, n1add, n2add, vT]))
    · obtain ⟨hN, hm⟩ := most_pos ‹_›
      refine ⟨_, hsub, congrArg AV.b ?_, rfl⟩
      unfold isQ
      rw [decide_eq_decide, hm, hc]
      unfold memA
      split
      · rename_i hs
        rw [mem_cnt, Nat.min_eq_right (by have := hN.2.1; omega)]
        exact ⟨fun h => ⟨hN, hs.1, by omega, h⟩, fun h => h.2.2.2⟩
      · rename_i hs
        refine ⟨fun h => ?_, fun h => absurd ⟨h.2.1, by omega⟩ hs⟩
        rw [List.countP_nil] at h
        have := hN.1
        omega
    · have hN := most_not ‹¬ 0 < most n›
      exact ⟨_, hsub, by simp [isQ, hN], rfl⟩
set_option maxHeartbeats 1000000 in
set_option maxRecDepth 100000 in
theorem t18 (f : Int) (σ : Sg) : VCalls Try.prog 18 [.i f] σ (fun y σ' => (1 ≤ f ∧ f ≤ 5 → y = .tup [.i (3 * f + 1), .i 0]) ∧ (¬ (1 ≤ f ∧ f ≤ 5) → y = .tup [.i 0, .i 1]) ∧ σ' = σ) := by
  (refine vfun (fun _ => .no) mixed Try.func18 (by kernel_rfl) ?_; simp only [bodyOf, Try.f18, Option.getD_some])
  repeat' (first | with_reducible rfl | exact .inr trivial | with_reducible apply And.intro | with_reducible apply vqx_step | with_reducible apply vqm_step | with_reducible refine vkp_free (by decide +kernel) ?_ | with_reducible intro _ | ((first | (with_reducible first | refine .rs ?_ | refine .ds (by kernel_rfl) ?_ | refine .dg (by kernel_rfl) ?_ | refine .rg ?_ | refine .ite ?_ | refine .ret ?_ | refine .skip ?_ | refine .exit ?_ | refine .scope ?_ | refine .seq (.label ?_) | refine .block ?_ | refine .seq ?_)); (try simp only [vO, vQ, ↓vP, vE, vS, vB, vL, vF, vM, vN, vbs_full, Nat.reduceEqDiff, Nat.reduceAdd, Nat.reduceLeDiff, ne_eq, not_false_eq_true, Nat.reduceMul, Nat.reduceSub, Int.toNat_zero, Int.reduceToNat, Try.underlying3, info3, Try.underlying35, info35, vT])) | ((simp (disch := first | assumption | omega) only [w64, w8, tg_eq, n1, n2, nn, Int.tdiv_eq_ediv_of_nonneg, Sg.set_same, Sg.set_ne, Sg.set_ne', Sg.del_ne, Sg.del_ne']); (try simp only [vO, vQ, ↓vP, vE, vS, vB, vL, vF, vM, vN, vbs_full, Nat.reduceEqDiff, Nat.reduceAdd, Nat.reduceLeDiff, ne_eq, not_false_eq_true, Nat.reduceMul, Nat.reduceSub, Int.toNat_zero, Int.reduceToNat, Try.underlying3, info3, Try.underlying35, info35, vT])) | with_reducible refine vfresh_set ?_ | with_reducible refine vfresh_intro (fun _ _ => ?_) | with_reducible refine vif_intro (fun _ => ?_) (fun _ => ?_) | omega | ((with_reducible first | refine vop_at ?_ | refine vops_at ?_ | refine vquiet_at ?_ | refine vmix_at ?_ | refine Holds_at ?_); simp only [vO, vQ, ↓vP, vE, vS, vB, vL, vF, vM, vN, vbs_full, Nat.reduceEqDiff, Nat.reduceAdd, Nat.reduceLeDiff, ne_eq, not_false_eq_true, Nat.reduceMul, Nat.reduceSub, Int.toNat_zero, Int.reduceToNat, Try.underlying3, info3, Try.underlying35, info35, vT]))
  · exact ⟨_, .refl _, fun h => absurd h.1 (by omega), fun _ => trivial, rfl⟩
  · exact ⟨_, .refl _, fun h => absurd h.2 (by omega), fun _ => trivial, rfl⟩
  · refine ⟨_, .refl _, fun h => ?_, fun h => absurd ⟨by omega, by omega⟩ h, rfl⟩
    rw [w64 (n := 3 * f) (by omega) (by omega), w64 (by omega) (by omega)]
end Go.Proofs.Ytkbfngepdgdecaa
