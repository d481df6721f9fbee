import Derived.Test.YtkbfngepdgdecaaC2
set_option linter.unusedSimpArgs false
set_option linter.unusedVariables false
namespace Go.Cert
open Go.V
def aB (l : List UInt8) : List AV := l.map fun b => AV.u8 b.toNat
theorem aB_len (l : List UInt8) : (aB l).length = l.length := by simp [aB]
theorem aB_drop (l : List UInt8) (k : Nat) : (aB l).drop k = aB (l.drop k) := by simp [aB]
theorem aB_take (l : List UInt8) (k : Nat) : (aB l).take k = aB (l.take k) := by simp [aB]
theorem aB_chunks : ∀ (n : Nat) (l : List UInt8), n ≤ l.length → chunks 1 n (aB l) = bytesL (l.take n)
  | 0, _, _ => by simp [chunks, bytesL]
  | n + 1, [], h => by simp at h
  | n + 1, a :: l, h => by
    show ((aB (a :: l)).take 1) :: chunks 1 n ((aB (a :: l)).drop 1) = _
    rw [show (aB (a :: l)).drop 1 = aB l by simp [aB], aB_chunks n l (by simpa using h)]
    simp [aB, bytesL]
def bad (q : Int) : Prop := q < 0 ∨ 1099511627776 < q
instance (q : Int) : Decidable (bad q) := by unfold bad; infer_instance
/-- The four sums behind a header's number. -/
def sums (l : List UInt8) : List (List UInt8) := [l.take 32, (l.drop 32).take 32, (l.drop 64).take 32, (l.drop 96).take 32]
def hdB (q : Int) (l : List UInt8) : List UInt8 := rowB (be 8 q.toNat :: sums l)
def sealT : List UInt8 := [115, 101, 97, 108]
def certText (q : Int) (l : List UInt8) : List UInt8 := rowB [sealT, hdB q l]
theorem hdB_len (q : Int) (l : List UInt8) : (hdB q l).length ≤ 200 := by
  simp [hdB, rowB_part, partB, sums, be_len]
  omega
end Go.Cert
namespace Go.Proofs.Ytkbfngepdgdecaa
open Go Go.V Go.Cert
theorem vown2_ro (e : TypeId) (s : Nat) (es : List (List AV)) (σ : Sg) (R : AV → Sg → Prop) : vown2 .ro e s es σ R = R (.sl .full es) σ := rfl
theorem sz26 : ∃ z, tInfo Try.prog 26 = some (some z, 129, 136) := ⟨_, info26⟩
theorem sz24 : ∃ z, tInfo Try.prog 24 = some (some z, 32, 32) := ⟨_, info24⟩
set_option maxHeartbeats 1000000 in
set_option maxRecDepth 100000 in
theorem t33a (q : Int) (l : List UInt8) (σ : Sg) (hl : l.length = 128) (hq : bad q) : VCalls Try.prog 33 [.agg (.i q :: aB l)] σ (fun x σ' => x = .tup [.sl .nil [], .i 1] ∧ σ' = σ) := by
  have hlen : (aB l).length = 128 := by rw [aB_len, hl]
  obtain ⟨z26, h26⟩ := sz26
  obtain ⟨z24, h24⟩ := sz24
  have hq2 : ¬ q < 0 → 1099511627776 < q := by unfold bad at hq; omega
  (refine vfun (fun _ => .ro) mixed Try.func33 (by kernel_rfl) ?_; simp only [bodyOf, Try.f33, Option.getD_some])
  repeat' (first | with_reducible rfl | exact .inr trivial | with_reducible apply And.intro | with_reducible apply vqx_step | with_reducible apply vqm_step | with_reducible refine vkp_free (by decide +kernel) ?_ | with_reducible intro _ | ((with_reducible refine .dms (fun _ => False) [] (by decide) (by kernel_rfl) ?_); (simp only [vO, vQ, ↓vP, vE, vS, vB, vL, vF, vM, vN, vbs_full, Nat.reduceEqDiff, Nat.reduceAdd, Nat.reduceLeDiff, ne_eq, not_false_eq_true, Nat.reduceMul, Nat.reduceSub, Int.toNat_zero, Int.reduceToNat, Try.underlying3, info3, Try.underlying23, Try.underlying24, Try.underlying25, Try.underlying26, Try.underlying34, Try.underlying70, info34, info70, h24, h26, aB_drop, aB_take, List.drop_drop, nadd, nadd1, nadd2, nadd3, n1add, n2add, vT])) | ((first | (with_reducible first | refine .rs ?_ | refine .ds (by kernel_rfl) ?_ | refine .dg (by kernel_rfl) ?_ | refine .rg ?_ | refine .ite ?_ | refine .ret ?_ | refine .skip ?_ | refine .exit ?_ | refine .scope ?_ | refine .seq (.label ?_) | refine .block ?_ | refine .seq ?_)); (try simp only [vO, vQ, ↓vP, vE, vS, vB, vL, vF, vM, vN, vbs_full, Nat.reduceEqDiff, Nat.reduceAdd, Nat.reduceLeDiff, ne_eq, not_false_eq_true, Nat.reduceMul, Nat.reduceSub, Int.toNat_zero, Int.reduceToNat, Try.underlying3, info3, Try.underlying23, Try.underlying24, Try.underlying25, Try.underlying26, Try.underlying34, Try.underlying70, info34, info70, h24, h26, aB_drop, aB_take, List.drop_drop, nadd, nadd1, nadd2, nadd3, n1add, n2add, vT])) | ((simp (disch := first | assumption | omega) only [w64, w8, tg_eq, n1, n2, nn, Int.tdiv_eq_ediv_of_nonneg, Sg.set_same, Sg.set_ne, Sg.set_ne', Sg.del_ne, Sg.del_ne']); (try simp only [vO, vQ, ↓vP, vE, vS, vB, vL, vF, vM, vN, vbs_full, Nat.reduceEqDiff, Nat.reduceAdd, Nat.reduceLeDiff, ne_eq, not_false_eq_true, Nat.reduceMul, Nat.reduceSub, Int.toNat_zero, Int.reduceToNat, Try.underlying3, info3, Try.underlying23, Try.underlying24, Try.underlying25, Try.underlying26, Try.underlying34, Try.underlying70, info34, info70, h24, h26, aB_drop, aB_take, List.drop_drop, nadd, nadd1, nadd2, nadd3, n1add, n2add, vT])) | with_reducible refine vfresh_set ?_ | with_reducible refine vfresh_intro (fun _ _ => ?_) | with_reducible refine vif_intro (fun _ => ?_) (fun _ => ?_) | omega | ((with_reducible first | refine vop_at ?_ | refine vops_at ?_ | refine vquiet_at ?_ | refine vmix_at ?_ | refine Holds_at ?_); simp only [vO, vQ, ↓vP, vE, vS, vB, vL, vF, vM, vN, vbs_full, Nat.reduceEqDiff, Nat.reduceAdd, Nat.reduceLeDiff, ne_eq, not_false_eq_true, Nat.reduceMul, Nat.reduceSub, Int.toNat_zero, Int.reduceToNat, Try.underlying3, info3, Try.underlying23, Try.underlying24, Try.underlying25, Try.underlying26, Try.underlying34, Try.underlying70, info34, info70, h24, h26, aB_drop, aB_take, List.drop_drop, nadd, nadd1, nadd2, nadd3, n1add, n2add, vT]))
  all_goals first | exact ⟨_, .refl _, rfl⟩ | (exfalso; unfold bad at hq; omega)
set_option maxHeartbeats 1000000 in
set_option maxRecDepth 100000 in
theorem t33 (q : Int) (l : List UInt8) (σ : Sg) (hl : l.length = 128) (hq : ¬ bad q) : VCalls Try.prog 33 [.agg (.i q :: aB l)] σ (fun x σ' => ∃ y, x = .tup [y, .i 0] ∧ OwnB (hdB q l) σ y σ') := by
  have hlen : (aB l).length = 128 := by rw [aB_len, hl]
  have hc0 := aB_chunks 32 l (by omega)
  have hc1 := aB_chunks 32 (l.drop 32) (by simp [hl])
  have hc2 := aB_chunks 32 (l.drop 64) (by simp [hl])
  have hc3 := aB_chunks 32 (l.drop 96) (by simp [hl])
  have hk : ∀ m : List UInt8, (bytesL (m.take 32)).take 32 = bytesL (m.take 32) := fun m => List.take_of_length_le (by rw [bytesL_len, List.length_take]; omega)
  have h47 : ∀ σ, VCalls Try.prog 47 [.i q] σ (fun x σ' => OwnB (be 8 q.toNat) σ x σ') := fun σ => by
    have := t47 q.toNat σ
    rwa [Int.toNat_of_nonneg (by unfold bad at hq; omega)] at this
  have h57 : ∀ τ σ, VCalls Try.prog 57 [.sl .full [[.sl (.tok τ 1) (bytesL (be 8 q.toNat))], [.sl .view (bytesL (l.take 32))], [.sl .view (bytesL ((l.drop 32).take 32))], [.sl .view (bytesL ((l.drop 64).take 32))], [.sl .view (bytesL ((l.drop 96).take 32))]]] σ (fun x σ' => OwnB (hdB q l) σ x σ') := fun τ σ =>
    t57 .full [(.tok τ 1, be 8 q.toNat), (.view, l.take 32), (.view, (l.drop 32).take 32), (.view, (l.drop 64).take 32), (.view, (l.drop 96).take 32)] σ (by simp) (by simp [be_len]; omega)
  have hq' : ¬ q < 0 ∧ ¬ 1099511627776 < q := by unfold bad at hq; omega
  obtain ⟨hq1, hq2⟩ := hq'
  obtain ⟨z26, h26⟩ := sz26
  obtain ⟨z24, h24⟩ := sz24
  (refine vfun (fun _ => .ro) mixed Try.func33 (by kernel_rfl) ?_; simp only [bodyOf, Try.f33, Option.getD_some])
  repeat' (first | with_reducible rfl | exact .inr trivial | with_reducible apply And.intro | with_reducible apply vqx_step | with_reducible apply vqm_step | with_reducible refine vkp_free (by decide +kernel) ?_ | with_reducible intro _ | ((with_reducible refine .dms (fun _ => False) [(0, false), (3, false), (5, false), (7, false), (9, false), (1, false), (4, false), (6, false), (8, false), (10, false), (2, true), (11, false), (12, true), (13, false), (14, false)] (by decide) (by decide +kernel) ?_); (simp only [vO, vQ, ↓vP, vE, vS, vB, vL, vF, vM, vN, vbs_full, Nat.reduceEqDiff, Nat.reduceAdd, Nat.reduceLeDiff, ne_eq, not_false_eq_true, Nat.reduceMul, Nat.reduceSub, Int.toNat_zero, Int.reduceToNat, Try.underlying3, info3, Try.underlying5, info5, Try.underlying23, Try.underlying24, Try.underlying25, Try.underlying26, Try.underlying34, Try.underlying70, info34, info70, h24, h26, ↓hc0, ↓hc1, ↓hc2, ↓hc3, hk, hl, aB_len, List.length_drop, vown2_ro, aB_drop, aB_take, List.drop_drop, nadd, nadd1, nadd2, nadd3, n1add, n2add, vT])) | ((first | (with_reducible first | refine .rs ?_ | refine .ds (by kernel_rfl) ?_ | refine .dg (by kernel_rfl) ?_ | refine .rg ?_ | refine .ite ?_ | refine .ret ?_ | refine .skip ?_ | refine .exit ?_ | refine .scope ?_ | refine .seq (.label ?_) | refine .block ?_ | refine .seq ?_)); (try simp only [vO, vQ, ↓vP, vE, vS, vB, vL, vF, vM, vN, vbs_full, Nat.reduceEqDiff, Nat.reduceAdd, Nat.reduceLeDiff, ne_eq, not_false_eq_true, Nat.reduceMul, Nat.reduceSub, Int.toNat_zero, Int.reduceToNat, Try.underlying3, info3, Try.underlying5, info5, Try.underlying23, Try.underlying24, Try.underlying25, Try.underlying26, Try.underlying34, Try.underlying70, info34, info70, h24, h26, ↓hc0, ↓hc1, ↓hc2, ↓hc3, hk, hl, aB_len, List.length_drop, vown2_ro, aB_drop, aB_take, List.drop_drop, nadd, nadd1, nadd2, nadd3, n1add, n2add, vT])) | ((simp (disch := first | assumption | omega) only [w64, w8, tg_eq, n1, n2, nn, Int.tdiv_eq_ediv_of_nonneg, Sg.set_same, Sg.set_ne, Sg.set_ne', Sg.del_ne, Sg.del_ne']); (try simp only [vO, vQ, ↓vP, vE, vS, vB, vL, vF, vM, vN, vbs_full, Nat.reduceEqDiff, Nat.reduceAdd, Nat.reduceLeDiff, ne_eq, not_false_eq_true, Nat.reduceMul, Nat.reduceSub, Int.toNat_zero, Int.reduceToNat, Try.underlying3, info3, Try.underlying5, info5, Try.underlying23, Try.underlying24, Try.underlying25, Try.underlying26, Try.underlying34, Try.underlying70, info34, info70, h24, h26, ↓hc0, ↓hc1, ↓hc2, ↓hc3, hk, hl, aB_len, List.length_drop, vown2_ro, aB_drop, aB_take, List.drop_drop, nadd, nadd1, nadd2, nadd3, n1add, n2add, vT])) | ((with_reducible refine vkp_keep (fun _ h => h.elim) ?_); (try simp only [vO, vQ, ↓vP, vE, vS, vB, vL, vF, vM, vN, vbs_full, Nat.reduceEqDiff, Nat.reduceAdd, Nat.reduceLeDiff, ne_eq, not_false_eq_true, Nat.reduceMul, Nat.reduceSub, Int.toNat_zero, Int.reduceToNat, Try.underlying3, info3, Try.underlying5, info5, Try.underlying23, Try.underlying24, Try.underlying25, Try.underlying26, Try.underlying34, Try.underlying70, info34, info70, h24, h26, ↓hc0, ↓hc1, ↓hc2, ↓hc3, hk, hl, aB_len, List.length_drop, vown2_ro, aB_drop, aB_take, List.drop_drop, nadd, nadd1, nadd2, nadd3, n1add, n2add, vT])) | ((((with_reducible refine (h47 _).mono ?_); rintro y σ' ⟨τ, hτ, rfl, rfl⟩)); (try simp only [vO, vQ, ↓vP, vE, vS, vB, vL, vF, vM, vN, vbs_full, Nat.reduceEqDiff, Nat.reduceAdd, Nat.reduceLeDiff, ne_eq, not_false_eq_true, Nat.reduceMul, Nat.reduceSub, Int.toNat_zero, Int.reduceToNat, Try.underlying3, info3, Try.underlying5, info5, Try.underlying23, Try.underlying24, Try.underlying25, Try.underlying26, Try.underlying34, Try.underlying70, info34, info70, h24, h26, ↓hc0, ↓hc1, ↓hc2, ↓hc3, hk, hl, aB_len, List.length_drop, vown2_ro, aB_drop, aB_take, List.drop_drop, nadd, nadd1, nadd2, nadd3, n1add, n2add, vT])) | ((((with_reducible refine (h57 _ _).mono ?_); rintro y σ' ⟨τ', hτ', rfl, rfl⟩)); (try simp only [vO, vQ, ↓vP, vE, vS, vB, vL, vF, vM, vN, vbs_full, Nat.reduceEqDiff, Nat.reduceAdd, Nat.reduceLeDiff, ne_eq, not_false_eq_true, Nat.reduceMul, Nat.reduceSub, Int.toNat_zero, Int.reduceToNat, Try.underlying3, info3, Try.underlying5, info5, Try.underlying23, Try.underlying24, Try.underlying25, Try.underlying26, Try.underlying34, Try.underlying70, info34, info70, h24, h26, ↓hc0, ↓hc1, ↓hc2, ↓hc3, hk, hl, aB_len, List.length_drop, vown2_ro, aB_drop, aB_take, List.drop_drop, nadd, nadd1, nadd2, nadd3, n1add, n2add, vT])) | with_reducible refine vfresh_set ?_ | with_reducible refine vfresh_intro (fun _ _ => ?_) | with_reducible refine vif_intro (fun _ => ?_) (fun _ => ?_) | omega | ((with_reducible first | refine vop_at ?_ | refine vops_at ?_ | refine vquiet_at ?_ | refine vmix_at ?_ | refine Holds_at ?_); simp only [vO, vQ, ↓vP, vE, vS, vB, vL, vF, vM, vN, vbs_full, Nat.reduceEqDiff, Nat.reduceAdd, Nat.reduceLeDiff, ne_eq, not_false_eq_true, Nat.reduceMul, Nat.reduceSub, Int.toNat_zero, Int.reduceToNat, Try.underlying3, info3, Try.underlying5, info5, Try.underlying23, Try.underlying24, Try.underlying25, Try.underlying26, Try.underlying34, Try.underlying70, info34, info70, h24, h26, ↓hc0, ↓hc1, ↓hc2, ↓hc3, hk, hl, aB_len, List.length_drop, vown2_ro, aB_drop, aB_take, List.drop_drop, nadd, nadd1, nadd2, nadd3, n1add, n2add, vT]))
  all_goals
    obtain ⟨hne, h0⟩ := Sg.of_set_none ‹_ = none›
    exact ⟨σ.set _ (.tok (some 5)), (by repeat (first | exact Sg.sub.refl _ | refine Sg.sub.set_both ?_ | refine Sg.sub.set_fresh ?_ (by first | assumption | exact Sg.set_none ‹_› ‹_›) | refine Sg.sub.del_fresh ?_ (by first | assumption | exact Sg.set_none ‹_› ‹_›))), _, rfl, _, h0, rfl, rfl⟩
end Go.Proofs.Ytkbfngepdgdecaa
