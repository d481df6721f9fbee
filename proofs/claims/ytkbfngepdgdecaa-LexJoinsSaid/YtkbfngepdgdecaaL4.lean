import Derived.Test.YtkbfngepdgdecaaL2
set_option linter.unusedSimpArgs false
namespace Go.Proofs.Ytkbfngepdgdecaa
open Go Go.V Go.Lex
theorem blanks_ws {l : List UInt8} {k : Nat} (h : k < l.length) (hw : ws (l.getD k 0) = true) : blanks (l.drop k) = 1 + blanks (l.drop (k + 1)) := by
  have h1 : bstep (l.drop k) = 1 := by rw [bstep_at h, if_pos hw]
  rw [blanks_step (by omega), h1, List.drop_drop]
theorem blanks_dd {l : List UInt8} {k : Nat} (h : k < l.length) (hw : ws (l.getD k 0) = false) (hd : hasPre [45, 45] (l.drop k) = true) : blanks (l.drop k) = pre (· != 10) (l.drop k) + blanks (l.drop (k + pre (· != 10) (l.drop k))) := by
  have h1 : bstep (l.drop k) = pre (· != 10) (l.drop k) := by rw [bstep_at h, hw, if_neg (by simp), if_pos hd]
  have h2 := (pre_dd hd).2
  rw [blanks_step (by omega), h1, List.drop_drop]
theorem blanks_end {l : List UInt8} {k : Nat} (h : k < l.length) (hw : ws (l.getD k 0) = false) (hd : hasPre [45, 45] (l.drop k) = false) : blanks (l.drop k) = 0 := by
  refine blanks_stop ?_
  rw [bstep_at h, hw, if_neg (by simp), hd, if_neg (by simp)]
theorem blanks_len {l : List UInt8} {k : Nat} (h : l.length ≤ k) : blanks (l.drop k) = 0 := by
  rw [List.drop_of_length_le h]
  exact blanks_stop rfl
theorem no_dd {l : List UInt8} {k : Nat} (h : k < l.length) (hn : (l.getD k 0).toNat ≠ 45) : hasPre [45, 45] (l.drop k) = false := by
  cases hh : hasPre [45, 45] (l.drop k) with
  | false => rfl
  | true =>
    have := (dd_iff _).1 hh
    rw [getD_lt h] at hn
    rw [List.drop_eq_getElem_cons h] at this
    simp only [List.getElem?_cons_zero, Option.map_some, Option.some.injEq] at this
    exact absurd this.1 hn
theorem ws_no {c : UInt8} (h : ¬ (c.toNat = 9 ∨ c.toNat = 10 ∨ c.toNat = 13 ∨ c.toNat = 32)) : ws c = false := by
  cases hh : ws c with
  | false => rfl
  | true => exact absurd ((ws_iff c).1 hh) h
set_option maxHeartbeats 1000000 in
set_option maxRecDepth 100000 in
theorem t43 (l : List UInt8) (σ : Sg) (hl : l.length < 2 ^ 60) : VCalls Try.prog 43 [.s (bs l)] σ (fun x σ' => x = .i (blanks l) ∧ σ' = σ) := by
  (refine vfun (fun _ => .no) mixed Try.func43 (by kernel_rfl) ?_; simp only [bodyOf, Try.f43, Option.getD_some])
  repeat ((first | (with_reducible first | refine .rs ?_ | refine .ds (by kernel_rfl) ?_ | refine .dg (by kernel_rfl) ?_ | refine .rg ?_ | refine .ite ?_ | refine .ret ?_ | refine .skip ?_ | refine .exit ?_ | refine .scope ?_ | refine .seq (.label ?_) | refine .block ?_ | refine .seq ?_)); (try simp only [vO, vQ, ↓vP, vE, vS, vB, vL, vF, vM, vN, vbs_full, Nat.reduceEqDiff, Nat.reduceAdd, Nat.reduceLeDiff, ne_eq, not_false_eq_true, Nat.reduceMul, Nat.reduceSub, Int.toNat_zero, Int.reduceToNat, vT]))
  refine .loop (0 : Nat) (fun k => k ≤ l.length ∧ k + blanks (l.drop k) = blanks l) (fun k => [(0, .s (bs l)), (3, .i k)]) (fun _ => σ) (fun k => l.length - k) ⟨Nat.zero_le _, by simp⟩ (.refl _) (by simp only [vO, vQ, ↓vP, vE, vS, vB, vL, vF, vM, vN, vbs_full, Nat.reduceEqDiff, Nat.reduceAdd, Nat.reduceLeDiff, ne_eq, not_false_eq_true, Nat.reduceMul, Nat.reduceSub, Int.toNat_zero, Int.reduceToNat]; trivial) ?_
  intro k ⟨hk, hpre⟩
  repeat' (first | with_reducible rfl | exact .inr trivial | with_reducible apply And.intro | with_reducible apply vqx_step | with_reducible apply vqm_step | with_reducible refine vkp_free (by decide +kernel) ?_ | with_reducible intro _ | ((first | (with_reducible first | refine .rs ?_ | refine .ds (by kernel_rfl) ?_ | refine .dg (by kernel_rfl) ?_ | refine .rg ?_ | refine .ite ?_ | refine .ret ?_ | refine .skip ?_ | refine .exit ?_ | refine .scope ?_ | refine .seq (.label ?_) | refine .block ?_ | refine .seq ?_)); (try simp only [vO, vQ, ↓vP, vE, vS, vB, vL, vF, vM, vN, vbs_full, Nat.reduceEqDiff, Nat.reduceAdd, Nat.reduceLeDiff, ne_eq, not_false_eq_true, Nat.reduceMul, Nat.reduceSub, Int.toNat_zero, Int.reduceToNat, Try.underlying9, vT])) | ((simp (disch := first | assumption | omega) only [w64, w8, tg_eq, n1, n2, nn, Int.tdiv_eq_ediv_of_nonneg, Sg.set_same, Sg.set_ne, Sg.set_ne', Sg.del_ne, Sg.del_ne']); (try simp only [vO, vQ, ↓vP, vE, vS, vB, vL, vF, vM, vN, vbs_full, Nat.reduceEqDiff, Nat.reduceAdd, Nat.reduceLeDiff, ne_eq, not_false_eq_true, Nat.reduceMul, Nat.reduceSub, Int.toNat_zero, Int.reduceToNat, Try.underlying9, vT])) | ((with_reducible refine (t68 _ _ σ).use ?_); (try simp only [vO, vQ, ↓vP, vE, vS, vB, vL, vF, vM, vN, vbs_full, Nat.reduceEqDiff, Nat.reduceAdd, Nat.reduceLeDiff, ne_eq, not_false_eq_true, Nat.reduceMul, Nat.reduceSub, Int.toNat_zero, Int.reduceToNat, Try.underlying9, vT])) | ((with_reducible refine (t69 _ 70 [] (· != 10) σ (by simp; omega) (fun c => t70 c σ)).use ?_); (try simp only [vO, vQ, ↓vP, vE, vS, vB, vL, vF, vM, vN, vbs_full, Nat.reduceEqDiff, Nat.reduceAdd, Nat.reduceLeDiff, ne_eq, not_false_eq_true, Nat.reduceMul, Nat.reduceSub, Int.toNat_zero, Int.reduceToNat, Try.underlying9, vT])) | with_reducible refine vfresh_set ?_ | with_reducible refine vfresh_intro (fun _ _ => ?_) | with_reducible refine vif_intro (fun _ => ?_) (fun _ => ?_) | omega | ((with_reducible first | refine vop_at ?_ | refine vops_at ?_ | refine vquiet_at ?_ | refine vmix_at ?_ | refine Holds_at ?_); simp only [vO, vQ, ↓vP, vE, vS, vB, vL, vF, vM, vN, vbs_full, Nat.reduceEqDiff, Nat.reduceAdd, Nat.reduceLeDiff, ne_eq, not_false_eq_true, Nat.reduceMul, Nat.reduceSub, Int.toNat_zero, Int.reduceToNat, Try.underlying9, vT]))
  all_goals first
    | (have hk' : k < l.length := by omega
       have hw : ws (l.getD k 0) = true := (ws_iff _).2 (by omega)
       have := blanks_ws hk' hw
       (try simp (disch := omega) only [w64, w8, tg_eq, n1, n2, nn, Int.tdiv_eq_ediv_of_nonneg])
       exact ⟨k + 1, ⟨⟨by omega, by omega⟩, by omega⟩, .refl _, by simp⟩)
    | (have hk' : k < l.length := by omega
       have hd : hasPre [45, 45] (l.drop k) = true := by assumption
       have h1 := blanks_dd hk' (ws_no (by omega)) hd
       have h2 := pre_le (· != 10) (l.drop k)
       have h3 := (pre_dd hd).2
       simp only [List.length_drop] at h2
       (try simp (disch := omega) only [w64, w8, tg_eq, n1, n2, nn, Int.tdiv_eq_ediv_of_nonneg])
       exact ⟨k + pre (· != 10) (l.drop k), ⟨⟨by omega, by omega⟩, by omega⟩, .refl _, by simp⟩)
    | (have hk' : k < l.length := by omega
       have h1 := blanks_end hk' (ws_no (by omega)) (by first | (simpa using (by assumption : ¬ hasPre [45, 45] (l.drop k) = true)) | exact no_dd hk' (by omega))
       exact ⟨σ, .refl σ, i_eq (by omega), rfl⟩)
    | (have h1 := blanks_len (l := l) (k := k) (by omega)
       exact ⟨σ, .refl σ, i_eq (by omega), rfl⟩)
    | trace_state
theorem take_pair {l : List UInt8} {i : Nat} : (l.take (i + 2)).drop i = (l.drop i).take 2 := by rw [List.drop_take]; congr 1; omega
theorem bs1_ws {l : List UInt8} {i : Nat} (h : i < l.length) (hw : (l.getD i 0).toNat = 9 ∨ (l.getD i 0).toNat = 10 ∨ (l.getD i 0).toNat = 13 ∨ (l.getD i 0).toNat = 32) : bstep (l.drop i) = 1 := by
  rw [bstep_at h, if_pos ((ws_iff _).2 hw)]
theorem bs1_dd {l : List UInt8} {i : Nat} (h : i < l.length) (hw : ¬ ((l.getD i 0).toNat = 9 ∨ (l.getD i 0).toNat = 10 ∨ (l.getD i 0).toNat = 13 ∨ (l.getD i 0).toNat = 32)) (hd : hasPre [45, 45] (l.drop i) = true) : bstep (l.drop i) = 2 + pre (· != 10) (l.drop (i + 2)) := by
  rw [bstep_at h, ws_no hw, if_neg (by simp), if_pos hd, (pre_dd hd).2, List.drop_drop]
theorem bs1_no {l : List UInt8} {i : Nat} (h : i < l.length) (hw : ¬ ((l.getD i 0).toNat = 9 ∨ (l.getD i 0).toNat = 10 ∨ (l.getD i 0).toNat = 13 ∨ (l.getD i 0).toNat = 32)) (hd : hasPre [45, 45] (l.drop i) = false) : bstep (l.drop i) = 0 := by
  rw [bstep_at h, ws_no hw, if_neg (by simp), hd, if_neg (by simp)]
theorem bs1_end {l : List UInt8} {i : Nat} (h : l.length ≤ i) : bstep (l.drop i) = 0 := by
  rw [List.drop_of_length_le h]; rfl
set_option maxHeartbeats 1000000 in
set_option maxRecDepth 100000 in
theorem t45 (l : List UInt8) (i : Nat) (σ : Sg) (hl : l.length < 2 ^ 60) (hi : i ≤ l.length) : VCalls Try.prog 45 [.s (bs l), .i i] σ (fun x σ' => x = .i (bstep (l.drop i)) ∧ σ' = σ) := by
  (refine vfun (fun _ => .no) mixed Try.func45 (by kernel_rfl) ?_; simp only [bodyOf, Try.f45, Option.getD_some])
  repeat' (first | with_reducible rfl | exact .inr trivial | with_reducible apply And.intro | with_reducible apply vqx_step | with_reducible apply vqm_step | with_reducible refine vkp_free (by decide +kernel) ?_ | with_reducible intro _ | ((first | (with_reducible first | refine .rs ?_ | refine .ds (by kernel_rfl) ?_ | refine .dg (by kernel_rfl) ?_ | refine .rg ?_ | refine .ite ?_ | refine .ret ?_ | refine .skip ?_ | refine .exit ?_ | refine .scope ?_ | refine .seq (.label ?_) | refine .block ?_ | refine .seq ?_)); (try simp only [vO, vQ, ↓vP, vE, vS, vB, vL, vF, vM, vN, vbs_full, Nat.reduceEqDiff, Nat.reduceAdd, Nat.reduceLeDiff, ne_eq, not_false_eq_true, Nat.reduceMul, Nat.reduceSub, Int.toNat_zero, Int.reduceToNat, Try.underlying9, vT])) | ((simp (disch := first | assumption | omega) only [w64, w8, tg_eq, n1, n2, nn, Int.tdiv_eq_ediv_of_nonneg, Sg.set_same, Sg.set_ne, Sg.set_ne', Sg.del_ne, Sg.del_ne']); (try simp only [vO, vQ, ↓vP, vE, vS, vB, vL, vF, vM, vN, vbs_full, Nat.reduceEqDiff, Nat.reduceAdd, Nat.reduceLeDiff, ne_eq, not_false_eq_true, Nat.reduceMul, Nat.reduceSub, Int.toNat_zero, Int.reduceToNat, Try.underlying9, vT])) | ((with_reducible refine VW.loop (2 : Nat) (fun j => 2 ≤ j ∧ i + j ≤ l.length ∧ bstep (l.drop i) = j + pre (· != 10) (l.drop (i + j))) (fun j => [(0, .s (bs l)), (1, .i i), (5, .i j)]) (fun _ => σ) (fun j => l.length - (i + j)) ?_ (.refl _) ?_ (fun j ⟨hj, hij, hst⟩ => ?_)); (try simp only [vO, vQ, ↓vP, vE, vS, vB, vL, vF, vM, vN, vbs_full, Nat.reduceEqDiff, Nat.reduceAdd, Nat.reduceLeDiff, ne_eq, not_false_eq_true, Nat.reduceMul, Nat.reduceSub, Int.toNat_zero, Int.reduceToNat, Try.underlying9, vT])) | with_reducible refine vfresh_set ?_ | with_reducible refine vfresh_intro (fun _ _ => ?_) | with_reducible refine vif_intro (fun _ => ?_) (fun _ => ?_) | omega | ((with_reducible first | refine vop_at ?_ | refine vops_at ?_ | refine vquiet_at ?_ | refine vmix_at ?_ | refine Holds_at ?_); simp only [vO, vQ, ↓vP, vE, vS, vB, vL, vF, vM, vN, vbs_full, Nat.reduceEqDiff, Nat.reduceAdd, Nat.reduceLeDiff, ne_eq, not_false_eq_true, Nat.reduceMul, Nat.reduceSub, Int.toNat_zero, Int.reduceToNat, Try.underlying9, vT]))
  all_goals first
    | rfl
    | (have hp := pre_yes (p := (· != 10)) (l := l) (k := i + j) (by omega) ((bne_iff _).2 (by omega))
       exact ⟨j + 1, ⟨⟨by omega, by omega, by rw [hst, hp, show i + (j + 1) = i + j + 1 by omega]; omega⟩, by omega⟩, .refl _, by simp⟩)
    | (have hp := pre_no (p := (· != 10)) (l := l) (k := i + j) (by omega) (by rw [bne_iff]; omega)
       exact ⟨σ, .refl σ, i_eq (by omega), rfl⟩)
    | (have hp := pre_end (p := (· != 10)) (l := l) (k := i + j) (by omega)
       exact ⟨σ, .refl σ, i_eq (by omega), rfl⟩)
    | (have h1 := bs1_ws (l := l) (i := i) (by omega) (by omega)
       exact ⟨σ, .refl σ, i_eq (by omega), rfl⟩)
    | (have hd : hasPre [45, 45] (l.drop i) = true := by
         have h := (by assumption : List.drop i (List.take (i + 2) l) = [45, 45])
         rw [take_pair] at h
         simpa [hasPre] using h
       exact bs1_dd (by omega) (by omega) hd)
    | (have hlen : i < l.length := by omega
       have h1 := bs1_no hlen (by omega) (by
         cases hh : hasPre [45, 45] (l.drop i) with
         | false => rfl
         | true =>
           have h2 := (pre_dd hh).1
           rw [List.length_drop] at h2
           first
             | omega
             | (have h := (by assumption : ¬ List.drop i (List.take (i + 2) l) = [45, 45])
                rw [take_pair] at h
                exact absurd (by simpa [hasPre] using hh) h))
       exact ⟨σ, .refl σ, i_eq (by omega), rfl⟩)
    | (have h1 := bs1_end (l := l) (i := i) (by omega)
       exact ⟨σ, .refl σ, i_eq (by omega), rfl⟩)
    | trace_state
end Go.Proofs.Ytkbfngepdgdecaa
