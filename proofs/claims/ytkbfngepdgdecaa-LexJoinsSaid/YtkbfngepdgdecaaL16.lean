import Derived.Test.YtkbfngepdgdecaaL14
import Derived.Test.YtkbfngepdgdecaaL15
set_option linter.unusedSimpArgs false
namespace Go.Lex
open Go.V Go.Proofs.Ytkbfngepdgdecaa
def smallS : List UInt8 := [83, 69, 76, 69, 67, 84, 32, 97, 49, 44, 39, 105, 116, 39, 39, 115, 39, 32, 45, 45, 32, 120]
def smallL : List Tk := [(2, [83, 69, 76, 69, 67, 84], 0, 0), (1, [97, 49], 0, 7), (5, [44], 0, 9), (4, [105, 116, 39, 115], 0, 10), (6, [], 0, 22)]
theorem toks_at {r : List UInt8} {a b k v n : Nat} {t : List UInt8} {m : List UInt8} {l : List Tk} (hb : blanks r = b) (hl : b < r.length) (ht : tok1 (r.drop b) = .ok (k, t, v, n)) (hm : r.drop (b + n) = m) (hr : toks m (a + b + n) = .ok l) : toks r a = .ok ((k, t, v, a + b) :: l) := by
  subst hb hm
  rw [toks_ok hl ht, hr]
  rfl
theorem small_lex : lexAll smallS = .ok smallL := by
  refine lexAll_ok (by decide) ?_
  refine toks_at (blanks_stop rfl) (by decide) (k := 2) (t := [83, 69, 76, 69, 67, 84]) (v := 0) (n := 6) rfl rfl ?_
  refine toks_at (b := 1) ?_ (by decide) (k := 1) (t := [97, 49]) (v := 0) (n := 2) rfl rfl ?_
  · rw [blanks_step (by decide), blanks_stop rfl]; rfl
  refine toks_at (blanks_stop rfl) (by decide) (k := 5) (t := [44]) (v := 0) (n := 1) rfl rfl ?_
  refine toks_at (blanks_stop rfl) (by decide) (k := 4) (t := [105, 116, 39, 115]) (v := 0) (n := 7) rfl rfl ?_
  have hb : blanks ([32, 45, 45, 32, 120] : List UInt8) = 5 := by
    rw [blanks_step (by decide)]
    show 1 + blanks ([45, 45, 32, 120] : List UInt8) = 5
    rw [blanks_step (by decide)]
    show 1 + (4 + blanks ([] : List UInt8)) = 5
    rw [blanks_stop rfl]
  show toks [32, 45, 45, 32, 120] 17 = _
  rw [toks_end (by rw [hb]; decide), hb]
theorem toks_length : ∀ (n : Nat) (r : List UInt8) (a : Nat) (l : List Tk), r.length ≤ n → toks r a = .ok l → l.length ≤ r.length + 1 := by
  intro n
  induction n with
  | zero =>
    intro r a l hn h
    rw [toks_end (by have := blanks_le r; omega)] at h
    cases h; simp
  | succ n ih =>
    intro r a l hn h
    by_cases hb : r.length ≤ blanks r
    · rw [toks_end hb] at h; cases h; simp
    · cases ht : tok1 (r.drop (blanks r)) with
      | error e' => rw [toks_err (by omega) ht] at h; cases h
      | ok p =>
        obtain ⟨k, t, v, m⟩ := p
        have hm := tok1_len (by simp; omega) ht
        rw [toks_ok (by omega) ht] at h
        cases hr : toks (r.drop (blanks r + m)) (a + blanks r + m) with
        | error q => rw [hr] at h; cases h
        | ok l' =>
          rw [hr] at h
          cases h
          have := ih _ _ _ (by simp; omega) hr
          simp at this ⊢; omega
theorem lexAll_length {s : List UInt8} {l : List Tk} (h : lexAll s = .ok l) : l.length ≤ 2001 := by
  unfold lexAll at h
  split at h
  · cases h
  · split at h
    · rename_i l' hl
      cases h
      have := toks_length _ _ _ _ (Nat.le_refl _) hl
      omega
    · cases h
end Go.Lex
namespace Go.Proofs.Ytkbfngepdgdecaa
open Go Go.V Go.Lex
theorem castlit (n : Nat) : ((OfNat.ofNat n : Nat) : Int) = (OfNat.ofNat n : Int) := rfl
theorem t23n (p : Bool) (σ : Sg) : VCalls Try.prog 23 [.sl .nil [], .sl .nil [], .b p] σ (fun x σ' => x = .b true ∧ σ' = σ) := t23 [] [] .nil .nil p σ (by decide)
set_option maxHeartbeats 1000000 in
set_option maxRecDepth 100000 in
theorem t20 (σ : Sg) : VCalls Try.prog 20 [] σ (fun x σ' => x = .b true ∧ σ' = σ) := by
  have hs := t21 smallS
  rw [small_lex] at hs
  simp only [smallS] at hs
  (refine vfun (fun _ => .no) mixed Try.func20 (by kernel_rfl) ?_; simp only [bodyOf, Try.f20, Option.getD_some])
  repeat' (first | with_reducible rfl | exact .inr trivial | with_reducible apply And.intro | with_reducible apply vqx_step | with_reducible apply vqm_step | with_reducible refine vkp_free (by decide +kernel) ?_ | with_reducible intro _ | ((first | (with_reducible first | refine .rs ?_ | refine .ds (by kernel_rfl) ?_ | refine .dg (by kernel_rfl) ?_ | refine .rg ?_ | refine .ite ?_ | refine .ret ?_ | refine .skip ?_ | refine .exit ?_ | refine .scope ?_ | refine .seq (.label ?_) | refine .block ?_ | refine .seq ?_)); (try simp only [vO, vQ, ↓vP, vE, vS, vB, vL, vF, vM, vN, vbs_full, Nat.reduceEqDiff, Nat.reduceAdd, Nat.reduceLeDiff, ne_eq, not_false_eq_true, Nat.reduceMul, Nat.reduceSub, Int.toNat_zero, Int.reduceToNat, Try.underlying9, Try.underlying5, Try.underlying3, Try.underlying35, Try.underlying59, Try.underlying51, Try.underlying53, info9, info59, info3, info35, info53, info51, nadd, nadd1, nadd2, nadd3, n1add, n2add, tksA_len, eq59, eq53, tkA, smallL, tksA, decide_true, decide_false, castlit, List.getD_cons_zero, List.getD_cons_succ, vT])) | ((simp (disch := first | assumption | omega) only [w64, w8, tg_eq, n1, n2, nn, Int.tdiv_eq_ediv_of_nonneg, Sg.set_same, Sg.set_ne, Sg.set_ne', Sg.del_ne, Sg.del_ne']); (try simp only [vO, vQ, ↓vP, vE, vS, vB, vL, vF, vM, vN, vbs_full, Nat.reduceEqDiff, Nat.reduceAdd, Nat.reduceLeDiff, ne_eq, not_false_eq_true, Nat.reduceMul, Nat.reduceSub, Int.toNat_zero, Int.reduceToNat, Try.underlying9, Try.underlying5, Try.underlying3, Try.underlying35, Try.underlying59, Try.underlying51, Try.underlying53, info9, info59, info3, info35, info53, info51, nadd, nadd1, nadd2, nadd3, n1add, n2add, tksA_len, eq59, eq53, tkA, smallL, tksA, decide_true, decide_false, castlit, List.getD_cons_zero, List.getD_cons_succ, vT])) | ((((with_reducible refine (hs _).mono ?_); rintro y σ' ⟨⟨l, τ, ho, rfl⟩ | ⟨e, a, ho, he, rfl⟩, rfl⟩ <;> cases ho)); (try simp only [vO, vQ, ↓vP, vE, vS, vB, vL, vF, vM, vN, vbs_full, Nat.reduceEqDiff, Nat.reduceAdd, Nat.reduceLeDiff, ne_eq, not_false_eq_true, Nat.reduceMul, Nat.reduceSub, Int.toNat_zero, Int.reduceToNat, Try.underlying9, Try.underlying5, Try.underlying3, Try.underlying35, Try.underlying59, Try.underlying51, Try.underlying53, info9, info59, info3, info35, info53, info51, nadd, nadd1, nadd2, nadd3, n1add, n2add, tksA_len, eq59, eq53, tkA, smallL, tksA, decide_true, decide_false, castlit, List.getD_cons_zero, List.getD_cons_succ, vT])) | with_reducible refine vfresh_set ?_ | with_reducible refine vfresh_intro (fun _ _ => ?_) | with_reducible refine vif_intro (fun _ => ?_) (fun _ => ?_) | omega | ((with_reducible first | refine vop_at ?_ | refine vops_at ?_ | refine vquiet_at ?_ | refine vmix_at ?_ | refine Holds_at ?_); simp only [vO, vQ, ↓vP, vE, vS, vB, vL, vF, vM, vN, vbs_full, Nat.reduceEqDiff, Nat.reduceAdd, Nat.reduceLeDiff, ne_eq, not_false_eq_true, Nat.reduceMul, Nat.reduceSub, Int.toNat_zero, Int.reduceToNat, Try.underlying9, Try.underlying5, Try.underlying3, Try.underlying35, Try.underlying59, Try.underlying51, Try.underlying53, info9, info59, info3, info35, info53, info51, nadd, nadd1, nadd2, nadd3, n1add, n2add, tksA_len, eq59, eq53, tkA, smallL, tksA, decide_true, decide_false, castlit, List.getD_cons_zero, List.getD_cons_succ, vT]))
  all_goals first
    | exact ⟨_, (by repeat (first | exact Sg.sub.refl _ | refine Sg.sub.set_both ?_ | refine Sg.sub.set_fresh ?_ (by first | assumption | exact Sg.set_none ‹_› ‹_›) | refine Sg.sub.del_fresh ?_ (by first | assumption | exact Sg.set_none ‹_› ‹_›))), rfl, rfl⟩
    | exact absurd rfl ‹¬ _›
set_option maxHeartbeats 1000000 in
set_option maxRecDepth 100000 in
theorem t6 (s : List UInt8) (σ : Sg) : VCalls Try.prog 6 [.s (bs s)] σ (fun x σ' => x = .b true ∧ σ' = σ) := by
  (refine vfun (fun _ => .no) mixed Try.func6 (by kernel_rfl) ?_; simp only [bodyOf, Try.f6, Option.getD_some])
  repeat' (first | with_reducible rfl | exact .inr trivial | with_reducible apply And.intro | with_reducible apply vqx_step | with_reducible apply vqm_step | with_reducible refine vkp_free (by decide +kernel) ?_ | with_reducible intro _ | ((first | (with_reducible first | refine .rs ?_ | refine .ds (by kernel_rfl) ?_ | refine .dg (by kernel_rfl) ?_ | refine .rg ?_ | refine .ite ?_ | refine .ret ?_ | refine .skip ?_ | refine .exit ?_ | refine .scope ?_ | refine .seq (.label ?_) | refine .block ?_ | refine .seq ?_)); (try simp only [vO, vQ, ↓vP, vE, vS, vB, vL, vF, vM, vN, vbs_full, Nat.reduceEqDiff, Nat.reduceAdd, Nat.reduceLeDiff, ne_eq, not_false_eq_true, Nat.reduceMul, Nat.reduceSub, Int.toNat_zero, Int.reduceToNat, Try.underlying9, Try.underlying5, Try.underlying3, Try.underlying35, Try.underlying59, Try.underlying51, Try.underlying53, info9, info59, info3, info35, info53, info51, nadd, nadd1, nadd2, nadd3, n1add, n2add, tksA_len, eq59, eq53, vT])) | ((simp (disch := first | assumption | omega) only [w64, w8, tg_eq, n1, n2, nn, Int.tdiv_eq_ediv_of_nonneg, Sg.set_same, Sg.set_ne, Sg.set_ne', Sg.del_ne, Sg.del_ne']); (try simp only [vO, vQ, ↓vP, vE, vS, vB, vL, vF, vM, vN, vbs_full, Nat.reduceEqDiff, Nat.reduceAdd, Nat.reduceLeDiff, ne_eq, not_false_eq_true, Nat.reduceMul, Nat.reduceSub, Int.toNat_zero, Int.reduceToNat, Try.underlying9, Try.underlying5, Try.underlying3, Try.underlying35, Try.underlying59, Try.underlying51, Try.underlying53, info9, info59, info3, info35, info53, info51, nadd, nadd1, nadd2, nadd3, n1add, n2add, tksA_len, eq59, eq53, vT])) | ((with_reducible refine (t20 _).use ?_); (try simp only [vO, vQ, ↓vP, vE, vS, vB, vL, vF, vM, vN, vbs_full, Nat.reduceEqDiff, Nat.reduceAdd, Nat.reduceLeDiff, ne_eq, not_false_eq_true, Nat.reduceMul, Nat.reduceSub, Int.toNat_zero, Int.reduceToNat, Try.underlying9, Try.underlying5, Try.underlying3, Try.underlying35, Try.underlying59, Try.underlying51, Try.underlying53, info9, info59, info3, info35, info53, info51, nadd, nadd1, nadd2, nadd3, n1add, n2add, tksA_len, eq59, eq53, vT])) | ((with_reducible refine (t23n _ _).use ?_); (try simp only [vO, vQ, ↓vP, vE, vS, vB, vL, vF, vM, vN, vbs_full, Nat.reduceEqDiff, Nat.reduceAdd, Nat.reduceLeDiff, ne_eq, not_false_eq_true, Nat.reduceMul, Nat.reduceSub, Int.toNat_zero, Int.reduceToNat, Try.underlying9, Try.underlying5, Try.underlying3, Try.underlying35, Try.underlying59, Try.underlying51, Try.underlying53, info9, info59, info3, info35, info53, info51, nadd, nadd1, nadd2, nadd3, n1add, n2add, tksA_len, eq59, eq53, vT])) | ((with_reducible refine (t23 _ _ _ _ _ _ (by have := lexAll_length ho; omega)).use ?_); (try simp only [vO, vQ, ↓vP, vE, vS, vB, vL, vF, vM, vN, vbs_full, Nat.reduceEqDiff, Nat.reduceAdd, Nat.reduceLeDiff, ne_eq, not_false_eq_true, Nat.reduceMul, Nat.reduceSub, Int.toNat_zero, Int.reduceToNat, Try.underlying9, Try.underlying5, Try.underlying3, Try.underlying35, Try.underlying59, Try.underlying51, Try.underlying53, info9, info59, info3, info35, info53, info51, nadd, nadd1, nadd2, nadd3, n1add, n2add, tksA_len, eq59, eq53, vT])) | ((((with_reducible refine (t21 _ _).mono ?_); rintro y σ' ⟨⟨l, τ, ho, rfl⟩ | ⟨e, a, ho, he, rfl⟩, rfl⟩)); (try simp only [vO, vQ, ↓vP, vE, vS, vB, vL, vF, vM, vN, vbs_full, Nat.reduceEqDiff, Nat.reduceAdd, Nat.reduceLeDiff, ne_eq, not_false_eq_true, Nat.reduceMul, Nat.reduceSub, Int.toNat_zero, Int.reduceToNat, Try.underlying9, Try.underlying5, Try.underlying3, Try.underlying35, Try.underlying59, Try.underlying51, Try.underlying53, info9, info59, info3, info35, info53, info51, nadd, nadd1, nadd2, nadd3, n1add, n2add, tksA_len, eq59, eq53, vT])) | ((((with_reducible refine (t22 _ _).mono ?_); rintro y σ' ⟨⟨l', τ', ho', rfl⟩ | ⟨e', a', ho', he', rfl⟩, rfl⟩ <;> rw [ho] at ho' <;> cases ho')); (try simp only [vO, vQ, ↓vP, vE, vS, vB, vL, vF, vM, vN, vbs_full, Nat.reduceEqDiff, Nat.reduceAdd, Nat.reduceLeDiff, ne_eq, not_false_eq_true, Nat.reduceMul, Nat.reduceSub, Int.toNat_zero, Int.reduceToNat, Try.underlying9, Try.underlying5, Try.underlying3, Try.underlying35, Try.underlying59, Try.underlying51, Try.underlying53, info9, info59, info3, info35, info53, info51, nadd, nadd1, nadd2, nadd3, n1add, n2add, tksA_len, eq59, eq53, vT])) | with_reducible refine vfresh_set ?_ | with_reducible refine vfresh_intro (fun _ _ => ?_) | with_reducible refine vif_intro (fun _ => ?_) (fun _ => ?_) | omega | ((with_reducible first | refine vop_at ?_ | refine vops_at ?_ | refine vquiet_at ?_ | refine vmix_at ?_ | refine Holds_at ?_); simp only [vO, vQ, ↓vP, vE, vS, vB, vL, vF, vM, vN, vbs_full, Nat.reduceEqDiff, Nat.reduceAdd, Nat.reduceLeDiff, ne_eq, not_false_eq_true, Nat.reduceMul, Nat.reduceSub, Int.toNat_zero, Int.reduceToNat, Try.underlying9, Try.underlying5, Try.underlying3, Try.underlying35, Try.underlying59, Try.underlying51, Try.underlying53, info9, info59, info3, info35, info53, info51, nadd, nadd1, nadd2, nadd3, n1add, n2add, tksA_len, eq59, eq53, vT]))
  all_goals first
    | exact absurd (sameL_refl true _) ‹_›
    | exact ⟨_, (by repeat (first | exact Sg.sub.refl _ | refine Sg.sub.set_both ?_ | refine Sg.sub.set_fresh ?_ (by first | assumption | exact Sg.set_none ‹_› ‹_›) | refine Sg.sub.del_fresh ?_ (by first | assumption | exact Sg.set_none ‹_› ‹_›))), rfl, rfl⟩
    | exact ⟨_, (by repeat (first | exact Sg.sub.refl _ | refine Sg.sub.set_both ?_ | refine Sg.sub.set_fresh ?_ (by first | assumption | exact Sg.set_none ‹_› ‹_›) | refine Sg.sub.del_fresh ?_ (by first | assumption | exact Sg.set_none ‹_› ‹_›))), by simp, rfl⟩
end Go.Proofs.Ytkbfngepdgdecaa
