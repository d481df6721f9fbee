import Derived.Test.YtkbfngepdgdecaaL16
import Derived.Test.YtkbfngepdgdecaaL17
set_option linter.unusedSimpArgs false
namespace Go.Lex
open Go.V
theorem tksA_take (l : List Tk) (k : Nat) : (tksA l).take k = tksA (l.take k) := by simp [tksA]
theorem tksA_drop (l : List Tk) (k : Nat) : (tksA l).drop k = tksA (l.drop k) := by simp [tksA]
theorem nm1 (n : Nat) : ((n : Int) - 1).toNat = n - 1 := by omega
theorem wm1 {n : Nat} (h : n < 2 ^ 60) (h0 : 0 < n) : IntKind.i64.wrap ((n : Int) - 1) = ((n - 1 : Nat) : Int) := by rw [w64 (by omega) (by omega)]; omega
theorem tksA_eq_nil {l : List Tk} : tksA l = [] ↔ l = [] := by simp [tksA]
theorem toks_at_le : ∀ (n : Nat) (r : List UInt8) (a e b : Nat), r.length ≤ n → toks r a = .error (e, b) → b ≤ a + r.length := by
  intro n
  induction n with
  | zero =>
    intro r a e b hn h
    rw [toks_end (by omega)] at h
    cases h
  | succ n ih =>
    intro r a e b hn h
    by_cases hb : r.length ≤ blanks r
    · rw [toks_end hb] at h; cases h
    · cases ht : tok1 (r.drop (blanks r)) with
      | error e' =>
        rw [toks_err (by omega) ht] at h
        cases h
        omega
      | ok p =>
        obtain ⟨k, t, v, m⟩ := p
        have hm := tok1_len (by simp; omega) ht
        simp only [List.length_drop] at hm
        rw [toks_ok (by omega) ht] at h
        cases hr : toks (r.drop (blanks r + m)) (a + blanks r + m) with
        | ok l => rw [hr] at h; cases h
        | error q =>
          rw [hr] at h
          cases h
          have := ih _ _ _ _ (by simp; omega) hr
          simp only [List.length_drop] at this
          omega
theorem lexAll_at {s : List UInt8} {e : Nat} {a : Int} (h : lexAll s = .error (e, a)) (hs : s.length ≤ 2000) : 0 ≤ a ∧ a ≤ s.length := by
  unfold lexAll at h
  rw [if_neg (by omega)] at h
  split at h
  · cases h
  · rename_i e' a' h1
    cases h
    have := toks_at_le _ s 0 _ _ (Nat.le_refl _) h1
    omega
end Go.Lex
namespace Go.Proofs.Ytkbfngepdgdecaa
open Go Go.V Go.Lex
theorem t23' (es es' : List (List AV)) (o o' : Own) (a b : List Tk) (p r : Bool) (σ : Sg) (h1 : es = tksA a) (h2 : es' = tksA b) (hl : a.length < 2 ^ 60) (hr : sameL p a b = r) : VCalls Try.prog 23 [.sl o es, .sl o' es', .b p] σ (fun x σ' => x = .b r ∧ σ' = σ) := by
  subst h1 h2 hr
  exact t23 a b o o' p σ hl
set_option maxHeartbeats 1000000 in
set_option maxRecDepth 100000 in
theorem t8 (s t : List UInt8) (σ : Sg) (hs : s.length < 2 ^ 60) (ht : t.length < 2 ^ 60) : VCalls Try.prog 8 [.s (bs s), .s (bs t)] σ (fun x σ' => x = .b true ∧ σ' = σ) := by
  have hj : s ++ [10] ++ t = s ++ 10 :: t := by simp
  have hb1 := fun l (h : lexAll s = .ok l) => lexAll_length h
  have hb2 := fun l (h : lexAll t = .ok l) => lexAll_length h
  have hb3 := fun l (h : lexAll (s ++ 10 :: t) = .ok l) => lexAll_length h
  (refine vfun (fun _ => .no) mixed Try.func8 (by kernel_rfl) ?_; simp only [bodyOf, Try.f8, Option.getD_some])
  repeat' (first | with_reducible rfl | exact .inr trivial | with_reducible apply And.intro | with_reducible apply vqx_step | with_reducible apply vqm_step | with_reducible refine vkp_free (by decide +kernel) ?_ | with_reducible intro _ | ((first | (with_reducible first | refine .rs ?_ | refine .ds (by kernel_rfl) ?_ | refine .dg (by kernel_rfl) ?_ | refine .rg ?_ | refine .ite ?_ | refine .ret ?_ | refine .skip ?_ | refine .exit ?_ | refine .scope ?_ | refine .seq (.label ?_) | refine .block ?_ | refine .seq ?_)); (try simp only [vO, vQ, ↓vP, vE, vS, vB, vL, vF, vM, vN, vbs_full, Nat.reduceEqDiff, Nat.reduceAdd, Nat.reduceLeDiff, ne_eq, not_false_eq_true, Nat.reduceMul, Nat.reduceSub, Int.toNat_zero, Int.reduceToNat, Try.underlying9, Try.underlying5, Try.underlying3, Try.underlying35, Try.underlying59, Try.underlying51, Try.underlying53, info9, info59, info3, info35, info53, info51, nadd, nadd1, nadd2, nadd3, n1add, n2add, hj, nm1, tksA_len, tksA_take, tksA_drop, tksA_app, tksA_all, tksA_one, List.length_take, List.length_append, eq59, eq53, vT])) | ((simp (disch := first | assumption | omega) only [w64, w8, tg_eq, n1, n2, nn, Int.tdiv_eq_ediv_of_nonneg, Sg.set_same, Sg.set_ne, Sg.set_ne', Sg.del_ne, Sg.del_ne']); (try simp only [vO, vQ, ↓vP, vE, vS, vB, vL, vF, vM, vN, vbs_full, Nat.reduceEqDiff, Nat.reduceAdd, Nat.reduceLeDiff, ne_eq, not_false_eq_true, Nat.reduceMul, Nat.reduceSub, Int.toNat_zero, Int.reduceToNat, Try.underlying9, Try.underlying5, Try.underlying3, Try.underlying35, Try.underlying59, Try.underlying51, Try.underlying53, info9, info59, info3, info35, info53, info51, nadd, nadd1, nadd2, nadd3, n1add, n2add, hj, nm1, tksA_len, tksA_take, tksA_drop, tksA_app, tksA_all, tksA_one, List.length_take, List.length_append, eq59, eq53, vT])) | ((with_reducible refine (t20 _).use ?_); (try simp only [vO, vQ, ↓vP, vE, vS, vB, vL, vF, vM, vN, vbs_full, Nat.reduceEqDiff, Nat.reduceAdd, Nat.reduceLeDiff, ne_eq, not_false_eq_true, Nat.reduceMul, Nat.reduceSub, Int.toNat_zero, Int.reduceToNat, Try.underlying9, Try.underlying5, Try.underlying3, Try.underlying35, Try.underlying59, Try.underlying51, Try.underlying53, info9, info59, info3, info35, info53, info51, nadd, nadd1, nadd2, nadd3, n1add, n2add, hj, nm1, tksA_len, tksA_take, tksA_drop, tksA_app, tksA_all, tksA_one, List.length_take, List.length_append, eq59, eq53, vT])) | ((((with_reducible refine (t21 s _).mono ?_); rintro y σ' ⟨⟨l, τ1, h1, rfl⟩ | ⟨e1, a1, h1, he1, rfl⟩, rfl⟩)); (try simp only [vO, vQ, ↓vP, vE, vS, vB, vL, vF, vM, vN, vbs_full, Nat.reduceEqDiff, Nat.reduceAdd, Nat.reduceLeDiff, ne_eq, not_false_eq_true, Nat.reduceMul, Nat.reduceSub, Int.toNat_zero, Int.reduceToNat, Try.underlying9, Try.underlying5, Try.underlying3, Try.underlying35, Try.underlying59, Try.underlying51, Try.underlying53, info9, info59, info3, info35, info53, info51, nadd, nadd1, nadd2, nadd3, n1add, n2add, hj, nm1, tksA_len, tksA_take, tksA_drop, tksA_app, tksA_all, tksA_one, List.length_take, List.length_append, eq59, eq53, vT])) | ((((with_reducible refine (t21 t _).mono ?_); rintro y σ' ⟨⟨m, τ2, h2, rfl⟩ | ⟨e2, a2, h2, he2, rfl⟩, rfl⟩)); (try simp only [vO, vQ, ↓vP, vE, vS, vB, vL, vF, vM, vN, vbs_full, Nat.reduceEqDiff, Nat.reduceAdd, Nat.reduceLeDiff, ne_eq, not_false_eq_true, Nat.reduceMul, Nat.reduceSub, Int.toNat_zero, Int.reduceToNat, Try.underlying9, Try.underlying5, Try.underlying3, Try.underlying35, Try.underlying59, Try.underlying51, Try.underlying53, info9, info59, info3, info35, info53, info51, nadd, nadd1, nadd2, nadd3, n1add, n2add, hj, nm1, tksA_len, tksA_take, tksA_drop, tksA_app, tksA_all, tksA_one, List.length_take, List.length_append, eq59, eq53, vT])) | ((((with_reducible refine (t21 (s ++ 10 :: t) _).mono ?_); rintro y σ' ⟨⟨n, τ3, h3, rfl⟩ | ⟨e3, a3, h3, he3, rfl⟩, rfl⟩; (try (have hn3 := hb3 _ h3; have hn1 := hb1 _ h1; have hn2 := hb2 _ h2; have hw := wm1 (n := l.length) (by omega))))); (try simp only [vO, vQ, ↓vP, vE, vS, vB, vL, vF, vM, vN, vbs_full, Nat.reduceEqDiff, Nat.reduceAdd, Nat.reduceLeDiff, ne_eq, not_false_eq_true, Nat.reduceMul, Nat.reduceSub, Int.toNat_zero, Int.reduceToNat, Try.underlying9, Try.underlying5, Try.underlying3, Try.underlying35, Try.underlying59, Try.underlying51, Try.underlying53, info9, info59, info3, info35, info53, info51, nadd, nadd1, nadd2, nadd3, n1add, n2add, hj, nm1, tksA_len, tksA_take, tksA_drop, tksA_app, tksA_all, tksA_one, List.length_take, List.length_append, eq59, eq53, vT])) | ((((with_reducible refine (t23' _ _ _ _ n (l.take (l.length - 1) ++ m) _ _ _ rfl (by first | rfl | (have hw' := hw (by omega); simp only [hw', Int.toNat_natCast] at *; simp [← tksA_app, *])) (by omega) rfl).use ?_))); (try simp only [vO, vQ, ↓vP, vE, vS, vB, vL, vF, vM, vN, vbs_full, Nat.reduceEqDiff, Nat.reduceAdd, Nat.reduceLeDiff, ne_eq, not_false_eq_true, Nat.reduceMul, Nat.reduceSub, Int.toNat_zero, Int.reduceToNat, Try.underlying9, Try.underlying5, Try.underlying3, Try.underlying35, Try.underlying59, Try.underlying51, Try.underlying53, info9, info59, info3, info35, info53, info51, nadd, nadd1, nadd2, nadd3, n1add, n2add, hj, nm1, tksA_len, tksA_take, tksA_drop, tksA_app, tksA_all, tksA_one, List.length_take, List.length_append, eq59, eq53, vT])) | with_reducible refine vfresh_set ?_ | with_reducible refine vfresh_intro (fun _ _ => ?_) | with_reducible refine vif_intro (fun _ => ?_) (fun _ => ?_) | omega | ((with_reducible first | refine vop_at ?_ | refine vops_at ?_ | refine vquiet_at ?_ | refine vmix_at ?_ | refine Holds_at ?_); simp only [vO, vQ, ↓vP, vE, vS, vB, vL, vF, vM, vN, vbs_full, Nat.reduceEqDiff, Nat.reduceAdd, Nat.reduceLeDiff, ne_eq, not_false_eq_true, Nat.reduceMul, Nat.reduceSub, Int.toNat_zero, Int.reduceToNat, Try.underlying9, Try.underlying5, Try.underlying3, Try.underlying35, Try.underlying59, Try.underlying51, Try.underlying53, info9, info59, info3, info35, info53, info51, nadd, nadd1, nadd2, nadd3, n1add, n2add, hj, nm1, tksA_len, tksA_take, tksA_drop, tksA_app, tksA_all, tksA_one, List.length_take, List.length_append, eq59, eq53, vT]))
  all_goals first
    | exact ⟨_, .refl _, rfl⟩
    | exact ⟨_, .refl _, rfl, rfl⟩
    | exact ⟨_, (by repeat (first | exact Sg.sub.refl _ | refine Sg.sub.set_both ?_ | refine Sg.sub.set_fresh ?_ (by first | assumption | exact Sg.set_none ‹_› ‹_›) | refine Sg.sub.del_fresh ?_ (by first | assumption | exact Sg.set_none ‹_› ‹_›))), rfl, rfl⟩
    | exact ⟨_, (by repeat (first | exact Sg.sub.refl _ | refine Sg.sub.set_both ?_ | refine Sg.sub.set_fresh ?_ (by first | assumption | exact Sg.set_none ‹_› ‹_›) | refine Sg.sub.del_fresh ?_ (by first | assumption | exact Sg.set_none ‹_› ‹_›))), rfl⟩
    | (obtain ⟨n', e, h0, hs'⟩ := join_ok (by omega) h1 h2
       rw [h3] at e
       cases e <;> first
         | (exfalso; omega)
         | exact ⟨_, (by repeat (first | exact Sg.sub.refl _ | refine Sg.sub.set_both ?_ | refine Sg.sub.set_fresh ?_ (by first | assumption | exact Sg.set_none ‹_› ‹_›) | refine Sg.sub.del_fresh ?_ (by first | assumption | exact Sg.set_none ‹_› ‹_›))), by rw [hs'], rfl⟩)
    | (have q := join_err2 (by omega) h1 h2
       have q2 := lexAll_at h2 (by omega)
       rw [h3] at q
       cases q <;> first
         | (exfalso; omega)
         | exact ⟨_, (by repeat (first | exact Sg.sub.refl _ | refine Sg.sub.set_both ?_ | refine Sg.sub.set_fresh ?_ (by first | assumption | exact Sg.set_none ‹_› ‹_›) | refine Sg.sub.del_fresh ?_ (by first | assumption | exact Sg.set_none ‹_› ‹_›))), rfl, rfl⟩
         | (have hw1 : IntKind.i64.wrap (a2 + s.length) = a2 + s.length := w64 (by omega) (by omega)
            have hw2 : IntKind.i64.wrap (a2 + s.length + 1) = a2 + s.length + 1 := w64 (by omega) (by omega)
            simp only [hw1, hw2]
            exact ⟨_, (by repeat (first | exact Sg.sub.refl _ | refine Sg.sub.set_both ?_ | refine Sg.sub.set_fresh ?_ (by first | assumption | exact Sg.set_none ‹_› ‹_›) | refine Sg.sub.del_fresh ?_ (by first | assumption | exact Sg.set_none ‹_› ‹_›))), by simp, rfl⟩)
         | exact ⟨_, (by repeat (first | exact Sg.sub.refl _ | refine Sg.sub.set_both ?_ | refine Sg.sub.set_fresh ?_ (by first | assumption | exact Sg.set_none ‹_› ‹_›) | refine Sg.sub.del_fresh ?_ (by first | assumption | exact Sg.set_none ‹_› ‹_›))), by simp, rfl⟩)
    | (have q := join_err1 (t := t) (by omega) h1 (by omega)
       rw [h3] at q
       cases q <;> first
         | (exfalso; omega)
         | exact ⟨_, (by repeat (first | exact Sg.sub.refl _ | refine Sg.sub.set_both ?_ | refine Sg.sub.set_fresh ?_ (by first | assumption | exact Sg.set_none ‹_› ‹_›) | refine Sg.sub.del_fresh ?_ (by first | assumption | exact Sg.set_none ‹_› ‹_›))), by simp, rfl⟩)
    | trace_state
end Go.Proofs.Ytkbfngepdgdecaa
