import Derived.Test.YtkbfngepdgdecaaL13
set_option linter.unusedSimpArgs false
namespace Go.V
theorem veqIn_struct {P : Program} {d : Nat} {t : TypeId} {fs : Array Field} {xs ys : List AV} (hu : P.underlying t = some (.struct fs)) (hs : P.stoodInHeld t = false) : veqIn P (d + 1) t (.agg xs) (.agg ys) = veqFs P (veqIn P d) xs ys fs.toList := by
  simp only [veqIn, hu, hs]
  rfl
theorem veqIn_int {P : Program} {d : Nat} {t : TypeId} {k : IntKind} {q : IntKind} {a b : Int} (hu : P.underlying t = some (.int k)) : veqIn P (d + 1) t (.val (.int q a)) (.val (.int q b)) = some (decide (a = b)) := by
  simp only [veqIn, hu, if_true]
theorem veqIn_str {P : Program} {d : Nat} {t : TypeId} {a b : ByteArray} (hu : P.underlying t = some .string) : veqIn P (d + 1) t (.s a) (.s b) = some (sEq a b) := by
  simp only [veqIn, hu]
theorem veqFs_cons {P : Program} {eq : TypeId → AV → AV → Option Bool} {xs ys : List AV} {f : Field} {fs : List Field} {x y : AV} {c r : Bool} (hn : f.name ≠ "_") (hx : partO P f.type (xs.drop f.offset) = some x) (hy : partO P f.type (ys.drop f.offset) = some y)
    (he : eq f.type x y = some c) (hr : veqFs P eq xs ys fs = some r) : veqFs P eq xs ys (f :: fs) = some (c && r) := by
  simp only [veqFs, if_neg hn, hx, hy, he, hr]
theorem partO_one {P : Program} {t : TypeId} {i : Option Value × Nat × Nat} {d : TypeDesc} {x : AV} {r : List AV} (hi : tInfo P t = some i) (hd : P.underlying t = some d) (ha : isAggD d = false) : partO P t (x :: r) = some x := by
  obtain ⟨z, n, b⟩ := i
  simp only [partO, hi, hd, ha]
  rfl
theorem veqT_agg {P : Program} {t : TypeId} {d : TypeDesc} {xs ys : List AV} (hg : P.eqGuardType P.depth t = false) : veqT P t d (.agg xs) (.agg ys) = veqIn P 10000 t (.agg xs) (.agg ys) := by
  simp only [veqT, hg]
  rfl
end Go.V
namespace Go.Lex
open Go.V
/-- Two tokens, with their places or without. -/
def tkEq (p : Bool) (x y : Tk) : Bool := decide (x.1 = y.1) && decide (x.2.1 = y.2.1) && decide (x.2.2.1 = y.2.2.1) && (!p || decide (x.2.2.2 = y.2.2.2))
def sameL (p : Bool) : List Tk → List Tk → Bool
  | [], [] => true
  | x :: r, y :: s => tkEq p x y && sameL p r s
  | _, _ => false
theorem sameL_len {p : Bool} : ∀ {a b : List Tk}, a.length ≠ b.length → sameL p a b = false
  | [], [], h => absurd rfl h
  | [], _ :: _, _ => rfl
  | _ :: _, [], _ => rfl
  | x :: r, y :: s, h => by simp only [sameL]; rw [sameL_len (by simpa using h), Bool.and_false]
theorem sameL_refl (p : Bool) : ∀ (a : List Tk), sameL p a a = true
  | [] => rfl
  | x :: r => by simp [sameL, tkEq, sameL_refl p r]
theorem dcast (a b : Nat) : decide ((a : Int) = (b : Int)) = decide (a = b) := decide_eq_decide.2 Int.ofNat_inj
theorem tkEq_yes (x y : Tk) : (decide ((x.1 : Int) = y.1) && (decide (x.2.1 = y.2.1) && (decide ((x.2.2.1 : Int) = y.2.2.1) && decide ((x.2.2.2 : Int) = y.2.2.2)))) = tkEq true x y := by
  simp only [dcast, tkEq, Bool.and_assoc, Bool.not_true, Bool.not_false, Bool.false_or, Bool.true_or, decide_true]
theorem tkEq_no (x y : Tk) : (decide ((x.1 : Int) = y.1) && (decide (x.2.1 = y.2.1) && (decide ((x.2.2.1 : Int) = y.2.2.1) && decide True))) = tkEq false x y := by
  simp only [dcast, tkEq, Bool.and_assoc, Bool.not_true, Bool.not_false, Bool.false_or, Bool.true_or, decide_true]
theorem sameL_step {p : Bool} {a b : List Tk} {k : Nat} (h : k < a.length) (h' : k < b.length) : sameL p (a.drop k) (b.drop k) = (tkEq p (a.getD k (0, [], 0, 0)) (b.getD k (0, [], 0, 0)) && sameL p (a.drop (k + 1)) (b.drop (k + 1))) := by
  rw [List.drop_eq_getElem_cons h, List.drop_eq_getElem_cons h']
  simp [sameL, List.getD_eq_getElem?_getD, List.getElem?_eq_getElem h, List.getElem?_eq_getElem h']
end Go.Lex
namespace Go.Proofs.Ytkbfngepdgdecaa
open Go Go.V Go.Lex
theorem eq59 {d : TypeDesc} {a b e a' b' e' : Int} {s t : ByteArray} : veqT Try.prog 59 d (.agg [.i a, .s s, .i b, .i e]) (.agg [.i a', .s t, .i b', .i e']) = some (decide (a = a') && (sEq s t && (decide (b = b') && (decide (e = e') && true)))) := by
  rw [veqT_agg (by kernel_rfl), veqIn_struct (d := 9999) Try.underlying59 (by kernel_rfl)]
  exact veqFs_cons (by decide) (partO_one info3 Try.underlying3 rfl) (partO_one info3 Try.underlying3 rfl) (veqIn_int Try.underlying3) (veqFs_cons (by decide) (partO_one info9 Try.underlying9 rfl) (partO_one info9 Try.underlying9 rfl) (veqIn_str Try.underlying9) (veqFs_cons (by decide) (partO_one info3 Try.underlying3 rfl) (partO_one info3 Try.underlying3 rfl) (veqIn_int Try.underlying3) (veqFs_cons (by decide) (partO_one info3 Try.underlying3 rfl) (partO_one info3 Try.underlying3 rfl) (veqIn_int Try.underlying3) rfl)))
theorem eq53 {d : TypeDesc} {a b a' b' : Int} : veqT Try.prog 53 d (.agg [.i a, .i b]) (.agg [.i a', .i b']) = some (decide (a = a') && (decide (b = b') && true)) := by
  rw [veqT_agg (by kernel_rfl), veqIn_struct (d := 9999) Try.underlying53 (by kernel_rfl)]
  exact veqFs_cons (by decide) (partO_one info35 Try.underlying35 rfl) (partO_one info35 Try.underlying35 rfl) (veqIn_int Try.underlying35) (veqFs_cons (by decide) (partO_one info3 Try.underlying3 rfl) (partO_one info3 Try.underlying3 rfl) (veqIn_int Try.underlying3) rfl)
set_option maxHeartbeats 1000000 in
set_option maxRecDepth 100000 in
theorem t23 (a b : List Tk) (o o' : Own) (p : Bool) (σ : Sg) (hl : a.length < 2 ^ 60) : VCalls Try.prog 23 [.sl o (tksA a), .sl o' (tksA b), .b p] σ (fun x σ' => x = .b (sameL p a b) ∧ σ' = σ) := by
  (refine vfun (fun _ => .no) mixed Try.func23 (by kernel_rfl) ?_; simp only [bodyOf, Try.f23, Option.getD_some])
  repeat' (first | with_reducible rfl | exact .inr trivial | with_reducible apply And.intro | with_reducible apply vqx_step | with_reducible apply vqm_step | with_reducible refine vkp_free (by decide +kernel) ?_ | with_reducible intro _ | ((first | (with_reducible first | refine .rs ?_ | refine .ds (by kernel_rfl) ?_ | refine .dg (by kernel_rfl) ?_ | refine .rg ?_ | refine .ite ?_ | refine .ret ?_ | refine .skip ?_ | refine .exit ?_ | refine .scope ?_ | refine .seq (.label ?_) | refine .block ?_ | refine .seq ?_)); (try simp only [vO, vQ, ↓vP, vE, vS, vB, vL, vF, vM, vN, vbs_full, Nat.reduceEqDiff, Nat.reduceAdd, Nat.reduceLeDiff, ne_eq, not_false_eq_true, Nat.reduceMul, Nat.reduceSub, Int.toNat_zero, Int.reduceToNat, Try.underlying9, Try.underlying5, Try.underlying3, Try.underlying35, Try.underlying59, Try.underlying51, Try.underlying53, info9, info59, info3, info35, info53, info51, nadd, nadd1, nadd2, nadd3, n1add, n2add, tksA_len, eq59, eq53, tkA, vT])) | ((simp (disch := first | assumption | omega) only [w64, w8, tg_eq, n1, n2, nn, Int.tdiv_eq_ediv_of_nonneg, Sg.set_same, Sg.set_ne, Sg.set_ne', Sg.del_ne, Sg.del_ne']); (try simp only [vO, vQ, ↓vP, vE, vS, vB, vL, vF, vM, vN, vbs_full, Nat.reduceEqDiff, Nat.reduceAdd, Nat.reduceLeDiff, ne_eq, not_false_eq_true, Nat.reduceMul, Nat.reduceSub, Int.toNat_zero, Int.reduceToNat, Try.underlying9, Try.underlying5, Try.underlying3, Try.underlying35, Try.underlying59, Try.underlying51, Try.underlying53, info9, info59, info3, info35, info53, info51, nadd, nadd1, nadd2, nadd3, n1add, n2add, tksA_len, eq59, eq53, tkA, vT])) | ((with_reducible refine VW.loop (0 : Nat) (fun k => k ≤ a.length ∧ a.length = b.length ∧ sameL p (a.drop k) (b.drop k) = sameL p a b) (fun k => [(0, .sl o (tksA a)), (1, .sl o' (tksA b)), (2, .b p), (7, .i k)]) (fun _ => σ) (fun k => a.length - k) ?_ (.refl _) ?_ (fun k ⟨h1, h2, h3⟩ => ?_)); (try simp only [vO, vQ, ↓vP, vE, vS, vB, vL, vF, vM, vN, vbs_full, Nat.reduceEqDiff, Nat.reduceAdd, Nat.reduceLeDiff, ne_eq, not_false_eq_true, Nat.reduceMul, Nat.reduceSub, Int.toNat_zero, Int.reduceToNat, Try.underlying9, Try.underlying5, Try.underlying3, Try.underlying35, Try.underlying59, Try.underlying51, Try.underlying53, info9, info59, info3, info35, info53, info51, nadd, nadd1, nadd2, nadd3, n1add, n2add, tksA_len, eq59, eq53, tkA, vT])) | ((with_reducible simp (disch := omega) only [tksA_get, tkA, Int.toNat_natCast]); (try simp only [vO, vQ, ↓vP, vE, vS, vB, vL, vF, vM, vN, vbs_full, Nat.reduceEqDiff, Nat.reduceAdd, Nat.reduceLeDiff, ne_eq, not_false_eq_true, Nat.reduceMul, Nat.reduceSub, Int.toNat_zero, Int.reduceToNat, Try.underlying9, Try.underlying5, Try.underlying3, Try.underlying35, Try.underlying59, Try.underlying51, Try.underlying53, info9, info59, info3, info35, info53, info51, nadd, nadd1, nadd2, nadd3, n1add, n2add, tksA_len, eq59, eq53, tkA, vT])) | with_reducible refine vfresh_set ?_ | with_reducible refine vfresh_intro (fun _ _ => ?_) | with_reducible refine vif_intro (fun _ => ?_) (fun _ => ?_) | omega | ((with_reducible first | refine vop_at ?_ | refine vops_at ?_ | refine vquiet_at ?_ | refine vmix_at ?_ | refine Holds_at ?_); simp only [vO, vQ, ↓vP, vE, vS, vB, vL, vF, vM, vN, vbs_full, Nat.reduceEqDiff, Nat.reduceAdd, Nat.reduceLeDiff, ne_eq, not_false_eq_true, Nat.reduceMul, Nat.reduceSub, Int.toNat_zero, Int.reduceToNat, Try.underlying9, Try.underlying5, Try.underlying3, Try.underlying35, Try.underlying59, Try.underlying51, Try.underlying53, info9, info59, info3, info35, info53, info51, nadd, nadd1, nadd2, nadd3, n1add, n2add, tksA_len, eq59, eq53, tkA, vT]))
  all_goals first
    | rfl
    | (have hp : p = true := by assumption
       subst hp
       have hE := tkEq_yes (a.getD k (0, [], 0, 0)) (b.getD k (0, [], 0, 0))
       have hs := sameL_step (p := true) (a := a) (b := b) (k := k) (by omega) (by omega)
       simp only [hE] at *
       first
         | (have hq : tkEq true (a.getD k (0, [], 0, 0)) (b.getD k (0, [], 0, 0)) = true := by assumption
            rw [hq, Bool.true_and] at hs
            exact ⟨k + 1, ⟨⟨by omega, by omega, by rw [← hs, h3]⟩, by omega⟩, (by repeat (first | exact Sg.sub.refl _ | refine Sg.sub.set_both ?_ | refine Sg.sub.set_fresh ?_ (by first | assumption | exact Sg.set_none ‹_› ‹_›) | refine Sg.sub.del_fresh ?_ (by first | assumption | exact Sg.set_none ‹_› ‹_›))), rfl⟩)
         | (have hq : ¬ tkEq true (a.getD k (0, [], 0, 0)) (b.getD k (0, [], 0, 0)) = true := by assumption
            simp only [Bool.not_eq_true] at hq
            rw [hq, Bool.false_and] at hs
            exact ⟨σ, (by repeat (first | exact Sg.sub.refl _ | refine Sg.sub.set_both ?_ | refine Sg.sub.set_fresh ?_ (by first | assumption | exact Sg.set_none ‹_› ‹_›) | refine Sg.sub.del_fresh ?_ (by first | assumption | exact Sg.set_none ‹_› ‹_›))), by rw [← h3, hs], rfl⟩))
    | (have hp : p = false := by simp only [Bool.not_eq_true] at *; assumption
       subst hp
       have hE := tkEq_no (a.getD k (0, [], 0, 0)) (b.getD k (0, [], 0, 0))
       have hs := sameL_step (p := false) (a := a) (b := b) (k := k) (by omega) (by omega)
       simp only [hE] at *
       first
         | (have hq : tkEq false (a.getD k (0, [], 0, 0)) (b.getD k (0, [], 0, 0)) = true := by assumption
            rw [hq, Bool.true_and] at hs
            exact ⟨k + 1, ⟨⟨by omega, by omega, by rw [← hs, h3]⟩, by omega⟩, (by repeat (first | exact Sg.sub.refl _ | refine Sg.sub.set_both ?_ | refine Sg.sub.set_fresh ?_ (by first | assumption | exact Sg.set_none ‹_› ‹_›) | refine Sg.sub.del_fresh ?_ (by first | assumption | exact Sg.set_none ‹_› ‹_›))), rfl⟩)
         | (have hq : ¬ tkEq false (a.getD k (0, [], 0, 0)) (b.getD k (0, [], 0, 0)) = true := by assumption
            simp only [Bool.not_eq_true] at hq
            rw [hq, Bool.false_and] at hs
            exact ⟨σ, (by repeat (first | exact Sg.sub.refl _ | refine Sg.sub.set_both ?_ | refine Sg.sub.set_fresh ?_ (by first | assumption | exact Sg.set_none ‹_› ‹_›) | refine Sg.sub.del_fresh ?_ (by first | assumption | exact Sg.set_none ‹_› ‹_›))), by rw [← h3, hs], rfl⟩))
    | exact ⟨σ, .refl _, by rw [sameL_len (by omega)], rfl⟩
    | (rw [List.drop_of_length_le (by omega), List.drop_of_length_le (by omega)] at h3
       exact ⟨σ, .refl _, by rw [← h3]; rfl, rfl⟩)
    | trace_state
end Go.Proofs.Ytkbfngepdgdecaa
