/- Part 5 of the proof: ZA. -/
import Derived.Test.YtjdapkelojdefaaGreatDoorN4

set_option linter.all false
/- Steps of a walk, each under a name: a theorem's binder holds the tactic. -/
namespace Go.V
/-- What is put aside, so that no tactic takes it for a fact of its own. -/
structure Bx (q : Prop) : Prop where
  out : q
structure Im (p q : Prop) : Prop where
  go : q → p
theorem zi {p q : Prop} (h : Im p q) : Bx q → p := fun k => h.go k.out
theorem vif_and {p X Y : Prop} (h : (p → X) ∧ (¬ p → Y)) : vif p X Y := Q4y h.1 h.2
theorem uc {P : Program} {f : FuncId} {a : List AV} {σ τ : Sg} {x : AV} {R : AV → Sg → Prop} (h : VCalls P f a σ (fun y σ' => y = x ∧ σ' = τ)) (k : R x τ) : VCalls P f a σ R := h.mono (fun y S q => by obtain ⟨rfl, rfl⟩ := q; exact k)
theorem zc {p : Prop} (h : p := by first | with_reducible rfl | exact trivial | fail) : p := h
theorem zT {p : Prop} (k : Bx True) (h : p) : p := h
theorem zo {p q : Prop} (k : q) (h : Bx q → p := by first | (intro k; exact zT k (.inr trivial)) | (intro k; (with_reducible first | refine Q5x ?_ | refine Q4c ?_ | refine vif_and ?_); exact k.out) | fail) : p := h ⟨k⟩
theorem e0 : tg (0 : Nat) = 0 := rfl
theorem j2 {a0 a1 : Prop} (x0 : a0) (x1 : a1) : a0 ∧ a1 := ⟨x0, x1⟩
theorem j3 {a0 a1 a2 : Prop} (x0 : a0) (x1 : a1) (x2 : a2) : a0 ∧ a1 ∧ a2 := ⟨x0, x1, x2⟩
theorem j4 {a0 a1 a2 a3 : Prop} (x0 : a0) (x1 : a1) (x2 : a2) (x3 : a3) : a0 ∧ a1 ∧ a2 ∧ a3 := ⟨x0, x1, x2, x3⟩
theorem j5 {a0 a1 a2 a3 a4 : Prop} (x0 : a0) (x1 : a1) (x2 : a2) (x3 : a3) (x4 : a4) : a0 ∧ a1 ∧ a2 ∧ a3 ∧ a4 := ⟨x0, x1, x2, x3, x4⟩
theorem j6 {a0 a1 a2 a3 a4 a5 : Prop} (x0 : a0) (x1 : a1) (x2 : a2) (x3 : a3) (x4 : a4) (x5 : a5) : a0 ∧ a1 ∧ a2 ∧ a3 ∧ a4 ∧ a5 := ⟨x0, x1, x2, x3, x4, x5⟩
theorem j7 {a0 a1 a2 a3 a4 a5 a6 : Prop} (x0 : a0) (x1 : a1) (x2 : a2) (x3 : a3) (x4 : a4) (x5 : a5) (x6 : a6) : a0 ∧ a1 ∧ a2 ∧ a3 ∧ a4 ∧ a5 ∧ a6 := ⟨x0, x1, x2, x3, x4, x5, x6⟩
theorem j8 {a0 a1 a2 a3 a4 a5 a6 a7 : Prop} (x0 : a0) (x1 : a1) (x2 : a2) (x3 : a3) (x4 : a4) (x5 : a5) (x6 : a6) (x7 : a7) : a0 ∧ a1 ∧ a2 ∧ a3 ∧ a4 ∧ a5 ∧ a6 ∧ a7 := ⟨x0, x1, x2, x3, x4, x5, x6, x7⟩
theorem j9 {a0 a1 a2 a3 a4 a5 a6 a7 a8 : Prop} (x0 : a0) (x1 : a1) (x2 : a2) (x3 : a3) (x4 : a4) (x5 : a5) (x6 : a6) (x7 : a7) (x8 : a8) : a0 ∧ a1 ∧ a2 ∧ a3 ∧ a4 ∧ a5 ∧ a6 ∧ a7 ∧ a8 := ⟨x0, x1, x2, x3, x4, x5, x6, x7, x8⟩
theorem za {p q r : Prop} (e : r) (k : q) (h : Bx r → Bx q → p := by first | (intro e k; (first | ((with_reducible first | refine .rs ?_ | refine .ds (by kernel_rfl) ?_ | refine .dg (by kernel_rfl) ?_ | refine .rg ?_ | refine .ite ?_ | refine .ret ?_ | refine .skip ?_ | refine .exit ?_ | refine .scope ?_ | refine .seq (.label ?_) | refine .block ?_ | refine .seq ?_); first | (revert k; apply zi; simp only [vO, vQ, ↓vP, vE, vS, vB, vL, vF, vM, vN, Q0i, Nat.reduceEqDiff, Nat.reduceAdd, Nat.reduceLeDiff, ne_eq, not_false_eq_true, Nat.reduceMul, Nat.reduceSub, Int.toNat_zero, Int.reduceToNat, e.out, vT]; exact ⟨id⟩) | exact k.out) | (revert k; apply zi; simp (disch := first | assumption | omega) only [Go.V.w64, Go.V.w8, Go.V.tg_eq, Go.V.n1, Go.V.n2, Go.V.nn, Int.tdiv_eq_ediv_of_nonneg, Go.V.Sg.set_same, Go.V.Sg.set_ne, Go.V.Sg.set_ne', Go.V.Sg.del_ne, Go.V.Sg.del_ne']; (try simp only [vO, vQ, ↓vP, vE, vS, vB, vL, vF, vM, vN, Q0i, Nat.reduceEqDiff, Nat.reduceAdd, Nat.reduceLeDiff, ne_eq, not_false_eq_true, Nat.reduceMul, Nat.reduceSub, Int.toNat_zero, Int.reduceToNat, e.out, vT]); exact ⟨id⟩))) | fail) : p := h ⟨e⟩ ⟨k⟩
theorem zs {p q r : Prop} (e : r) (k : q) (h : Bx r → Bx q → p := by first | (intro e k; revert k; apply zi; simp only [vO, vQ, ↓vP, vE, vS, vB, vL, vF, vM, vN, Q0i, Nat.reduceEqDiff, Nat.reduceAdd, Nat.reduceLeDiff, ne_eq, not_false_eq_true, Nat.reduceMul, Nat.reduceSub, Int.toNat_zero, Int.reduceToNat, e.out, vT]; exact ⟨id⟩) | fail) : p := h ⟨e⟩ ⟨k⟩
theorem zt {p q r : Prop} (e : r) (k : q) (h : Bx r → Bx q → p := by first | (intro e k; (with_reducible first | refine vop_at ?_ | refine vops_at ?_ | refine X1o ?_ | refine vmix_at ?_ | refine Q1d ?_); revert k; apply zi; simp only [vO, vQ, ↓vP, vE, vS, vB, vL, vF, vM, vN, Q0i, Nat.reduceEqDiff, Nat.reduceAdd, Nat.reduceLeDiff, ne_eq, not_false_eq_true, Nat.reduceMul, Nat.reduceSub, Int.toNat_zero, Int.reduceToNat, e.out, vT]; exact ⟨id⟩) | fail) : p := h ⟨e⟩ ⟨k⟩
end Go.V
