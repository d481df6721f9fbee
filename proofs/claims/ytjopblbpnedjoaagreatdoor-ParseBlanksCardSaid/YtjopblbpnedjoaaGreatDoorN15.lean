/- Part 15 of the proof: E9, E11, E10, V23, W12, S2, V14, V16, V18, R13. -/
import Derived.Test.YtjopblbpnedjoaaGreatDoorN5
import Derived.Test.YtjopblbpnedjoaaGreatDoorN13
import Derived.Test.YtjopblbpnedjoaaGreatDoorN14
import Derived.Test.YtjopblbpnedjoaaGreatDoorN12
import Derived.Test.YtjopblbpnedjoaaGreatDoorN3
import GoSem.ClaimChange
import Derived.Below
import Derived.Carry
import Derived.Test.YtjopblbpnedjoaaGreatDoorRows
import Derived.Test.YtjopblbpnedjoaaGreatDoorN0
import Derived.WalkKit
import Derived.ProofKit
import Derived.OpenShut
import Derived.LaidMore
import Derived.Lay
import Derived.SevenTiedAt
import Derived.Stop.Joined

set_option linter.all false
set_option maxRecDepth 100000
set_option maxHeartbeats 1000000
open Nat renaming reduceEqDiff → za, reduceAdd → zb, reduceLeDiff → zc, reduceMul → zd, reduceSub → ze
open Int renaming toNat_zero → zh, reduceToNat → zi, tdiv_eq_ediv_of_nonneg → zj
open Go.V.Sg renaming set_same → zk, set_ne → zl, set_ne' → zm, del_ne → zn, del_ne' → zo
open Option renaming getD_some → zp
open Go.Cert renaming ne_of2 → zq, ne_ob → zr, lk → zs
open Go.V.VCalls renaming mono → zt
open Go.Proofs.Tryz renaming underlying0 → Z0, underlying3 → Z3, underlying4 → Z4, underlying5 → Z5, underlying9 → Z9, underlying20 → Z20, underlying23 → Z23, underlying24 → Z24, underlying25 → Z25, underlying26 → Z26, underlying27 → Z27, underlying30 → Z30, underlying31 → Z31, underlying33 → Z33, underlying34 → Z34, underlying35 → Z35, underlying36 → Z36, underlying37 → Z37, underlying38 → Z38, underlying49 → Z49, underlying50 → Z50, underlying51 → Z51, underlying52 → Z52, underlying53 → Z53, underlying54 → Z54, underlying75 → Z75, underlying76 → Z76, underlying83 → Z83, underlying84 → Z84, underlying87 → Z87, underlying109 → Z109, underlying110 → Z110, underlying112 → Z112, underlying113 → Z113, underlying153 → Z153, underlying154 → Z154, underlying155 → Z155, underlying156 → Z156, underlying160 → Z160, underlying188 → Z188
set_option linter.unusedSimpArgs false
set_option linter.unusedVariables false
namespace Go.Proofs.YtjopblbpnedjoaaGreatDoor
open Go Go.V Go.Lex Go.Print
theorem eq23 {d : TypeDesc} {a b a' b' : Int} {s t : ByteArray} : veqT Tryz.prog 34 d (.agg [.i a, .i b, .s s]) (.agg [.i a', .i b', .s t]) = some (decide (a = a') && (decide (b = b') && (sEq s t && true))) := by
  rw [veqT_agg (by kernel_rfl), veqIn_struct (d := 9999) Z34 (by kernel_rfl)]
  exact veqFs_cons (by decide) (partO_one info3 Z3 rfl) (partO_one info3 Z3 rfl) (veqIn_int Z3) (veqFs_cons (by decide) (partO_one info3 Z3 rfl) (partO_one info3 Z3 rfl) (veqIn_int Z3) (veqFs_cons (by decide) (partO_one info9 Z9 rfl) (partO_one info9 Z9 rfl) (veqIn_str Z9) rfl))
theorem e8 (k n : Int) (t : List UInt8) (σ : Sg) : VCalls Tryz.prog 271 [.agg [.i k, .i n, .s (bs t)]] σ (fun x σ' => x = .agg [.i k, .i (bareV k n t).1, .s (bs (bareV k n t).2)] ∧ σ' = σ) := by
  unfold bareV
  (refine vfun (fun _ => .no) mixed Tryz.func271 (by kernel_rfl) ?_; simp only [bodyOf, Tryz.f271, zp])
  repeat' (first | with_reducible rfl | exact .inr trivial | (with_reducible first | apply And.intro | apply vqx_step | apply vqm_step | refine vkp_free (by decide +kernel) ?_ | intro _) | ((first | (with_reducible first | refine .rs ?_ | refine .ds (by kernel_rfl) ?_ | refine .dg (by kernel_rfl) ?_ | refine .rg ?_ | refine .ite ?_ | refine .ret ?_ | refine .skip ?_ | refine .exit ?_ | refine .scope ?_ | refine .seq (.label ?_) | refine .block ?_ | refine .seq ?_) | (simp (disch := first | assumption | (apply zq; assumption; assumption) | (apply zr; assumption; assumption; (intro e; cases e; done)) | omega) only [w64, w8, tg_eq, Go.V.n1, Go.V.n2, Go.V.nn, zj, zk, zl, zm, zn, zo]) | (refine vlo_app zs ?_) | (refine vst_app zs ?_)); (try simp only [vO, vQ, ↓vP, vE, vS, vB, vL, vF, vM, vN, vbs_full, za, zb, zc, ne_eq, not_false_eq_true, zd, ze, zh, zi, Z3, info3, Z9, info9, Z34, info34, vT])) | (with_reducible first | refine vfresh_set ?_ | refine vfresh_intro (fun _ _ => ?_) | refine vif_intro (fun _ => ?_) (fun _ => ?_)) | omega | ((with_reducible first | refine vop_at ?_ | refine vops_at ?_ | refine vquiet_at ?_ | refine vmix_at ?_ | refine Holds_at ?_); simp only [vO, vQ, ↓vP, vE, vS, vB, vL, vF, vM, vN, vbs_full, za, zb, zc, ne_eq, not_false_eq_true, zd, ze, zh, zi, Z3, info3, Z9, info9, Z34, info34, vT]))
  all_goals exact ⟨σ, (by intro y p hy; simp only [Sg.set_apply, Sg.del_apply] at hy ⊢; grind), by simp_all, rfl⟩
theorem e5 (k n : Int) (t : List UInt8) (σ : Sg) : VCalls Tryz.prog 212 [.agg [.i k, .i n, .s (bs t)]] σ (fun x σ' => x = .i (rightV k n t) ∧ σ' = σ) := by
  unfold rightV
  have h8 := e8 k n t
  generalize bareV k n t = bv at *
  (refine vfun (fun _ => .ro) mixed Tryz.func212 (by kernel_rfl) ?_; simp only [bodyOf, Tryz.f212, zp])
  repeat' (first | with_reducible rfl | exact .inr trivial | (with_reducible first | apply And.intro | apply vqx_step | apply vqm_step | refine vkp_free (by decide +kernel) ?_ | intro _) | ((first | (with_reducible first | refine .rs ?_ | refine .ds (by kernel_rfl) ?_ | refine .dg (by kernel_rfl) ?_ | refine .rg ?_ | refine .ite ?_ | refine .ret ?_ | refine .skip ?_ | refine .exit ?_ | refine .scope ?_ | refine .seq (.label ?_) | refine .block ?_ | refine .seq ?_) | (simp (disch := first | assumption | (apply zq; assumption; assumption) | (apply zr; assumption; assumption; (intro e; cases e; done)) | omega) only [w64, w8, tg_eq, Go.V.n1, Go.V.n2, Go.V.nn, zj, zk, zl, zm, zn, zo]) | ((with_reducible refine zt (h8 _) ?_); rintro _ S ⟨rfl, rfl⟩)); (try simp only [vO, vQ, ↓vP, vE, vS, vB, vL, vF, vM, vN, vbs_full, za, zb, zc, ne_eq, not_false_eq_true, zd, ze, zh, zi, Z3, info3, Z4, info4, Z9, info9, Z34, info34, Z24, info24, eq23, vT])) | (with_reducible first | refine vfresh_set ?_ | refine vfresh_intro (fun _ _ => ?_) | refine vif_intro (fun _ => ?_) (fun _ => ?_)) | omega | ((with_reducible first | refine vop_at ?_ | refine vops_at ?_ | refine vquiet_at ?_ | refine vmix_at ?_ | refine Holds_at ?_); simp only [vO, vQ, ↓vP, vE, vS, vB, vL, vF, vM, vN, vbs_full, za, zb, zc, ne_eq, not_false_eq_true, zd, ze, zh, zi, Z3, info3, Z4, info4, Z9, info9, Z34, info34, Z24, info24, eq23, vT]))
  all_goals (clear h8; obtain ⟨b1, b2⟩ := bv; refine ⟨σ, .refl _, congrArg (fun c => AV.val (Value.int IntKind.i64 c)) ?_, rfl⟩)
  all_goals simp only [Prod.mk.injEq, ne_eq, Bool.and_eq_true, decide_eq_true_eq, decide_true, true_and] at *
  all_goals grind
end Go.Proofs.YtjopblbpnedjoaaGreatDoor

set_option linter.unusedSimpArgs false
set_option linter.unusedVariables false
namespace Go.Proofs.YtjopblbpnedjoaaGreatDoor
open Go Go.V Go.Lex Go.Print
def litL (k : Int) (n : Nat) (t : List UInt8) : List UInt8 := if k = 1 then dec n else if k = 2 then quoteL t else [78, 85, 76, 76]
end Go.Proofs.YtjopblbpnedjoaaGreatDoor

set_option linter.unusedSimpArgs false
set_option linter.unusedVariables false
namespace Go.Proofs.YtjopblbpnedjoaaGreatDoor
open Go Go.V Go.Lex Go.Print
theorem e7 (k : Int) (n : Nat) (t : List UInt8) (hn : n < 9223372036854775808) (ht : t.length ≤ 40) (σ : Sg) : VCalls Tryz.prog 48 [.agg [.i k, .i n, .s (bs t)]] σ (fun x σ' => x = .s (bs (litL k n t)) ∧ σ' = σ) := by
  unfold litL quoteL
  have hq := quo_len t
  (refine vfun (fun _ => .ro) mixed Tryz.func48 (by kernel_rfl) ?_; simp only [bodyOf, Tryz.f48, zp])
  repeat' (first | with_reducible rfl | exact .inr trivial | (with_reducible first | apply And.intro | apply vqx_step | apply vqm_step | refine vkp_free (by decide +kernel) ?_ | intro _) | ((first | (with_reducible first | refine .rs ?_ | refine .ds (by kernel_rfl) ?_ | refine .dg (by kernel_rfl) ?_ | refine .rg ?_ | refine .ite ?_ | refine .ret ?_ | refine .skip ?_ | refine .exit ?_ | refine .scope ?_ | refine .seq (.label ?_) | refine .block ?_ | refine .seq ?_) | (simp (disch := first | assumption | (apply zq; assumption; assumption) | (apply zr; assumption; assumption; (intro e; cases e; done)) | omega) only [w64, w8, tg_eq, Go.V.n1, Go.V.n2, Go.V.nn, zj, zk, zl, zm, zn, zo]) | ((with_reducible refine zt (e11 n hn _) ?_); rintro _ S ⟨rfl, rfl⟩) | ((with_reducible refine zt (e12 t (by omega) _) ?_); rintro _ S ⟨rfl, rfl⟩)); (try simp only [vO, vQ, ↓vP, vE, vS, vB, vL, vF, vM, vN, vbs_full, za, zb, zc, ne_eq, not_false_eq_true, zd, ze, zh, zi, Z3, info3, Z4, info4, Z9, info9, Z34, info34, vT])) | (with_reducible first | refine vfresh_set ?_ | refine vfresh_intro (fun _ _ => ?_) | refine vif_intro (fun _ => ?_) (fun _ => ?_)) | omega | ((with_reducible first | refine vop_at ?_ | refine vops_at ?_ | refine vquiet_at ?_ | refine vmix_at ?_ | refine Holds_at ?_); simp only [vO, vQ, ↓vP, vE, vS, vB, vL, vF, vM, vN, vbs_full, za, zb, zc, ne_eq, not_false_eq_true, zd, ze, zh, zi, Z3, info3, Z4, info4, Z9, info9, Z34, info34, vT]))
  all_goals exact ⟨_, .refl _, by simp [*], rfl⟩
end Go.Proofs.YtjopblbpnedjoaaGreatDoor

set_option linter.unusedVariables false
namespace Go.V
open Go.RowKit
variable {P : Program}
theorem VCalls.fr {f : FuncId} {args : List AV} {σ : Sg} {R' : AV → Sg → Prop} {X : Nat → AV} {S : Nat → Sg} (hc : VCalls P f args σ (fun x σ' => ∃ τ, σ τ = none ∧ x = X τ ∧ σ' = S τ)) (h : vfresh σ fun τ => R' (X τ) (S τ)) : VCalls P f args σ R' :=
  hc.mono (fun x σ' hx => by
    obtain ⟨τ, h0, rfl, rfl⟩ := hx
    exact h τ h0)
end Go.V

set_option linter.unusedSimpArgs false
set_option linter.unusedVariables false
namespace Go.Print
open Go.V Go.Lex Go.Parse Go.Proofs.YtjopblbpnedjoaaGreatDoor
theorem joinS_snoc : ∀ (l : List By) (x : By), l ≠ [] → joinS (l ++ [x]) = joinS l ++ 32 :: x
  | [], x, h => absurd rfl h
  | [a], x, _ => rfl
  | a :: b :: r, x, _ => by
    have ih := joinS_snoc (b :: r) x (by simp)
    show a ++ 32 :: joinS ((b :: r) ++ [x]) = (a ++ 32 :: joinS (b :: r)) ++ 32 :: x
    rw [ih]
    simp
def lenL (l : List By) : Nat := (l.map List.length).sum
theorem lenL_take {l : List By} {k : Nat} (h : k < l.length) : lenL (l.take (k + 1)) = lenL (l.take k) + (l.getD k []).length := by
  unfold lenL
  rw [List.take_succ_eq_append_getElem h, List.map_append, List.sum_append]
  simp [List.getD_eq_getElem?_getD, List.getElem?_eq_getElem h]
theorem join_len : ∀ l : List By, l ≠ [] → (joinS l).length + 1 = lenL l + l.length
  | [], h => absurd rfl h
  | [a], _ => by simp [joinS, lenL]
  | a :: b :: r, _ => by
    have ih := join_len (b :: r) (by simp)
    have e : joinS (a :: b :: r) = a ++ 32 :: joinS (b :: r) := rfl
    rw [e]
    simp only [List.length_append, List.length_cons, lenL, List.map_cons, List.sum_cons] at ih ⊢
    omega
theorem lenL_le (l : List By) (k : Nat) : lenL (l.take k) ≤ lenL l := by
  have : lenL l = lenL (l.take k) + lenL (l.drop k) := by
    unfold lenL
    rw [← List.sum_append, ← List.map_append, List.take_append_drop]
  omega
end Go.Print
namespace Go.Proofs.YtjopblbpnedjoaaGreatDoor
open Go Go.V Go.Lex Go.Parse Go.Print
theorem strs_all (ws : List By) : allLen (strs ws) 1 = True := eq_true (fun e he => by obtain ⟨w, _, rfl⟩ := List.mem_map.1 he; rfl)
theorem bs32 : (bs [32]).size = 1 := bs_size _
def tdQ (m : Int) : Int := (9223372036854775807 : Int).tdiv m
theorem tdQ_fold (m : Int) : (9223372036854775807 : Int).tdiv m = tdQ m := rfl
theorem tdiv_big {m : Nat} (h1 : 1 ≤ m) (h2 : m ≤ 2 ^ 40) : ∃ Q : Int, (9223372036854775807 : Int).tdiv (m : Int) = Q ∧ 1 < Q ∧ Q ≤ 9223372036854775807 := by
  have e : (9223372036854775807 : Int).tdiv (m : Int) = ((9223372036854775807 / m : Nat) : Int) := rfl
  refine ⟨_, e, ?_, ?_⟩
  · have : 2 ≤ 9223372036854775807 / m := by
      rw [Nat.le_div_iff_mul_le (by omega)]
      omega
    omega
  · have := Nat.div_le_self 9223372036854775807 m
    omega
theorem j_join (l : List By) (o : Own) (hl : (joinS l).length ≤ 2 ^ 38) (hn : l.length ≤ 2 ^ 38) (σ : Sg) : VCalls Tryz.prog 49 [.sl o (strs l), .s (bs [32])] σ (fun x σ' => x = .s (bs (joinS l)) ∧ σ' = σ) := by
  have hsl := strs_len l
  match l, hl, hn with
  | [], _, _ =>
    (refine vfun (fun _ => .no) mixed Tryz.func49 (by kernel_rfl) ?_; simp only [bodyOf, Tryz.f49, zp])
    repeat' (first | with_reducible rfl | exact .inr trivial | (with_reducible first | apply And.intro | apply vqx_step | apply vqm_step | refine vkp_free (by decide +kernel) ?_ | intro _) | ((first | (with_reducible first | refine .rs ?_ | refine .ds (by kernel_rfl) ?_ | refine .dg (by kernel_rfl) ?_ | refine .rg ?_ | refine .ite ?_ | refine .ret ?_ | refine .skip ?_ | refine .exit ?_ | refine .scope ?_ | refine .seq (.label ?_) | refine .block ?_ | refine .seq ?_) | (simp (disch := first | assumption | (apply zq; assumption; assumption) | (apply zr; assumption; assumption; (intro e; cases e; done)) | omega) only [w64, w8, tg_eq, Go.V.n1, Go.V.n2, Go.V.nn, zj, zk, zl, zm, zn, zo]) | (refine vlo_app zs ?_) | (refine vst_app zs ?_)); (try simp only [vO, vQ, ↓vP, vE, vS, vB, vL, vF, vM, vN, vbs_full, za, zb, zc, ne_eq, not_false_eq_true, zd, ze, zh, zi, Z0, info0, Z3, info3, Z4, info4, Z5, info5, Z9, info9, Z20, info20, Z87, info87, Z153, info153, Z154, info154, Z155, info155, Z156, info156, Z160, info160, hsl, vown2_r, vown2_pos, vown2_neg, zp, ↓reduceIte, List.getD_cons_zero, List.getD_cons_succ, vT])) | (with_reducible first | refine vfresh_set ?_ | refine vfresh_intro (fun _ _ => ?_) | refine vif_intro (fun _ => ?_) (fun _ => ?_)) | omega | ((with_reducible first | refine vop_at ?_ | refine vops_at ?_ | refine vquiet_at ?_ | refine vmix_at ?_ | refine Holds_at ?_); simp only [vO, vQ, ↓vP, vE, vS, vB, vL, vF, vM, vN, vbs_full, za, zb, zc, ne_eq, not_false_eq_true, zd, ze, zh, zi, Z0, info0, Z3, info3, Z4, info4, Z5, info5, Z9, info9, Z20, info20, Z87, info87, Z153, info153, Z154, info154, Z155, info155, Z156, info156, Z160, info160, hsl, vown2_r, vown2_pos, vown2_neg, zp, ↓reduceIte, List.getD_cons_zero, List.getD_cons_succ, vT]))
    all_goals exact ⟨_, .refl _, rfl, rfl⟩
  | [a], _, _ =>
    have hs1 : strs [a] = [[.s (bs a)]] := rfl
    rw [hs1]
    (refine vfun (fun _ => .no) mixed Tryz.func49 (by kernel_rfl) ?_; simp only [bodyOf, Tryz.f49, zp])
    repeat' (first | with_reducible rfl | exact .inr trivial | (with_reducible first | apply And.intro | apply vqx_step | apply vqm_step | refine vkp_free (by decide +kernel) ?_ | intro _) | ((first | (with_reducible first | refine .rs ?_ | refine .ds (by kernel_rfl) ?_ | refine .dg (by kernel_rfl) ?_ | refine .rg ?_ | refine .ite ?_ | refine .ret ?_ | refine .skip ?_ | refine .exit ?_ | refine .scope ?_ | refine .seq (.label ?_) | refine .block ?_ | refine .seq ?_) | (simp (disch := first | assumption | (apply zq; assumption; assumption) | (apply zr; assumption; assumption; (intro e; cases e; done)) | omega) only [w64, w8, tg_eq, Go.V.n1, Go.V.n2, Go.V.nn, zj, zk, zl, zm, zn, zo]) | (refine vlo_app zs ?_) | (refine vst_app zs ?_)); (try simp only [vO, vQ, ↓vP, vE, vS, vB, vL, vF, vM, vN, vbs_full, za, zb, zc, ne_eq, not_false_eq_true, zd, ze, zh, zi, Z0, info0, Z3, info3, Z4, info4, Z5, info5, Z9, info9, Z20, info20, Z87, info87, Z153, info153, Z154, info154, Z155, info155, Z156, info156, Z160, info160, vown2_r, vown2_pos, vown2_neg, zp, ↓reduceIte, List.getD_cons_zero, List.getD_cons_succ, vT])) | (with_reducible first | refine vfresh_set ?_ | refine vfresh_intro (fun _ _ => ?_) | refine vif_intro (fun _ => ?_) (fun _ => ?_)) | omega | ((with_reducible first | refine vop_at ?_ | refine vops_at ?_ | refine vquiet_at ?_ | refine vmix_at ?_ | refine Holds_at ?_); simp only [vO, vQ, ↓vP, vE, vS, vB, vL, vF, vM, vN, vbs_full, za, zb, zc, ne_eq, not_false_eq_true, zd, ze, zh, zi, Z0, info0, Z3, info3, Z4, info4, Z5, info5, Z9, info9, Z20, info20, Z87, info87, Z153, info153, Z154, info154, Z155, info155, Z156, info156, Z160, info160, vown2_r, vown2_pos, vown2_neg, zp, ↓reduceIte, List.getD_cons_zero, List.getD_cons_succ, vT]))
    all_goals exact ⟨_, .refl _, rfl, rfl⟩
  | a :: b :: r, hl, hn =>
    have hjl := join_len (a :: b :: r) (by simp)
    have hg0 : (strs (a :: b :: r)).getD 0 [] = [.s (bs a)] := rfl
    have hd1 : (strs (a :: b :: r)).drop 1 = strs (b :: r) := rfl
    have hsl2 := strs_len (b :: r)
    have hL2 : 2 ≤ (a :: b :: r).length := by simp
    have hbl : (b :: r).length + 1 = (a :: b :: r).length := rfl
    have hne : (a :: b :: r) ≠ [] := by simp
    have htk : ∀ k, (a :: b :: r).take (k + 1) = a :: (b :: r).take k := fun k => rfl
    generalize hll : a :: b :: r = l at *
    obtain ⟨Q, hQ, hQ1, hQ2⟩ := tdiv_big (m := l.length - 1) (by omega) (by omega)
    have hm : ((l.length - 1 : Nat) : Int) = (l.length : Int) - 1 := by omega
    rw [hm, tdQ_fold] at hQ
    have hQF1 : (Q ≤ ((1 : Nat) : Int)) = False := eq_false (by omega)
    have hQF2 : (Q ≤ 1) = False := eq_false (by omega)
    have hz1 : ((l.length : Int) = 0) = False := eq_false (by omega)
    have hz2 : ((l.length : Int) = 1) = False := eq_false (by omega)
    have hz3 : ((l.length : Int) - 1 = 0) = False := eq_false (by omega)
    (refine vfun (fun _ => .no) mixed Tryz.func49 (by kernel_rfl) ?_; simp only [bodyOf, Tryz.f49, zp])
    repeat' (first | with_reducible rfl | exact .inr trivial | (with_reducible first | apply And.intro | apply vqx_step | apply vqm_step | refine vkp_free (by decide +kernel) ?_ | intro _) | ((first | (with_reducible first | refine .rs ?_ | refine .ds (by kernel_rfl) ?_ | refine .dg (by kernel_rfl) ?_ | refine .rg ?_ | refine .ite ?_ | refine .ret ?_ | refine .skip ?_ | refine .exit ?_ | refine .scope ?_ | refine .seq (.label ?_) | refine .block ?_ | refine .seq ?_) | (simp (disch := first | assumption | (apply zq; assumption; assumption) | (apply zr; assumption; assumption; (intro e; cases e; done)) | omega) only [w64, w8, tg_eq, Go.V.n1, Go.V.n2, Go.V.nn, zj, zk, zl, zm, zn, zo]) | (refine vlo_app zs ?_) | (refine vst_app zs ?_)); (try simp only [vO, vQ, ↓vP, vE, vS, vB, vL, vF, vM, vN, vbs_full, za, zb, zc, ne_eq, not_false_eq_true, zd, ze, zh, zi, Z0, info0, Z3, info3, Z4, info4, Z5, info5, Z9, info9, Z20, info20, Z87, info87, Z153, info153, Z154, info154, Z155, info155, Z156, info156, Z160, info160, hsl, bs32, tdQ_fold, hQ, hQF1, hQF2, hz1, hz2, hz3, vown2_r, vown2_pos, vown2_neg, zp, ↓reduceIte, List.getD_cons_zero, List.getD_cons_succ, vT])) | (with_reducible first | refine vfresh_set ?_ | refine vfresh_intro (fun _ _ => ?_) | refine vif_intro (fun _ => ?_) (fun _ => ?_)) | omega | ((with_reducible first | refine vop_at ?_ | refine vops_at ?_ | refine vquiet_at ?_ | refine vmix_at ?_ | refine Holds_at ?_); simp only [vO, vQ, ↓vP, vE, vS, vB, vL, vF, vM, vN, vbs_full, za, zb, zc, ne_eq, not_false_eq_true, zd, ze, zh, zi, Z0, info0, Z3, info3, Z4, info4, Z5, info5, Z9, info9, Z20, info20, Z87, info87, Z153, info153, Z154, info154, Z155, info155, Z156, info156, Z160, info160, hsl, bs32, tdQ_fold, hQ, hQF1, hQF2, hz1, hz2, hz3, vown2_r, vown2_pos, vown2_neg, zp, ↓reduceIte, List.getD_cons_zero, List.getD_cons_succ, vT]))
    refine VW.loop3 (0 : Nat) () () (fun k _ _ => k ≤ l.length) (fun k _ _ => [(0, .sl o (strs l)), (1, .s (bs [32])), (5, .i ((l.length - 1 + lenL (l.take k) : Nat) : Int)), (39, .sl o (strs l)), (40, .i l.length), (41, .i k)]) (fun _ _ _ => σ) (fun k _ _ => l.length - k) (Nat.zero_le _) (.refl _) ?_ ?_
    · simp only [vO, vQ, ↓vP, vE, vS, vB, vL, vF, vM, vN, vbs_full, za, zb, zc, ne_eq, not_false_eq_true, zd, ze, zh, zi, vT]
      exact ⟨i_eq (by simp [lenL]; omega), rfl⟩
    rintro k _ _ hk
    have hsk := lenL_le l k
    rcases Nat.lt_or_ge k l.length with hk2 | hk2
    · have hg := strs_get hk2
      have hlk := lenL_take hk2
      have hsk2 := lenL_le l (k + 1)
      rw [hlk] at hsk2
      generalize lenL (l.take k) = s at *
      generalize l.getD k [] = w at *
      have hw : (bs w).size = w.length := bs_size w
      repeat' (first | with_reducible rfl | exact .inr trivial | (with_reducible first | apply And.intro | apply vqx_step | apply vqm_step | refine vkp_free (by decide +kernel) ?_ | intro _) | ((first | (with_reducible first | refine .rs ?_ | refine .ds (by kernel_rfl) ?_ | refine .dg (by kernel_rfl) ?_ | refine .rg ?_ | refine .ite ?_ | refine .ret ?_ | refine .skip ?_ | refine .exit ?_ | refine .scope ?_ | refine .seq (.label ?_) | refine .block ?_ | refine .seq ?_) | (simp (disch := first | assumption | (apply zq; assumption; assumption) | (apply zr; assumption; assumption; (intro e; cases e; done)) | omega) only [w64, w8, tg_eq, Go.V.n1, Go.V.n2, Go.V.nn, zj, zk, zl, zm, zn, zo]) | (refine vlo_app zs ?_) | (refine vst_app zs ?_)); (try simp only [vO, vQ, ↓vP, vE, vS, vB, vL, vF, vM, vN, vbs_full, za, zb, zc, ne_eq, not_false_eq_true, zd, ze, zh, zi, Z0, info0, Z3, info3, Z4, info4, Z5, info5, Z9, info9, Z20, info20, Z87, info87, Z153, info153, Z154, info154, Z155, info155, Z156, info156, Z160, info160, hsl, hg, hw, vown2_r, vown2_pos, vown2_neg, zp, ↓reduceIte, List.getD_cons_zero, List.getD_cons_succ, vT])) | (with_reducible first | refine vfresh_set ?_ | refine vfresh_intro (fun _ _ => ?_) | refine vif_intro (fun _ => ?_) (fun _ => ?_)) | omega | ((with_reducible first | refine vop_at ?_ | refine vops_at ?_ | refine vquiet_at ?_ | refine vmix_at ?_ | refine Holds_at ?_); simp only [vO, vQ, ↓vP, vE, vS, vB, vL, vF, vM, vN, vbs_full, za, zb, zc, ne_eq, not_false_eq_true, zd, ze, zh, zi, Z0, info0, Z3, info3, Z4, info4, Z5, info5, Z9, info9, Z20, info20, Z87, info87, Z153, info153, Z154, info154, Z155, info155, Z156, info156, Z160, info160, hsl, hg, hw, vown2_r, vown2_pos, vown2_neg, zp, ↓reduceIte, List.getD_cons_zero, List.getD_cons_succ, vT]))
      exact ⟨k + 1, (), (), ⟨hk2, by omega⟩, .refl _, i_eq (by rw [hlk]; omega), rfl⟩
    · rw [List.take_of_length_le hk2]
      have ha : a.length ≤ 2 ^ 38 := by rw [← hll] at hl; simp [joinS] at hl; omega
      have hG : ∀ β S, S β = none → VCalls Tryz.prog 108 [.ref β 0, .i ((l.length - 1 + lenL l : Nat) : Int)] (S.set β (.cells 156 [.val (.pointer none), .sl .nil []])) (fun x σ' => x = .tup [] ∧ Bld β [] S σ') := fun β S hS => e36 β _ S hS (by omega) (by omega)
      repeat' (first | with_reducible rfl | exact .inr trivial | (with_reducible first | apply And.intro | apply vqx_step | apply vqm_step | refine vkp_free (by decide +kernel) ?_ | intro _) | ((first | (with_reducible first | refine .rs ?_ | refine .ds (by kernel_rfl) ?_ | refine .dg (by kernel_rfl) ?_ | refine .rg ?_ | refine .ite ?_ | refine .ret ?_ | refine .skip ?_ | refine .exit ?_ | refine .scope ?_ | refine .seq (.label ?_) | refine .block ?_ | refine .seq ?_) | (simp (disch := first | assumption | (apply zq; assumption; assumption) | (apply zr; assumption; assumption; (intro e; cases e; done)) | omega) only [w64, w8, tg_eq, Go.V.n1, Go.V.n2, Go.V.nn, zj, zk, zl, zm, zn, zo]) | ((with_reducible refine zt (hG _ _ (by assumption)) ?_); rintro _ S' ⟨rfl, hB⟩) | ((with_reducible refine zt (t100 _ _ _ _ _ hB (by simp only [List.length_nil]; omega)) ?_); rintro _ S'' ⟨rfl, hB2⟩) | (refine vlo_app zs ?_) | (refine vst_app zs ?_)); (try simp only [vO, vQ, ↓vP, vE, vS, vB, vL, vF, vM, vN, vbs_full, za, zb, zc, ne_eq, not_false_eq_true, zd, ze, zh, zi, Z0, info0, Z3, info3, Z4, info4, Z5, info5, Z9, info9, Z20, info20, Z87, info87, Z153, info153, Z154, info154, Z155, info155, Z156, info156, Z160, info160, hsl, hg0, hd1, hsl2, strs_all, vown2_r, vown2_pos, vown2_neg, zp, ↓reduceIte, List.getD_cons_zero, List.getD_cons_succ, vT])) | (with_reducible first | refine vfresh_set ?_ | refine vfresh_intro (fun _ _ => ?_) | refine vif_intro (fun _ => ?_) (fun _ => ?_)) | omega | ((with_reducible first | refine vop_at ?_ | refine vops_at ?_ | refine vquiet_at ?_ | refine vmix_at ?_ | refine Holds_at ?_); simp only [vO, vQ, ↓vP, vE, vS, vB, vL, vF, vM, vN, vbs_full, za, zb, zc, ne_eq, not_false_eq_true, zd, ze, zh, zi, Z0, info0, Z3, info3, Z4, info4, Z5, info5, Z9, info9, Z20, info20, Z87, info87, Z153, info153, Z154, info154, Z155, info155, Z156, info156, Z160, info160, hsl, hg0, hd1, hsl2, strs_all, vown2_r, vown2_pos, vown2_neg, zp, ↓reduceIte, List.getD_cons_zero, List.getD_cons_succ, vT]))
      rename_i β hβ
      have hB2 : Bld β (joinS (l.take (0 + 1))) σ S'' := by
        rw [htk]; exact hB2
      refine VW.loop3 (0 : Nat) S'' () (fun k S _ => k ≤ (b :: r).length ∧ Bld β (joinS (l.take (k + 1))) σ S) (fun k _ _ => [(1, .s (bs [32])), (8, .ref β 0), (63, .sl (o.cut (decide ((1 : Int) = 0 ∨ (1 : Int) < ↑l.length))) (strs (b :: r))), (64, .i ((r.length + 1 : Nat) : Int)), (65, .i k)]) (fun _ S _ => S) (fun k _ _ => (b :: r).length - k) ⟨Nat.zero_le _, hB2⟩ (.refl _) ?_ ?_
      · simp only [vO, vQ, ↓vP, vE, vS, vB, vL, vF, vM, vN, vbs_full, za, zb, zc, ne_eq, not_false_eq_true, zd, ze, zh, zi, vT]
        all_goals rfl
      clear hB2 hB
      rintro k S _ ⟨hk, hB⟩
      rw [List.length_cons] at hk hsl2 hbl
      have hjk : (joinS (l.take (k + 1))).length ≤ 2 ^ 38 := by
        have h1 := join_len (l.take (k + 1)) (by rw [htk]; simp)
        have h2 := lenL_le l (k + 1)
        rw [List.length_take] at h1
        omega
      rcases Nat.lt_or_ge k (r.length + 1) with hk2 | hk2
      · have hg := strs_get (ws := b :: r) hk2
        have hnext : l.take (k + 1 + 1) = l.take (k + 1) ++ [(b :: r).getD k []] := by
          rw [htk, htk, List.take_succ_eq_append_getElem (by simpa using hk2)]
          simp [List.getD_eq_getElem?_getD, List.getElem?_eq_getElem (show k < (b :: r).length by simpa using hk2)]
        have hjn : joinS (l.take (k + 1 + 1)) = joinS (l.take (k + 1)) ++ [32] ++ (b :: r).getD k [] := by
          rw [hnext, joinS_snoc _ _ (by rw [htk]; simp)]
          simp
        have hjk2 : (joinS (l.take (k + 1 + 1))).length ≤ 2 ^ 38 := by
          have h1 := join_len (l.take (k + 1 + 1)) (by rw [htk]; simp)
          have h2 := lenL_le l (k + 1 + 1)
          rw [List.length_take] at h1
          omega
        rw [hjn, List.length_append] at hjk2
        generalize (b :: r).getD k [] = w at *
        generalize joinS (l.take (k + 1)) = acc at *
        repeat' (first | with_reducible rfl | exact .inr trivial | (with_reducible first | apply And.intro | apply vqx_step | apply vqm_step | refine vkp_free (by decide +kernel) ?_ | intro _) | ((first | (with_reducible first | refine .rs ?_ | refine .ds (by kernel_rfl) ?_ | refine .dg (by kernel_rfl) ?_ | refine .rg ?_ | refine .ite ?_ | refine .ret ?_ | refine .skip ?_ | refine .exit ?_ | refine .scope ?_ | refine .seq (.label ?_) | refine .block ?_ | refine .seq ?_) | (simp (disch := first | assumption | (apply zq; assumption; assumption) | (apply zr; assumption; assumption; (intro e; cases e; done)) | omega) only [w64, w8, tg_eq, Go.V.n1, Go.V.n2, Go.V.nn, zj, zk, zl, zm, zn, zo]) | ((with_reducible refine zt (t100 _ _ _ _ _ hB (by simp only [List.length_cons, List.length_nil]; omega)) ?_); rintro _ S2 ⟨rfl, hB2⟩) | ((with_reducible refine zt (t100 _ _ _ _ _ hB2 (by omega)) ?_); rintro _ S3 ⟨rfl, hB3⟩) | (refine vlo_app zs ?_) | (refine vst_app zs ?_)); (try simp only [vO, vQ, ↓vP, vE, vS, vB, vL, vF, vM, vN, vbs_full, za, zb, zc, ne_eq, not_false_eq_true, zd, ze, zh, zi, Z0, info0, Z3, info3, Z4, info4, Z5, info5, Z9, info9, Z20, info20, Z87, info87, Z153, info153, Z154, info154, Z155, info155, Z156, info156, Z160, info160, hsl2, hg, vown2_r, vown2_pos, vown2_neg, zp, ↓reduceIte, List.getD_cons_zero, List.getD_cons_succ, vT])) | (with_reducible first | refine vfresh_set ?_ | refine vfresh_intro (fun _ _ => ?_) | refine vif_intro (fun _ => ?_) (fun _ => ?_)) | omega | ((with_reducible first | refine vop_at ?_ | refine vops_at ?_ | refine vquiet_at ?_ | refine vmix_at ?_ | refine Holds_at ?_); simp only [vO, vQ, ↓vP, vE, vS, vB, vL, vF, vM, vN, vbs_full, za, zb, zc, ne_eq, not_false_eq_true, zd, ze, zh, zi, Z0, info0, Z3, info3, Z4, info4, Z5, info5, Z9, info9, Z20, info20, Z87, info87, Z153, info153, Z154, info154, Z155, info155, Z156, info156, Z160, info160, hsl2, hg, vown2_r, vown2_pos, vown2_neg, zp, ↓reduceIte, List.getD_cons_zero, List.getD_cons_succ, vT]))
        all_goals exact ⟨k + 1, _, (), ⟨⟨hk2, by rw [hjn]; exact hB3⟩, by first | omega | (simp only [List.length_cons]; omega)⟩, .refl _, rfl⟩
      · have hfull : l.take (k + 1) = l := List.take_of_length_le (by omega)
        rw [hfull] at hB
        repeat' (first | with_reducible rfl | exact .inr trivial | (with_reducible first | apply And.intro | apply vqx_step | apply vqm_step | refine vkp_free (by decide +kernel) ?_ | intro _) | ((first | (with_reducible first | refine .rs ?_ | refine .ds (by kernel_rfl) ?_ | refine .dg (by kernel_rfl) ?_ | refine .rg ?_ | refine .ite ?_ | refine .ret ?_ | refine .skip ?_ | refine .exit ?_ | refine .scope ?_ | refine .seq (.label ?_) | refine .block ?_ | refine .seq ?_) | (simp (disch := first | assumption | (apply zq; assumption; assumption) | (apply zr; assumption; assumption; (intro e; cases e; done)) | omega) only [w64, w8, tg_eq, Go.V.n1, Go.V.n2, Go.V.nn, zj, zk, zl, zm, zn, zo]) | with_reducible refine (t103 _ _ _ _ hB (by omega)).use ?_ | (refine vlo_app zs ?_) | (refine vst_app zs ?_)); (try simp only [vO, vQ, ↓vP, vE, vS, vB, vL, vF, vM, vN, vbs_full, za, zb, zc, ne_eq, not_false_eq_true, zd, ze, zh, zi, Z0, info0, Z3, info3, Z4, info4, Z5, info5, Z9, info9, Z20, info20, Z87, info87, Z153, info153, Z154, info154, Z155, info155, Z156, info156, Z160, info160, hsl2, vown2_r, vown2_pos, vown2_neg, zp, ↓reduceIte, List.getD_cons_zero, List.getD_cons_succ, vT])) | (with_reducible first | refine vfresh_set ?_ | refine vfresh_intro (fun _ _ => ?_) | refine vif_intro (fun _ => ?_) (fun _ => ?_)) | omega | ((with_reducible first | refine vop_at ?_ | refine vops_at ?_ | refine vquiet_at ?_ | refine vmix_at ?_ | refine Holds_at ?_); simp only [vO, vQ, ↓vP, vE, vS, vB, vL, vF, vM, vN, vbs_full, za, zb, zc, ne_eq, not_false_eq_true, zd, ze, zh, zi, Z0, info0, Z3, info3, Z4, info4, Z5, info5, Z9, info9, Z20, info20, Z87, info87, Z153, info153, Z154, info154, Z155, info155, Z156, info156, Z160, info160, hsl2, vown2_r, vown2_pos, vown2_neg, zp, ↓reduceIte, List.getD_cons_zero, List.getD_cons_succ, vT]))
        all_goals exact ⟨σ, hB.sub, rfl⟩
def WrOK (t : Tk) : Prop := t.2.2.1 < 9223372036854775808 ∧ (t.1 = 4 → t.2.1.length ≤ 40) ∧ t.2.1.length ≤ 2000
theorem strs_one1 (ws : List By) : allOne (strs ws) 1 = True := eq_true (fun e he => by obtain ⟨w, _, rfl⟩ := List.mem_map.1 he; exact ⟨rfl, rfl⟩)
theorem txts_take {l : List Tk} {k : Nat} (h : k < l.length) : txts (l.take (k + 1)) = txts (l.take k) ++ (if (l.getD k (0, [], 0, 0)).1 = 6 then [] else [txt (l.getD k (0, [], 0, 0))]) := by
  have hg : l.getD k (0, [], 0, 0) = l[k] := by simp [List.getD_eq_getElem?_getD, List.getElem?_eq_getElem h]
  rw [hg]
  unfold txts
  rw [List.take_succ_eq_append_getElem h, List.filter_append, List.map_append]
  by_cases h6 : l[k].1 = 6
  · rw [if_pos h6]
    simp [List.filter_cons, h6]
  · rw [if_neg h6]
    simp [List.filter_cons, h6]
theorem txts_len (l : List Tk) : (txts l).length ≤ l.length := by
  unfold txts
  rw [List.length_map]
  exact List.length_filter_le _ _
theorem strs_snoc (a : List By) (x : By) : strs (a ++ [x]) = strs a ++ [[.s (bs x)]] := by simp [strs]
theorem j_write (l : List Tk) (o : Own) (h : ∀ t ∈ l, WrOK t) (hn : l.length ≤ 2 ^ 36) (hl : (writeT l).length ≤ 2 ^ 38) (σ : Sg) : VCalls Tryz.prog 17 [.sl o (tksA l)] σ (fun x σ' => x = .s (bs (writeT l)) ∧ σ' = σ) := by
  have hlen := tksA_len l
  have htl := txts_len l
  unfold writeT at hl ⊢
  (refine vfun (fun _ => .no) mixed Tryz.func17 (by kernel_rfl) ?_; simp only [bodyOf, Tryz.f17, zp])
  repeat' (first | with_reducible rfl | exact .inr trivial | (with_reducible first | apply And.intro | apply vqx_step | apply vqm_step | refine vkp_free (by decide +kernel) ?_ | intro _) | ((first | (with_reducible first | refine .rs ?_ | refine .ds (by kernel_rfl) ?_ | refine .dg (by kernel_rfl) ?_ | refine .rg ?_ | refine .ite ?_ | refine .ret ?_ | refine .skip ?_ | refine .exit ?_ | refine .scope ?_ | refine .seq (.label ?_) | refine .block ?_ | refine .seq ?_) | (simp (disch := first | assumption | (apply zq; assumption; assumption) | (apply zr; assumption; assumption; (intro e; cases e; done)) | omega) only [w64, w8, tg_eq, Go.V.n1, Go.V.n2, Go.V.nn, zj, zk, zl, zm, zn, zo]) | ((with_reducible refine zt (j_join _ _ (by assumption) (by assumption) _) ?_); rintro _ S ⟨rfl, rfl⟩) | (refine vlo_app zs ?_) | (refine vst_app zs ?_)); (try simp only [vO, vQ, ↓vP, vE, vS, vB, vL, vF, vM, vN, vbs_full, za, zb, zc, ne_eq, not_false_eq_true, zd, ze, zh, zi, Z0, info0, Z3, info3, Z4, info4, Z9, info9, Z23, info23, Z33, info33, Z34, info34, Z83, info83, Z84, info84, Z87, info87, hlen, vown2_r, vown2_pos, vown2_neg, zp, ↓reduceIte, List.getD_cons_zero, List.getD_cons_succ, vT])) | (with_reducible first | refine vfresh_set ?_ | refine vfresh_intro (fun _ _ => ?_) | refine vif_intro (fun _ => ?_) (fun _ => ?_)) | omega | ((with_reducible first | refine vop_at ?_ | refine vops_at ?_ | refine vquiet_at ?_ | refine vmix_at ?_ | refine Holds_at ?_); simp only [vO, vQ, ↓vP, vE, vS, vB, vL, vF, vM, vN, vbs_full, za, zb, zc, ne_eq, not_false_eq_true, zd, ze, zh, zi, Z0, info0, Z3, info3, Z4, info4, Z9, info9, Z23, info23, Z33, info33, Z34, info34, Z83, info83, Z84, info84, Z87, info87, hlen, vown2_r, vown2_pos, vown2_neg, zp, ↓reduceIte, List.getD_cons_zero, List.getD_cons_succ, vT]))
  refine VW.loop4 (0 : Nat) (AV.sl .nil []) σ () (fun k V S _ => k ≤ l.length ∧ Grown 9 1 (strs (txts (l.take k))) σ V S) (fun k V _ _ => [(0, .sl o (tksA l)), (3, V), (6, .sl o (tksA l)), (7, .i l.length), (8, .i k)]) (fun _ _ S _ => S) (fun k _ _ _ => l.length - k) ⟨Nat.zero_le _, .nil _ _ _⟩ (.refl _) ?_ ?_
  · simp only [vO, vQ, ↓vP, vE, vS, vB, vL, vF, vM, vN, vbs_full, za, zb, zc, ne_eq, not_false_eq_true, zd, ze, zh, zi, vT]
    all_goals rfl
  rintro k V S _ ⟨hk, hG⟩
  rcases Nat.lt_or_ge k l.length with hk2 | hk2
  · have hg := tksA_get hk2
    have hok : WrOK (l.getD k (0, [], 0, 0)) := h _ (by simp [List.getD_eq_getElem?_getD, List.getElem?_eq_getElem hk2])
    have htt := txts_take hk2
    have htk := txts_len (l.take k)
    rw [List.length_take] at htk
    generalize l.getD k (0, [], 0, 0) = t at *
    have htA : tkA t = [.i t.1, .s (bs t.2.1), .i t.2.2.1, .i t.2.2.2] := rfl
    rw [htA] at hg
    generalize txts (l.take k) = W at *
    obtain ⟨q1, q2, q3⟩ := hok
    have h7 : ∀ σ, VCalls Tryz.prog 48 [.agg [.i 1, .i t.2.2.1, .s (bs [])]] σ _ := e7 1 t.2.2.1 [] q1 (by simp)
    have h7b : t.1 = 4 → ∀ σ, VCalls Tryz.prog 48 [.agg [.i 2, .i 0, .s (bs t.2.1)]] σ _ := fun h4 => e7 2 0 t.2.1 (by decide) (q2 h4)
    have hw1 := strs_len W
    have hw2 := strs_all W
    have hw3 := strs_one1 W
    unfold txt at htt
    rcases hG with ⟨e1, rfl, rfl⟩ | ⟨τ, hτ, rfl, rfl⟩
    · rw [e1] at hw1 hw2 hw3
      repeat' (first | with_reducible rfl | exact .inr trivial | (with_reducible first | apply And.intro | apply vqx_step | apply vqm_step | refine vkp_free (by decide +kernel) ?_ | intro _) | ((first | (with_reducible first | refine .rs ?_ | refine .ds (by kernel_rfl) ?_ | refine .dg (by kernel_rfl) ?_ | refine .rg ?_ | refine .ite ?_ | refine .ret ?_ | refine .skip ?_ | refine .exit ?_ | refine .scope ?_ | refine .seq (.label ?_) | refine .block ?_ | refine .seq ?_) | (simp (disch := first | assumption | (apply zq; assumption; assumption) | (apply zr; assumption; assumption; (intro e; cases e; done)) | omega) only [w64, w8, tg_eq, Go.V.n1, Go.V.n2, Go.V.nn, zj, zk, zl, zm, zn, zo]) | ((with_reducible refine zt (h7 _) ?_); rintro _ S ⟨rfl, rfl⟩) | ((with_reducible refine zt (h7b (by omega) _) ?_); rintro _ S ⟨rfl, rfl⟩) | ((with_reducible refine zt (j_join _ _ (by assumption) (by assumption) _) ?_); rintro _ S ⟨rfl, rfl⟩) | (refine vlo_app zs ?_) | (refine vst_app zs ?_)); (try simp only [vO, vQ, ↓vP, vE, vS, vB, vL, vF, vM, vN, vbs_full, za, zb, zc, ne_eq, not_false_eq_true, zd, ze, zh, zi, Z0, info0, Z3, info3, Z4, info4, Z9, info9, Z23, info23, Z33, info33, Z34, info34, Z83, info83, Z84, info84, Z87, info87, hlen, hg, e1, vown2_r, vown2_pos, vown2_neg, zp, ↓reduceIte, List.getD_cons_zero, List.getD_cons_succ, vT])) | (with_reducible first | refine vfresh_set ?_ | refine vfresh_intro (fun _ _ => ?_) | refine vif_intro (fun _ => ?_) (fun _ => ?_)) | omega | ((with_reducible first | refine vop_at ?_ | refine vops_at ?_ | refine vquiet_at ?_ | refine vmix_at ?_ | refine Holds_at ?_); simp only [vO, vQ, ↓vP, vE, vS, vB, vL, vF, vM, vN, vbs_full, za, zb, zc, ne_eq, not_false_eq_true, zd, ze, zh, zi, Z0, info0, Z3, info3, Z4, info4, Z9, info9, Z23, info23, Z33, info33, Z34, info34, Z83, info83, Z84, info84, Z87, info87, hlen, hg, e1, vown2_r, vown2_pos, vown2_neg, zp, ↓reduceIte, List.getD_cons_zero, List.getD_cons_succ, vT]))
      · exact ⟨k + 1, _, S, (), ⟨⟨hk2, by rw [htt, if_pos (by omega), List.append_nil, e1]; exact .nil _ _ _⟩, by omega⟩, by (first | exact Sg.sub.refl _ | ((repeat (first | exact Sg.sub.refl _ | refine Sg.sub.set_both ?_ | refine Sg.sub.set_fresh ?_ (by first | assumption | exact Sg.set_none (by assumption) (by first | assumption | (apply Go.Cert.ne_of2a; assumption; assumption))))); done) | (intro y p hy; simp only [Sg.set_apply, Sg.del_apply] at hy ⊢; grind)), rfl, rfl⟩
      all_goals (rename_i x hx hne; exact ⟨k + 1, _, S.set x (.tok (some 9)), (), ⟨⟨hk2, .tok hx⟩, by omega⟩, by (first | exact Sg.sub.refl _ | ((repeat (first | exact Sg.sub.refl _ | refine Sg.sub.set_both ?_ | refine Sg.sub.set_fresh ?_ (by first | assumption | exact Sg.set_none (by assumption) (by first | assumption | (apply Go.Cert.ne_of2a; assumption; assumption))))); done) | (intro y p hy; simp only [Sg.set_apply, Sg.del_apply] at hy ⊢; grind)), by (rw [htt, if_neg (by omega), strs_snoc, e1]; (repeat' split) <;> first | rfl | (exfalso; omega)), rfl⟩)
    · repeat' (first | with_reducible rfl | exact .inr trivial | (with_reducible first | apply And.intro | apply vqx_step | apply vqm_step | refine vkp_free (by decide +kernel) ?_ | intro _) | ((first | (with_reducible first | refine .rs ?_ | refine .ds (by kernel_rfl) ?_ | refine .dg (by kernel_rfl) ?_ | refine .rg ?_ | refine .ite ?_ | refine .ret ?_ | refine .skip ?_ | refine .exit ?_ | refine .scope ?_ | refine .seq (.label ?_) | refine .block ?_ | refine .seq ?_) | (simp (disch := first | assumption | (apply zq; assumption; assumption) | (apply zr; assumption; assumption; (intro e; cases e; done)) | omega) only [w64, w8, tg_eq, Go.V.n1, Go.V.n2, Go.V.nn, zj, zk, zl, zm, zn, zo]) | ((with_reducible refine zt (h7 _) ?_); rintro _ S ⟨rfl, rfl⟩) | ((with_reducible refine zt (h7b (by omega) _) ?_); rintro _ S ⟨rfl, rfl⟩) | ((with_reducible refine zt (j_join _ _ (by assumption) (by assumption) _) ?_); rintro _ S ⟨rfl, rfl⟩) | (refine vlo_app zs ?_) | (refine vst_app zs ?_)); (try simp only [vO, vQ, ↓vP, vE, vS, vB, vL, vF, vM, vN, vbs_full, za, zb, zc, ne_eq, not_false_eq_true, zd, ze, zh, zi, Z0, info0, Z3, info3, Z4, info4, Z9, info9, Z23, info23, Z33, info33, Z34, info34, Z83, info83, Z84, info84, Z87, info87, hlen, hg, hw1, hw2, hw3, vown2_r, vown2_pos, vown2_neg, zp, ↓reduceIte, List.getD_cons_zero, List.getD_cons_succ, vT])) | (with_reducible first | refine vfresh_set ?_ | refine vfresh_intro (fun _ _ => ?_) | refine vif_intro (fun _ => ?_) (fun _ => ?_)) | omega | ((with_reducible first | refine vop_at ?_ | refine vops_at ?_ | refine vquiet_at ?_ | refine vmix_at ?_ | refine Holds_at ?_); simp only [vO, vQ, ↓vP, vE, vS, vB, vL, vF, vM, vN, vbs_full, za, zb, zc, ne_eq, not_false_eq_true, zd, ze, zh, zi, Z0, info0, Z3, info3, Z4, info4, Z9, info9, Z23, info23, Z33, info33, Z34, info34, Z83, info83, Z84, info84, Z87, info87, hlen, hg, hw1, hw2, hw3, vown2_r, vown2_pos, vown2_neg, zp, ↓reduceIte, List.getD_cons_zero, List.getD_cons_succ, vT]))
      · exact ⟨k + 1, _, σ.set τ (.tok (some 9)), (), ⟨⟨hk2, by rw [htt, if_pos (by omega), List.append_nil]; exact .tok hτ⟩, by omega⟩, by (first | exact Sg.sub.refl _ | ((repeat (first | exact Sg.sub.refl _ | refine Sg.sub.set_both ?_ | refine Sg.sub.set_fresh ?_ (by first | assumption | exact Sg.set_none (by assumption) (by first | assumption | (apply Go.Cert.ne_of2a; assumption; assumption))))); done) | (intro y p hy; simp only [Sg.set_apply, Sg.del_apply] at hy ⊢; grind)), rfl, rfl⟩
      all_goals (rename_i x hx _ _; exact ⟨k + 1, _, σ.set x (.tok (some 9)), (), ⟨⟨hk2, .tok hx⟩, by omega⟩, by (first | exact Sg.sub.refl _ | ((repeat (first | exact Sg.sub.refl _ | refine Sg.sub.set_both ?_ | refine Sg.sub.set_fresh ?_ (by first | assumption | exact Sg.set_none (by assumption) (by first | assumption | (apply Go.Cert.ne_of2a; assumption; assumption))))); done) | (intro y p hy; simp only [Sg.set_apply, Sg.del_apply] at hy ⊢; grind)), by (rw [htt, if_neg (by omega), strs_snoc]; (repeat' split) <;> first | rfl | (exfalso; omega)), rfl⟩)
  · rw [List.take_of_length_le hk2] at hG
    rcases hG with ⟨e1, rfl, rfl⟩ | ⟨τ, hτ, rfl, rfl⟩
    · have hJ : ∀ σ, VCalls Tryz.prog 49 [.sl .nil [], .s (bs [32])] σ _ := fun σ => by rw [← e1]; exact j_join _ .nil hl (by omega) σ
      repeat' (first | with_reducible rfl | exact .inr trivial | (with_reducible first | apply And.intro | apply vqx_step | apply vqm_step | refine vkp_free (by decide +kernel) ?_ | intro _) | ((first | (with_reducible first | refine .rs ?_ | refine .ds (by kernel_rfl) ?_ | refine .dg (by kernel_rfl) ?_ | refine .rg ?_ | refine .ite ?_ | refine .ret ?_ | refine .skip ?_ | refine .exit ?_ | refine .scope ?_ | refine .seq (.label ?_) | refine .block ?_ | refine .seq ?_) | (simp (disch := first | assumption | (apply zq; assumption; assumption) | (apply zr; assumption; assumption; (intro e; cases e; done)) | omega) only [w64, w8, tg_eq, Go.V.n1, Go.V.n2, Go.V.nn, zj, zk, zl, zm, zn, zo]) | ((with_reducible refine zt (hJ _) ?_); rintro _ S ⟨rfl, rfl⟩) | ((with_reducible refine zt (j_join _ _ (by assumption) (by assumption) _) ?_); rintro _ S ⟨rfl, rfl⟩) | (refine vlo_app zs ?_) | (refine vst_app zs ?_)); (try simp only [vO, vQ, ↓vP, vE, vS, vB, vL, vF, vM, vN, vbs_full, za, zb, zc, ne_eq, not_false_eq_true, zd, ze, zh, zi, Z0, info0, Z3, info3, Z4, info4, Z9, info9, Z23, info23, Z33, info33, Z34, info34, Z83, info83, Z84, info84, Z87, info87, hlen, vown2_r, vown2_pos, vown2_neg, zp, ↓reduceIte, List.getD_cons_zero, List.getD_cons_succ, vT])) | (with_reducible first | refine vfresh_set ?_ | refine vfresh_intro (fun _ _ => ?_) | refine vif_intro (fun _ => ?_) (fun _ => ?_)) | omega | ((with_reducible first | refine vop_at ?_ | refine vops_at ?_ | refine vquiet_at ?_ | refine vmix_at ?_ | refine Holds_at ?_); simp only [vO, vQ, ↓vP, vE, vS, vB, vL, vF, vM, vN, vbs_full, za, zb, zc, ne_eq, not_false_eq_true, zd, ze, zh, zi, Z0, info0, Z3, info3, Z4, info4, Z9, info9, Z23, info23, Z33, info33, Z34, info34, Z83, info83, Z84, info84, Z87, info87, hlen, vown2_r, vown2_pos, vown2_neg, zp, ↓reduceIte, List.getD_cons_zero, List.getD_cons_succ, vT]))
      all_goals exact ⟨_, .refl _, rfl⟩
    · repeat' (first | with_reducible rfl | exact .inr trivial | (with_reducible first | apply And.intro | apply vqx_step | apply vqm_step | refine vkp_free (by decide +kernel) ?_ | intro _) | ((first | (with_reducible first | refine .rs ?_ | refine .ds (by kernel_rfl) ?_ | refine .dg (by kernel_rfl) ?_ | refine .rg ?_ | refine .ite ?_ | refine .ret ?_ | refine .skip ?_ | refine .exit ?_ | refine .scope ?_ | refine .seq (.label ?_) | refine .block ?_ | refine .seq ?_) | (simp (disch := first | assumption | (apply zq; assumption; assumption) | (apply zr; assumption; assumption; (intro e; cases e; done)) | omega) only [w64, w8, tg_eq, Go.V.n1, Go.V.n2, Go.V.nn, zj, zk, zl, zm, zn, zo]) | ((with_reducible refine zt (j_join _ _ hl (by omega) _) ?_); rintro _ S ⟨rfl, rfl⟩) | ((with_reducible refine zt (j_join _ _ (by assumption) (by assumption) _) ?_); rintro _ S ⟨rfl, rfl⟩) | (refine vlo_app zs ?_) | (refine vst_app zs ?_)); (try simp only [vO, vQ, ↓vP, vE, vS, vB, vL, vF, vM, vN, vbs_full, za, zb, zc, ne_eq, not_false_eq_true, zd, ze, zh, zi, Z0, info0, Z3, info3, Z4, info4, Z9, info9, Z23, info23, Z33, info33, Z34, info34, Z83, info83, Z84, info84, Z87, info87, hlen, vown2_r, vown2_pos, vown2_neg, zp, ↓reduceIte, List.getD_cons_zero, List.getD_cons_succ, vT])) | (with_reducible first | refine vfresh_set ?_ | refine vfresh_intro (fun _ _ => ?_) | refine vif_intro (fun _ => ?_) (fun _ => ?_)) | omega | ((with_reducible first | refine vop_at ?_ | refine vops_at ?_ | refine vquiet_at ?_ | refine vmix_at ?_ | refine Holds_at ?_); simp only [vO, vQ, ↓vP, vE, vS, vB, vL, vF, vM, vN, vbs_full, za, zb, zc, ne_eq, not_false_eq_true, zd, ze, zh, zi, Z0, info0, Z3, info3, Z4, info4, Z9, info9, Z23, info23, Z33, info33, Z34, info34, Z83, info83, Z84, info84, Z87, info87, hlen, vown2_r, vown2_pos, vown2_neg, zp, ↓reduceIte, List.getD_cons_zero, List.getD_cons_succ, vT]))
      all_goals exact ⟨σ, by (first | exact Sg.sub.refl _ | ((repeat (first | exact Sg.sub.refl _ | refine Sg.sub.set_both ?_ | refine Sg.sub.set_fresh ?_ (by first | assumption | exact Sg.set_none (by assumption) (by first | assumption | (apply Go.Cert.ne_of2a; assumption; assumption))))); done) | (intro y p hy; simp only [Sg.set_apply, Sg.del_apply] at hy ⊢; grind)), rfl⟩
end Go.Proofs.YtjopblbpnedjoaaGreatDoor

set_option linter.unusedSimpArgs false
set_option linter.unusedVariables false
namespace Go.Print
open Go.V Go.Lex Go.Parse Go.Proofs.YtjopblbpnedjoaaGreatDoor
theorem fT_of {m i : List Tk} (h : m.map noAt = i.map noAt) : m.map fT = i.map fT := by
  have : ∀ l : List Tk, l.map fT = (l.map noAt).map (fun x => (x.1, x.2.1, x.2.2, 0)) := fun l => by rw [List.map_map]; rfl
  rw [this m, this i, h]
theorem txts_good {i : List Tk} (h : ∀ t ∈ i, GoodT t) (e : Tk) (he : e.1 = 6) : txts (i ++ [e]) = i.map txt := by
  unfold txts
  rw [List.filter_append, List.filter_eq_self.2 (fun t ht => by
    rcases h t ht with q | q | q | q | q <;> rw [q.1] <;> decide)]
  have : List.filter (fun t : Tk => decide (t.1 ≠ 6)) [e] = [] := by simp [he]
  rw [this, List.append_nil]
theorem blanks_all {b : By} {l : List Tk} (h : lexAll b = .ok l) (hl : (writeT l).length ≤ 2000) :
    (scriptAll (writeT l)).1 = (scriptAll b).1 ∧ (scriptAll (writeT l)).2.1 = (scriptAll b).2.1 ∧ (oneAll (writeT l)).1 = (oneAll b).1 ∧ (oneAll (writeT l)).2.1 = (oneAll b).2.1 := by
  have hb : ¬ 2000 < b.length := fun q => by rw [lexAll_long q] at h; cases h
  have ht : toks b 0 = .ok l := by
    unfold lexAll at h
    rw [if_neg hb] at h
    cases hq : toks b 0 with
    | ok l' => rw [hq] at h; cases h; rfl
    | error e => rw [hq] at h; cases h
  obtain ⟨i, rfl, hi⟩ := toks_good b.length b 0 l (Nat.le_refl _) ht
  obtain ⟨m, hm, hn⟩ := toks_back i 0 hi
  have hw : writeT (i ++ [(6, [], 0, 0 + b.length)]) = joinS (i.map txt) := by unfold writeT; rw [txts_good hi _ rfl]
  rw [hw] at hl ⊢
  have h2 := lexAll_ok (by omega) hm
  have hf : (m ++ [(6, [], 0, 0 + (joinS (i.map txt)).length)]).map fT = (i ++ [(6, [], 0, 0 + b.length)]).map fT := by
    rw [List.map_append, List.map_append, fT_of hn]; rfl
  have q1 := script_alike hf
  have q2 := one_alike hf
  unfold scriptAll oneAll
  rw [h2, h]
  exact ⟨q1.1, q1.2, q2.1, q2.2⟩
theorem wr_good {t : Tk} (h : GoodT t) : WrOK t := by
  rcases h with ⟨h1, h2, h3⟩ | ⟨h1, h2, h3⟩ | ⟨h1, h2, h3⟩ | ⟨h1, h2, h3⟩ | ⟨h1, h2, h3⟩
  all_goals (refine ⟨by omega, fun q => by omega, ?_⟩)
  · have := (isNm_iff h2).2.1; omega
  · have := (by decide : ∀ s ∈ words, s.length ≤ 2000) _ (known_mem h2); omega
  · rw [h2]; decide
  · omega
  · have := signs_len _ h2; omega
theorem blanks_wr {b : By} {l : List Tk} (h : lexAll b = .ok l) : (∀ t ∈ l, WrOK t) ∧ l.length ≤ 2001 ∧ (writeT l).length ≤ 1000000 := by
  have hb : ¬ 2000 < b.length := fun q => by rw [lexAll_long q] at h; cases h
  have ht : toks b 0 = .ok l := by
    unfold lexAll at h
    rw [if_neg hb] at h
    cases hq : toks b 0 with
    | ok l' => rw [hq] at h; cases h; rfl
    | error e => rw [hq] at h; cases h
  have hlen := toks_length b.length b 0 l (Nat.le_refl _) ht
  obtain ⟨i, rfl, hi⟩ := toks_good b.length b 0 l (Nat.le_refl _) ht
  refine ⟨fun t ht => ?_, by omega, ?_⟩
  · rcases List.mem_append.1 ht with q | q
    · exact wr_good (hi t q)
    · simp at q; rw [q]; exact ⟨by show (0 : Nat) < _; decide, fun _ => Nat.zero_le _, Nat.zero_le _⟩
  · have hw : writeT (i ++ [(6, [], 0, 0 + b.length)]) = writeT i := by
      unfold writeT
      rw [txts_good hi _ rfl]
      unfold txts
      rw [List.filter_eq_self.2 (fun t ht => by
        rcases hi t ht with q | q | q | q | q <;> rw [q.1] <;> decide)]
    rw [hw]
    have := writeT_len hi
    simp at hlen
    omega
end Go.Print
namespace Go.Proofs.YtjopblbpnedjoaaGreatDoor
open Go Go.V Go.Lex Go.Parse Go.Print
theorem law_blanks (b : By) (hb : b.length < 2 ^ 62) (σ : Sg) : VCalls Tryz.prog 3 [.s (bs b)] σ (fun x σ' => x = .b true ∧ σ' = σ) := by
  have h9 := p9 b
  cases hq : lexAll b with
  | error e =>
    obtain ⟨e, a⟩ := e
    rw [hq] at h9
    simp only at h9
    have hz : e ≠ 0 := lexAll_nz hq
    (refine vfun (fun _ => .no) mixed Tryz.func3 (by kernel_rfl) ?_; simp only [bodyOf, Tryz.f3, zp])
    repeat' (first | with_reducible rfl | exact .inr trivial | (with_reducible first | apply And.intro | apply vqx_step | apply vqm_step | refine vkp_free (by decide +kernel) ?_ | intro _) | ((first | (with_reducible first | refine .rs ?_ | refine .ds (by kernel_rfl) ?_ | refine .dg (by kernel_rfl) ?_ | refine .rg ?_ | refine .ite ?_ | refine .ret ?_ | refine .skip ?_ | refine .exit ?_ | refine .scope ?_ | refine .seq (.label ?_) | refine .block ?_ | refine .seq ?_) | (simp (disch := first | assumption | (apply zq; assumption; assumption) | (apply zr; assumption; assumption; (intro e; cases e; done)) | omega) only [w64, w8, tg_eq, Go.V.n1, Go.V.n2, Go.V.nn, zj, zk, zl, zm, zn, zo]) | ((with_reducible refine zt (h9 _) ?_); rintro _ S ⟨rfl, rfl⟩) | ((with_reducible refine zt (c5 _) ?_); rintro _ S ⟨rfl, rfl⟩) | ((with_reducible refine zt (j_write _ _ (by assumption) (by assumption) (by assumption) _) ?_); rintro _ S ⟨rfl, rfl⟩) | ((with_reducible refine zt (p7 (by assumption) _) ?_); rintro _ S ⟨rfl, rfl⟩) | (refine vlo_app zs ?_) | (refine vst_app zs ?_)); (try simp only [vO, vQ, ↓vP, vE, vS, vB, vL, vF, vM, vN, vbs_full, za, zb, zc, ne_eq, not_false_eq_true, zd, ze, zh, zi, Z0, info0, Z3, info3, Z4, info4, Z9, info9, Z23, info23, Z24, info24, Z25, info25, Z26, info26, Z27, info27, Z30, info30, Z31, info31, Z33, info33, Z34, info34, Z35, info35, Z36, info36, Z37, info37, Z38, info38, Z49, info49, Z50, info50, Z51, info51, Z52, info52, Z53, info53, Z54, info54, Z75, info75, Z76, info76, Z83, info83, Z84, info84, Z109, info109, Z110, info110, Z112, info112, Z113, info113, Z188, info188, hz, vown2_r, vown2_pos, vown2_neg, zp, ↓reduceIte, List.getD_cons_zero, List.getD_cons_succ, vT])) | (with_reducible first | refine vfresh_set ?_ | refine vfresh_intro (fun _ _ => ?_) | refine vif_intro (fun _ => ?_) (fun _ => ?_)) | omega | ((with_reducible first | refine vop_at ?_ | refine vops_at ?_ | refine vquiet_at ?_ | refine vmix_at ?_ | refine Holds_at ?_); simp only [vO, vQ, ↓vP, vE, vS, vB, vL, vF, vM, vN, vbs_full, za, zb, zc, ne_eq, not_false_eq_true, zd, ze, zh, zi, Z0, info0, Z3, info3, Z4, info4, Z9, info9, Z23, info23, Z24, info24, Z25, info25, Z26, info26, Z27, info27, Z30, info30, Z31, info31, Z33, info33, Z34, info34, Z35, info35, Z36, info36, Z37, info37, Z38, info38, Z49, info49, Z50, info50, Z51, info51, Z52, info52, Z53, info53, Z54, info54, Z75, info75, Z76, info76, Z83, info83, Z84, info84, Z109, info109, Z110, info110, Z112, info112, Z113, info113, Z188, info188, hz, vown2_r, vown2_pos, vown2_neg, zp, ↓reduceIte, List.getD_cons_zero, List.getD_cons_succ, vT]))
    all_goals (first | (first | ((first | refine ⟨_, ?_, rfl⟩ | refine ⟨_, ?_, rfl, rfl⟩ | refine ⟨_, ?_⟩); (first | exact Sg.sub.refl _ | ((repeat (first | exact Sg.sub.refl _ | refine Sg.sub.set_both ?_ | refine Sg.sub.set_fresh ?_ (by first | assumption | exact Sg.set_none (by assumption) (by first | assumption | (apply Go.Cert.ne_of2a; assumption; assumption))))); done) | (intro y p hy; simp only [Sg.set_apply, Sg.del_apply] at hy ⊢; grind))) | (exfalso; omega)) | (exfalso; omega))
  | ok l =>
    rw [hq] at h9
    simp only at h9
    obtain ⟨w1, w2, w3⟩ := blanks_wr hq
    have hw := fun (S : Sg) => j_write l .any w1 (by omega) (by omega) S
    have hbl := fun hl => blanks_all hq hl
    have hs := bs_size (writeT l)
    have k1 := fun S => c8 b S
    have k2 := fun S => c8 (writeT l) S
    have k3 := fun S => p6 b S
    have k4 := fun S => p6 (writeT l) S
    obtain ⟨m1, m2⟩ := sm_script b
    have m3 := q_all (scriptAll b).1 m1 m2
    have m4 := p7 (sm_oneAll b)
    have hel := exA_len (oneAll b).1
    have hoo := exA_one (oneAll b).1
    have het := exA_take (oneAll b).1
    have hed := exA_drop (oneAll b).1
    by_cases hl : (writeT l).length ≤ 2000
    · obtain ⟨e1, e2, e3, e4⟩ := hbl hl
      rw [e1, e2] at k2
      rw [e3, e4] at k4
      clear hbl e1 e2 e3 e4 m1 m2 hb w1
      generalize (scriptAll b).1.map stmA = A at *
      generalize (scriptAll b).2.1 = c1 at *
      generalize (scriptAll b).2.2 = a1 at *
      generalize (scriptAll (writeT l)).2.2 = a2 at *
      generalize exA (oneAll b).1 = E at *
      generalize (oneAll b).2.1 = c3 at *
      generalize (oneAll b).2.2 = a3 at *
      generalize (oneAll (writeT l)).2.2 = a4 at *
      generalize writeT l = W at *
      generalize tksA l = L at *
      (refine vfun (fun _ => .no) mixed Tryz.func3 (by kernel_rfl) ?_; simp only [bodyOf, Tryz.f3, zp])
      repeat' (first | with_reducible rfl | exact .inr trivial | (with_reducible first | apply And.intro | apply vqx_step | apply vqm_step | refine vkp_free (by decide +kernel) ?_ | intro _) | ((first | (with_reducible first | refine .rs ?_ | refine .ds (by kernel_rfl) ?_ | refine .dg (by kernel_rfl) ?_ | refine .rg ?_ | refine .ite ?_ | refine .ret ?_ | refine .skip ?_ | refine .exit ?_ | refine .scope ?_ | refine .seq (.label ?_) | refine .block ?_ | refine .seq ?_) | (simp (disch := first | assumption | (apply zq; assumption; assumption) | (apply zr; assumption; assumption; (intro e; cases e; done)) | omega) only [w64, w8, tg_eq, Go.V.n1, Go.V.n2, Go.V.nn, zj, zk, zl, zm, zn, zo]) | ((with_reducible refine zt (h9 _) ?_); rintro _ S ⟨rfl, rfl⟩) | ((with_reducible refine zt (c5 _) ?_); rintro _ S ⟨rfl, rfl⟩) | ((with_reducible refine zt (hw _) ?_); rintro _ S ⟨rfl, rfl⟩) | ((with_reducible refine zt (k1 _) ?_); rintro _ S ⟨rfl, rfl⟩) | ((with_reducible refine zt (k2 _) ?_); rintro _ S ⟨rfl, rfl⟩) | ((with_reducible refine zt (k3 _) ?_); rintro _ S ⟨rfl, rfl⟩) | ((with_reducible refine zt (k4 _) ?_); rintro _ S ⟨rfl, rfl⟩) | ((with_reducible refine zt (m3 _) ?_); rintro _ S ⟨rfl, rfl⟩) | ((with_reducible refine zt (m4 _) ?_); rintro _ S ⟨rfl, rfl⟩) | ((with_reducible refine zt (j_write _ _ (by assumption) (by assumption) (by assumption) _) ?_); rintro _ S ⟨rfl, rfl⟩) | ((with_reducible refine zt (p7 (by assumption) _) ?_); rintro _ S ⟨rfl, rfl⟩) | (refine vlo_app zs ?_) | (refine vst_app zs ?_)); (try simp only [vO, vQ, ↓vP, vE, vS, vB, vL, vF, vM, vN, vbs_full, za, zb, zc, ne_eq, not_false_eq_true, zd, ze, zh, zi, Z0, info0, Z3, info3, Z4, info4, Z9, info9, Z23, info23, Z24, info24, Z25, info25, Z26, info26, Z27, info27, Z30, info30, Z31, info31, Z33, info33, Z34, info34, Z35, info35, Z36, info36, Z37, info37, Z38, info38, Z49, info49, Z50, info50, Z51, info51, Z52, info52, Z53, info53, Z54, info54, Z75, info75, Z76, info76, Z83, info83, Z84, info84, Z109, info109, Z110, info110, Z112, info112, Z113, info113, Z188, info188, hs, hel, hoo, het, hed, decide_true, Bool.and_self, vown2_r, vown2_pos, vown2_neg, zp, ↓reduceIte, List.getD_cons_zero, List.getD_cons_succ, vT])) | (with_reducible first | refine vfresh_set ?_ | refine vfresh_intro (fun _ _ => ?_) | refine vif_intro (fun _ => ?_) (fun _ => ?_)) | omega | ((with_reducible first | refine vop_at ?_ | refine vops_at ?_ | refine vquiet_at ?_ | refine vmix_at ?_ | refine Holds_at ?_); simp only [vO, vQ, ↓vP, vE, vS, vB, vL, vF, vM, vN, vbs_full, za, zb, zc, ne_eq, not_false_eq_true, zd, ze, zh, zi, Z0, info0, Z3, info3, Z4, info4, Z9, info9, Z23, info23, Z24, info24, Z25, info25, Z26, info26, Z27, info27, Z30, info30, Z31, info31, Z33, info33, Z34, info34, Z35, info35, Z36, info36, Z37, info37, Z38, info38, Z49, info49, Z50, info50, Z51, info51, Z52, info52, Z53, info53, Z54, info54, Z75, info75, Z76, info76, Z83, info83, Z84, info84, Z109, info109, Z110, info110, Z112, info112, Z113, info113, Z188, info188, hs, hel, hoo, het, hed, decide_true, Bool.and_self, vown2_r, vown2_pos, vown2_neg, zp, ↓reduceIte, List.getD_cons_zero, List.getD_cons_succ, vT]))
      all_goals (first | (first | ((first | refine ⟨_, ?_, rfl⟩ | refine ⟨_, ?_, rfl, rfl⟩ | refine ⟨_, ?_⟩); (first | exact Sg.sub.refl _ | ((repeat (first | exact Sg.sub.refl _ | refine Sg.sub.set_both ?_ | refine Sg.sub.set_fresh ?_ (by first | assumption | exact Sg.set_none (by assumption) (by first | assumption | (apply Go.Cert.ne_of2a; assumption; assumption))))); done) | (intro y p hy; simp only [Sg.set_apply, Sg.del_apply] at hy ⊢; grind))) | (exfalso; omega)) | (exfalso; omega))
    · clear hbl m1 m2 hb w1
      generalize writeT l = W at *
      generalize tksA l = L at *
      (refine vfun (fun _ => .no) mixed Tryz.func3 (by kernel_rfl) ?_; simp only [bodyOf, Tryz.f3, zp])
      repeat' (first | with_reducible rfl | exact .inr trivial | (with_reducible first | apply And.intro | apply vqx_step | apply vqm_step | refine vkp_free (by decide +kernel) ?_ | intro _) | ((first | (with_reducible first | refine .rs ?_ | refine .ds (by kernel_rfl) ?_ | refine .dg (by kernel_rfl) ?_ | refine .rg ?_ | refine .ite ?_ | refine .ret ?_ | refine .skip ?_ | refine .exit ?_ | refine .scope ?_ | refine .seq (.label ?_) | refine .block ?_ | refine .seq ?_) | (simp (disch := first | assumption | (apply zq; assumption; assumption) | (apply zr; assumption; assumption; (intro e; cases e; done)) | omega) only [w64, w8, tg_eq, Go.V.n1, Go.V.n2, Go.V.nn, zj, zk, zl, zm, zn, zo]) | ((with_reducible refine zt (h9 _) ?_); rintro _ S ⟨rfl, rfl⟩) | ((with_reducible refine zt (c5 _) ?_); rintro _ S ⟨rfl, rfl⟩) | ((with_reducible refine zt (hw _) ?_); rintro _ S ⟨rfl, rfl⟩) | ((with_reducible refine zt (j_write _ _ (by assumption) (by assumption) (by assumption) _) ?_); rintro _ S ⟨rfl, rfl⟩) | ((with_reducible refine zt (p7 (by assumption) _) ?_); rintro _ S ⟨rfl, rfl⟩) | (refine vlo_app zs ?_) | (refine vst_app zs ?_)); (try simp only [vO, vQ, ↓vP, vE, vS, vB, vL, vF, vM, vN, vbs_full, za, zb, zc, ne_eq, not_false_eq_true, zd, ze, zh, zi, Z0, info0, Z3, info3, Z4, info4, Z9, info9, Z23, info23, Z24, info24, Z25, info25, Z26, info26, Z27, info27, Z30, info30, Z31, info31, Z33, info33, Z34, info34, Z35, info35, Z36, info36, Z37, info37, Z38, info38, Z49, info49, Z50, info50, Z51, info51, Z52, info52, Z53, info53, Z54, info54, Z75, info75, Z76, info76, Z83, info83, Z84, info84, Z109, info109, Z110, info110, Z112, info112, Z113, info113, Z188, info188, hs, vown2_r, vown2_pos, vown2_neg, zp, ↓reduceIte, List.getD_cons_zero, List.getD_cons_succ, vT])) | (with_reducible first | refine vfresh_set ?_ | refine vfresh_intro (fun _ _ => ?_) | refine vif_intro (fun _ => ?_) (fun _ => ?_)) | omega | ((with_reducible first | refine vop_at ?_ | refine vops_at ?_ | refine vquiet_at ?_ | refine vmix_at ?_ | refine Holds_at ?_); simp only [vO, vQ, ↓vP, vE, vS, vB, vL, vF, vM, vN, vbs_full, za, zb, zc, ne_eq, not_false_eq_true, zd, ze, zh, zi, Z0, info0, Z3, info3, Z4, info4, Z9, info9, Z23, info23, Z24, info24, Z25, info25, Z26, info26, Z27, info27, Z30, info30, Z31, info31, Z33, info33, Z34, info34, Z35, info35, Z36, info36, Z37, info37, Z38, info38, Z49, info49, Z50, info50, Z51, info51, Z52, info52, Z53, info53, Z54, info54, Z75, info75, Z76, info76, Z83, info83, Z84, info84, Z109, info109, Z110, info110, Z112, info112, Z113, info113, Z188, info188, hs, vown2_r, vown2_pos, vown2_neg, zp, ↓reduceIte, List.getD_cons_zero, List.getD_cons_succ, vT]))
      all_goals (first | (first | ((first | refine ⟨_, ?_, rfl⟩ | refine ⟨_, ?_, rfl, rfl⟩ | refine ⟨_, ?_⟩); (first | exact Sg.sub.refl _ | ((repeat (first | exact Sg.sub.refl _ | refine Sg.sub.set_both ?_ | refine Sg.sub.set_fresh ?_ (by first | assumption | exact Sg.set_none (by assumption) (by first | assumption | (apply Go.Cert.ne_of2a; assumption; assumption))))); done) | (intro y p hy; simp only [Sg.set_apply, Sg.del_apply] at hy ⊢; grind))) | (exfalso; omega)) | (exfalso; omega))
end Go.Proofs.YtjopblbpnedjoaaGreatDoor

namespace Go.V
open Go.RowKit
variable {P : Program}
def K0 (w : World) : K := ⟨w, fun _ _ => False, fun _ => none, w.heap.size⟩
def S0 : Sg := fun _ => none
theorem st0 (w : World) (hg : Glob (K0 w)) : St (K0 w) S0 where
  ob _ _ h := by cases h
  apart _ _ _ _ _ _ _ _ _ _ h := by cases h
  fin := ⟨0, fun _ _ => rfl⟩
  mlt _ _ h := h.elim
  bas := Nat.le_refl _
  glob := hg
theorem VCalls.calls {f : FuncId} {fn : Func} {args : List AV} {vs : Array Value} {w : World} (hf : P.funcs[f]? = some fn) (hb : (fn.body.isSome && !(fn.name == "runtime.NumGoroutine")) = true)
    (h : VCalls P f args S0 (fun x _ => x = .b true)) (hr : RelArgs (K0 w) args vs) (hg : Glob (K0 w)) : Calls P f vs w fun e w' => e = .returned (.bool true) ∧ Below w.heap.size w w' := by
  simp only [Bool.and_eq_true] at hb
  obtain ⟨h1, h2⟩ := hb
  obtain ⟨c, hc⟩ : ∃ c, fn.body = some c := by
    cases hh : fn.body with
    | none => rw [hh] at h1; cases h1
    | some c => exact ⟨c, rfl⟩
  have hrun : (callFunc f vs).run P w = .ok (.enter f vs) w := by
    have h3 : fn.name ≠ "runtime.NumGoroutine" := by simpa using h2
    simp [callFunc, program, Sem.run, Bind.bind, Sem.bind, hf, h3, hc]
  have hd := h.go (K0 w) vs (st0 w hg) hr
  rw [show (K0 w).w = w from rfl, hrun] at hd
  have hcalls : Calls P f vs w (PostE (K0 w) (fun x _ => x = .b true)) := hd
  refine hcalls.mono fun e w' hp => ?_
  cases e with
  | returned v =>
    obtain ⟨κ', x, σ', rfl, hle, hst, hrel, rfl⟩ := hp
    refine ⟨?_, ⟨hle.os, hle.tape, hle.output, hle.size, fun k hk => hle.block k hk⟩⟩
    cases hrel
    rfl
  | _ => exact hp.elim
theorem rel_args1 {κ : K} {v : Value} : RelArgs κ [.val v] #[v] := ⟨rfl, fun i x u h1 h2 => by
  cases i with
  | zero => simp at h1 h2; subst h1; subst h2; exact .val _
  | succ i => simp at h1⟩
end Go.V

set_option linter.unusedVariables false
namespace Go.V
open Go.RowKit
variable {P : Program}

def RL (κ : K) (cs : List AV) (vs : List Value) : Prop := cs.length = vs.length ∧ ∀ (i : Nat) (x : AV) (v : Value), cs[i]? = some x → vs[i]? = some v → Rel κ x v
theorem RL.row {κ : K} {cs : List AV} {vs : List Value} (h : RL κ cs vs) : RelRow κ cs vs.toArray := ⟨by simpa using h.1, fun i x v h1 h2 => h.2 i x v h1 (by simpa using h2)⟩
theorem RL.one {κ : K} {x : AV} {v : Value} (h : Rel κ x v) : RL κ [x] [v] := ⟨rfl, fun i y u h1 h2 => by
  cases i with
  | zero => simp at h1 h2; subst h1; subst h2; exact h
  | succ i => simp at h1⟩
end Go.V

set_option linter.unusedVariables false
namespace Go.V
open Go.RowKit
variable {P : Program}
end Go.V

namespace Go.Proofs.YtjopblbpnedjoaaGreatDoor
open Go.ChangeShapes Go.WideShapes Go.ChangeAt Go.RowKit Go.V
set_option linter.unusedVariables false
theorem own : ownKnob Tryz.prog.godebug = none := by kernel_rfl
abbrev laid : List (String × DataW Unit) := [("math/bits.deBruijn32tab", Rows.laid_math_bits_deBruijn32tab), ("math/bits.deBruijn64tab", Rows.laid_math_bits_deBruijn64tab), ("internal/strconv.uint64pow10", Rows.laid_internal_strconv_uint64pow10), ("unicode/utf8.acceptRanges", Rows.laid_unicode_utf8_acceptRanges), ("unicode/utf8.first", Rows.laid_unicode_utf8_first)]
theorem glob {W : World} (h : laidMetH Tryz.prog laid W) : Glob (K0 W) := by
  rw [MakeChecks.laidMetH_plain _ _ _ (by kernel_rfl)] at h
  obtain ⟨ps, ⟨g0, t0, cs0, f0, p0, q0, hg0, ht0, hv0, hd0, ⟨g1, t1, cs1, f1, p1, q1, hg1, ht1, hv1, hd1, ⟨g, t, cs, fuel, p, q, hg, ht, hv, hd, _, _⟩, _⟩, _⟩, _, _⟩ := h
  obtain rfl := Option.some.inj ((show Tryz.prog.globalNamed "internal/strconv.uint64pow10" = some 1 by kernel_rfl).symm.trans hg)
  obtain rfl := Option.some.inj ((show (Tryz.prog.globals[1]?).map (·.type) = some 272 by kernel_rfl).symm.trans ht)
  obtain ⟨xs, m, _, ex, _, hl, hel⟩ := DataW.trod_array Tryz.underlying272 hd
  have c5 : Tryz.prog.cellsOf 261 = 1 := by kernel_rfl
  have hlen : pow10tab.length = 20 := by kernel_rfl
  have e3 : (xs.map (·.1)) = pow10tab.map fun v => match v with | .int k n => (DataW.lit (.int k n) : DataW Unit) | _ => .nil := (DataW.agg.inj (Prod.mk.inj ex).1).symm
  intro g cs' hg' r v hr
  by_cases hgg : g = 1
  · subst hgg
    obtain rfl : pow10tab = cs' := Option.some.inj ((if_pos rfl).symm.trans hg')
    refine ⟨?_, fun hh => hh⟩
    have hr20 : r < 20 := by rw [← hlen]; exact (List.getElem?_eq_some_iff.1 hr).1
    have hE := hel r hr20
    rw [c5, Nat.mul_one, List.getElem?_eq_getElem (by omega)] at hE
    obtain ⟨z, e1, e2, _⟩ := DataW.trod_int Tryz.underlying261 hE
    have e4 : (xs.map (·.1))[r]? = (pow10tab.map fun v => match v with | .int k n => (DataW.lit (.int k n) : DataW Unit) | _ => .nil)[r]? := by rw [e3]
    rw [List.getElem?_map, List.getElem?_map, List.getElem?_eq_getElem (by omega : r < xs.length), hr, e2] at e4
    have hz : v = .int .u64 z := by
      cases v <;> simp at e4
      rw [← e4.1, ← e4.2]
    show W.cell? _ = _
    rw [World.var?_cell hg hv r, hz]
    have : cs.toList[r]? = some (.int .u64 z) := by
      have h0 : ((cs.toList.drop r).take 1)[0]? = some (.int .u64 z) := by rw [e1]; rfl
      simpa using h0
    simpa using this
  · have : gtab g = none := if_neg hgg
    rw [this] at hg'; cases hg'
end Go.Proofs.YtjopblbpnedjoaaGreatDoor
