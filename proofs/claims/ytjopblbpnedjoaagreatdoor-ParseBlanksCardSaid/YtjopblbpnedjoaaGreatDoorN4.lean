/- Part 4 of the proof: L1, L3, K2, K4, T, K5, K6, K7, K8, K9. -/
import Derived.Test.YtjopblbpnedjoaaGreatDoorN3
import Derived.Test.YtjopblbpnedjoaaGreatDoorProg

set_option linter.all false
set_option maxRecDepth 100000
set_option maxHeartbeats 1000000
open Nat renaming reduceEqDiff → za, reduceAdd → zb, reduceLeDiff → zc, reduceMul → zd, reduceSub → ze
open Int renaming toNat_zero → zh, reduceToNat → zi, tdiv_eq_ediv_of_nonneg → zj
open Go.V.Sg renaming set_same → zk, set_ne → zl, set_ne' → zm, del_ne → zn, del_ne' → zo
open Option renaming getD_some → zp
open Go.Proofs.Tryz renaming underlying3 → Z3, underlying5 → Z5, underlying9 → Z9, underlying24 → Z24, underlying84 → Z84, underlying87 → Z87, underlying153 → Z153, underlying154 → Z154, underlying156 → Z156, underlying214 → Z214, underlying247 → Z247
namespace Go.V
def bs (l : List UInt8) : ByteArray := ⟨l.toArray⟩
theorem bs_list (s : ByteArray) : bs s.data.toList = s := ByteArray.ext (by simp [bs])
theorem bs_size (l : List UInt8) : (bs l).size = l.length := by simp [bs, ByteArray.size]
theorem bs_toList (l : List UInt8) : (bs l).data.toList = l := by simp [bs]
theorem bs_byteAt (l : List UInt8) (i : Nat) : byteAt (bs l) i = l.getD i 0 := by
  unfold byteAt bs
  simp [List.getD_eq_getElem?_getD]
theorem getD_lt {l : List UInt8} {k : Nat} (h : k < l.length) : l.getD k 0 = l[k] := by simp [List.getD_eq_getElem?_getD, List.getElem?_eq_getElem h]
theorem bs_inj {l m : List UInt8} (h : bs l = bs m) : l = m := by rw [← bs_toList l, h, bs_toList]
theorem bs_sEq (l m : List UInt8) : sEq (bs l) (bs m) = decide (l = m) := by
  unfold sEq
  by_cases h : l = m
  · subst h; simp
  · rw [decide_eq_false h, decide_eq_false (fun e => h (bs_inj e))]
theorem bs_append (l m : List UInt8) : bs l ++ bs m = bs (l ++ m) := by
  apply ByteArray.ext
  simp [bs]
theorem bs_extract (l : List UInt8) (i j : Nat) : (bs l).extract i j = bs ((l.take j).drop i) := by
  apply ByteArray.ext
  apply Array.toList_inj.1
  simp [bs, ByteArray.data_extract, List.drop_take]
theorem bs_fold (l : List UInt8) : ByteArray.mk l.toArray = bs l := rfl
theorem bs_bytes (l : List UInt8) : bytesAV (bs l) = l.map fun b => [AV.u8 b.toNat] := by unfold bytesAV; rw [bs_toList]
def bytesL (l : List UInt8) : List (List AV) := l.map fun b => [AV.u8 b.toNat]
theorem bs_bytesAV (l : List UInt8) : bytesAV (bs l) = bytesL l := bs_bytes l
theorem bytesL_len (l : List UInt8) : (bytesL l).length = l.length := by simp [bytesL]
theorem bytesL_app (a b : List UInt8) : bytesL a ++ bytesL b = bytesL (a ++ b) := by simp [bytesL]
theorem bytesL_all (l : List UInt8) : allLen (bytesL l) 1 = True := by
  refine eq_true (fun e he => ?_)
  obtain ⟨b, _, rfl⟩ := List.mem_map.1 he
  rfl
theorem bytesL_one (l : List UInt8) : allOne (bytesL l) 1 = True := by
  refine eq_true (fun e he => ?_)
  obtain ⟨b, _, rfl⟩ := List.mem_map.1 he
  exact ⟨rfl, rfl⟩
theorem bytesL_unit (b : UInt8) : [[AV.u8 b.toNat]] = bytesL [b] := rfl
def pre (p : UInt8 → Bool) (l : List UInt8) : Nat := (l.takeWhile p).length
theorem pre_le (p : UInt8 → Bool) (l : List UInt8) : pre p l ≤ l.length := (List.takeWhile_prefix p).length_le
theorem pre_step {p : UInt8 → Bool} {l : List UInt8} {k : Nat} (h : k < l.length) : pre p (l.drop k) = if p (l.getD k 0) = true then 1 + pre p (l.drop (k + 1)) else 0 := by
  rw [getD_lt h]
  rw [List.drop_eq_getElem_cons h]
  unfold pre
  rw [List.takeWhile_cons]
  split <;> simp [Nat.add_comm]
theorem pre_yes {p : UInt8 → Bool} {l : List UInt8} {k : Nat} (h : k < l.length) (hp : p (l.getD k 0) = true) : pre p (l.drop k) = 1 + pre p (l.drop (k + 1)) := by rw [pre_step h, if_pos hp]
def hasPre (m l : List UInt8) : Bool := decide (l.take m.length = m)
theorem hasPre_short {m l : List UInt8} (h : l.length < m.length) : hasPre m l = false := by
  unfold hasPre
  rw [decide_eq_false]
  intro e
  have := congrArg List.length e
  simp at this
  omega
theorem b_eq {p q : Bool} (h : p = true ↔ q = true) : AV.b p = AV.b q := by
  congr 2
  cases p <;> cases q <;> simp_all
theorem i_eq {m n : Int} (h : m = n) : AV.i m = AV.i n := by rw [h]
theorem n1 (i : Nat) : ((i : Int) + 1).toNat = i + 1 := by omega
theorem n2 (i : Nat) : ((i : Int) + 2).toNat = i + 2 := by omega
theorem nn (i j : Nat) : ((i : Int) + (j : Int)).toNat = i + j := by omega
theorem Sg.sub.set_fresh {σ S : Sg} {x : Nat} {o : Ob} (h : σ.sub S) (hx : σ x = none) : σ.sub (S.set x o) := fun y p hy => by
  unfold Sg.set
  by_cases e : y = x
  · subst e; rw [hx] at hy; cases hy
  · rw [if_neg e]; exact h y p hy
theorem Sg.sub.del_fresh {σ S : Sg} {x : Nat} (h : σ.sub S) (hx : σ x = none) : σ.sub (S.del x) := fun y p hy => by
  unfold Sg.del
  by_cases e : y = x
  · subst e; rw [hx] at hy; cases hy
  · rw [if_neg e]; exact h y p hy
theorem Sg.sub.set_both {σ S : Sg} {x : Nat} {o : Ob} (h : σ.sub S) : (σ.set x o).sub (S.set x o) := fun y p hy => by
  unfold Sg.set at *
  by_cases e : y = x
  · rw [if_pos e] at hy ⊢; exact hy
  · rw [if_neg e] at hy ⊢; exact h y p hy
theorem Sg.set_none {σ : Sg} {x τ : Nat} {o : Ob} (h : σ τ = none) (hne : τ ≠ x) : (σ.set x o) τ = none := by rw [Sg.set_other _ _ hne]; exact h
theorem Sg.of_set_none {σ : Sg} {x τ : Nat} {o : Ob} (h : (σ.set x o) τ = none) : τ ≠ x ∧ σ τ = none := by
  by_cases e : τ = x
  · subst e; rw [zk] at h; cases h
  · rw [Sg.set_other _ _ e] at h; exact ⟨e, h⟩
def Grown (e sz : Nat) (es : List (List AV)) (σ : Sg) (V : AV) (S : Sg) : Prop :=
  (es = [] ∧ V = .sl .nil [] ∧ S = σ) ∨ ∃ τ, σ τ = none ∧ V = .sl (.tok τ sz) es ∧ S = σ.set τ (.tok (some e))
theorem Grown.nil (e sz : Nat) (σ : Sg) : Grown e sz [] σ (.sl .nil []) σ := .inl ⟨rfl, rfl, rfl⟩
theorem Grown.tok {e sz : Nat} {es : List (List AV)} {σ : Sg} {τ : Nat} (h : σ τ = none) : Grown e sz es σ (.sl (.tok τ sz) es) (σ.set τ (.tok (some e))) := .inr ⟨τ, h, rfl, rfl⟩
theorem VW.loop4 {P : Program} {H : Nat → Hint} {n : Nat} {Q : VX → (Nat → AV) → Sg → Prop} {ρ : Nat → AV} {σ : Sg} {α β γ δ : Type} {c : Code} (x : α) (y : β) (z : γ) (u : δ) (Inv : α → β → γ → δ → Prop) (vals : α → β → γ → δ → List (Nat × AV)) (sg : α → β → γ → δ → Sg) (m : α → β → γ → δ → Nat) (h0 : Inv x y z u) (hσ : (sg x y z u).sub σ) (hρ : Holds (vals x y z u) ρ)
    (round : ∀ a b d e, Inv a b d e → VW P H n c (sq (fun ρ σ => ∃ a' b' d' e', (Inv a' b' d' e' ∧ m a' b' d' e' < m a b d e) ∧ (sg a' b' d' e').sub σ ∧ Holds (vals a' b' d' e') ρ) Q) (env (vals a b d e)) (sg a b d e)) : VW P H n (.loop c) Q ρ σ :=
  .loop (x, y, z, u) (fun p => Inv p.1 p.2.1 p.2.2.1 p.2.2.2) (fun p => vals p.1 p.2.1 p.2.2.1 p.2.2.2) (fun p => sg p.1 p.2.1 p.2.2.1 p.2.2.2) (fun p => m p.1 p.2.1 p.2.2.1 p.2.2.2) h0 hσ hρ (fun p hp => (round p.1 p.2.1 p.2.2.1 p.2.2.2 hp).mono (fun e ρ σ hq => by
    cases e with
    | normal => obtain ⟨a', b', d', e', h⟩ := hq; exact ⟨(a', b', d', e'), h⟩
    | exit id => exact hq
    | ret => exact hq))
theorem nadd (i j : Nat) : (i : Int) + (j : Int) = ((i + j : Nat) : Int) := by omega
theorem nadd1 (i : Nat) : (i : Int) + 1 = ((i + 1 : Nat) : Int) := by omega
theorem nadd2 (i : Nat) : (i : Int) + 2 = ((i + 2 : Nat) : Int) := by omega
theorem nadd3 (i : Nat) : (i : Int) + 3 = ((i + 3 : Nat) : Int) := by omega
theorem n1add (i : Nat) : 1 + (i : Int) = ((1 + i : Nat) : Int) := by omega
theorem n2add (i : Nat) : 2 + (i : Int) = ((2 + i : Nat) : Int) := by omega
theorem vT :
    (∀ (l : List UInt8), bytesAV (bs l) = bytesL l) ∧
    (∀ (l : List UInt8), (bytesL l).length = l.length) ∧
    (∀ (a b : List UInt8), bytesL a ++ bytesL b = bytesL (a ++ b)) ∧
    (∀ (l : List UInt8), allLen (bytesL l) 1 = True) ∧
    (∀ (l : List UInt8), allOne (bytesL l) 1 = True) ∧
    (∀ (l : List UInt8), (bs l).size = l.length) ∧
    (∀ (l : List UInt8) (i j : Nat), (bs l).extract i j = bs ((l.take j).drop i)) ∧
    (∀ (l m : List UInt8), sEq (bs l) (bs m) = decide (l = m)) ∧
    (∀ (l m : List UInt8), bs l ++ bs m = bs (l ++ m)) ∧
    (∀ (l : List UInt8) (i : Nat), byteAt (bs l) i = l.getD i 0) ∧
    (∀ (l : List UInt8), ByteArray.mk l.toArray = bs l) ∧
    (∀ {α : Type} (l : List α), l.take l.length = l) :=
  ⟨bs_bytesAV, bytesL_len, bytesL_app, bytesL_all, bytesL_one, bs_size, bs_extract, bs_sEq, bs_append, bs_byteAt, bs_fold, fun _ => List.take_length⟩
end Go.V

set_option linter.unusedVariables false
set_option linter.unusedSimpArgs false
namespace Go.Lex
open Go.V
def isFirst (c : UInt8) : Bool := (decide (97 ≤ c.toNat) && decide (c.toNat ≤ 122)) || decide (c.toNat = 95)
def isGreat (c : UInt8) : Bool := decide (65 ≤ c.toNat) && decide (c.toNat ≤ 90)
def isDigit (c : UInt8) : Bool := decide (48 ≤ c.toNat) && decide (c.toNat ≤ 57)
def isSmall (c : UInt8) : Bool := isFirst c || isDigit c
def ws (c : UInt8) : Bool := c == 9 || c == 10 || c == 13 || c == 32
def bstep : List UInt8 → Nat
  | [] => 0
  | c :: r => if ws c then 1 else if hasPre [45, 45] (c :: r) then pre (· != 10) (c :: r) else 0
theorem bstep_le (l : List UInt8) : bstep l ≤ l.length := by
  unfold bstep
  split
  · simp
  · split
    · simp
    · split
      · exact pre_le _ _
      · simp
def blanks (l : List UInt8) : Nat := if h : bstep l = 0 then 0 else bstep l + blanks (l.drop (bstep l))
termination_by l.length
decreasing_by
  have := bstep_le l
  have : l ≠ [] := fun e => h (by rw [e]; rfl)
  have := List.length_pos_iff.2 this
  simp
  omega
theorem blanks_stop {l : List UInt8} (h : bstep l = 0) : blanks l = 0 := by rw [blanks, dif_pos h]
theorem blanks_step {l : List UInt8} (h : bstep l ≠ 0) : blanks l = bstep l + blanks (l.drop (bstep l)) := by rw [blanks, dif_neg h]
theorem blanks_le (l : List UInt8) : blanks l ≤ l.length := by
  by_cases h : bstep l = 0
  · rw [blanks_stop h]; exact Nat.zero_le _
  · rw [blanks_step h]
    have h1 := bstep_le l
    have h2 := blanks_le (l.drop (bstep l))
    simp at h2
    omega
termination_by l.length
decreasing_by
  have := bstep_le l
  have : l ≠ [] := fun e => h (by rw [e]; rfl)
  have := List.length_pos_iff.2 this
  simp
  omega
theorem ws_iff (c : UInt8) : ws c = true ↔ c.toNat = 9 ∨ c.toNat = 10 ∨ c.toNat = 13 ∨ c.toNat = 32 := by
  have h : ∀ k : UInt8, (c = k) ↔ c.toNat = k.toNat := fun k => ⟨fun e => by rw [e], fun e => UInt8.toNat_inj.1 e⟩
  simp [ws, h, or_assoc]
theorem dd_iff (l : List UInt8) : hasPre [45, 45] l = true ↔ (l[0]?).map (·.toNat) = some 45 ∧ (l[1]?).map (·.toNat) = some 45 := by
  have h : ∀ c : UInt8, (c = 45) ↔ c.toNat = 45 := fun c => ⟨fun e => by rw [e]; rfl, fun e => UInt8.toNat_inj.1 e⟩
  match l with
  | [] => simp [hasPre]
  | [a] => simp [hasPre]
  | a :: b :: r => simp [hasPre, h]
theorem bstep_at {l : List UInt8} {k : Nat} (h : k < l.length) : bstep (l.drop k) = if ws (l.getD k 0) then 1 else if hasPre [45, 45] (l.drop k) then pre (· != 10) (l.drop k) else 0 := by
  rw [getD_lt h, List.drop_eq_getElem_cons h]
  rfl
theorem pre_dd {l : List UInt8} (h : hasPre [45, 45] l = true) : 2 ≤ l.length ∧ pre (· != 10) l = 2 + pre (· != 10) (l.drop 2) := by
  match l with
  | [] => simp [hasPre] at h
  | [a] => simp [hasPre] at h
  | a :: b :: r =>
    simp [hasPre] at h
    obtain ⟨rfl, rfl⟩ := h
    refine ⟨by simp, ?_⟩
    simp [pre, List.takeWhile_cons]
    omega
def num : List UInt8 → Nat → Option Nat
  | [], n => some n
  | c :: r, n => if 9223372036854775807 < 10 * n + (c.toNat - 48) then none else num r (10 * n + (c.toNat - 48))
theorem num_end {l : List UInt8} {k n : Nat} (h : l.length ≤ k) : num (l.drop k) n = some n := by rw [List.drop_of_length_le h]; rfl
theorem num_over {l : List UInt8} {k n : Nat} (h : k < l.length) (ho : 9223372036854775807 < 10 * n + ((l.getD k 0).toNat - 48)) : num (l.drop k) n = none := by
  rw [getD_lt h] at ho
  rw [List.drop_eq_getElem_cons h]
  exact if_pos ho
theorem num_step {l : List UInt8} {k n : Nat} (h : k < l.length) (ho : ¬ 9223372036854775807 < 10 * n + ((l.getD k 0).toNat - 48)) : num (l.drop k) n = num (l.drop (k + 1)) (10 * n + ((l.getD k 0).toNat - 48)) := by
  rw [getD_lt h] at ho ⊢
  rw [List.drop_eq_getElem_cons h]
  exact if_neg ho
end Go.Lex

set_option linter.unusedSimpArgs false
namespace Go.Proofs.YtjopblbpnedjoaaGreatDoor
open Go Go.V Go.Lex
theorem mixed : Tryz.prog.follows .mixedOrders = true := by kernel_rfl
theorem t72 (c : UInt8) (σ : Sg) : VCalls Tryz.prog 100 [.u8 c.toNat] σ (fun x σ' => x = .b (isFirst c) ∧ σ' = σ) := by
  (refine vfun (fun _ => .no) mixed Tryz.func100 (by kernel_rfl) ?_; simp only [bodyOf, Tryz.f100, zp])
  repeat' (first | with_reducible rfl | exact .inr trivial | (with_reducible first | apply And.intro | apply vqx_step | apply vqm_step | refine vkp_free (by decide +kernel) ?_ | intro _) | ((first | (with_reducible first | refine .rs ?_ | refine .ds (by kernel_rfl) ?_ | refine .dg (by kernel_rfl) ?_ | refine .rg ?_ | refine .ite ?_ | refine .ret ?_ | refine .skip ?_ | refine .exit ?_ | refine .scope ?_ | refine .seq (.label ?_) | refine .block ?_ | refine .seq ?_) | (simp (disch := first | assumption | omega) only [w64, w8, tg_eq, n1, n2, nn, zj, zk, zl, zm, zn, zo])); (try simp only [vO, vQ, ↓vP, vE, vS, vB, vL, vF, vM, vN, vbs_full, za, zb, zc, ne_eq, not_false_eq_true, zd, ze, zh, zi, Z5, vT])) | (with_reducible first | refine vfresh_set ?_ | refine vfresh_intro (fun _ _ => ?_) | refine vif_intro (fun _ => ?_) (fun _ => ?_)) | omega | ((with_reducible first | refine vop_at ?_ | refine vops_at ?_ | refine vquiet_at ?_ | refine vmix_at ?_ | refine Holds_at ?_); simp only [vO, vQ, ↓vP, vE, vS, vB, vL, vF, vM, vN, vbs_full, za, zb, zc, ne_eq, not_false_eq_true, zd, ze, zh, zi, Z5, vT]))
  all_goals exact ⟨σ, .refl σ, b_eq (by simp [isFirst]; omega), rfl⟩
theorem t74 (c : UInt8) (σ : Sg) : VCalls Tryz.prog 102 [.u8 c.toNat] σ (fun x σ' => x = .b (isGreat c) ∧ σ' = σ) := by
  (refine vfun (fun _ => .no) mixed Tryz.func102 (by kernel_rfl) ?_; simp only [bodyOf, Tryz.f102, zp])
  repeat' (first | with_reducible rfl | exact .inr trivial | (with_reducible first | apply And.intro | apply vqx_step | apply vqm_step | refine vkp_free (by decide +kernel) ?_ | intro _) | ((first | (with_reducible first | refine .rs ?_ | refine .ds (by kernel_rfl) ?_ | refine .dg (by kernel_rfl) ?_ | refine .rg ?_ | refine .ite ?_ | refine .ret ?_ | refine .skip ?_ | refine .exit ?_ | refine .scope ?_ | refine .seq (.label ?_) | refine .block ?_ | refine .seq ?_) | (simp (disch := first | assumption | omega) only [w64, w8, tg_eq, n1, n2, nn, zj, zk, zl, zm, zn, zo])); (try simp only [vO, vQ, ↓vP, vE, vS, vB, vL, vF, vM, vN, vbs_full, za, zb, zc, ne_eq, not_false_eq_true, zd, ze, zh, zi, Z5, vT])) | (with_reducible first | refine vfresh_set ?_ | refine vfresh_intro (fun _ _ => ?_) | refine vif_intro (fun _ => ?_) (fun _ => ?_)) | omega | ((with_reducible first | refine vop_at ?_ | refine vops_at ?_ | refine vquiet_at ?_ | refine vmix_at ?_ | refine Holds_at ?_); simp only [vO, vQ, ↓vP, vE, vS, vB, vL, vF, vM, vN, vbs_full, za, zb, zc, ne_eq, not_false_eq_true, zd, ze, zh, zi, Z5, vT]))
  all_goals exact ⟨σ, .refl σ, b_eq (by simp [isGreat]; omega), rfl⟩
theorem t75 (c : UInt8) (σ : Sg) : VCalls Tryz.prog 103 [.u8 c.toNat] σ (fun x σ' => x = .b (isDigit c) ∧ σ' = σ) := by
  (refine vfun (fun _ => .no) mixed Tryz.func103 (by kernel_rfl) ?_; simp only [bodyOf, Tryz.f103, zp])
  repeat' (first | with_reducible rfl | exact .inr trivial | (with_reducible first | apply And.intro | apply vqx_step | apply vqm_step | refine vkp_free (by decide +kernel) ?_ | intro _) | ((first | (with_reducible first | refine .rs ?_ | refine .ds (by kernel_rfl) ?_ | refine .dg (by kernel_rfl) ?_ | refine .rg ?_ | refine .ite ?_ | refine .ret ?_ | refine .skip ?_ | refine .exit ?_ | refine .scope ?_ | refine .seq (.label ?_) | refine .block ?_ | refine .seq ?_) | (simp (disch := first | assumption | omega) only [w64, w8, tg_eq, n1, n2, nn, zj, zk, zl, zm, zn, zo])); (try simp only [vO, vQ, ↓vP, vE, vS, vB, vL, vF, vM, vN, vbs_full, za, zb, zc, ne_eq, not_false_eq_true, zd, ze, zh, zi, Z5, vT])) | (with_reducible first | refine vfresh_set ?_ | refine vfresh_intro (fun _ _ => ?_) | refine vif_intro (fun _ => ?_) (fun _ => ?_)) | omega | ((with_reducible first | refine vop_at ?_ | refine vops_at ?_ | refine vquiet_at ?_ | refine vmix_at ?_ | refine Holds_at ?_); simp only [vO, vQ, ↓vP, vE, vS, vB, vL, vF, vM, vN, vbs_full, za, zb, zc, ne_eq, not_false_eq_true, zd, ze, zh, zi, Z5, vT]))
  all_goals exact ⟨σ, .refl σ, b_eq (by simp [isDigit]; omega), rfl⟩
theorem t73 (c : UInt8) (σ : Sg) : VCalls Tryz.prog 101 [.u8 c.toNat] σ (fun x σ' => x = .b (isSmall c) ∧ σ' = σ) := by
  (refine vfun (fun _ => .no) mixed Tryz.func101 (by kernel_rfl) ?_; simp only [bodyOf, Tryz.f101, zp])
  repeat' (first | with_reducible rfl | exact .inr trivial | (with_reducible first | apply And.intro | apply vqx_step | apply vqm_step | refine vkp_free (by decide +kernel) ?_ | intro _) | ((first | (with_reducible first | refine .rs ?_ | refine .ds (by kernel_rfl) ?_ | refine .dg (by kernel_rfl) ?_ | refine .rg ?_ | refine .ite ?_ | refine .ret ?_ | refine .skip ?_ | refine .exit ?_ | refine .scope ?_ | refine .seq (.label ?_) | refine .block ?_ | refine .seq ?_) | (simp (disch := first | assumption | omega) only [w64, w8, tg_eq, n1, n2, nn, zj, zk, zl, zm, zn, zo]) | with_reducible refine (t72 c σ).use ?_ | with_reducible refine (t75 c σ).use ?_); (try simp only [vO, vQ, ↓vP, vE, vS, vB, vL, vF, vM, vN, vbs_full, za, zb, zc, ne_eq, not_false_eq_true, zd, ze, zh, zi, Z5, vT])) | (with_reducible first | refine vfresh_set ?_ | refine vfresh_intro (fun _ _ => ?_) | refine vif_intro (fun _ => ?_) (fun _ => ?_)) | omega | ((with_reducible first | refine vop_at ?_ | refine vops_at ?_ | refine vquiet_at ?_ | refine vmix_at ?_ | refine Holds_at ?_); simp only [vO, vQ, ↓vP, vE, vS, vB, vL, vF, vM, vN, vbs_full, za, zb, zc, ne_eq, not_false_eq_true, zd, ze, zh, zi, Z5, vT]))
  all_goals exact ⟨σ, .refl σ, b_eq (by simp_all [isSmall]), rfl⟩
theorem bne_iff (c : UInt8) : (c != 10) = true ↔ c.toNat ≠ 10 := by
  have : (c = 10) ↔ c.toNat = 10 := ⟨fun h => by rw [h]; rfl, fun h => UInt8.toNat_inj.1 h⟩
  simp [this]
theorem t70 (c : UInt8) (σ : Sg) : VCalls Tryz.prog 98 [.u8 c.toNat] σ (fun x σ' => x = .b (c != 10) ∧ σ' = σ) := by
  (refine vfun (fun _ => .no) mixed Tryz.func98 (by kernel_rfl) ?_; simp only [bodyOf, Tryz.f98, zp])
  repeat' (first | with_reducible rfl | exact .inr trivial | (with_reducible first | apply And.intro | apply vqx_step | apply vqm_step | refine vkp_free (by decide +kernel) ?_ | intro _) | ((first | (with_reducible first | refine .rs ?_ | refine .ds (by kernel_rfl) ?_ | refine .dg (by kernel_rfl) ?_ | refine .rg ?_ | refine .ite ?_ | refine .ret ?_ | refine .skip ?_ | refine .exit ?_ | refine .scope ?_ | refine .seq (.label ?_) | refine .block ?_ | refine .seq ?_) | (simp (disch := first | assumption | omega) only [w64, w8, tg_eq, n1, n2, nn, zj, zk, zl, zm, zn, zo])); (try simp only [vO, vQ, ↓vP, vE, vS, vB, vL, vF, vM, vN, vbs_full, za, zb, zc, ne_eq, not_false_eq_true, zd, ze, zh, zi, Z5, vT])) | (with_reducible first | refine vfresh_set ?_ | refine vfresh_intro (fun _ _ => ?_) | refine vif_intro (fun _ => ?_) (fun _ => ?_)) | omega | ((with_reducible first | refine vop_at ?_ | refine vops_at ?_ | refine vquiet_at ?_ | refine vmix_at ?_ | refine Holds_at ?_); simp only [vO, vQ, ↓vP, vE, vS, vB, vL, vF, vM, vN, vbs_full, za, zb, zc, ne_eq, not_false_eq_true, zd, ze, zh, zi, Z5, vT]))
  all_goals exact ⟨σ, .refl σ, b_eq (by rw [bne_iff]; simp; omega), rfl⟩
theorem t98 (l m : List UInt8) (σ : Sg) : VCalls Tryz.prog 186 [.s (bs l), .s (bs m)] σ (fun x σ' => x = .b (hasPre m l) ∧ σ' = σ) := by
  (refine vfun (fun _ => .no) mixed Tryz.func186 (by kernel_rfl) ?_; simp only [bodyOf, Tryz.f186, zp])
  repeat' (first | with_reducible rfl | exact .inr trivial | (with_reducible first | apply And.intro | apply vqx_step | apply vqm_step | refine vkp_free (by decide +kernel) ?_ | intro _) | ((first | (with_reducible first | refine .rs ?_ | refine .ds (by kernel_rfl) ?_ | refine .dg (by kernel_rfl) ?_ | refine .rg ?_ | refine .ite ?_ | refine .ret ?_ | refine .skip ?_ | refine .exit ?_ | refine .scope ?_ | refine .seq (.label ?_) | refine .block ?_ | refine .seq ?_) | (simp (disch := first | assumption | omega) only [w64, w8, tg_eq, n1, n2, nn, zj, zk, zl, zm, zn, zo])); (try simp only [vO, vQ, ↓vP, vE, vS, vB, vL, vF, vM, vN, vbs_full, za, zb, zc, ne_eq, not_false_eq_true, zd, ze, zh, zi, Z9, vT])) | (with_reducible first | refine vfresh_set ?_ | refine vfresh_intro (fun _ _ => ?_) | refine vif_intro (fun _ => ?_) (fun _ => ?_)) | omega | ((with_reducible first | refine vop_at ?_ | refine vops_at ?_ | refine vquiet_at ?_ | refine vmix_at ?_ | refine Holds_at ?_); simp only [vO, vQ, ↓vP, vE, vS, vB, vL, vF, vM, vN, vbs_full, za, zb, zc, ne_eq, not_false_eq_true, zd, ze, zh, zi, Z9, vT]))
  all_goals first | exact ⟨σ, .refl σ, b_eq (by rw [hasPre_short (by omega)]), rfl⟩ | exact ⟨σ, .refl σ, b_eq (by simp [hasPre]), rfl⟩
theorem t68 (l m : List UInt8) (σ : Sg) : VCalls Tryz.prog 96 [.s (bs l), .s (bs m)] σ (fun x σ' => x = .b (hasPre m l) ∧ σ' = σ) := by
  (refine vfun (fun _ => .no) mixed Tryz.func96 (by kernel_rfl) ?_; simp only [bodyOf, Tryz.f96, zp])
  repeat' (first | with_reducible rfl | exact .inr trivial | (with_reducible first | apply And.intro | apply vqx_step | apply vqm_step | refine vkp_free (by decide +kernel) ?_ | intro _) | ((first | (with_reducible first | refine .rs ?_ | refine .ds (by kernel_rfl) ?_ | refine .dg (by kernel_rfl) ?_ | refine .rg ?_ | refine .ite ?_ | refine .ret ?_ | refine .skip ?_ | refine .exit ?_ | refine .scope ?_ | refine .seq (.label ?_) | refine .block ?_ | refine .seq ?_) | (simp (disch := first | assumption | omega) only [w64, w8, tg_eq, n1, n2, nn, zj, zk, zl, zm, zn, zo]) | with_reducible refine (t98 l m σ).use ?_); (try simp only [vO, vQ, ↓vP, vE, vS, vB, vL, vF, vM, vN, vbs_full, za, zb, zc, ne_eq, not_false_eq_true, zd, ze, zh, zi, Z9, vT])) | (with_reducible first | refine vfresh_set ?_ | refine vfresh_intro (fun _ _ => ?_) | refine vif_intro (fun _ => ?_) (fun _ => ?_)) | omega | ((with_reducible first | refine vop_at ?_ | refine vops_at ?_ | refine vquiet_at ?_ | refine vmix_at ?_ | refine Holds_at ?_); simp only [vO, vQ, ↓vP, vE, vS, vB, vL, vF, vM, vN, vbs_full, za, zb, zc, ne_eq, not_false_eq_true, zd, ze, zh, zi, Z9, vT]))
  all_goals exact ⟨σ, .refl σ, by simp⟩
theorem t69 (l : List UInt8) (g : FuncId) (cap : List AV) (p : UInt8 → Bool) (σ : Sg) (hl : l.length < 2 ^ 60)
    (hp : ∀ (c : UInt8), VCalls Tryz.prog g (AV.u8 c.toNat :: cap) σ (fun x σ' => x = .b (p c) ∧ σ' = σ)) :
    VCalls Tryz.prog 97 [.s (bs l), .fn g cap] σ (fun x σ' => x = .i (pre p l) ∧ σ' = σ) := by
  (refine vfun (fun _ => .no) mixed Tryz.func97 (by kernel_rfl) ?_; simp only [bodyOf, Tryz.f97, zp])
  repeat ((first | (with_reducible first | refine .rs ?_ | refine .ds (by kernel_rfl) ?_ | refine .dg (by kernel_rfl) ?_ | refine .rg ?_ | refine .ite ?_ | refine .ret ?_ | refine .skip ?_ | refine .exit ?_ | refine .scope ?_ | refine .seq (.label ?_) | refine .block ?_ | refine .seq ?_)); (try simp only [vO, vQ, ↓vP, vE, vS, vB, vL, vF, vM, vN, vbs_full, za, zb, zc, ne_eq, not_false_eq_true, zd, ze, zh, zi, vT]))
  refine .loop (0 : Nat) (fun k => k ≤ l.length ∧ k + pre p (l.drop k) = pre p l) (fun k => [(0, .s (bs l)), (1, .fn g cap), (5, .i k)]) (fun _ => σ) (fun k => l.length - k) ⟨Nat.zero_le _, by simp⟩ (.refl _) (by simp only [vO, vQ, ↓vP, vE, vS, vB, vL, vF, vM, vN, vbs_full, za, zb, zc, ne_eq, not_false_eq_true, zd, ze, zh, zi]; trivial) ?_
  intro k ⟨hk, hpre⟩
  repeat' (first | with_reducible rfl | exact .inr trivial | (with_reducible first | apply And.intro | apply vqx_step | apply vqm_step | refine vkp_free (by decide +kernel) ?_ | intro _) | ((first | (with_reducible first | refine .rs ?_ | refine .ds (by kernel_rfl) ?_ | refine .dg (by kernel_rfl) ?_ | refine .rg ?_ | refine .ite ?_ | refine .ret ?_ | refine .skip ?_ | refine .exit ?_ | refine .scope ?_ | refine .seq (.label ?_) | refine .block ?_ | refine .seq ?_) | (simp (disch := first | assumption | omega) only [w64, w8, tg_eq, n1, n2, nn, zj, zk, zl, zm, zn, zo]) | with_reducible refine (hp _).use ?_); (try simp only [vO, vQ, ↓vP, vE, vS, vB, vL, vF, vM, vN, vbs_full, za, zb, zc, ne_eq, not_false_eq_true, zd, ze, zh, zi, Z9, vT])) | (with_reducible first | refine vfresh_set ?_ | refine vfresh_intro (fun _ _ => ?_) | refine vif_intro (fun _ => ?_) (fun _ => ?_)) | omega | ((with_reducible first | refine vop_at ?_ | refine vops_at ?_ | refine vquiet_at ?_ | refine vmix_at ?_ | refine Holds_at ?_); simp only [vO, vQ, ↓vP, vE, vS, vB, vL, vF, vM, vN, vbs_full, za, zb, zc, ne_eq, not_false_eq_true, zd, ze, zh, zi, Z9, vT]))
  all_goals first
    | (have hk' : k < l.length := by omega
       have hst := pre_step (p := p) (l := l) (k := k) hk'
       rw [if_pos (by assumption)] at hst
       (try simp (disch := omega) only [w64, w8, tg_eq, n1, n2, nn, zj])
       exact ⟨k + 1, ⟨⟨by omega, by omega⟩, by omega⟩, .refl _, by simp⟩)
    | (have hk' : k < l.length := by omega
       have hst := pre_step (p := p) (l := l) (k := k) hk'
       rw [if_neg (by assumption)] at hst
       exact ⟨σ, .refl σ, i_eq (by omega), rfl⟩)
    | (have h0 : pre p (List.drop k l) = 0 := by rw [List.drop_of_length_le (by omega)]; rfl
       exact ⟨σ, .refl σ, i_eq (by omega), rfl⟩)
theorem t117 (l : List UInt8) (c : UInt8) (σ : Sg) : VCalls Tryz.prog 286 [.s (bs l), .u8 c.toNat] σ (fun x σ' => x = .i (if upTo c l < l.length then (upTo c l : Nat) else -1) ∧ σ' = σ) := by
  have := vIndexByte (P := Tryz.prog) (σ := σ) (s := bs l) (c := c) Tryz.func286 (by kernel_rfl) (by kernel_rfl) (by kernel_rfl) (by kernel_rfl)
  rw [bs_toList, bs_size] at this
  exact this
theorem t114 (l : List UInt8) (c : UInt8) (σ : Sg) : VCalls Tryz.prog 257 [.s (bs l), .u8 c.toNat] σ (fun x σ' => x = .i (if upTo c l < l.length then (upTo c l : Nat) else -1) ∧ σ' = σ) := by
  (refine vfun (fun _ => .no) mixed Tryz.func257 (by kernel_rfl) ?_; simp only [bodyOf, Tryz.f257, zp])
  repeat' (first | with_reducible rfl | exact .inr trivial | (with_reducible first | apply And.intro | apply vqx_step | apply vqm_step | refine vkp_free (by decide +kernel) ?_ | intro _) | ((first | (with_reducible first | refine .rs ?_ | refine .ds (by kernel_rfl) ?_ | refine .dg (by kernel_rfl) ?_ | refine .rg ?_ | refine .ite ?_ | refine .ret ?_ | refine .skip ?_ | refine .exit ?_ | refine .scope ?_ | refine .seq (.label ?_) | refine .block ?_ | refine .seq ?_) | (simp (disch := first | assumption | omega) only [w64, w8, tg_eq, n1, n2, nn, zj, zk, zl, zm, zn, zo]) | with_reducible refine (t117 l c σ).use ?_); (try simp only [vO, vQ, ↓vP, vE, vS, vB, vL, vF, vM, vN, vbs_full, za, zb, zc, ne_eq, not_false_eq_true, zd, ze, zh, zi, Z9, vT])) | (with_reducible first | refine vfresh_set ?_ | refine vfresh_intro (fun _ _ => ?_) | refine vif_intro (fun _ => ?_) (fun _ => ?_)) | omega | ((with_reducible first | refine vop_at ?_ | refine vops_at ?_ | refine vquiet_at ?_ | refine vmix_at ?_ | refine Holds_at ?_); simp only [vO, vQ, ↓vP, vE, vS, vB, vL, vF, vM, vN, vbs_full, za, zb, zc, ne_eq, not_false_eq_true, zd, ze, zh, zi, Z9, vT]))
  all_goals exact ⟨σ, .refl σ, by simp⟩
theorem t99 (l : List UInt8) (c : UInt8) (σ : Sg) : VCalls Tryz.prog 187 [.s (bs l), .u8 c.toNat] σ (fun x σ' => x = .i (if upTo c l < l.length then (upTo c l : Nat) else -1) ∧ σ' = σ) := by
  (refine vfun (fun _ => .no) mixed Tryz.func187 (by kernel_rfl) ?_; simp only [bodyOf, Tryz.f187, zp])
  repeat' (first | with_reducible rfl | exact .inr trivial | (with_reducible first | apply And.intro | apply vqx_step | apply vqm_step | refine vkp_free (by decide +kernel) ?_ | intro _) | ((first | (with_reducible first | refine .rs ?_ | refine .ds (by kernel_rfl) ?_ | refine .dg (by kernel_rfl) ?_ | refine .rg ?_ | refine .ite ?_ | refine .ret ?_ | refine .skip ?_ | refine .exit ?_ | refine .scope ?_ | refine .seq (.label ?_) | refine .block ?_ | refine .seq ?_) | (simp (disch := first | assumption | omega) only [w64, w8, tg_eq, n1, n2, nn, zj, zk, zl, zm, zn, zo]) | with_reducible refine (t114 l c σ).use ?_); (try simp only [vO, vQ, ↓vP, vE, vS, vB, vL, vF, vM, vN, vbs_full, za, zb, zc, ne_eq, not_false_eq_true, zd, ze, zh, zi, Z9, vT])) | (with_reducible first | refine vfresh_set ?_ | refine vfresh_intro (fun _ _ => ?_) | refine vif_intro (fun _ => ?_) (fun _ => ?_)) | omega | ((with_reducible first | refine vop_at ?_ | refine vops_at ?_ | refine vquiet_at ?_ | refine vmix_at ?_ | refine Holds_at ?_); simp only [vO, vQ, ↓vP, vE, vS, vB, vL, vF, vM, vN, vbs_full, za, zb, zc, ne_eq, not_false_eq_true, zd, ze, zh, zi, Z9, vT]))
  all_goals exact ⟨σ, .refl σ, by simp⟩
end Go.Proofs.YtjopblbpnedjoaaGreatDoor

set_option linter.unusedSimpArgs false
namespace Go.Proofs.YtjopblbpnedjoaaGreatDoor
open Go Go.V Go.Lex
theorem blanks_ws {l : List UInt8} {k : Nat} (h : k < l.length) (hw : ws (l.getD k 0) = true) : blanks (l.drop k) = 1 + blanks (l.drop (k + 1)) := by
  have h1 : bstep (l.drop k) = 1 := by rw [bstep_at h, if_pos hw]
  rw [blanks_step (by omega), h1, List.drop_drop]
theorem blanks_dd {l : List UInt8} {k : Nat} (h : k < l.length) (hw : ws (l.getD k 0) = false) (hd : hasPre [45, 45] (l.drop k) = true) : blanks (l.drop k) = pre (· != 10) (l.drop k) + blanks (l.drop (k + pre (· != 10) (l.drop k))) := by
  have h1 : bstep (l.drop k) = pre (· != 10) (l.drop k) := by rw [bstep_at h, hw, if_neg (by simp), if_pos hd]
  have h2 := (pre_dd hd).2
  rw [blanks_step (by omega), h1, List.drop_drop]
theorem blanks_end {l : List UInt8} {k : Nat} (h : k < l.length) (hw : ws (l.getD k 0) = false) (hd : hasPre [45, 45] (l.drop k) = false) : blanks (l.drop k) = 0 := by
  refine blanks_stop ?_
  rw [bstep_at h, hw, if_neg (by simp), hd, if_neg (by simp)]
theorem blanks_len {l : List UInt8} {k : Nat} (h : l.length ≤ k) : blanks (l.drop k) = 0 := by
  rw [List.drop_of_length_le h]
  exact blanks_stop rfl
theorem no_dd {l : List UInt8} {k : Nat} (h : k < l.length) (hn : (l.getD k 0).toNat ≠ 45) : hasPre [45, 45] (l.drop k) = false := by
  cases hh : hasPre [45, 45] (l.drop k) with
  | false => rfl
  | true =>
    have := (dd_iff _).1 hh
    rw [getD_lt h] at hn
    rw [List.drop_eq_getElem_cons h] at this
    simp only [List.getElem?_cons_zero, Option.map_some, Option.some.injEq] at this
    exact absurd this.1 hn
theorem ws_no {c : UInt8} (h : ¬ (c.toNat = 9 ∨ c.toNat = 10 ∨ c.toNat = 13 ∨ c.toNat = 32)) : ws c = false := by
  cases hh : ws c with
  | false => rfl
  | true => exact absurd ((ws_iff c).1 hh) h
theorem t43 (l : List UInt8) (σ : Sg) (hl : l.length < 2 ^ 60) : VCalls Tryz.prog 46 [.s (bs l)] σ (fun x σ' => x = .i (blanks l) ∧ σ' = σ) := by
  (refine vfun (fun _ => .no) mixed Tryz.func46 (by kernel_rfl) ?_; simp only [bodyOf, Tryz.f46, zp])
  repeat ((first | (with_reducible first | refine .rs ?_ | refine .ds (by kernel_rfl) ?_ | refine .dg (by kernel_rfl) ?_ | refine .rg ?_ | refine .ite ?_ | refine .ret ?_ | refine .skip ?_ | refine .exit ?_ | refine .scope ?_ | refine .seq (.label ?_) | refine .block ?_ | refine .seq ?_)); (try simp only [vO, vQ, ↓vP, vE, vS, vB, vL, vF, vM, vN, vbs_full, za, zb, zc, ne_eq, not_false_eq_true, zd, ze, zh, zi, vT]))
  refine .loop (0 : Nat) (fun k => k ≤ l.length ∧ k + blanks (l.drop k) = blanks l) (fun k => [(0, .s (bs l)), (3, .i k)]) (fun _ => σ) (fun k => l.length - k) ⟨Nat.zero_le _, by simp⟩ (.refl _) (by simp only [vO, vQ, ↓vP, vE, vS, vB, vL, vF, vM, vN, vbs_full, za, zb, zc, ne_eq, not_false_eq_true, zd, ze, zh, zi]; trivial) ?_
  intro k ⟨hk, hpre⟩
  repeat' (first | with_reducible rfl | exact .inr trivial | (with_reducible first | apply And.intro | apply vqx_step | apply vqm_step | refine vkp_free (by decide +kernel) ?_ | intro _) | ((first | (with_reducible first | refine .rs ?_ | refine .ds (by kernel_rfl) ?_ | refine .dg (by kernel_rfl) ?_ | refine .rg ?_ | refine .ite ?_ | refine .ret ?_ | refine .skip ?_ | refine .exit ?_ | refine .scope ?_ | refine .seq (.label ?_) | refine .block ?_ | refine .seq ?_) | (simp (disch := first | assumption | omega) only [w64, w8, tg_eq, n1, n2, nn, zj, zk, zl, zm, zn, zo]) | with_reducible refine (t68 _ _ σ).use ?_ | with_reducible refine (t69 _ 98 [] (· != 10) σ (by simp; omega) (fun c => t70 c σ)).use ?_); (try simp only [vO, vQ, ↓vP, vE, vS, vB, vL, vF, vM, vN, vbs_full, za, zb, zc, ne_eq, not_false_eq_true, zd, ze, zh, zi, Z9, vT])) | (with_reducible first | refine vfresh_set ?_ | refine vfresh_intro (fun _ _ => ?_) | refine vif_intro (fun _ => ?_) (fun _ => ?_)) | omega | ((with_reducible first | refine vop_at ?_ | refine vops_at ?_ | refine vquiet_at ?_ | refine vmix_at ?_ | refine Holds_at ?_); simp only [vO, vQ, ↓vP, vE, vS, vB, vL, vF, vM, vN, vbs_full, za, zb, zc, ne_eq, not_false_eq_true, zd, ze, zh, zi, Z9, vT]))
  all_goals first
    | (have hk' : k < l.length := by omega
       have hw : ws (l.getD k 0) = true := (ws_iff _).2 (by omega)
       have := blanks_ws hk' hw
       (try simp (disch := omega) only [w64, w8, tg_eq, n1, n2, nn, zj])
       exact ⟨k + 1, ⟨⟨by omega, by omega⟩, by omega⟩, .refl _, by simp⟩)
    | (have hk' : k < l.length := by omega
       have hd : hasPre [45, 45] (l.drop k) = true := by assumption
       have h1 := blanks_dd hk' (ws_no (by omega)) hd
       have h2 := pre_le (· != 10) (l.drop k)
       have h3 := (pre_dd hd).2
       simp only [List.length_drop] at h2
       (try simp (disch := omega) only [w64, w8, tg_eq, n1, n2, nn, zj])
       exact ⟨k + pre (· != 10) (l.drop k), ⟨⟨by omega, by omega⟩, by omega⟩, .refl _, by simp⟩)
    | (have hk' : k < l.length := by omega
       have h1 := blanks_end hk' (ws_no (by omega)) (by first | (simpa using (by assumption : ¬ hasPre [45, 45] (l.drop k) = true)) | exact no_dd hk' (by omega))
       exact ⟨σ, .refl σ, i_eq (by omega), rfl⟩)
    | (have h1 := blanks_len (l := l) (k := k) (by omega)
       exact ⟨σ, .refl σ, i_eq (by omega), rfl⟩)
    | trace_state
end Go.Proofs.YtjopblbpnedjoaaGreatDoor

namespace Go.Proofs.YtjopblbpnedjoaaGreatDoor
open Go Go.V
theorem info0 : tInfo Tryz.prog 0 = some ((some (Value.tuple #[])), 1, 0) := by kernel_rfl
theorem info2 : tInfo Tryz.prog 2 = some ((some (Value.int IntKind.i64 0)), 1, 8) := by kernel_rfl
theorem info3 : tInfo Tryz.prog 3 = some ((some (Value.int IntKind.i64 0)), 1, 8) := by kernel_rfl
theorem info4 : tInfo Tryz.prog 4 = some ((some (Value.bool false)), 1, 1) := by kernel_rfl
theorem info5 : tInfo Tryz.prog 5 = some ((some (Value.int IntKind.u8 0)), 1, 1) := by kernel_rfl
theorem info9 : tInfo Tryz.prog 9 = some ((some (Value.string { data := #[] })), 1, 16) := by kernel_rfl
theorem info20 : tInfo Tryz.prog 20 = some ((some Value.nilIface), 1, 16) := by kernel_rfl
theorem info23 : tInfo Tryz.prog 23 = some ((some (Value.slice none 0 0)), 1, 24) := by kernel_rfl
theorem info24 : tInfo Tryz.prog 24 = some ((some (Value.int IntKind.i64 0)), 1, 8) := by kernel_rfl
theorem info25 : tInfo Tryz.prog 25 = some ((some (Value.agg #[(Value.int IntKind.i64 0), (Value.int IntKind.i64 0)])), 2, 16) := by kernel_rfl
theorem info26 : tInfo Tryz.prog 26 = some ((some (Value.agg #[(Value.int IntKind.i64 0), (Value.int IntKind.i64 0)])), 2, 16) := by kernel_rfl
theorem info27 : tInfo Tryz.prog 27 = some ((some (Value.tuple #[(Value.slice none 0 0), (Value.agg #[(Value.int IntKind.i64 0), (Value.int IntKind.i64 0)])])), 1, 0) := by kernel_rfl
theorem info30 : tInfo Tryz.prog 30 = some ((some (Value.slice none 0 0)), 1, 24) := by kernel_rfl
theorem info31 : tInfo Tryz.prog 31 = some ((some (Value.tuple #[(Value.slice none 0 0), (Value.agg #[(Value.int IntKind.i64 0), (Value.int IntKind.i64 0)])])), 1, 0) := by kernel_rfl
theorem info33 : tInfo Tryz.prog 33 = some ((some (Value.agg #[(Value.int IntKind.i64 0), (Value.int IntKind.i64 0), (Value.string { data := #[] })])), 3, 32) := by kernel_rfl
theorem info34 : tInfo Tryz.prog 34 = some ((some (Value.agg #[(Value.int IntKind.i64 0), (Value.int IntKind.i64 0), (Value.string { data := #[] })])), 3, 32) := by kernel_rfl
theorem info35 : tInfo Tryz.prog 35 = some ((some (Value.slice none 0 0)), 1, 24) := by kernel_rfl
theorem info36 : tInfo Tryz.prog 36 = some ((some (Value.agg #[(Value.int IntKind.i64 0), (Value.int IntKind.i64 0), (Value.string { data := #[] }), (Value.string { data := #[] }), (Value.int IntKind.i64 0), (Value.int IntKind.i64 0), (Value.string { data := #[] }), (Value.slice none 0 0)])), 8, 104) := by kernel_rfl
theorem info37 : tInfo Tryz.prog 37 = some ((some (Value.agg #[(Value.int IntKind.i64 0), (Value.int IntKind.i64 0), (Value.string { data := #[] }), (Value.string { data := #[] }), (Value.int IntKind.i64 0), (Value.int IntKind.i64 0), (Value.string { data := #[] }), (Value.slice none 0 0)])), 8, 104) := by kernel_rfl
theorem info38 : tInfo Tryz.prog 38 = some ((some (Value.tuple #[(Value.agg #[(Value.int IntKind.i64 0), (Value.int IntKind.i64 0), (Value.string { data := #[] }), (Value.string { data := #[] }), (Value.int IntKind.i64 0), (Value.int IntKind.i64 0), (Value.string { data := #[] }), (Value.slice none 0 0)]), (Value.agg #[(Value.int IntKind.i64 0), (Value.int IntKind.i64 0)])])), 1, 0) := by kernel_rfl
theorem info49 : tInfo Tryz.prog 49 = some ((some (Value.slice none 0 0)), 1, 24) := by kernel_rfl
theorem info50 : tInfo Tryz.prog 50 = some ((some (Value.slice none 0 0)), 1, 24) := by kernel_rfl
theorem info51 : tInfo Tryz.prog 51 = some ((some (Value.slice none 0 0)), 1, 24) := by kernel_rfl
theorem info52 : tInfo Tryz.prog 52 = some ((some (Value.slice none 0 0)), 1, 24) := by kernel_rfl
theorem info53 : tInfo Tryz.prog 53 = some ((some (Value.agg #[(Value.int IntKind.i64 0), (Value.string { data := #[] }), (Value.slice none 0 0), (Value.string { data := #[] }), (Value.slice none 0 0), (Value.slice none 0 0), (Value.slice none 0 0), (Value.string { data := #[] }), (Value.slice none 0 0), (Value.slice none 0 0), (Value.slice none 0 0), (Value.slice none 0 0), (Value.bool false), (Value.int IntKind.i64 0)])), 14, 264) := by kernel_rfl
theorem info54 : tInfo Tryz.prog 54 = some ((some (Value.agg #[(Value.int IntKind.i64 0), (Value.string { data := #[] }), (Value.slice none 0 0), (Value.string { data := #[] }), (Value.slice none 0 0), (Value.slice none 0 0), (Value.slice none 0 0), (Value.string { data := #[] }), (Value.slice none 0 0), (Value.slice none 0 0), (Value.slice none 0 0), (Value.slice none 0 0), (Value.bool false), (Value.int IntKind.i64 0)])), 14, 264) := by kernel_rfl
theorem info75 : tInfo Tryz.prog 75 = some ((some (Value.agg #[(Value.string { data := #[] }), (Value.int IntKind.i64 0), (Value.bool false), (Value.bool false)])), 4, 32) := by kernel_rfl
theorem info76 : tInfo Tryz.prog 76 = some ((some (Value.agg #[(Value.string { data := #[] }), (Value.int IntKind.i64 0), (Value.bool false), (Value.bool false)])), 4, 32) := by kernel_rfl
theorem info83 : tInfo Tryz.prog 83 = some ((some (Value.agg #[(Value.int IntKind.i64 0), (Value.string { data := #[] }), (Value.int IntKind.i64 0), (Value.int IntKind.i64 0)])), 4, 40) := by kernel_rfl
theorem info84 : tInfo Tryz.prog 84 = some ((some (Value.agg #[(Value.int IntKind.i64 0), (Value.string { data := #[] }), (Value.int IntKind.i64 0), (Value.int IntKind.i64 0)])), 4, 40) := by kernel_rfl
theorem info87 : tInfo Tryz.prog 87 = some ((some (Value.slice none 0 0)), 1, 24) := by kernel_rfl
theorem info90 : tInfo Tryz.prog 90 = some ((some (Value.pointer none)), 1, 8) := by kernel_rfl
theorem info92 : tInfo Tryz.prog 92 = some ((some (Value.agg #[(Value.slice none 0 0), (Value.int IntKind.i64 0), (Value.int IntKind.i64 0), (Value.int IntKind.i64 0)])), 4, 48) := by kernel_rfl
theorem info109 : tInfo Tryz.prog 109 = some ((some (Value.agg #[(Value.string { data := #[] }), (Value.int IntKind.i64 0), (Value.int IntKind.i64 0), (Value.string { data := #[] }), (Value.string { data := #[] }), (Value.int IntKind.i64 0), (Value.int IntKind.i64 0), (Value.string { data := #[] }), (Value.slice none 0 0)])), 9, 120) := by kernel_rfl
theorem info110 : tInfo Tryz.prog 110 = some ((some (Value.agg #[(Value.string { data := #[] }), (Value.int IntKind.i64 0), (Value.int IntKind.i64 0), (Value.string { data := #[] }), (Value.string { data := #[] }), (Value.int IntKind.i64 0), (Value.int IntKind.i64 0), (Value.string { data := #[] }), (Value.slice none 0 0)])), 9, 120) := by kernel_rfl
theorem info112 : tInfo Tryz.prog 112 = some ((some (Value.agg #[(Value.int IntKind.i64 0), (Value.slice none 0 0)])), 2, 32) := by kernel_rfl
theorem info113 : tInfo Tryz.prog 113 = some ((some (Value.agg #[(Value.int IntKind.i64 0), (Value.slice none 0 0)])), 2, 32) := by kernel_rfl
theorem info153 : tInfo Tryz.prog 153 = some ((some (Value.pointer none)), 1, 8) := by kernel_rfl
theorem info154 : tInfo Tryz.prog 154 = some ((some (Value.slice none 0 0)), 1, 24) := by kernel_rfl
theorem info155 : tInfo Tryz.prog 155 = some ((some (Value.agg #[(Value.pointer none), (Value.slice none 0 0)])), 2, 32) := by kernel_rfl
theorem info156 : tInfo Tryz.prog 156 = some ((some (Value.agg #[(Value.pointer none), (Value.slice none 0 0)])), 2, 32) := by kernel_rfl
theorem info160 : tInfo Tryz.prog 160 = some ((some (Value.tuple #[(Value.int IntKind.i64 0), Value.nilIface])), 1, 0) := by kernel_rfl
theorem info166 : tInfo Tryz.prog 166 = some ((some (Value.pointer none)), 1, 8) := by kernel_rfl
theorem info188 : tInfo Tryz.prog 188 = some ((some (Value.slice none 0 0)), 1, 24) := by kernel_rfl
theorem info247 : tInfo Tryz.prog 247 = some ((some (Value.pointer none)), 1, 8) := by kernel_rfl
theorem info260 : tInfo Tryz.prog 260 = some ((some (Value.agg #[(Value.int IntKind.u8 0), (Value.int IntKind.u8 0), (Value.int IntKind.u8 0), (Value.int IntKind.u8 0), (Value.int IntKind.u8 0), (Value.int IntKind.u8 0), (Value.int IntKind.u8 0), (Value.int IntKind.u8 0), (Value.int IntKind.u8 0), (Value.int IntKind.u8 0), (Value.int IntKind.u8 0), (Value.int IntKind.u8 0), (Value.int IntKind.u8 0), (Value.int IntKind.u8 0), (Value.int IntKind.u8 0), (Value.int IntKind.u8 0), (Value.int IntKind.u8 0), (Value.int IntKind.u8 0), (Value.int IntKind.u8 0), (Value.int IntKind.u8 0), (Value.int IntKind.u8 0), (Value.int IntKind.u8 0), (Value.int IntKind.u8 0), (Value.int IntKind.u8 0)])), 24, 24) := by kernel_rfl
theorem info261 : tInfo Tryz.prog 261 = some ((some (Value.int IntKind.u64 0)), 1, 8) := by kernel_rfl
theorem info272 : tInfo Tryz.prog 272 = some ((some (Value.agg #[(Value.int IntKind.u64 0), (Value.int IntKind.u64 0), (Value.int IntKind.u64 0), (Value.int IntKind.u64 0), (Value.int IntKind.u64 0), (Value.int IntKind.u64 0), (Value.int IntKind.u64 0), (Value.int IntKind.u64 0), (Value.int IntKind.u64 0), (Value.int IntKind.u64 0), (Value.int IntKind.u64 0), (Value.int IntKind.u64 0), (Value.int IntKind.u64 0), (Value.int IntKind.u64 0), (Value.int IntKind.u64 0), (Value.int IntKind.u64 0), (Value.int IntKind.u64 0), (Value.int IntKind.u64 0), (Value.int IntKind.u64 0), (Value.int IntKind.u64 0)])), 20, 160) := by kernel_rfl
theorem info273 : tInfo Tryz.prog 273 = some ((some (Value.int IntKind.u32 0)), 1, 4) := by kernel_rfl
end Go.Proofs.YtjopblbpnedjoaaGreatDoor

set_option linter.unusedSimpArgs false
namespace Go.Proofs.YtjopblbpnedjoaaGreatDoor
open Go Go.V Go.Lex
def numR (o : Option Nat) : AV := match o with | some m => .tup [.i m, .i 0] | none => .tup [.i 0, .i 7]
theorem t106 (l : List UInt8) (σ : Sg) (hl : l.length < 2 ^ 60) (hd : ∀ k, k < l.length → 48 ≤ (l.getD k 0).toNat ∧ (l.getD k 0).toNat ≤ 57) : VCalls Tryz.prog 192 [.s (bs l)] σ (fun x σ' => x = numR (num l 0) ∧ σ' = σ) := by
  (refine vfun (fun _ => .no) mixed Tryz.func192 (by kernel_rfl) ?_; simp only [bodyOf, Tryz.f192, zp])
  repeat' (first | with_reducible rfl | exact .inr trivial | (with_reducible first | apply And.intro | apply vqx_step | apply vqm_step | refine vkp_free (by decide +kernel) ?_ | intro _) | ((first | (with_reducible first | refine .rs ?_ | refine .ds (by kernel_rfl) ?_ | refine .dg (by kernel_rfl) ?_ | refine .rg ?_ | refine .ite ?_ | refine .ret ?_ | refine .skip ?_ | refine .exit ?_ | refine .scope ?_ | refine .seq (.label ?_) | refine .block ?_ | refine .seq ?_) | (simp (disch := first | assumption | omega) only [w64, w8, tg_eq, n1, n2, nn, zj, zk, zl, zm, zn, zo]) | with_reducible refine VW.loop2 (0 : Nat) (0 : Nat) (fun k n => k ≤ l.length ∧ n ≤ 9223372036854775807 ∧ num (l.drop k) n = num l 0) (fun k n => [(0, .s (bs l)), (8, .i l.length), (9, .i k), (4, .i n)]) (fun _ _ => σ) (fun k _ => l.length - k) ?_ (.refl _) ?_ (fun k n ⟨hk, hn, hst⟩ => have hdk := hd k; ?_)); (try simp only [vO, vQ, ↓vP, vE, vS, vB, vL, vF, vM, vN, vbs_full, za, zb, zc, ne_eq, not_false_eq_true, zd, ze, zh, zi, Z9, Z3, Z5, Z24, vT])) | (with_reducible first | refine vfresh_set ?_ | refine vfresh_intro (fun _ _ => ?_) | refine vif_intro (fun _ => ?_) (fun _ => ?_)) | omega | ((with_reducible first | refine vop_at ?_ | refine vops_at ?_ | refine vquiet_at ?_ | refine vmix_at ?_ | refine Holds_at ?_); simp only [vO, vQ, ↓vP, vE, vS, vB, vL, vF, vM, vN, vbs_full, za, zb, zc, ne_eq, not_false_eq_true, zd, ze, zh, zi, Z9, Z3, Z5, Z24, vT]))
  all_goals first
    | rfl
    | (have ho := num_over (l := l) (k := k) (n := n) (by omega) (by omega)
       rw [ho] at hst
       exact ⟨σ, .refl σ, by rw [← hst]; rfl, rfl⟩)
    | (have ho := num_step (l := l) (k := k) (n := n) (by omega) (by omega)
       exact ⟨k + 1, 10 * n + ((l.getD k 0).toNat - 48), ⟨⟨by omega, by omega, by rw [← ho, hst]⟩, by omega⟩, .refl _, by simp, i_eq (by omega)⟩)
    | (have ho := num_end (l := l) (k := k) (n := n) (by omega)
       rw [ho] at hst
       exact ⟨σ, .refl σ, by rw [← hst]; rfl, rfl⟩)
def strs (ws : List (List UInt8)) : List (List AV) := ws.map fun w => [.s (bs w)]
theorem strs_len (ws : List (List UInt8)) : (strs ws).length = ws.length := by simp [strs]
theorem strs_get {ws : List (List UInt8)} {k : Nat} (h : k < ws.length) : (strs ws).getD k [] = [.s (bs (ws.getD k []))] := by
  simp [strs, List.getD_eq_getElem?_getD, List.getElem?_eq_getElem h]
def words : List (List UInt8) := [[65, 78, 68], [66, 89], [67, 79, 85, 78, 84], [67, 82, 69, 65, 84, 69], [68, 69, 76, 69, 84, 69], [68, 69, 83, 67], [68, 82, 79, 80], [70, 82, 79, 77], [71, 82, 79, 85, 80], [73, 78, 83, 69, 82, 84], [73, 78, 84], [73, 78, 84, 79], [73, 83], [74, 79, 73, 78], [75, 69, 89], [76, 73, 77, 73, 84], [77, 65, 88], [77, 73, 78], [78, 79, 84], [78, 85, 76, 76], [79, 78], [79, 82], [79, 82, 68, 69, 82], [80, 82, 73, 77, 65, 82, 89], [83, 69, 76, 69, 67, 84], [83, 69, 84], [83, 85, 77], [84, 65, 66, 76, 69], [84, 69, 88, 84], [85, 78, 73, 81, 85, 69], [85, 80, 68, 65, 84, 69], [86, 65, 76, 85, 69, 83], [87, 72, 69, 82, 69]]
def signs : List (List UInt8) := [[60, 62], [60, 61], [62, 61], [40], [41], [44], [59], [46], [42], [43], [45], [47], [37], [61], [60], [62]]
def idx (m : List UInt8) (ws : List (List UInt8)) : Nat := (ws.takeWhile (fun w => w != m)).length
theorem idx_le (m : List UInt8) (ws : List (List UInt8)) : idx m ws ≤ ws.length := (List.takeWhile_prefix _).length_le
theorem idx_step {m : List UInt8} {ws : List (List UInt8)} {k : Nat} (h : k < ws.length) : idx m (ws.drop k) = if ws.getD k [] = m then 0 else 1 + idx m (ws.drop (k + 1)) := by
  have hg : ws.getD k [] = ws[k] := by simp [List.getD_eq_getElem?_getD, List.getElem?_eq_getElem h]
  rw [hg, List.drop_eq_getElem_cons h]
  unfold idx
  rw [List.takeWhile_cons]
  by_cases e : ws[k] = m
  · simp [e]
  · simp [e, Nat.add_comm]
theorem idx_end {m : List UInt8} {ws : List (List UInt8)} {k : Nat} (h : ws.length ≤ k) : idx m (ws.drop k) = 0 := by rw [List.drop_of_length_le h]; rfl
theorem idx_no {m : List UInt8} {ws : List (List UInt8)} {k : Nat} (h : k < ws.length) (hn : ¬ m = ws.getD k []) : idx m (ws.drop k) = 1 + idx m (ws.drop (k + 1)) := by rw [idx_step h, if_neg (fun e => hn e.symm)]
theorem idx_yes {m : List UInt8} {ws : List (List UInt8)} {k : Nat} (h : k < ws.length) (hn : m = ws.getD k []) : idx m (ws.drop k) = 0 := by rw [idx_step h, if_pos hn.symm]
theorem t116 (ws : List (List UInt8)) (o : Own) (m : List UInt8) (σ : Sg) (hl : ws.length < 2 ^ 60) : VCalls Tryz.prog 258 [.sl o (strs ws), .s (bs m)] σ (fun x σ' => x = .i (if idx m ws < ws.length then (idx m ws : Nat) else -1) ∧ σ' = σ) := by
  (refine vfun (fun _ => .no) mixed Tryz.func258 (by kernel_rfl) ?_; simp only [bodyOf, Tryz.f258, zp])
  repeat' (first | with_reducible rfl | exact .inr trivial | (with_reducible first | apply And.intro | apply vqx_step | apply vqm_step | refine vkp_free (by decide +kernel) ?_ | intro _) | ((first | (with_reducible first | refine .rs ?_ | refine .ds (by kernel_rfl) ?_ | refine .dg (by kernel_rfl) ?_ | refine .rg ?_ | refine .ite ?_ | refine .ret ?_ | refine .skip ?_ | refine .exit ?_ | refine .scope ?_ | refine .seq (.label ?_) | refine .block ?_ | refine .seq ?_) | (simp (disch := first | assumption | omega) only [w64, w8, tg_eq, n1, n2, nn, zj, zk, zl, zm, zn, zo]) | with_reducible refine VW.loop (0 : Nat) (fun k => k ≤ ws.length ∧ k + idx m (ws.drop k) = idx m ws) (fun k => [(0, .sl o (strs ws)), (1, .s (bs m)), (7, .i ws.length), (8, .i k)]) (fun _ => σ) (fun k => ws.length - k) ?_ (.refl _) ?_ (fun k ⟨hk, hst⟩ => ?_) | with_reducible simp (disch := omega) only [strs_get, Int.toNat_natCast]); (try simp only [vO, vQ, ↓vP, vE, vS, vB, vL, vF, vM, vN, vbs_full, za, zb, zc, ne_eq, not_false_eq_true, zd, ze, zh, zi, Z9, Z3, Z87, info9, strs_len, vT])) | (with_reducible first | refine vfresh_set ?_ | refine vfresh_intro (fun _ _ => ?_) | refine vif_intro (fun _ => ?_) (fun _ => ?_)) | omega | ((with_reducible first | refine vop_at ?_ | refine vops_at ?_ | refine vquiet_at ?_ | refine vmix_at ?_ | refine Holds_at ?_); simp only [vO, vQ, ↓vP, vE, vS, vB, vL, vF, vM, vN, vbs_full, za, zb, zc, ne_eq, not_false_eq_true, zd, ze, zh, zi, Z9, Z3, Z87, info9, strs_len, vT]))
  all_goals first
    | rfl
    | (simp; done)
    | (have h1 := idx_no (m := m) (ws := ws) (k := k) (by omega) (by assumption)
       exact ⟨k + 1, ⟨⟨by omega, by omega⟩, by omega⟩, .refl _, by simp⟩)
    | (have h1 := idx_yes (m := m) (ws := ws) (k := k) (by omega) (by assumption)
       have h2 := idx_le m (ws.drop k)
       exact ⟨σ, .refl σ, by rw [if_pos (by omega)]; exact i_eq (by omega), rfl⟩)
    | (have h1 := idx_end (m := m) (ws := ws) (k := k) (by omega)
       exact ⟨σ, .refl σ, by rw [if_neg (by omega)], rfl⟩)
    | trace_state
theorem t105 (σ : Sg) : VCalls Tryz.prog 191 [] σ (fun x σ' => x = .sl .full (strs words) ∧ σ' = σ) := by
  (refine vfun (fun _ => .no) mixed Tryz.func191 (by kernel_rfl) ?_; simp only [bodyOf, Tryz.f191, zp])
  repeat' (first | with_reducible rfl | exact .inr trivial | (with_reducible first | apply And.intro | apply vqx_step | apply vqm_step | refine vkp_free (by decide +kernel) ?_ | intro _) | ((first | (with_reducible first | refine .rs ?_ | refine .ds (by kernel_rfl) ?_ | refine .dg (by kernel_rfl) ?_ | refine .rg ?_ | refine .ite ?_ | refine .ret ?_ | refine .skip ?_ | refine .exit ?_ | refine .scope ?_ | refine .seq (.label ?_) | refine .block ?_ | refine .seq ?_) | (simp (disch := first | assumption | omega) only [w64, w8, tg_eq, n1, n2, nn, zj, zk, zl, zm, zn, zo])); (try simp only [vO, vQ, ↓vP, vE, vS, vB, vL, vF, vM, vN, vbs_full, za, zb, zc, ne_eq, not_false_eq_true, zd, ze, zh, zi, Z9, Z87, info9, vT])) | (with_reducible first | refine vfresh_set ?_ | refine vfresh_intro (fun _ _ => ?_) | refine vif_intro (fun _ => ?_) (fun _ => ?_)) | omega | ((with_reducible first | refine vop_at ?_ | refine vops_at ?_ | refine vquiet_at ?_ | refine vmix_at ?_ | refine Holds_at ?_); simp only [vO, vQ, ↓vP, vE, vS, vB, vL, vF, vM, vN, vbs_full, za, zb, zc, ne_eq, not_false_eq_true, zd, ze, zh, zi, Z9, Z87, info9, vT]))
  all_goals first
    | rfl
    | (simp; done)
    | (exact ⟨σ, .refl σ, rfl, rfl⟩)
    | trace_state
theorem t76 (σ : Sg) : VCalls Tryz.prog 104 [] σ (fun x σ' => x = .sl .full (strs signs) ∧ σ' = σ) := by
  (refine vfun (fun _ => .no) mixed Tryz.func104 (by kernel_rfl) ?_; simp only [bodyOf, Tryz.f104, zp])
  repeat' (first | with_reducible rfl | exact .inr trivial | (with_reducible first | apply And.intro | apply vqx_step | apply vqm_step | refine vkp_free (by decide +kernel) ?_ | intro _) | ((first | (with_reducible first | refine .rs ?_ | refine .ds (by kernel_rfl) ?_ | refine .dg (by kernel_rfl) ?_ | refine .rg ?_ | refine .ite ?_ | refine .ret ?_ | refine .skip ?_ | refine .exit ?_ | refine .scope ?_ | refine .seq (.label ?_) | refine .block ?_ | refine .seq ?_) | (simp (disch := first | assumption | omega) only [w64, w8, tg_eq, n1, n2, nn, zj, zk, zl, zm, zn, zo])); (try simp only [vO, vQ, ↓vP, vE, vS, vB, vL, vF, vM, vN, vbs_full, za, zb, zc, ne_eq, not_false_eq_true, zd, ze, zh, zi, Z9, Z87, info9, vT])) | (with_reducible first | refine vfresh_set ?_ | refine vfresh_intro (fun _ _ => ?_) | refine vif_intro (fun _ => ?_) (fun _ => ?_)) | omega | ((with_reducible first | refine vop_at ?_ | refine vops_at ?_ | refine vquiet_at ?_ | refine vmix_at ?_ | refine Holds_at ?_); simp only [vO, vQ, ↓vP, vE, vS, vB, vL, vF, vM, vN, vbs_full, za, zb, zc, ne_eq, not_false_eq_true, zd, ze, zh, zi, Z9, Z87, info9, vT]))
  all_goals first
    | rfl
    | (simp; done)
    | (exact ⟨σ, .refl σ, rfl, rfl⟩)
    | trace_state
theorem t104 (ws : List (List UInt8)) (o : Own) (m : List UInt8) (σ : Sg) (hl : ws.length < 2 ^ 60) : VCalls Tryz.prog 190 [.sl o (strs ws), .s (bs m)] σ (fun x σ' => x = .b (decide (idx m ws < ws.length)) ∧ σ' = σ) := by
  (refine vfun (fun _ => .no) mixed Tryz.func190 (by kernel_rfl) ?_; simp only [bodyOf, Tryz.f190, zp])
  repeat' (first | with_reducible rfl | exact .inr trivial | (with_reducible first | apply And.intro | apply vqx_step | apply vqm_step | refine vkp_free (by decide +kernel) ?_ | intro _) | ((first | (with_reducible first | refine .rs ?_ | refine .ds (by kernel_rfl) ?_ | refine .dg (by kernel_rfl) ?_ | refine .rg ?_ | refine .ite ?_ | refine .ret ?_ | refine .skip ?_ | refine .exit ?_ | refine .scope ?_ | refine .seq (.label ?_) | refine .block ?_ | refine .seq ?_) | (simp (disch := first | assumption | omega) only [w64, w8, tg_eq, n1, n2, nn, zj, zk, zl, zm, zn, zo]) | with_reducible refine (t116 ws o m σ hl).use ?_); (try simp only [vO, vQ, ↓vP, vE, vS, vB, vL, vF, vM, vN, vbs_full, za, zb, zc, ne_eq, not_false_eq_true, zd, ze, zh, zi, Z9, Z3, Z87, info9, strs_len, vT])) | (with_reducible first | refine vfresh_set ?_ | refine vfresh_intro (fun _ _ => ?_) | refine vif_intro (fun _ => ?_) (fun _ => ?_)) | omega | ((with_reducible first | refine vop_at ?_ | refine vops_at ?_ | refine vquiet_at ?_ | refine vmix_at ?_ | refine Holds_at ?_); simp only [vO, vQ, ↓vP, vE, vS, vB, vL, vF, vM, vN, vbs_full, za, zb, zc, ne_eq, not_false_eq_true, zd, ze, zh, zi, Z9, Z3, Z87, info9, strs_len, vT]))
  all_goals first
    | (exact ⟨σ, .refl σ, b_eq (by by_cases h : idx m ws < ws.length <;> simp [h]), rfl⟩)
    | trace_state
end Go.Proofs.YtjopblbpnedjoaaGreatDoor

set_option linter.unusedSimpArgs false
namespace Go.Proofs.YtjopblbpnedjoaaGreatDoor
open Go Go.V Go.Lex
theorem lies140 : liesAt Tryz.prog Tryz.prog.depth 156 (2 / Tryz.prog.cellsOf 156) 0 156 1 = true := by kernel_rfl
theorem t118 (x : AV) (σ : Sg) : VCalls Tryz.prog 263 [x] σ (fun y σ' => y = x ∧ σ' = σ) :=
  vNoEscape (P := Tryz.prog) Tryz.func263 (by kernel_rfl) (by kernel_rfl) (by kernel_rfl) (by kernel_rfl)
theorem t115 (β : Nat) (x0 buf : AV) (σ : Sg) (hσ : σ β = some (.cells 156 [x0, buf])) (hx : x0 = .val (.pointer none) ∨ x0 = .ref β 0) : VCalls Tryz.prog 195 [.ref β 0] σ (fun x σ' => x = .tup [] ∧ σ' = σ.set β (.cells 156 [.ref β 0, buf])) := by
  rcases hx with rfl | rfl
  · (refine vfun (fun _ => .no) mixed Tryz.func195 (by kernel_rfl) ?_; simp only [bodyOf, Tryz.f195, zp])
    repeat' (first | with_reducible rfl | exact .inr trivial | (with_reducible first | apply And.intro | apply vqx_step | apply vqm_step | refine vkp_free (by decide +kernel) ?_ | intro _) | ((first | (with_reducible first | refine .rs ?_ | refine .ds (by kernel_rfl) ?_ | refine .dg (by kernel_rfl) ?_ | refine .rg ?_ | refine .ite ?_ | refine .ret ?_ | refine .skip ?_ | refine .exit ?_ | refine .scope ?_ | refine .seq (.label ?_) | refine .block ?_ | refine .seq ?_) | (simp (disch := first | assumption | omega) only [w64, w8, tg_eq, n1, n2, nn, zj, zk, zl, zm, zn, zo]) | with_reducible refine (t118 _ _).use ?_); (try simp only [vO, vQ, ↓vP, vE, vS, vB, vL, vF, vM, vN, vbs_full, za, zb, zc, ne_eq, not_false_eq_true, zd, ze, zh, zi, Z153, Z156, Z247, info153, info156, info247, hσ, lies140, vT])) | (with_reducible first | refine vfresh_set ?_ | refine vfresh_intro (fun _ _ => ?_) | refine vif_intro (fun _ => ?_) (fun _ => ?_)) | omega | ((with_reducible first | refine vop_at ?_ | refine vops_at ?_ | refine vquiet_at ?_ | refine vmix_at ?_ | refine Holds_at ?_); simp only [vO, vQ, ↓vP, vE, vS, vB, vL, vF, vM, vN, vbs_full, za, zb, zc, ne_eq, not_false_eq_true, zd, ze, zh, zi, Z153, Z156, Z247, info153, info156, info247, hσ, lies140, vT]))
    all_goals first
      | rfl
      | exact ⟨_, .refl _, rfl⟩
  · (refine vfun (fun _ => .no) mixed Tryz.func195 (by kernel_rfl) ?_; simp only [bodyOf, Tryz.f195, zp])
    repeat' (first | with_reducible rfl | exact .inr trivial | (with_reducible first | apply And.intro | apply vqx_step | apply vqm_step | refine vkp_free (by decide +kernel) ?_ | intro _) | ((first | (with_reducible first | refine .rs ?_ | refine .ds (by kernel_rfl) ?_ | refine .dg (by kernel_rfl) ?_ | refine .rg ?_ | refine .ite ?_ | refine .ret ?_ | refine .skip ?_ | refine .exit ?_ | refine .scope ?_ | refine .seq (.label ?_) | refine .block ?_ | refine .seq ?_) | (simp (disch := first | assumption | omega) only [w64, w8, tg_eq, n1, n2, nn, zj, zk, zl, zm, zn, zo]) | with_reducible refine (t118 _ _).use ?_); (try simp only [vO, vQ, ↓vP, vE, vS, vB, vL, vF, vM, vN, vbs_full, za, zb, zc, ne_eq, not_false_eq_true, zd, ze, zh, zi, Z153, Z156, Z247, info153, info156, info247, hσ, lies140, vT])) | (with_reducible first | refine vfresh_set ?_ | refine vfresh_intro (fun _ _ => ?_) | refine vif_intro (fun _ => ?_) (fun _ => ?_)) | omega | ((with_reducible first | refine vop_at ?_ | refine vops_at ?_ | refine vquiet_at ?_ | refine vmix_at ?_ | refine Holds_at ?_); simp only [vO, vQ, ↓vP, vE, vS, vB, vL, vF, vM, vN, vbs_full, za, zb, zc, ne_eq, not_false_eq_true, zd, ze, zh, zi, Z153, Z156, Z247, info153, info156, info247, hσ, lies140, vT]))
    all_goals exact ⟨σ, .refl _, (Sg.set_id hσ).symm⟩
def Bld (β : Nat) (acc : List UInt8) (σ S : Sg) : Prop :=
  σ β = none ∧ ((acc = [] ∧ S = σ.set β (.cells 156 [.val (.pointer none), .sl .nil []])) ∨
    ∃ τ, τ ≠ β ∧ σ τ = none ∧ S = (σ.set τ (.tok (some 5))).set β (.cells 156 [.ref β 0, .sl (.tok τ 1) (bytesL acc)]))
theorem t100 (β : Nat) (acc m : List UInt8) (σ S : Sg) (hb : Bld β acc σ S) (hl : acc.length + m.length < 2 ^ 40) : VCalls Tryz.prog 109 [.ref β 0, .s (bs m)] S (fun x σ' => x = .tup [.i m.length, .val .nilIface] ∧ Bld β (acc ++ m) σ σ') := by
  obtain ⟨h0, ⟨rfl, rfl⟩ | ⟨τ, hτ, hτ0, rfl⟩⟩ := hb
  · (refine vfun (fun _ => .no) mixed Tryz.func109 (by kernel_rfl) ?_; simp only [bodyOf, Tryz.f109, zp])
    repeat' (first | with_reducible rfl | exact .inr trivial | (with_reducible first | apply And.intro | apply vqx_step | apply vqm_step | refine vkp_free (by decide +kernel) ?_ | intro _) | ((first | (with_reducible first | refine .rs ?_ | refine .ds (by kernel_rfl) ?_ | refine .dg (by kernel_rfl) ?_ | refine .rg ?_ | refine .ite ?_ | refine .ret ?_ | refine .skip ?_ | refine .exit ?_ | refine .scope ?_ | refine .seq (.label ?_) | refine .block ?_ | refine .seq ?_) | (simp (disch := first | assumption | omega) only [w64, w8, tg_eq, n1, n2, nn, zj, zk, zl, zm, zn, zo]) | with_reducible refine (t115 β _ _ _ (zk _ _ _) (.inl rfl)).use ?_); (try simp only [vO, vQ, ↓vP, vE, vS, vB, vL, vF, vM, vN, vbs_full, za, zb, zc, ne_eq, not_false_eq_true, zd, ze, zh, zi, Z153, Z156, Z154, Z9, Z5, info154, info156, info5, vT])) | (with_reducible first | refine vfresh_set ?_ | refine vfresh_intro (fun _ _ => ?_) | refine vif_intro (fun _ => ?_) (fun _ => ?_)) | omega | ((with_reducible first | refine vop_at ?_ | refine vops_at ?_ | refine vquiet_at ?_ | refine vmix_at ?_ | refine Holds_at ?_); simp only [vO, vQ, ↓vP, vE, vS, vB, vL, vF, vM, vN, vbs_full, za, zb, zc, ne_eq, not_false_eq_true, zd, ze, zh, zi, Z153, Z156, Z154, Z9, Z5, info154, info156, info5, vT]))
    all_goals first
      | rfl
      | (rename_i x hx hne
         refine ⟨(σ.set x (.tok (some 5))).set β (.cells 156 [.ref β 0, .sl (.tok x 1) (bytesL m)]), fun y o hy => ?_, h0, .inr ⟨x, hne, hx, rfl⟩⟩
         by_cases e1 : y = β <;> by_cases e2 : y = x <;> simp_all [Sg.set, Sg.del])
  · (refine vfun (fun _ => .no) mixed Tryz.func109 (by kernel_rfl) ?_; simp only [bodyOf, Tryz.f109, zp])
    repeat' (first | with_reducible rfl | exact .inr trivial | (with_reducible first | apply And.intro | apply vqx_step | apply vqm_step | refine vkp_free (by decide +kernel) ?_ | intro _) | ((first | (with_reducible first | refine .rs ?_ | refine .ds (by kernel_rfl) ?_ | refine .dg (by kernel_rfl) ?_ | refine .rg ?_ | refine .ite ?_ | refine .ret ?_ | refine .skip ?_ | refine .exit ?_ | refine .scope ?_ | refine .seq (.label ?_) | refine .block ?_ | refine .seq ?_) | (simp (disch := first | assumption | omega) only [w64, w8, tg_eq, n1, n2, nn, zj, zk, zl, zm, zn, zo]) | with_reducible refine (t115 β _ _ _ (zk _ _ _) (.inr rfl)).use ?_); (try simp only [vO, vQ, ↓vP, vE, vS, vB, vL, vF, vM, vN, vbs_full, za, zb, zc, ne_eq, not_false_eq_true, zd, ze, zh, zi, Z153, Z156, Z154, Z9, Z5, info154, info156, info5, vT])) | (with_reducible first | refine vfresh_set ?_ | refine vfresh_intro (fun _ _ => ?_) | refine vif_intro (fun _ => ?_) (fun _ => ?_)) | omega | ((with_reducible first | refine vop_at ?_ | refine vops_at ?_ | refine vquiet_at ?_ | refine vmix_at ?_ | refine Holds_at ?_); simp only [vO, vQ, ↓vP, vE, vS, vB, vL, vF, vM, vN, vbs_full, za, zb, zc, ne_eq, not_false_eq_true, zd, ze, zh, zi, Z153, Z156, Z154, Z9, Z5, info154, info156, info5, vT]))
    all_goals first
      | rfl
      | exact .inr trivial
      | (rename_i x hx hnt hne
         refine ⟨(σ.set x (.tok (some 5))).set β (.cells 156 [.ref β 0, .sl (.tok x 1) (bytesL (acc ++ m))]), fun y o hy => ?_, h0, .inr ⟨x, hne, hx, rfl⟩⟩
         by_cases e1 : y = β <;> by_cases e2 : y = x <;> by_cases e3 : y = τ <;> simp_all [Sg.set, Sg.del])
theorem t101 (β : Nat) (acc : List UInt8) (c : UInt8) (σ S : Sg) (hb : Bld β acc σ S) (hl : acc.length < 2 ^ 40) : VCalls Tryz.prog 188 [.ref β 0, .u8 c.toNat] S (fun x σ' => x = .val .nilIface ∧ Bld β (acc ++ [c]) σ σ') := by
  obtain ⟨h0, ⟨rfl, rfl⟩ | ⟨τ, hτ, hτ0, rfl⟩⟩ := hb
  · (refine vfun (fun _ => .no) mixed Tryz.func188 (by kernel_rfl) ?_; simp only [bodyOf, Tryz.f188, zp])
    repeat' (first | with_reducible rfl | exact .inr trivial | (with_reducible first | apply And.intro | apply vqx_step | apply vqm_step | refine vkp_free (by decide +kernel) ?_ | intro _) | ((first | (with_reducible first | refine .rs ?_ | refine .ds (by kernel_rfl) ?_ | refine .dg (by kernel_rfl) ?_ | refine .rg ?_ | refine .ite ?_ | refine .ret ?_ | refine .skip ?_ | refine .exit ?_ | refine .scope ?_ | refine .seq (.label ?_) | refine .block ?_ | refine .seq ?_) | (simp (disch := first | assumption | omega) only [w64, w8, tg_eq, n1, n2, nn, zj, zk, zl, zm, zn, zo]) | with_reducible refine (t115 β _ _ _ (zk _ _ _) (.inl rfl)).use ?_); (try simp only [vO, vQ, ↓vP, vE, vS, vB, vL, vF, vM, vN, vbs_full, za, zb, zc, ne_eq, not_false_eq_true, zd, ze, zh, zi, Z153, Z156, Z154, Z9, Z5, info154, info156, info5, bytesL_unit, vT])) | (with_reducible first | refine vfresh_set ?_ | refine vfresh_intro (fun _ _ => ?_) | refine vif_intro (fun _ => ?_) (fun _ => ?_)) | omega | ((with_reducible first | refine vop_at ?_ | refine vops_at ?_ | refine vquiet_at ?_ | refine vmix_at ?_ | refine Holds_at ?_); simp only [vO, vQ, ↓vP, vE, vS, vB, vL, vF, vM, vN, vbs_full, za, zb, zc, ne_eq, not_false_eq_true, zd, ze, zh, zi, Z153, Z156, Z154, Z9, Z5, info154, info156, info5, bytesL_unit, vT]))
    all_goals first
      | rfl
      | (rename_i x hx hne
         refine ⟨(σ.set x (.tok (some 5))).set β (.cells 156 [.ref β 0, .sl (.tok x 1) (bytesL [c])]), fun y o hy => ?_, h0, .inr ⟨x, hne, hx, rfl⟩⟩
         by_cases e1 : y = β <;> by_cases e2 : y = x <;> simp_all [Sg.set, Sg.del])
  · (refine vfun (fun _ => .no) mixed Tryz.func188 (by kernel_rfl) ?_; simp only [bodyOf, Tryz.f188, zp])
    repeat' (first | with_reducible rfl | exact .inr trivial | (with_reducible first | apply And.intro | apply vqx_step | apply vqm_step | refine vkp_free (by decide +kernel) ?_ | intro _) | ((first | (with_reducible first | refine .rs ?_ | refine .ds (by kernel_rfl) ?_ | refine .dg (by kernel_rfl) ?_ | refine .rg ?_ | refine .ite ?_ | refine .ret ?_ | refine .skip ?_ | refine .exit ?_ | refine .scope ?_ | refine .seq (.label ?_) | refine .block ?_ | refine .seq ?_) | (simp (disch := first | assumption | omega) only [w64, w8, tg_eq, n1, n2, nn, zj, zk, zl, zm, zn, zo]) | with_reducible refine (t115 β _ _ _ (zk _ _ _) (.inr rfl)).use ?_); (try simp only [vO, vQ, ↓vP, vE, vS, vB, vL, vF, vM, vN, vbs_full, za, zb, zc, ne_eq, not_false_eq_true, zd, ze, zh, zi, Z153, Z156, Z154, Z9, Z5, info154, info156, info5, bytesL_unit, vT])) | (with_reducible first | refine vfresh_set ?_ | refine vfresh_intro (fun _ _ => ?_) | refine vif_intro (fun _ => ?_) (fun _ => ?_)) | omega | ((with_reducible first | refine vop_at ?_ | refine vops_at ?_ | refine vquiet_at ?_ | refine vmix_at ?_ | refine Holds_at ?_); simp only [vO, vQ, ↓vP, vE, vS, vB, vL, vF, vM, vN, vbs_full, za, zb, zc, ne_eq, not_false_eq_true, zd, ze, zh, zi, Z153, Z156, Z154, Z9, Z5, info154, info156, info5, bytesL_unit, vT]))
    all_goals first
      | rfl
      | exact .inr trivial
      | (rename_i x hx hnt hne
         refine ⟨(σ.set x (.tok (some 5))).set β (.cells 156 [.ref β 0, .sl (.tok x 1) (bytesL (acc ++ [c]))]), fun y o hy => ?_, h0, .inr ⟨x, hne, hx, rfl⟩⟩
         by_cases e1 : y = β <;> by_cases e2 : y = x <;> by_cases e3 : y = τ <;> simp_all [Sg.set, Sg.del])
theorem t102 (β : Nat) (acc : List UInt8) (σ S : Sg) (hb : Bld β acc σ S) : VCalls Tryz.prog 189 [.ref β 0] S (fun x σ' => x = .i acc.length ∧ σ' = S) := by
  obtain ⟨h0, ⟨rfl, rfl⟩ | ⟨τ, hτ, hτ0, rfl⟩⟩ := hb
  all_goals
    (refine vfun (fun _ => .no) mixed Tryz.func189 (by kernel_rfl) ?_; simp only [bodyOf, Tryz.f189, zp])
    repeat' (first | with_reducible rfl | exact .inr trivial | (with_reducible first | apply And.intro | apply vqx_step | apply vqm_step | refine vkp_free (by decide +kernel) ?_ | intro _) | ((first | (with_reducible first | refine .rs ?_ | refine .ds (by kernel_rfl) ?_ | refine .dg (by kernel_rfl) ?_ | refine .rg ?_ | refine .ite ?_ | refine .ret ?_ | refine .skip ?_ | refine .exit ?_ | refine .scope ?_ | refine .seq (.label ?_) | refine .block ?_ | refine .seq ?_) | (simp (disch := first | assumption | omega) only [w64, w8, tg_eq, n1, n2, nn, zj, zk, zl, zm, zn, zo])); (try simp only [vO, vQ, ↓vP, vE, vS, vB, vL, vF, vM, vN, vbs_full, za, zb, zc, ne_eq, not_false_eq_true, zd, ze, zh, zi, Z153, Z156, Z154, Z9, Z5, info154, info156, info5, vT])) | (with_reducible first | refine vfresh_set ?_ | refine vfresh_intro (fun _ _ => ?_) | refine vif_intro (fun _ => ?_) (fun _ => ?_)) | omega | ((with_reducible first | refine vop_at ?_ | refine vops_at ?_ | refine vquiet_at ?_ | refine vmix_at ?_ | refine Holds_at ?_); simp only [vO, vQ, ↓vP, vE, vS, vB, vL, vF, vM, vN, vbs_full, za, zb, zc, ne_eq, not_false_eq_true, zd, ze, zh, zi, Z153, Z156, Z154, Z9, Z5, info154, info156, info5, vT]))
    all_goals exact ⟨_, .refl _, by simp⟩
theorem t103 (β : Nat) (acc : List UInt8) (σ S : Sg) (hb : Bld β acc σ S) (hl : acc.length < 2 ^ 40) : VCalls Tryz.prog 110 [.ref β 0] S (fun x σ' => x = .s (bs acc) ∧ σ' = S) := by
  obtain ⟨h0, ⟨rfl, rfl⟩ | ⟨τ, hτ, hτ0, rfl⟩⟩ := hb
  · (refine vfun (fun _ => .no) mixed Tryz.func110 (by kernel_rfl) ?_; simp only [bodyOf, Tryz.f110, zp])
    repeat' (first | with_reducible rfl | exact .inr trivial | (with_reducible first | apply And.intro | apply vqx_step | apply vqm_step | refine vkp_free (by decide +kernel) ?_ | intro _) | ((first | (with_reducible first | refine .rs ?_ | refine .ds (by kernel_rfl) ?_ | refine .dg (by kernel_rfl) ?_ | refine .rg ?_ | refine .ite ?_ | refine .ret ?_ | refine .skip ?_ | refine .exit ?_ | refine .scope ?_ | refine .seq (.label ?_) | refine .block ?_ | refine .seq ?_) | (simp (disch := first | assumption | omega) only [w64, w8, tg_eq, n1, n2, nn, zj, zk, zl, zm, zn, zo])); (try simp only [vO, vQ, ↓vP, vE, vS, vB, vL, vF, vM, vN, vbs_full, za, zb, zc, ne_eq, not_false_eq_true, zd, ze, zh, zi, Z153, Z156, Z154, Z9, Z5, Z214, info154, info156, info5, vT])) | (with_reducible first | refine vfresh_set ?_ | refine vfresh_intro (fun _ _ => ?_) | refine vif_intro (fun _ => ?_) (fun _ => ?_)) | omega | ((with_reducible first | refine vop_at ?_ | refine vops_at ?_ | refine vquiet_at ?_ | refine vmix_at ?_ | refine Holds_at ?_); simp only [vO, vQ, ↓vP, vE, vS, vB, vL, vF, vM, vN, vbs_full, za, zb, zc, ne_eq, not_false_eq_true, zd, ze, zh, zi, Z153, Z156, Z154, Z9, Z5, Z214, info154, info156, info5, vT]))
    · exact ⟨bs [], ⟨rfl, rfl, by decide⟩, .inl trivial, rfl⟩
    · exact ⟨_, .refl _, rfl, rfl⟩
  · (refine vfun (fun _ => .no) mixed Tryz.func110 (by kernel_rfl) ?_; simp only [bodyOf, Tryz.f110, zp])
    repeat' (first | with_reducible rfl | exact .inr trivial | (with_reducible first | apply And.intro | apply vqx_step | apply vqm_step | refine vkp_free (by decide +kernel) ?_ | intro _) | ((first | (with_reducible first | refine .rs ?_ | refine .ds (by kernel_rfl) ?_ | refine .dg (by kernel_rfl) ?_ | refine .rg ?_ | refine .ite ?_ | refine .ret ?_ | refine .skip ?_ | refine .exit ?_ | refine .scope ?_ | refine .seq (.label ?_) | refine .block ?_ | refine .seq ?_) | (simp (disch := first | assumption | omega) only [w64, w8, tg_eq, n1, n2, nn, zj, zk, zl, zm, zn, zo])); (try simp only [vO, vQ, ↓vP, vE, vS, vB, vL, vF, vM, vN, vbs_full, za, zb, zc, ne_eq, not_false_eq_true, zd, ze, zh, zi, Z153, Z156, Z154, Z9, Z5, Z214, info154, info156, info5, vT])) | (with_reducible first | refine vfresh_set ?_ | refine vfresh_intro (fun _ _ => ?_) | refine vif_intro (fun _ => ?_) (fun _ => ?_)) | omega | ((with_reducible first | refine vop_at ?_ | refine vops_at ?_ | refine vquiet_at ?_ | refine vmix_at ?_ | refine Holds_at ?_); simp only [vO, vQ, ↓vP, vE, vS, vB, vL, vF, vM, vN, vbs_full, za, zb, zc, ne_eq, not_false_eq_true, zd, ze, zh, zi, Z153, Z156, Z154, Z9, Z5, Z214, info154, info156, info5, vT]))
    · exact ⟨bs acc, ⟨(bs_bytesAV _).symm, by rw [bs_size], by rw [bs_size]; omega⟩, .inr trivial, rfl⟩
    · exact ⟨_, .refl _, rfl, rfl⟩
end Go.Proofs.YtjopblbpnedjoaaGreatDoor

set_option linter.unusedSimpArgs false
namespace Go.Lex
open Go.V Go.Proofs.YtjopblbpnedjoaaGreatDoor
def glue (r : List UInt8) (n : Nat) : Bool := decide (n < r.length) && (isSmall (r.getD n 0) || isGreat (r.getD n 0))
def isKnown (m : List UInt8) : Bool := decide (idx m words < words.length)
def wordT (kd : Nat) (r : List UInt8) (n : Nat) : Except Nat (Nat × List UInt8 × Nat) :=
  if glue r n = true then .error 4 else
  if kd = 2 then (if isKnown (r.take n) = true then .ok (2, r.take n, 0) else .error 4) else
  if kd = 1 then (if 16 < n then .error 2 else .ok (1, r.take n, 0)) else
  match num (r.take n) 0 with
  | some v => .ok (3, [], v)
  | none => .error 7
abbrev tokA (k : Nat) (t : List UInt8) (v a : Nat) : AV := .agg [.i k, .s (bs t), .i v, .i a]
def NOut (o : Option Nat) (x : AV) : Prop := (∃ v : Nat, o = some v ∧ x = .tup [.i v, .i 0]) ∨ (o = none ∧ x = .tup [.i 0, .i 7])
theorem NOut_numR (o : Option Nat) : NOut o (numR o) := by
  cases o with
  | none => exact .inr ⟨rfl, rfl⟩
  | some v => exact .inl ⟨v, rfl, rfl⟩
def POut (o : Except Nat (Nat × List UInt8 × Nat)) (x : AV) : Prop :=
  (∃ k t v, o = .ok (k, t, v) ∧ x = .tup [tokA k t v 0, .i 0]) ∨ (∃ (e : Nat) (k : Nat) (t : List UInt8) (v : Nat), o = .error e ∧ e ≠ 0 ∧ x = .tup [tokA k t v 0, .i e])
theorem POut.ok {o : Except Nat (Nat × List UInt8 × Nat)} {kk vv : Int} {t : List UInt8} (k v : Nat) (h : o = .ok (k, t, v)) (h1 : kk = k) (h2 : vv = v) : POut o (.tup [.agg [.i kk, .s (bs t), .i vv, .i 0], .i 0]) := .inl ⟨k, t, v, h, by rw [h1, h2]; rfl⟩
theorem POut.err {o : Except Nat (Nat × List UInt8 × Nat)} {kk vv ee : Int} {t : List UInt8} (e k v : Nat) (h : o = .error e) (he : e ≠ 0) (h0 : ee = e) (h1 : kk = k) (h2 : vv = v) : POut o (.tup [.agg [.i kk, .s (bs t), .i vv, .i 0], .i ee]) := .inr ⟨e, k, t, v, h, he, by rw [h0, h1, h2]; rfl⟩
def QOut (o : Except Nat (Nat × List UInt8 × Nat × Nat)) (a : Nat) (x : AV) : Prop :=
  (∃ k t v n, o = .ok (k, t, v, n) ∧ x = .tup [tokA k t v a, .i (n : Nat), .i 0]) ∨ (∃ (e k : Nat) (t : List UInt8) (v n b : Nat), o = .error e ∧ e ≠ 0 ∧ x = .tup [tokA k t v b, .i n, .i e])
theorem QOut.ok {o : Except Nat (Nat × List UInt8 × Nat × Nat)} {kk vv nn aa : Int} {a : Nat} {t : List UInt8} (k v n : Nat) (h : o = .ok (k, t, v, n)) (h1 : kk = k) (h2 : vv = v) (h3 : nn = n) (h4 : aa = a) : QOut o a (.tup [.agg [.i kk, .s (bs t), .i vv, .i aa], .i nn, .i 0]) := .inl ⟨k, t, v, n, h, by rw [h1, h2, h3, h4]⟩
theorem QOut.err {o : Except Nat (Nat × List UInt8 × Nat × Nat)} {a : Nat} {kk vv nn bb ee : Int} {t : List UInt8} (e k v n b : Nat) (h : o = .error e) (he : e ≠ 0) (h0 : ee = e) (h1 : kk = k) (h2 : vv = v) (h3 : nn = n) (h4 : bb = b) : QOut o a (.tup [.agg [.i kk, .s (bs t), .i vv, .i bb], .i nn, .i ee]) := .inr ⟨e, k, t, v, n, b, h, he, by rw [h0, h1, h2, h3, h4]⟩
theorem pre_all {p : UInt8 → Bool} {r : List UInt8} {k : Nat} (h : k < (r.take (pre p r)).length) : p ((r.take (pre p r)).getD k 0) = true := by
  have hm : (r.take (pre p r)) = r.takeWhile p := by
    unfold pre
    exact List.prefix_iff_eq_take.1 (List.takeWhile_prefix p) |>.symm
  rw [hm] at h ⊢
  rw [getD_lt h]
  exact List.all_eq_true.1 (List.all_takeWhile) _ (List.getElem_mem h)
theorem digs {r : List UInt8} {n : Nat} (e : n = pre isDigit r) : ∀ k, k < (r.take n).length → 48 ≤ ((r.take n).getD k 0).toNat ∧ ((r.take n).getD k 0).toNat ≤ 57 := by
  intro k hk
  subst e
  have := pre_all hk
  simpa [isDigit] using this
theorem wordT_glue {kd : Nat} {r : List UInt8} {n : Nat} (h1 : n < r.length) (h : isSmall (r.getD n 0) = true ∨ isGreat (r.getD n 0) = true) : wordT kd r n = .error 4 := by
  unfold wordT glue
  rw [if_pos]
  rcases h with h | h <;> simp only [h, h1] <;> simp
theorem noglue1 {r : List UInt8} {n : Nat} (h1 : ¬ isSmall (r.getD n 0) = true) (h : ¬ isGreat (r.getD n 0) = true) : glue r n = false := by
  unfold glue
  simp only [Bool.not_eq_true] at h1 h
  rw [h1, h]; simp
theorem noglue2 {r : List UInt8} {n : Nat} (h1 : r.length ≤ n) : glue r n = false := by
  unfold glue
  simp; omega
theorem wordT_2 {r : List UInt8} {n : Nat} (hg : glue r n = false) : wordT 2 r n = if isKnown (r.take n) = true then .ok (2, r.take n, 0) else .error 4 := by
  unfold wordT; rw [hg, if_neg (by simp), if_pos rfl]
theorem wordT_1 {r : List UInt8} {n : Nat} (hg : glue r n = false) : wordT 1 r n = if 16 < n then .error 2 else .ok (1, r.take n, 0) := by
  unfold wordT; rw [hg, if_neg (by simp), if_neg (by simp), if_pos rfl]
theorem wordT_3 {r : List UInt8} {n v : Nat} (hg : glue r n = false) (hv : num (r.take n) 0 = some v) : wordT 3 r n = .ok (3, [], v) := by
  unfold wordT; rw [hg, if_neg (by simp), if_neg (by simp), if_neg (by simp), hv]
theorem wordT_3n {r : List UInt8} {n : Nat} (hg : glue r n = false) (hv : num (r.take n) 0 = none) : wordT 3 r n = .error 7 := by
  unfold wordT; rw [hg, if_neg (by simp), if_neg (by simp), if_neg (by simp), hv]
end Go.Lex
namespace Go.Proofs.YtjopblbpnedjoaaGreatDoor
open Go Go.V Go.Lex
theorem t106' (l : List UInt8) (σ : Sg) (hl : l.length < 2 ^ 60) (hd : ∀ k, k < l.length → 48 ≤ (l.getD k 0).toNat ∧ (l.getD k 0).toNat ≤ 57) : VCalls Tryz.prog 192 [.s (bs l)] σ (fun x σ' => σ' = σ ∧ NOut (num l 0) x) :=
  (t106 l σ hl hd).mono fun x σ' h => ⟨h.2, by rw [h.1]; exact NOut_numR _⟩
theorem t77 (r : List UInt8) (n kd : Nat) (σ : Sg) (hl : r.length < 2 ^ 60) (hn : n ≤ r.length) (h0 : 0 < r.length) (hk : (kd = 2 ∧ isGreat (r.getD 0 0) = true) ∨ (kd = 1 ∧ isGreat (r.getD 0 0) = false ∧ isFirst (r.getD 0 0) = true) ∨ (kd = 3 ∧ isGreat (r.getD 0 0) = false ∧ isFirst (r.getD 0 0) = false ∧ n = pre isDigit r)) :
    VCalls Tryz.prog 105 [.s (bs r), .i n] σ (fun x σ' => POut (wordT kd r n) x ∧ σ' = σ) := by
  rcases hk with ⟨rfl, hg⟩ | ⟨rfl, hg, hf⟩ | ⟨rfl, hg, hf, hd⟩
  · (refine vfun (fun _ => .no) mixed Tryz.func105 (by kernel_rfl) ?_; simp only [bodyOf, Tryz.f105, zp])
    repeat' (first | with_reducible rfl | exact .inr trivial | (with_reducible first | apply And.intro | apply vqx_step | apply vqm_step | refine vkp_free (by decide +kernel) ?_ | intro _) | ((first | (with_reducible first | refine .rs ?_ | refine .ds (by kernel_rfl) ?_ | refine .dg (by kernel_rfl) ?_ | refine .rg ?_ | refine .ite ?_ | refine .ret ?_ | refine .skip ?_ | refine .exit ?_ | refine .scope ?_ | refine .seq (.label ?_) | refine .block ?_ | refine .seq ?_) | (simp (disch := first | assumption | omega) only [w64, w8, tg_eq, n1, n2, nn, zj, zk, zl, zm, zn, zo]) | with_reducible refine (t73 _ _).use ?_ | with_reducible refine (t74 _ _).use ?_ | with_reducible refine (t105 _).use ?_ | with_reducible refine (t104 words _ _ _ (by decide)).use ?_); (try simp only [vO, vQ, ↓vP, vE, vS, vB, vL, vF, vM, vN, vbs_full, za, zb, zc, ne_eq, not_false_eq_true, zd, ze, zh, zi, Z9, Z5, Z3, Z24, Z84, Z87, info9, info84, info3, info24, hg, vT])) | (with_reducible first | refine vfresh_set ?_ | refine vfresh_intro (fun _ _ => ?_) | refine vif_intro (fun _ => ?_) (fun _ => ?_)) | omega | ((with_reducible first | refine vop_at ?_ | refine vops_at ?_ | refine vquiet_at ?_ | refine vmix_at ?_ | refine Holds_at ?_); simp only [vO, vQ, ↓vP, vE, vS, vB, vL, vF, vM, vN, vbs_full, za, zb, zc, ne_eq, not_false_eq_true, zd, ze, zh, zi, Z9, Z5, Z3, Z24, Z84, Z87, info9, info84, info3, info24, hg, vT]))
    all_goals first
      | exact ⟨σ, (by repeat (first | exact Sg.sub.refl _ | refine Sg.sub.set_both ?_ | refine Sg.sub.set_fresh ?_ (by first | assumption | exact Sg.set_none ‹_› ‹_›) | refine Sg.sub.del_fresh ?_ (by first | assumption | exact Sg.set_none ‹_› ‹_›))), .err 4 0 0 (wordT_glue (by omega) (.inr ‹_›)) (by decide) rfl rfl rfl, rfl⟩
      | exact ⟨σ, (by repeat (first | exact Sg.sub.refl _ | refine Sg.sub.set_both ?_ | refine Sg.sub.set_fresh ?_ (by first | assumption | exact Sg.set_none ‹_› ‹_›) | refine Sg.sub.del_fresh ?_ (by first | assumption | exact Sg.set_none ‹_› ‹_›))), .err 4 0 0 (wordT_glue (by omega) (.inl ‹_›)) (by decide) rfl rfl rfl, rfl⟩
      | (have hgl : glue r n = false := by first | exact noglue2 (by omega) | exact noglue1 ‹_› ‹_›
         first
           | exact ⟨σ, (by repeat (first | exact Sg.sub.refl _ | refine Sg.sub.set_both ?_ | refine Sg.sub.set_fresh ?_ (by first | assumption | exact Sg.set_none ‹_› ‹_›) | refine Sg.sub.del_fresh ?_ (by first | assumption | exact Sg.set_none ‹_› ‹_›))), .ok 2 0 (by rw [wordT_2 hgl, if_pos (by unfold isKnown; exact decide_eq_true ‹_›)]) rfl rfl, rfl⟩
           | exact ⟨σ, (by repeat (first | exact Sg.sub.refl _ | refine Sg.sub.set_both ?_ | refine Sg.sub.set_fresh ?_ (by first | assumption | exact Sg.set_none ‹_› ‹_›) | refine Sg.sub.del_fresh ?_ (by first | assumption | exact Sg.set_none ‹_› ‹_›))), .err 4 2 0 (by rw [wordT_2 hgl, if_neg (by unfold isKnown; rw [decide_eq_false ‹_›]; simp)]) (by decide) rfl rfl rfl, rfl⟩)
      | trace_state
  · (refine vfun (fun _ => .no) mixed Tryz.func105 (by kernel_rfl) ?_; simp only [bodyOf, Tryz.f105, zp])
    repeat' (first | with_reducible rfl | exact .inr trivial | (with_reducible first | apply And.intro | apply vqx_step | apply vqm_step | refine vkp_free (by decide +kernel) ?_ | intro _) | ((first | (with_reducible first | refine .rs ?_ | refine .ds (by kernel_rfl) ?_ | refine .dg (by kernel_rfl) ?_ | refine .rg ?_ | refine .ite ?_ | refine .ret ?_ | refine .skip ?_ | refine .exit ?_ | refine .scope ?_ | refine .seq (.label ?_) | refine .block ?_ | refine .seq ?_) | (simp (disch := first | assumption | omega) only [w64, w8, tg_eq, n1, n2, nn, zj, zk, zl, zm, zn, zo]) | with_reducible refine (t73 _ _).use ?_ | with_reducible refine (t74 _ _).use ?_ | with_reducible refine (t72 _ _).use ?_); (try simp only [vO, vQ, ↓vP, vE, vS, vB, vL, vF, vM, vN, vbs_full, za, zb, zc, ne_eq, not_false_eq_true, zd, ze, zh, zi, Z9, Z5, Z3, Z24, Z84, Z87, info9, info84, info3, info24, hg, hf, vT])) | (with_reducible first | refine vfresh_set ?_ | refine vfresh_intro (fun _ _ => ?_) | refine vif_intro (fun _ => ?_) (fun _ => ?_)) | omega | ((with_reducible first | refine vop_at ?_ | refine vops_at ?_ | refine vquiet_at ?_ | refine vmix_at ?_ | refine Holds_at ?_); simp only [vO, vQ, ↓vP, vE, vS, vB, vL, vF, vM, vN, vbs_full, za, zb, zc, ne_eq, not_false_eq_true, zd, ze, zh, zi, Z9, Z5, Z3, Z24, Z84, Z87, info9, info84, info3, info24, hg, hf, vT]))
    all_goals first
      | exact ⟨σ, (by repeat (first | exact Sg.sub.refl _ | refine Sg.sub.set_both ?_ | refine Sg.sub.set_fresh ?_ (by first | assumption | exact Sg.set_none ‹_› ‹_›) | refine Sg.sub.del_fresh ?_ (by first | assumption | exact Sg.set_none ‹_› ‹_›))), .err 4 0 0 (wordT_glue (by omega) (.inr ‹_›)) (by decide) rfl rfl rfl, rfl⟩
      | exact ⟨σ, (by repeat (first | exact Sg.sub.refl _ | refine Sg.sub.set_both ?_ | refine Sg.sub.set_fresh ?_ (by first | assumption | exact Sg.set_none ‹_› ‹_›) | refine Sg.sub.del_fresh ?_ (by first | assumption | exact Sg.set_none ‹_› ‹_›))), .err 4 0 0 (wordT_glue (by omega) (.inl ‹_›)) (by decide) rfl rfl rfl, rfl⟩
      | (have hgl : glue r n = false := by first | exact noglue2 (by omega) | exact noglue1 ‹_› ‹_›
         first
           | exact ⟨σ, (by repeat (first | exact Sg.sub.refl _ | refine Sg.sub.set_both ?_ | refine Sg.sub.set_fresh ?_ (by first | assumption | exact Sg.set_none ‹_› ‹_›) | refine Sg.sub.del_fresh ?_ (by first | assumption | exact Sg.set_none ‹_› ‹_›))), .ok 1 0 (by rw [wordT_1 hgl, if_neg (by omega)]) rfl rfl, rfl⟩
           | exact ⟨σ, (by repeat (first | exact Sg.sub.refl _ | refine Sg.sub.set_both ?_ | refine Sg.sub.set_fresh ?_ (by first | assumption | exact Sg.set_none ‹_› ‹_›) | refine Sg.sub.del_fresh ?_ (by first | assumption | exact Sg.set_none ‹_› ‹_›))), .err 2 1 0 (by rw [wordT_1 hgl, if_pos (by omega)]) (by decide) rfl rfl rfl, rfl⟩)
      | trace_state
  · (refine vfun (fun _ => .no) mixed Tryz.func105 (by kernel_rfl) ?_; simp only [bodyOf, Tryz.f105, zp])
    repeat' (first | with_reducible rfl | exact .inr trivial | (with_reducible first | apply And.intro | apply vqx_step | apply vqm_step | refine vkp_free (by decide +kernel) ?_ | intro _) | ((first | (with_reducible first | refine .rs ?_ | refine .ds (by kernel_rfl) ?_ | refine .dg (by kernel_rfl) ?_ | refine .rg ?_ | refine .ite ?_ | refine .ret ?_ | refine .skip ?_ | refine .exit ?_ | refine .scope ?_ | refine .seq (.label ?_) | refine .block ?_ | refine .seq ?_) | (simp (disch := first | assumption | omega) only [w64, w8, tg_eq, n1, n2, nn, zj, zk, zl, zm, zn, zo]) | with_reducible refine (t73 _ _).use ?_ | with_reducible refine (t74 _ _).use ?_ | with_reducible refine (t72 _ _).use ?_ | ((with_reducible refine (t106' _ _ (by simp; omega) (digs hd)).mono ?_); rintro x σ' ⟨rfl, ⟨v, hv, rfl⟩ | ⟨hv, rfl⟩⟩)); (try simp only [vO, vQ, ↓vP, vE, vS, vB, vL, vF, vM, vN, vbs_full, za, zb, zc, ne_eq, not_false_eq_true, zd, ze, zh, zi, Z9, Z5, Z3, Z24, Z84, Z87, info9, info84, info3, info24, hg, hf, vT])) | (with_reducible first | refine vfresh_set ?_ | refine vfresh_intro (fun _ _ => ?_) | refine vif_intro (fun _ => ?_) (fun _ => ?_)) | omega | ((with_reducible first | refine vop_at ?_ | refine vops_at ?_ | refine vquiet_at ?_ | refine vmix_at ?_ | refine Holds_at ?_); simp only [vO, vQ, ↓vP, vE, vS, vB, vL, vF, vM, vN, vbs_full, za, zb, zc, ne_eq, not_false_eq_true, zd, ze, zh, zi, Z9, Z5, Z3, Z24, Z84, Z87, info9, info84, info3, info24, hg, hf, vT]))
    all_goals first
      | exact ⟨σ, (by repeat (first | exact Sg.sub.refl _ | refine Sg.sub.set_both ?_ | refine Sg.sub.set_fresh ?_ (by first | assumption | exact Sg.set_none ‹_› ‹_›) | refine Sg.sub.del_fresh ?_ (by first | assumption | exact Sg.set_none ‹_› ‹_›))), .err 4 0 0 (wordT_glue (by omega) (.inr ‹_›)) (by decide) rfl rfl rfl, rfl⟩
      | exact ⟨σ, (by repeat (first | exact Sg.sub.refl _ | refine Sg.sub.set_both ?_ | refine Sg.sub.set_fresh ?_ (by first | assumption | exact Sg.set_none ‹_› ‹_›) | refine Sg.sub.del_fresh ?_ (by first | assumption | exact Sg.set_none ‹_› ‹_›))), .err 4 0 0 (wordT_glue (by omega) (.inl ‹_›)) (by decide) rfl rfl rfl, rfl⟩
      | (have hgl : glue r n = false := by first | exact noglue2 (by omega) | exact noglue1 ‹_› ‹_›
         first
           | exact ⟨σ, (by repeat (first | exact Sg.sub.refl _ | refine Sg.sub.set_both ?_ | refine Sg.sub.set_fresh ?_ (by first | assumption | exact Sg.set_none ‹_› ‹_›) | refine Sg.sub.del_fresh ?_ (by first | assumption | exact Sg.set_none ‹_› ‹_›))), .ok 3 _ (wordT_3 hgl hv) rfl rfl, rfl⟩
           | exact ⟨σ, (by repeat (first | exact Sg.sub.refl _ | refine Sg.sub.set_both ?_ | refine Sg.sub.set_fresh ?_ (by first | assumption | exact Sg.set_none ‹_› ‹_›) | refine Sg.sub.del_fresh ?_ (by first | assumption | exact Sg.set_none ‹_› ‹_›))), .err 7 3 0 (wordT_3n hgl hv) (by decide) rfl rfl rfl, rfl⟩)
      | trace_state
end Go.Proofs.YtjopblbpnedjoaaGreatDoor

set_option linter.unusedSimpArgs false
namespace Go.Lex
open Go.V Go.Proofs.YtjopblbpnedjoaaGreatDoor
def qd : List UInt8 → Option (List UInt8 × Nat)
  | [] => none
  | [c] => if c = 39 then some ([], 1) else none
  | c :: d :: r => if c = 39 then (if d = 39 then (qd r).map (fun p => (39 :: p.1, 2 + p.2)) else some ([], 1)) else (qd (d :: r)).map (fun p => (c :: p.1, 1 + p.2))
def qa (acc : List UInt8) (m : Nat) (o : Option (List UInt8 × Nat)) : Option (List UInt8 × Nat) := o.map (fun p => (acc ++ p.1, m + p.2))
theorem qa_qa (a b : List UInt8) (m n : Nat) (o : Option (List UInt8 × Nat)) : qa a m (qa b n o) = qa (a ++ b) (m + n) o := by
  cases o with
  | none => rfl
  | some p => simp [qa, Nat.add_assoc]
theorem qa_zero (o : Option (List UInt8 × Nat)) : qa [] 0 o = o := by
  cases o with
  | none => rfl
  | some p => simp [qa]
theorem qa_none (a : List UInt8) (m : Nat) : qa a m none = none := rfl
theorem qd_other {c : UInt8} {r : List UInt8} (h : c ≠ 39) : qd (c :: r) = qa [c] 1 (qd r) := by
  cases r with
  | nil => simp [qd, h, qa]
  | cons d r => simp [qd, h, qa]
theorem qd_two (r : List UInt8) : qd (39 :: 39 :: r) = qa [39] 2 (qd r) := by simp [qd, qa]
theorem qd_close {r : List UInt8} (h : ∀ d r', r = d :: r' → d ≠ 39) : qd (39 :: r) = some ([], 1) := by
  cases r with
  | nil => rfl
  | cons d r => simp [qd, h d r rfl]
theorem qd_upTo (m : List UInt8) : qd m = qa (m.take (upTo 39 m)) (upTo 39 m) (qd (m.drop (upTo 39 m))) := by
  induction m with
  | nil => rfl
  | cons c r ih =>
    by_cases h : c = 39
    · subst h
      have : upTo 39 (39 :: r) = 0 := by simp [upTo]
      rw [this]; simp [qa_zero]
    · have : upTo 39 (c :: r) = upTo 39 r + 1 := by simp [upTo, h]
      rw [this, qd_other h, List.take_succ_cons, List.drop_succ_cons]
      conv => lhs; rw [ih]
      rw [qa_qa, Nat.add_comm 1]
      rfl
theorem upTo_le (c : UInt8) (m : List UInt8) : upTo c m ≤ m.length := (List.takeWhile_prefix _).length_le
theorem upTo_at (c : UInt8) (m : List UInt8) (h : upTo c m < m.length) : m.getD (upTo c m) 0 = c := by
  induction m with
  | nil => simp at h
  | cons d r ih =>
    by_cases e : d = c
    · subst e
      have : upTo d (d :: r) = 0 := by simp [upTo]
      rw [this]; rfl
    · have h1 : upTo c (d :: r) = upTo c r + 1 := by simp [upTo, e]
      rw [h1] at h ⊢
      have := ih (by simpa using h)
      simpa using this
theorem eq39 (c : UInt8) : c = 39 ↔ c.toNat = 39 := ⟨fun h => by rw [h]; rfl, fun h => UInt8.toNat_inj.1 h⟩
theorem qd_at2 {l : List UInt8} {k : Nat} (h : k + 1 < l.length) (hc : (l.getD k 0).toNat = 39) (hd : (l.getD (k + 1) 0).toNat = 39) : qd (l.drop k) = qa [39] 2 (qd (l.drop (k + 2))) := by
  rw [List.drop_eq_getElem_cons (by omega), ← getD_lt (by omega), List.drop_eq_getElem_cons h, ← getD_lt h, (eq39 _).2 hc, (eq39 _).2 hd]
  exact qd_two _
theorem qd_at1 {l : List UInt8} {k : Nat} (h : k < l.length) (hc : (l.getD k 0).toNat = 39) (hd : k + 1 < l.length → (l.getD (k + 1) 0).toNat ≠ 39) : qd (l.drop k) = some ([], 1) := by
  rw [List.drop_eq_getElem_cons h, ← getD_lt h, (eq39 _).2 hc]
  refine qd_close (fun d r' e => ?_)
  have hlt : k + 1 < l.length := by
    have := congrArg List.length e
    simp at this
    omega
  rw [List.drop_eq_getElem_cons hlt, ← getD_lt hlt] at e
  injection e with e1 e2
  subst e1
  exact fun e => hd hlt ((eq39 _).1 e)
theorem qd_end {l : List UInt8} {k : Nat} (h : l.length ≤ k) : qd (l.drop k) = none := by rw [List.drop_of_length_le h]; rfl
def quotedT (r : List UInt8) : Except Nat (Nat × List UInt8 × Nat × Nat) :=
  match qd (r.drop 1) with
  | none => .error 3
  | some (t, n) => if 40 < t.length then .error 2 else .ok (4, t, 0, 1 + n)
theorem quotedT_none {r : List UInt8} (h : qd (r.drop 1) = none) : quotedT r = .error 3 := by unfold quotedT; rw [h]
theorem quotedT_long {r t : List UInt8} {n : Nat} (h : qd (r.drop 1) = some (t, n)) (h' : 40 < t.length) : quotedT r = .error 2 := by unfold quotedT; rw [h]; exact if_pos h'
theorem quotedT_ok {r t : List UInt8} {n : Nat} (h : qd (r.drop 1) = some (t, n)) (h' : ¬ 40 < t.length) : quotedT r = .ok (4, t, 0, 1 + n) := by unfold quotedT; rw [h]; exact if_neg h'
theorem pre39 {l : List UInt8} {k : Nat} : hasPre [39] (l.drop k) = true ↔ k < l.length ∧ (l.getD k 0).toNat = 39 := by
  by_cases h : k < l.length
  · rw [List.drop_eq_getElem_cons h, ← getD_lt h]
    have h1 : ∀ (c : UInt8) (m : List UInt8), (List.take 1 (c :: m) = [39]) ↔ c.toNat = 39 := fun c m => by simp [eq39]
    simp only [hasPre, List.length_cons, List.length_nil, Nat.zero_add, decide_eq_true_eq, h1, h, true_and]
  · rw [List.drop_of_length_le (by omega)]
    simp [hasPre]; omega
end Go.Lex
namespace Go.Proofs.YtjopblbpnedjoaaGreatDoor
open Go Go.V Go.Lex
theorem Bld.get {β : Nat} {acc : List UInt8} {σ S : Sg} (hb : Bld β acc σ S) {x : Nat} {o : Ob} (h : σ x = some o) : S x = some o := by
  obtain ⟨h0, ⟨rfl, rfl⟩ | ⟨τ, hτ, hτ0, rfl⟩⟩ := hb
  all_goals
    have e1 : x ≠ β := fun e => by rw [e, h0] at h; cases h
    simp only [Sg.set, if_neg e1]
  · exact h
  · rw [if_neg (fun e => by rw [e, hτ0] at h; cases h)]; exact h
theorem Bld.sub {β : Nat} {acc : List UInt8} {σ S : Sg} (hb : Bld β acc σ S) : σ.sub S := fun _ _ h => hb.get h
theorem Bld.sub' {β x : Nat} {acc : List UInt8} {σ S : Sg} {o : Ob} (hb : Bld β acc (σ.set x o) S) (hx : σ x = none) : σ.sub S := fun _ _ h => hb.sub _ _ (Sg.sub_set hx o _ _ h)
theorem t101q (β : Nat) (acc : List UInt8) (σ S : Sg) (hb : Bld β acc σ S) (hl : acc.length < 2 ^ 40) : VCalls Tryz.prog 188 [.ref β 0, .u8 39] S (fun x σ' => x = .val .nilIface ∧ Bld β (acc ++ [39]) σ σ') := t101 β acc 39 σ S hb hl
theorem t99q (l : List UInt8) (σ : Sg) : VCalls Tryz.prog 187 [.s (bs l), .u8 39] σ (fun x σ' => x = .i (if upTo 39 l < l.length then (upTo 39 l : Nat) else -1) ∧ σ' = σ) := t99 l 39 σ
theorem t71 (r : List UInt8) (σ : Sg) (hl : r.length < 2 ^ 30) (h0 : 0 < r.length) : VCalls Tryz.prog 99 [.s (bs r)] σ (fun x σ' => QOut (quotedT r) 0 x ∧ σ' = σ) := by
  (refine vfun (fun _ => .no) mixed Tryz.func99 (by kernel_rfl) ?_; simp only [bodyOf, Tryz.f99, zp])
  repeat' (first | with_reducible rfl | exact .inr trivial | (with_reducible first | apply And.intro | apply vqx_step | apply vqm_step | refine vkp_free (by decide +kernel) ?_ | intro _) | ((first | (with_reducible first | refine .rs ?_ | refine .ds (by kernel_rfl) ?_ | refine .dg (by kernel_rfl) ?_ | refine .rg ?_ | refine .ite ?_ | refine .ret ?_ | refine .skip ?_ | refine .exit ?_ | refine .scope ?_ | refine .seq (.label ?_) | refine .block ?_ | refine .seq ?_) | (simp (disch := first | assumption | omega) only [w64, w8, tg_eq, n1, n2, nn, zj, zk, zl, zm, zn, zo])); (try simp only [vO, vQ, ↓vP, vE, vS, vB, vL, vF, vM, vN, vbs_full, za, zb, zc, ne_eq, not_false_eq_true, zd, ze, zh, zi, Z9, Z5, Z3, Z24, Z84, info9, info84, info3, info24, info156, Z156, vT])) | (with_reducible first | refine vfresh_set ?_ | refine vfresh_intro (fun _ _ => ?_) | refine vif_intro (fun _ => ?_) (fun _ => ?_)) | omega | ((with_reducible first | refine vop_at ?_ | refine vops_at ?_ | refine vquiet_at ?_ | refine vmix_at ?_ | refine Holds_at ?_); simp only [vO, vQ, ↓vP, vE, vS, vB, vL, vF, vM, vN, vbs_full, za, zb, zc, ne_eq, not_false_eq_true, zd, ze, zh, zi, Z9, Z5, Z3, Z24, Z84, info9, info84, info3, info24, info156, Z156, vT]))
  rename_i x hx b hb hne
  refine VW.loop3 (1 : Nat) ([] : List UInt8) _ (fun k acc S => 1 ≤ k ∧ k ≤ r.length ∧ acc.length ≤ k ∧ qd (r.drop 1) = qa acc (k - 1) (qd (r.drop k)) ∧ Bld b acc (σ.set x (.cells 84 [.i 0, .s (bs []), .i 0, .i 0])) S) (fun k _ S => [(0, .s (bs r)), (2, .ref x 0), (5, .ref b 0), (6, .i k)]) (fun _ _ S => S) (fun k _ _ => r.length - k) ⟨by omega, by omega, by simp, by rw [qa_zero], ⟨by rw [Sg.set_other _ _ hne]; exact hb, .inl ⟨rfl, rfl⟩⟩⟩ (.refl _) ?_ (fun k acc S ⟨h1, h2, h3, h4, hB⟩ => have hS : S x = some (.cells 84 [.i 0, .s (bs []), .i 0, .i 0]) := hB.get (zk _ _ _); ?_)
  · simp only [vO, vQ, ↓vP, vE, vS, vB, vL, vF, vM, vN, vbs_full, za, zb, zc, ne_eq, not_false_eq_true, zd, ze, zh, zi, vT]
    trivial
  have hu := qd_upTo (r.drop k)
  have hul := upTo_le 39 (r.drop k)
  have hua := upTo_at 39 (r.drop k)
  have ht : VCalls Tryz.prog 187 [.s (bs (r.drop k)), .u8 39] S (fun x σ' => x = .i (if upTo 39 (r.drop k) < r.length - k then (upTo 39 (r.drop k) : Nat) else -1) ∧ σ' = S) := by
    have := t99q (r.drop k) S
    rw [List.length_drop] at this
    exact this
  simp only [List.length_drop, List.drop_drop, List.getD_eq_getElem?_getD, List.getElem?_drop] at hu hul hua
  rw [hu, qa_qa] at h4
  generalize upTo 39 (r.drop k) = m at *
  have tp : ∀ (l : List UInt8), VCalls Tryz.prog 96 [.s (bs l), .s (bs [39])] S (fun x σ' => x = .b (hasPre [39] l) ∧ σ' = S) := fun l => t68 l [39] S
  rcases Nat.lt_or_ge m (r.length - k) with hm | hm
  · simp only [if_pos hm] at ht
    have hc : ∀ m', (r.drop k).take m = (r.take (k + m)).drop k ∧ (m' = k + (m + 1) → k + m + 1 = m') := fun m' => ⟨by rw [List.drop_take]; congr 1; omega, by omega⟩
    have hat : (r.getD (k + m) 0).toNat = 39 := by rw [List.getD_eq_getElem?_getD, hua hm]; rfl
    have hlen : (acc ++ (r.take (k + m)).drop k).length ≤ k + m := by simp; omega
    rw [(hc 0).1] at h4
    clear hc hu
    repeat' (first | with_reducible rfl | exact .inr trivial | (with_reducible first | apply And.intro | apply vqx_step | apply vqm_step | refine vkp_free (by decide +kernel) ?_ | intro _) | ((first | (with_reducible first | refine .rs ?_ | refine .ds (by kernel_rfl) ?_ | refine .dg (by kernel_rfl) ?_ | refine .rg ?_ | refine .ite ?_ | refine .ret ?_ | refine .skip ?_ | refine .exit ?_ | refine .scope ?_ | refine .seq (.label ?_) | refine .block ?_ | refine .seq ?_) | (simp (disch := first | assumption | omega) only [w64, w8, tg_eq, n1, n2, nn, zj, zk, zl, zm, zn, zo]) | with_reducible refine ht.use ?_ | with_reducible refine (t68 _ _ _).use ?_ | with_reducible refine (t102 _ _ _ _ hB).use ?_ | with_reducible refine (t103 _ _ _ _ hB (by first | assumption | omega)).use ?_ | ((with_reducible refine (t100 _ _ _ _ _ hB (by simp; omega)).mono ?_); rintro y S' ⟨rfl, hB⟩; have hS := hB.get (zk _ _ _)) | ((with_reducible refine (t101q _ _ _ _ hB (by omega)).mono ?_); rintro y S' ⟨rfl, hB⟩; have hS := hB.get (zk _ _ _))); (try simp only [vO, vQ, ↓vP, vE, vS, vB, vL, vF, vM, vN, vbs_full, za, zb, zc, ne_eq, not_false_eq_true, zd, ze, zh, zi, Z9, Z5, Z3, Z24, Z84, info9, info84, info3, info24, info156, Z156, hS, nadd, nadd1, nadd2, nadd3, n1add, n2add, vT])) | (with_reducible first | refine vfresh_set ?_ | refine vfresh_intro (fun _ _ => ?_) | refine vif_intro (fun _ => ?_) (fun _ => ?_)) | omega | ((with_reducible first | refine vop_at ?_ | refine vops_at ?_ | refine vquiet_at ?_ | refine vmix_at ?_ | refine Holds_at ?_); simp only [vO, vQ, ↓vP, vE, vS, vB, vL, vF, vM, vN, vbs_full, za, zb, zc, ne_eq, not_false_eq_true, zd, ze, zh, zi, Z9, Z5, Z3, Z24, Z84, info9, info84, info3, info24, info156, Z156, hS, nadd, nadd1, nadd2, nadd3, n1add, n2add, vT]))
    all_goals first
      | (have hp := pre39.1 ‹_›
         have h5 := qd_at2 (l := r) (k := k + m) (by omega) hat (by rw [show k + m + 1 = k + (m + 1) from rfl]; exact hp.2)
         rw [h5, qa_qa] at h4
         exact ⟨k + (m + 1) + 1, _, S', ⟨⟨by omega, by omega, by simp at hlen ⊢; omega, by rw [h4, show k - 1 + m + 2 = k + (m + 1) + 1 - 1 by omega, show k + m + 2 = k + (m + 1) + 1 by omega], hB⟩, by omega⟩, .refl _, rfl⟩)
      | (have h5 := qd_at1 (l := r) (k := k + m) (by omega) hat (fun h6 h7 => absurd (pre39.2 ⟨h6, h7⟩) (by assumption))
         rw [h5] at h4
         have h6 : qd (r.drop 1) = some (acc ++ (r.take (k + m)).drop k, k - 1 + m + 1) := by rw [h4]; simp [qa]
         first
           | exact ⟨σ, (by repeat (first | exact Sg.sub.refl _ | exact hB.sub' hx | refine Sg.sub.set_both ?_ | refine Sg.sub.set_fresh ?_ (by first | assumption | exact Sg.set_none ‹_› ‹_›) | refine Sg.sub.del_fresh ?_ (by first | assumption | exact Sg.set_none ‹_› ‹_›))), .err 2 0 0 0 0 (quotedT_long h6 (by omega)) (by decide) rfl rfl rfl rfl rfl, rfl⟩
           | exact ⟨σ, (by repeat (first | exact Sg.sub.refl _ | exact hB.sub' hx | refine Sg.sub.set_both ?_ | refine Sg.sub.set_fresh ?_ (by first | assumption | exact Sg.set_none ‹_› ‹_›) | refine Sg.sub.del_fresh ?_ (by first | assumption | exact Sg.set_none ‹_› ‹_›))), .ok 4 0 _ (quotedT_ok h6 (by omega)) rfl rfl (by omega) rfl, rfl⟩)
      | trace_state
  · simp only [if_neg (Nat.not_lt.2 hm)] at ht
    repeat' (first | with_reducible rfl | exact .inr trivial | (with_reducible first | apply And.intro | apply vqx_step | apply vqm_step | refine vkp_free (by decide +kernel) ?_ | intro _) | ((first | (with_reducible first | refine .rs ?_ | refine .ds (by kernel_rfl) ?_ | refine .dg (by kernel_rfl) ?_ | refine .rg ?_ | refine .ite ?_ | refine .ret ?_ | refine .skip ?_ | refine .exit ?_ | refine .scope ?_ | refine .seq (.label ?_) | refine .block ?_ | refine .seq ?_) | (simp (disch := first | assumption | omega) only [w64, w8, tg_eq, n1, n2, nn, zj, zk, zl, zm, zn, zo]) | with_reducible refine ht.use ?_); (try simp only [vO, vQ, ↓vP, vE, vS, vB, vL, vF, vM, vN, vbs_full, za, zb, zc, ne_eq, not_false_eq_true, zd, ze, zh, zi, Z9, Z5, Z3, Z24, Z84, info9, info84, info3, info24, info156, Z156, hS, vT])) | (with_reducible first | refine vfresh_set ?_ | refine vfresh_intro (fun _ _ => ?_) | refine vif_intro (fun _ => ?_) (fun _ => ?_)) | omega | ((with_reducible first | refine vop_at ?_ | refine vops_at ?_ | refine vquiet_at ?_ | refine vmix_at ?_ | refine Holds_at ?_); simp only [vO, vQ, ↓vP, vE, vS, vB, vL, vF, vM, vN, vbs_full, za, zb, zc, ne_eq, not_false_eq_true, zd, ze, zh, zi, Z9, Z5, Z3, Z24, Z84, info9, info84, info3, info24, info156, Z156, hS, vT]))
    have h5 := qd_end (l := r) (k := k + m) (by omega)
    rw [h5, qa_none] at h4
    all_goals exact ⟨σ, (by repeat (first | exact Sg.sub.refl _ | exact hB.sub' hx | refine Sg.sub.set_both ?_ | refine Sg.sub.set_fresh ?_ (by first | assumption | exact Sg.set_none ‹_› ‹_›) | refine Sg.sub.del_fresh ?_ (by first | assumption | exact Sg.set_none ‹_› ‹_›))), .err 3 0 0 0 0 (quotedT_none h4) (by decide) rfl rfl rfl rfl rfl, rfl⟩
end Go.Proofs.YtjopblbpnedjoaaGreatDoor

set_option linter.unusedSimpArgs false
namespace Go.V
end Go.V
namespace Go.Proofs.YtjopblbpnedjoaaGreatDoor
open Go Go.V Go.Lex
end Go.Proofs.YtjopblbpnedjoaaGreatDoor
