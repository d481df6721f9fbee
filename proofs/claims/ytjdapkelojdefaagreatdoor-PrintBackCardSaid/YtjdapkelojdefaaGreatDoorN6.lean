/- Part 6 of the proof: K2, K4, T, K5, K6, K7, K8, K9, K10, K11, K12, K13, K14, K15, K16, B1. -/
import Derived.Test.YtjdapkelojdefaaGreatDoorN5
import Derived.Test.YtjdapkelojdefaaGreatDoorN4
import Derived.Test.YtjdapkelojdefaaGreatDoorProg
import Derived.Test.YtjdapkelojdefaaGreatDoorN3

set_option linter.all false
set_option maxRecDepth 100000
set_option maxHeartbeats 1000000
open Nat renaming reduceEqDiff → zb, reduceAdd → zd, reduceLeDiff → ze, reduceMul → zf, reduceSub → zg
open Int renaming toNat_zero → zk, reduceToNat → zl, tdiv_eq_ediv_of_nonneg → zm
open Go.V.Sg renaming set_same → zn
open Option renaming getD_some → zw
open Go.Proofs.Tryz renaming underlying3 → Z3, underlying5 → Z5, underlying9 → Z9, underlying30 → Z30, underlying75 → Z75, underlying102 → Z102, underlying149 → Z149, underlying152 → Z152
namespace Go.Proofs.YtjdapkelojdefaaGreatDoor
open Go Go.V Go.Lex
theorem Q0h : Tryz.prog.follows .mixedOrders = true := by kernel_rfl
theorem t72 (c : UInt8) (σ : Sg) : VCalls Tryz.prog 99 [.u8 c.toNat] σ (fun x σ' => x = .b (Q2g c) ∧ σ' = σ) := by
  (refine vfun (fun _ => .no) Q0h Tryz.func99 (by kernel_rfl) ?_; simp only [Q0f, Tryz.f99, zw])
  (have zz := Bx.mk Z5; (repeat' (first | exact zc | (with_reducible first | apply And.intro | apply Q0a | apply Q0b | refine Q0c (by decide +kernel) ?_ | intro _) | refine za zz.out ?_ | refine zo ?_ | omega | refine zt zz.out ?_ | fail)); try (all_goals clear zz))
  all_goals exact ⟨σ, .refl σ, b_eq (by simp [Q2g]; omega), rfl⟩
theorem t74 (c : UInt8) (σ : Sg) : VCalls Tryz.prog 131 [.u8 c.toNat] σ (fun x σ' => x = .b (Q1j c) ∧ σ' = σ) := by
  (refine vfun (fun _ => .no) Q0h Tryz.func131 (by kernel_rfl) ?_; simp only [Q0f, Tryz.f131, zw])
  (have zz := Bx.mk Z5; (repeat' (first | exact zc | (with_reducible first | apply And.intro | apply Q0a | apply Q0b | refine Q0c (by decide +kernel) ?_ | intro _) | refine za zz.out ?_ | refine zo ?_ | omega | refine zt zz.out ?_ | fail)); try (all_goals clear zz))
  all_goals exact ⟨σ, .refl σ, b_eq (by simp [Q1j]; omega), rfl⟩
theorem t75 (c : UInt8) (σ : Sg) : VCalls Tryz.prog 132 [.u8 c.toNat] σ (fun x σ' => x = .b (Q1z c) ∧ σ' = σ) := by
  (refine vfun (fun _ => .no) Q0h Tryz.func132 (by kernel_rfl) ?_; simp only [Q0f, Tryz.f132, zw])
  (have zz := Bx.mk Z5; (repeat' (first | exact zc | (with_reducible first | apply And.intro | apply Q0a | apply Q0b | refine Q0c (by decide +kernel) ?_ | intro _) | refine za zz.out ?_ | refine zo ?_ | omega | refine zt zz.out ?_ | fail)); try (all_goals clear zz))
  all_goals exact ⟨σ, .refl σ, b_eq (by simp [Q1z]; omega), rfl⟩
theorem t73 (c : UInt8) (σ : Sg) : VCalls Tryz.prog 101 [.u8 c.toNat] σ (fun x σ' => x = .b (Q3h c) ∧ σ' = σ) := by
  (refine vfun (fun _ => .no) Q0h Tryz.func101 (by kernel_rfl) ?_; simp only [Q0f, Tryz.f101, zw])
  (have zz := Bx.mk Z5; (repeat' (first | exact zc | (with_reducible first | apply And.intro | apply Q0a | apply Q0b | refine Q0c (by decide +kernel) ?_ | intro _) | refine za zz.out ?_ | ((first | with_reducible refine (t72 c σ).use ?_ | with_reducible refine (t75 c σ).use ?_); (try refine zs zz.out ?_)) | refine zo ?_ | omega | refine zt zz.out ?_ | fail)); try (all_goals clear zz))
  all_goals exact ⟨σ, .refl σ, b_eq (by simp_all [Q3h]), rfl⟩
theorem bne_iff (c : UInt8) : (c != 10) = true ↔ c.toNat ≠ 10 := by
  have : (c = 10) ↔ c.toNat = 10 := ⟨fun h => by rw [h]; rfl, fun h => UInt8.toNat_inj.1 h⟩
  simp [this]
theorem t70 (c : UInt8) (σ : Sg) : VCalls Tryz.prog 129 [.u8 c.toNat] σ (fun x σ' => x = .b (c != 10) ∧ σ' = σ) := by
  (refine vfun (fun _ => .no) Q0h Tryz.func129 (by kernel_rfl) ?_; simp only [Q0f, Tryz.f129, zw])
  (have zz := Bx.mk Z5; (repeat' (first | exact zc | (with_reducible first | apply And.intro | apply Q0a | apply Q0b | refine Q0c (by decide +kernel) ?_ | intro _) | refine za zz.out ?_ | refine zo ?_ | omega | refine zt zz.out ?_ | fail)); try (all_goals clear zz))
  all_goals exact ⟨σ, .refl σ, b_eq (by rw [bne_iff]; simp; omega), rfl⟩
theorem t98 (l m : List UInt8) (σ : Sg) : VCalls Tryz.prog 161 [.s (bs l), .s (bs m)] σ (fun x σ' => x = .b (Q1m m l) ∧ σ' = σ) := by
  (refine vfun (fun _ => .no) Q0h Tryz.func161 (by kernel_rfl) ?_; simp only [Q0f, Tryz.f161, zw])
  (have zz := Bx.mk Z9; (repeat' (first | exact zc | (with_reducible first | apply And.intro | apply Q0a | apply Q0b | refine Q0c (by decide +kernel) ?_ | intro _) | refine za zz.out ?_ | refine zo ?_ | omega | refine zt zz.out ?_ | fail)); try (all_goals clear zz))
  all_goals first | exact ⟨σ, .refl σ, b_eq (by rw [Q8d (by omega)]), rfl⟩ | exact ⟨σ, .refl σ, b_eq (by simp [Q1m]), rfl⟩
theorem t68 (l m : List UInt8) (σ : Sg) : VCalls Tryz.prog 128 [.s (bs l), .s (bs m)] σ (fun x σ' => x = .b (Q1m m l) ∧ σ' = σ) := by
  (refine vfun (fun _ => .no) Q0h Tryz.func128 (by kernel_rfl) ?_; simp only [Q0f, Tryz.f128, zw])
  (have zz := Bx.mk Z9; (repeat' (first | exact zc | (with_reducible first | apply And.intro | apply Q0a | apply Q0b | refine Q0c (by decide +kernel) ?_ | intro _) | refine za zz.out ?_ | (with_reducible refine (t98 l m σ).use ?_; (try refine zs zz.out ?_)) | refine zo ?_ | omega | refine zt zz.out ?_ | fail)); try (all_goals clear zz))
  all_goals exact ⟨σ, .refl σ, by simp⟩
theorem t69 (l : List UInt8) (g : FuncId) (cap : List AV) (p : UInt8 → Bool) (σ : Sg) (hl : l.length < 2 ^ 60)
    (hp : ∀ (c : UInt8), VCalls Tryz.prog g (AV.u8 c.toNat :: cap) σ (fun x σ' => x = .b (p c) ∧ σ' = σ)) :
    VCalls Tryz.prog 100 [.s (bs l), .fn g cap] σ (fun x σ' => x = .i (pre p l) ∧ σ' = σ) := by
  (refine vfun (fun _ => .no) Q0h Tryz.func100 (by kernel_rfl) ?_; simp only [Q0f, Tryz.f100, zw])
  repeat ((first | (with_reducible first | refine .rs ?_ | refine .ds (by kernel_rfl) ?_ | refine .dg (by kernel_rfl) ?_ | refine .rg ?_ | refine .ite ?_ | refine .ret ?_ | refine .skip ?_ | refine .exit ?_ | refine .scope ?_ | refine .seq (.label ?_) | refine .block ?_ | refine .seq ?_)); (try simp only [vO, vQ, ↓vP, vE, vS, vB, vL, vF, vM, vN, Q0g, zb, zd, ze, ne_eq, not_false_eq_true, zf, zg, zk, zl, vT]))
  refine .loop (0 : Nat) (fun k => k ≤ l.length ∧ k + pre p (l.drop k) = pre p l) (fun k => [(0, .s (bs l)), (1, .fn g cap), (5, .i k)]) (fun _ => σ) (fun k => l.length - k) ⟨Nat.zero_le _, by simp⟩ (.refl _) (by simp only [vO, vQ, ↓vP, vE, vS, vB, vL, vF, vM, vN, Q0g, zb, zd, ze, ne_eq, not_false_eq_true, zf, zg, zk, zl]; trivial) ?_
  intro k ⟨hk, hpre⟩
  (have zz := Bx.mk Z9; (repeat' (first | exact zc | (with_reducible first | apply And.intro | apply Q0a | apply Q0b | refine Q0c (by decide +kernel) ?_ | intro _) | refine za zz.out ?_ | (with_reducible refine (hp _).use ?_; (try refine zs zz.out ?_)) | refine zo ?_ | omega | refine zt zz.out ?_ | fail)); try (all_goals clear zz))
  all_goals first
    | (have hk' : k < l.length := by omega
       have hst := X9u (p := p) (l := l) (k := k) hk'
       rw [if_pos (by assumption)] at hst
       (try simp (disch := omega) only [w64, w8, tg_eq, n1, n2, nn, zm])
       exact ⟨k + 1, ⟨⟨by omega, by omega⟩, by omega⟩, .refl _, by simp⟩)
    | (have hk' : k < l.length := by omega
       have hst := X9u (p := p) (l := l) (k := k) hk'
       rw [if_neg (by assumption)] at hst
       exact ⟨σ, .refl σ, i_eq (by omega), rfl⟩)
    | (have h0 : pre p (List.drop k l) = 0 := by rw [List.drop_of_length_le (by omega)]; rfl
       exact ⟨σ, .refl σ, i_eq (by omega), rfl⟩)
theorem t117 (l : List UInt8) (c : UInt8) (σ : Sg) : VCalls Tryz.prog 187 [.s (bs l), .u8 c.toNat] σ (fun x σ' => x = .i (if upTo c l < l.length then (upTo c l : Nat) else -1) ∧ σ' = σ) := by
  have := vIndexByte (P := Tryz.prog) (σ := σ) (s := bs l) (c := c) Tryz.func187 (by kernel_rfl) (by kernel_rfl) (by kernel_rfl) (by kernel_rfl)
  rw [Q7h, Q6g] at this
  exact this
theorem t114 (l : List UInt8) (c : UInt8) (σ : Sg) : VCalls Tryz.prog 179 [.s (bs l), .u8 c.toNat] σ (fun x σ' => x = .i (if upTo c l < l.length then (upTo c l : Nat) else -1) ∧ σ' = σ) := by
  (refine vfun (fun _ => .no) Q0h Tryz.func179 (by kernel_rfl) ?_; simp only [Q0f, Tryz.f179, zw])
  (have zz := Bx.mk Z9; (repeat' (first | exact zc | (with_reducible first | apply And.intro | apply Q0a | apply Q0b | refine Q0c (by decide +kernel) ?_ | intro _) | refine za zz.out ?_ | (with_reducible refine (t117 l c σ).use ?_; (try refine zs zz.out ?_)) | refine zo ?_ | omega | refine zt zz.out ?_ | fail)); try (all_goals clear zz))
  all_goals exact ⟨σ, .refl σ, by simp⟩
theorem t99 (l : List UInt8) (c : UInt8) (σ : Sg) : VCalls Tryz.prog 162 [.s (bs l), .u8 c.toNat] σ (fun x σ' => x = .i (if upTo c l < l.length then (upTo c l : Nat) else -1) ∧ σ' = σ) := by
  (refine vfun (fun _ => .no) Q0h Tryz.func162 (by kernel_rfl) ?_; simp only [Q0f, Tryz.f162, zw])
  (have zz := Bx.mk Z9; (repeat' (first | exact zc | (with_reducible first | apply And.intro | apply Q0a | apply Q0b | refine Q0c (by decide +kernel) ?_ | intro _) | refine za zz.out ?_ | (with_reducible refine (t114 l c σ).use ?_; (try refine zs zz.out ?_)) | refine zo ?_ | omega | refine zt zz.out ?_ | fail)); try (all_goals clear zz))
  all_goals exact ⟨σ, .refl σ, by simp⟩
theorem blanks_ws {l : List UInt8} {k : Nat} (h : k < l.length) (hw : ws (l.getD k 0) = true) : Q0t (l.drop k) = 1 + Q0t (l.drop (k + 1)) := by
  have h1 : Q8r (l.drop k) = 1 := by rw [X2z h, if_pos hw]
  rw [Q2q (by omega), h1, List.drop_drop]
theorem blanks_dd {l : List UInt8} {k : Nat} (h : k < l.length) (hw : ws (l.getD k 0) = false) (hd : Q1m [45, 45] (l.drop k) = true) : Q0t (l.drop k) = pre (· != 10) (l.drop k) + Q0t (l.drop (k + pre (· != 10) (l.drop k))) := by
  have h1 : Q8r (l.drop k) = pre (· != 10) (l.drop k) := by rw [X2z h, hw, if_neg (by simp), if_pos hd]
  have h2 := (pre_dd hd).2
  rw [Q2q (by omega), h1, List.drop_drop]
theorem X8l {l : List UInt8} {k : Nat} (h : k < l.length) (hw : ws (l.getD k 0) = false) (hd : Q1m [45, 45] (l.drop k) = false) : Q0t (l.drop k) = 0 := by
  refine Q3n ?_
  rw [X2z h, hw, if_neg (by simp), hd, if_neg (by simp)]
theorem blanks_len {l : List UInt8} {k : Nat} (h : l.length ≤ k) : Q0t (l.drop k) = 0 := by
  rw [List.drop_of_length_le h]
  exact Q3n rfl
theorem no_dd {l : List UInt8} {k : Nat} (h : k < l.length) (hn : (l.getD k 0).toNat ≠ 45) : Q1m [45, 45] (l.drop k) = false := by
  cases hh : Q1m [45, 45] (l.drop k) with
  | false => rfl
  | true =>
    have := (dd_iff _).1 hh
    rw [Q7i h] at hn
    rw [List.drop_eq_getElem_cons h] at this
    simp only [List.getElem?_cons_zero, Option.map_some, Option.some.injEq] at this
    exact absurd this.1 hn
theorem ws_no {c : UInt8} (h : ¬ (c.toNat = 9 ∨ c.toNat = 10 ∨ c.toNat = 13 ∨ c.toNat = 32)) : ws c = false := by
  cases hh : ws c with
  | false => rfl
  | true => exact absurd ((ws_iff c).1 hh) h
theorem t43 (l : List UInt8) (σ : Sg) (hl : l.length < 2 ^ 60) : VCalls Tryz.prog 81 [.s (bs l)] σ (fun x σ' => x = .i (Q0t l) ∧ σ' = σ) := by
  (refine vfun (fun _ => .no) Q0h Tryz.func81 (by kernel_rfl) ?_; simp only [Q0f, Tryz.f81, zw])
  repeat ((first | (with_reducible first | refine .rs ?_ | refine .ds (by kernel_rfl) ?_ | refine .dg (by kernel_rfl) ?_ | refine .rg ?_ | refine .ite ?_ | refine .ret ?_ | refine .skip ?_ | refine .exit ?_ | refine .scope ?_ | refine .seq (.label ?_) | refine .block ?_ | refine .seq ?_)); (try simp only [vO, vQ, ↓vP, vE, vS, vB, vL, vF, vM, vN, Q0g, zb, zd, ze, ne_eq, not_false_eq_true, zf, zg, zk, zl, vT]))
  refine .loop (0 : Nat) (fun k => k ≤ l.length ∧ k + Q0t (l.drop k) = Q0t l) (fun k => [(0, .s (bs l)), (3, .i k)]) (fun _ => σ) (fun k => l.length - k) ⟨Nat.zero_le _, by simp⟩ (.refl _) (by simp only [vO, vQ, ↓vP, vE, vS, vB, vL, vF, vM, vN, Q0g, zb, zd, ze, ne_eq, not_false_eq_true, zf, zg, zk, zl]; trivial) ?_
  intro k ⟨hk, hpre⟩
  (have zz := Bx.mk Z9; (repeat' (first | exact zc | (with_reducible first | apply And.intro | apply Q0a | apply Q0b | refine Q0c (by decide +kernel) ?_ | intro _) | refine za zz.out ?_ | ((first | with_reducible refine (t68 _ _ σ).use ?_ | with_reducible refine (t69 _ 129 [] (· != 10) σ (by simp; omega) (fun c => t70 c σ)).use ?_); (try refine zs zz.out ?_)) | refine zo ?_ | omega | refine zt zz.out ?_ | fail)); try (all_goals clear zz))
  all_goals first
    | (have hk' : k < l.length := by omega
       have hw : ws (l.getD k 0) = true := (ws_iff _).2 (by omega)
       have := blanks_ws hk' hw
       (try simp (disch := omega) only [w64, w8, tg_eq, n1, n2, nn, zm])
       exact ⟨k + 1, ⟨⟨by omega, by omega⟩, by omega⟩, .refl _, by simp⟩)
    | (have hk' : k < l.length := by omega
       have hd : Q1m [45, 45] (l.drop k) = true := by assumption
       have h1 := blanks_dd hk' (ws_no (by omega)) hd
       have h2 := X6k (· != 10) (l.drop k)
       have h3 := (pre_dd hd).2
       simp only [List.length_drop] at h2
       (try simp (disch := omega) only [w64, w8, tg_eq, n1, n2, nn, zm])
       exact ⟨k + pre (· != 10) (l.drop k), ⟨⟨by omega, by omega⟩, by omega⟩, .refl _, by simp⟩)
    | (have hk' : k < l.length := by omega
       have h1 := X8l hk' (ws_no (by omega)) (by first | (simpa using (by assumption : ¬ Q1m [45, 45] (l.drop k) = true)) | exact no_dd hk' (by omega))
       exact ⟨σ, .refl σ, i_eq (by omega), rfl⟩)
    | (have h1 := blanks_len (l := l) (k := k) (by omega)
       exact ⟨σ, .refl σ, i_eq (by omega), rfl⟩)
    | trace_state
end Go.Proofs.YtjdapkelojdefaaGreatDoor
namespace Go.Proofs.YtjdapkelojdefaaGreatDoor
open Go Go.V
theorem info0 : Q0l Tryz.prog 0 = some ((some (Value.tuple #[])), 1, 0) := by kernel_rfl
theorem info2 : Q0l Tryz.prog 2 = some ((some (Value.int IntKind.i64 0)), 1, 8) := by kernel_rfl
theorem Q2c : Q0l Tryz.prog 3 = some ((some (Value.int IntKind.i64 0)), 1, 8) := by kernel_rfl
theorem Q4x : Q0l Tryz.prog 4 = some ((some (Value.bool false)), 1, 1) := by kernel_rfl
theorem X3a : Q0l Tryz.prog 5 = some ((some (Value.int IntKind.u8 0)), 1, 1) := by kernel_rfl
theorem Q2f : Q0l Tryz.prog 9 = some ((some (Value.string { data := #[] })), 1, 16) := by kernel_rfl
theorem info20 : Q0l Tryz.prog 20 = some ((some Value.nilIface), 1, 16) := by kernel_rfl
theorem info22 : Q0l Tryz.prog 22 = some ((some (Value.agg #[(Value.int IntKind.i64 0), (Value.int IntKind.i64 0), (Value.string { data := #[] })])), 3, 32) := by kernel_rfl
theorem info23 : Q0l Tryz.prog 23 = some ((some (Value.agg #[(Value.int IntKind.i64 0), (Value.int IntKind.i64 0), (Value.string { data := #[] })])), 3, 32) := by kernel_rfl
theorem Q7k : Q0l Tryz.prog 24 = some ((some (Value.slice none 0 0)), 1, 24) := by kernel_rfl
theorem info25 : Q0l Tryz.prog 25 = some ((some (Value.agg #[(Value.int IntKind.i64 0), (Value.int IntKind.i64 0), (Value.string { data := #[] }), (Value.string { data := #[] }), (Value.int IntKind.i64 0), (Value.int IntKind.i64 0), (Value.string { data := #[] }), (Value.slice none 0 0)])), 8, 104) := by kernel_rfl
theorem info26 : Q0l Tryz.prog 26 = some ((some (Value.agg #[(Value.int IntKind.i64 0), (Value.int IntKind.i64 0), (Value.string { data := #[] }), (Value.string { data := #[] }), (Value.int IntKind.i64 0), (Value.int IntKind.i64 0), (Value.string { data := #[] }), (Value.slice none 0 0)])), 8, 104) := by kernel_rfl
theorem Q4f : Q0l Tryz.prog 30 = some ((some (Value.int IntKind.i64 0)), 1, 8) := by kernel_rfl
theorem info31 : Q0l Tryz.prog 31 = some ((some (Value.tuple #[(Value.string { data := #[] }), (Value.int IntKind.i64 0)])), 1, 0) := by kernel_rfl
theorem info34 : Q0l Tryz.prog 34 = some ((some Value.nilFunc), 1, 8) := by kernel_rfl
theorem info35 : Q0l Tryz.prog 35 = some ((some (Value.slice none 0 0)), 1, 24) := by kernel_rfl
theorem Q7l : Q0l Tryz.prog 37 = some ((some (Value.slice none 0 0)), 1, 24) := by kernel_rfl
theorem Q7m : Q0l Tryz.prog 38 = some ((some (Value.slice none 0 0)), 1, 24) := by kernel_rfl
theorem Q7n : Q0l Tryz.prog 39 = some ((some (Value.slice none 0 0)), 1, 24) := by kernel_rfl
theorem Q7o : Q0l Tryz.prog 40 = some ((some (Value.slice none 0 0)), 1, 24) := by kernel_rfl
theorem info41 : Q0l Tryz.prog 41 = some ((some (Value.agg #[(Value.int IntKind.i64 0), (Value.string { data := #[] }), (Value.slice none 0 0), (Value.string { data := #[] }), (Value.slice none 0 0), (Value.slice none 0 0), (Value.slice none 0 0), (Value.string { data := #[] }), (Value.slice none 0 0), (Value.slice none 0 0), (Value.slice none 0 0), (Value.slice none 0 0), (Value.bool false), (Value.int IntKind.i64 0)])), 14, 264) := by kernel_rfl
theorem info42 : Q0l Tryz.prog 42 = some ((some (Value.agg #[(Value.int IntKind.i64 0), (Value.string { data := #[] }), (Value.slice none 0 0), (Value.string { data := #[] }), (Value.slice none 0 0), (Value.slice none 0 0), (Value.slice none 0 0), (Value.string { data := #[] }), (Value.slice none 0 0), (Value.slice none 0 0), (Value.slice none 0 0), (Value.slice none 0 0), (Value.bool false), (Value.int IntKind.i64 0)])), 14, 264) := by kernel_rfl
theorem info46 : Q0l Tryz.prog 46 = some ((some (Value.agg #[(Value.int IntKind.i64 0), (Value.int IntKind.i64 0)])), 2, 16) := by kernel_rfl
theorem Q5s : Q0l Tryz.prog 47 = some ((some (Value.agg #[(Value.int IntKind.i64 0), (Value.int IntKind.i64 0)])), 2, 16) := by kernel_rfl
theorem info48 : Q0l Tryz.prog 48 = some ((some (Value.tuple #[(Value.agg #[(Value.int IntKind.i64 0), (Value.int IntKind.i64 0), (Value.string { data := #[] }), (Value.string { data := #[] }), (Value.int IntKind.i64 0), (Value.int IntKind.i64 0), (Value.string { data := #[] }), (Value.slice none 0 0)]), (Value.agg #[(Value.int IntKind.i64 0), (Value.int IntKind.i64 0)])])), 1, 0) := by kernel_rfl
theorem info51 : Q0l Tryz.prog 51 = some ((some (Value.tuple #[(Value.slice none 0 0), (Value.agg #[(Value.int IntKind.i64 0), (Value.int IntKind.i64 0)])])), 1, 0) := by kernel_rfl
theorem info55 : Q0l Tryz.prog 55 = some ((some (Value.pointer none)), 1, 8) := by kernel_rfl
theorem Q5t : Q0l Tryz.prog 56 = some ((some (Value.slice none 0 0)), 1, 24) := by kernel_rfl
theorem info57 : Q0l Tryz.prog 57 = some ((some (Value.slice none 0 0)), 1, 24) := by kernel_rfl
theorem info58 : Q0l Tryz.prog 58 = some ((some (Value.agg #[(Value.slice none 0 0), (Value.int IntKind.i64 0), (Value.int IntKind.i64 0)])), 3, 40) := by kernel_rfl
theorem info59 : Q0l Tryz.prog 59 = some ((some (Value.agg #[(Value.slice none 0 0), (Value.int IntKind.i64 0), (Value.int IntKind.i64 0)])), 3, 40) := by kernel_rfl
theorem info67 : Q0l Tryz.prog 67 = some ((some (Value.agg #[(Value.string { data := #[] }), (Value.int IntKind.i64 0), (Value.int IntKind.i64 0), (Value.string { data := #[] }), (Value.string { data := #[] }), (Value.int IntKind.i64 0), (Value.int IntKind.i64 0), (Value.string { data := #[] }), (Value.slice none 0 0)])), 9, 120) := by kernel_rfl
theorem info68 : Q0l Tryz.prog 68 = some ((some (Value.agg #[(Value.string { data := #[] }), (Value.int IntKind.i64 0), (Value.int IntKind.i64 0), (Value.string { data := #[] }), (Value.string { data := #[] }), (Value.int IntKind.i64 0), (Value.int IntKind.i64 0), (Value.string { data := #[] }), (Value.slice none 0 0)])), 9, 120) := by kernel_rfl
theorem info70 : Q0l Tryz.prog 70 = some ((some (Value.agg #[(Value.int IntKind.i64 0), (Value.slice none 0 0)])), 2, 32) := by kernel_rfl
theorem info71 : Q0l Tryz.prog 71 = some ((some (Value.agg #[(Value.int IntKind.i64 0), (Value.slice none 0 0)])), 2, 32) := by kernel_rfl
theorem Q4g : Q0l Tryz.prog 75 = some ((some (Value.slice none 0 0)), 1, 24) := by kernel_rfl
theorem info78 : Q0l Tryz.prog 78 = some ((some (Value.pointer none)), 1, 8) := by kernel_rfl
theorem Q6b : Q0l Tryz.prog 80 = some ((some (Value.agg #[(Value.slice none 0 0), (Value.int IntKind.i64 0), (Value.int IntKind.i64 0), (Value.int IntKind.i64 0)])), 4, 48) := by kernel_rfl
theorem info86 : Q0l Tryz.prog 86 = some ((some Value.nilFunc), 1, 8) := by kernel_rfl
theorem info100 : Q0l Tryz.prog 100 = some ((some (Value.pointer none)), 1, 8) := by kernel_rfl
theorem info101 : Q0l Tryz.prog 101 = some ((some (Value.agg #[(Value.int IntKind.i64 0), (Value.string { data := #[] }), (Value.int IntKind.i64 0), (Value.int IntKind.i64 0)])), 4, 40) := by kernel_rfl
theorem Q2r : Q0l Tryz.prog 102 = some ((some (Value.agg #[(Value.int IntKind.i64 0), (Value.string { data := #[] }), (Value.int IntKind.i64 0), (Value.int IntKind.i64 0)])), 4, 40) := by kernel_rfl
theorem info106 : Q0l Tryz.prog 106 = some ((some Value.nilFunc), 1, 8) := by kernel_rfl
theorem info107 : Q0l Tryz.prog 107 = some ((some (Value.slice none 0 0)), 1, 24) := by kernel_rfl
theorem info116 : Q0l Tryz.prog 116 = some ((some (Value.pointer none)), 1, 8) := by kernel_rfl
theorem info122 : Q0l Tryz.prog 122 = some ((some Value.nilFunc), 1, 8) := by kernel_rfl
theorem info131 : Q0l Tryz.prog 131 = some ((some (Value.agg #[(Value.string { data := #[] }), (Value.int IntKind.i64 0), (Value.bool false), (Value.bool false)])), 4, 32) := by kernel_rfl
theorem info132 : Q0l Tryz.prog 132 = some ((some (Value.agg #[(Value.string { data := #[] }), (Value.int IntKind.i64 0), (Value.bool false), (Value.bool false)])), 4, 32) := by kernel_rfl
theorem info149 : Q0l Tryz.prog 149 = some ((some (Value.pointer none)), 1, 8) := by kernel_rfl
theorem Q6h : Q0l Tryz.prog 150 = some ((some (Value.slice none 0 0)), 1, 24) := by kernel_rfl
theorem info151 : Q0l Tryz.prog 151 = some ((some (Value.agg #[(Value.pointer none), (Value.slice none 0 0)])), 2, 32) := by kernel_rfl
theorem X2l : Q0l Tryz.prog 152 = some ((some (Value.agg #[(Value.pointer none), (Value.slice none 0 0)])), 2, 32) := by kernel_rfl
theorem info155 : Q0l Tryz.prog 155 = some ((some (Value.tuple #[(Value.int IntKind.i64 0), Value.nilIface])), 1, 0) := by kernel_rfl
theorem info175 : Q0l Tryz.prog 175 = some ((some (Value.pointer none)), 1, 8) := by kernel_rfl
theorem info178 : Q0l Tryz.prog 178 = some ((some (Value.agg #[(Value.int IntKind.u8 0), (Value.int IntKind.u8 0), (Value.int IntKind.u8 0), (Value.int IntKind.u8 0), (Value.int IntKind.u8 0), (Value.int IntKind.u8 0), (Value.int IntKind.u8 0), (Value.int IntKind.u8 0), (Value.int IntKind.u8 0), (Value.int IntKind.u8 0), (Value.int IntKind.u8 0), (Value.int IntKind.u8 0), (Value.int IntKind.u8 0), (Value.int IntKind.u8 0), (Value.int IntKind.u8 0), (Value.int IntKind.u8 0), (Value.int IntKind.u8 0), (Value.int IntKind.u8 0), (Value.int IntKind.u8 0), (Value.int IntKind.u8 0), (Value.int IntKind.u8 0), (Value.int IntKind.u8 0), (Value.int IntKind.u8 0), (Value.int IntKind.u8 0)])), 24, 24) := by kernel_rfl
theorem Q6i : Q0l Tryz.prog 179 = some ((some (Value.int IntKind.u64 0)), 1, 8) := by kernel_rfl
theorem info186 : Q0l Tryz.prog 186 = some ((some (Value.agg #[(Value.int IntKind.u64 0), (Value.int IntKind.u64 0), (Value.int IntKind.u64 0), (Value.int IntKind.u64 0), (Value.int IntKind.u64 0), (Value.int IntKind.u64 0), (Value.int IntKind.u64 0), (Value.int IntKind.u64 0), (Value.int IntKind.u64 0), (Value.int IntKind.u64 0), (Value.int IntKind.u64 0), (Value.int IntKind.u64 0), (Value.int IntKind.u64 0), (Value.int IntKind.u64 0), (Value.int IntKind.u64 0), (Value.int IntKind.u64 0), (Value.int IntKind.u64 0), (Value.int IntKind.u64 0), (Value.int IntKind.u64 0), (Value.int IntKind.u64 0)])), 20, 160) := by kernel_rfl
theorem Q6j : Q0l Tryz.prog 187 = some ((some (Value.int IntKind.u32 0)), 1, 4) := by kernel_rfl
def ui0 := And.intro Tryz.underlying0 info0
def ui2 := And.intro Tryz.underlying2 info2
def ui3 := And.intro Z3 Q2c
def ui4 := And.intro Tryz.underlying4 Q4x
def ui5 := And.intro Z5 X3a
def ui9 := And.intro Z9 Q2f
def ui20 := And.intro Tryz.underlying20 info20
def ui22 := And.intro Tryz.underlying22 info22
def ui23 := And.intro Tryz.underlying23 info23
def ui24 := And.intro Tryz.underlying24 Q7k
def ui25 := And.intro Tryz.underlying25 info25
def ui26 := And.intro Tryz.underlying26 info26
def ui30 := And.intro Z30 Q4f
def ui31 := And.intro Tryz.underlying31 info31
def ui34 := And.intro Tryz.underlying34 info34
def ui35 := And.intro Tryz.underlying35 info35
def ui37 := And.intro Tryz.underlying37 Q7l
def ui38 := And.intro Tryz.underlying38 Q7m
def ui39 := And.intro Tryz.underlying39 Q7n
def ui40 := And.intro Tryz.underlying40 Q7o
def ui41 := And.intro Tryz.underlying41 info41
def ui42 := And.intro Tryz.underlying42 info42
def ui46 := And.intro Tryz.underlying46 info46
def ui47 := And.intro Tryz.underlying47 Q5s
def ui48 := And.intro Tryz.underlying48 info48
def ui51 := And.intro Tryz.underlying51 info51
def ui55 := And.intro Tryz.underlying55 info55
def ui56 := And.intro Tryz.underlying56 Q5t
def ui57 := And.intro Tryz.underlying57 info57
def ui58 := And.intro Tryz.underlying58 info58
def ui59 := And.intro Tryz.underlying59 info59
def ui67 := And.intro Tryz.underlying67 info67
def ui68 := And.intro Tryz.underlying68 info68
def ui70 := And.intro Tryz.underlying70 info70
def ui71 := And.intro Tryz.underlying71 info71
def ui75 := And.intro Z75 Q4g
def ui78 := And.intro Tryz.underlying78 info78
def ui80 := And.intro Tryz.underlying80 Q6b
def ui86 := And.intro Tryz.underlying86 info86
def X9v := And.intro Tryz.underlying100 info100
def Q1k := And.intro Tryz.underlying101 info101
def Q0u := And.intro Z102 Q2r
def X9w := And.intro Tryz.underlying106 info106
def Q1e := And.intro Tryz.underlying107 info107
def Q6k := And.intro Tryz.underlying116 info116
def ui122 := And.intro Tryz.underlying122 info122
def Q1r := And.intro Tryz.underlying131 info131
def Q1s := And.intro Tryz.underlying132 info132
def X6l := And.intro Z149 info149
def Q4r := And.intro Tryz.underlying150 Q6h
def ui151 := And.intro Tryz.underlying151 info151
def Q8s := And.intro Z152 X2l
def ui155 := And.intro Tryz.underlying155 info155
def ui175 := And.intro Tryz.underlying175 info175
def ui178 := And.intro Tryz.underlying178 info178
def X0k := And.intro Tryz.underlying179 Q6i
def ui186 := And.intro Tryz.underlying186 info186
def X2m := And.intro Tryz.underlying187 Q6j
end Go.Proofs.YtjdapkelojdefaaGreatDoor
namespace Go.Proofs.YtjdapkelojdefaaGreatDoor
open Go Go.V Go.Lex
def numR (o : Option Nat) : AV := match o with | some m => .tup [.i m, .i 0] | none => .tup [.i 0, .i 7]
theorem t106 (l : List UInt8) (σ : Sg) (hl : l.length < 2 ^ 60) (hd : ∀ k, k < l.length → 48 ≤ (l.getD k 0).toNat ∧ (l.getD k 0).toNat ≤ 57) : VCalls Tryz.prog 167 [.s (bs l)] σ (fun x σ' => x = numR (num l 0) ∧ σ' = σ) := by
  (refine vfun (fun _ => .no) Q0h Tryz.func167 (by kernel_rfl) ?_; simp only [Q0f, Tryz.f167, zw])
  (have zz := Bx.mk (j4 Z9 Z3 Z5 Z30); (repeat' (first | exact zc | (with_reducible first | apply And.intro | apply Q0a | apply Q0b | refine Q0c (by decide +kernel) ?_ | intro _) | refine za zz.out ?_ | (with_reducible refine VW.loop2 (0 : Nat) (0 : Nat) (fun k n => k ≤ l.length ∧ n ≤ 9223372036854775807 ∧ num (l.drop k) n = num l 0) (fun k n => [(0, .s (bs l)), (8, .i l.length), (9, .i k), (4, .i n)]) (fun _ _ => σ) (fun k _ => l.length - k) ?_ (.refl _) ?_ (fun k n ⟨hk, hn, hst⟩ => have hdk := hd k; ?_); (try refine zs zz.out ?_)) | refine zo ?_ | omega | refine zt zz.out ?_ | fail)); try (all_goals clear zz))
  all_goals first
    | rfl
    | (have ho := num_over (l := l) (k := k) (n := n) (by omega) (by omega)
       rw [ho] at hst
       exact ⟨σ, .refl σ, by rw [← hst]; rfl, rfl⟩)
    | (have ho := num_step (l := l) (k := k) (n := n) (by omega) (by omega)
       exact ⟨k + 1, 10 * n + ((l.getD k 0).toNat - 48), ⟨⟨by omega, by omega, by rw [← ho, hst]⟩, by omega⟩, .refl _, by simp, i_eq (by omega)⟩)
    | (have ho := num_end (l := l) (k := k) (n := n) (by omega)
       rw [ho] at hst
       exact ⟨σ, .refl σ, by rw [← hst]; rfl, rfl⟩)
def strs (ws : List (List UInt8)) : List (List AV) := ws.map fun w => [.s (bs w)]
theorem Q4l (ws : List (List UInt8)) : (strs ws).length = ws.length := by simp [strs]
theorem Q9x {ws : List (List UInt8)} {k : Nat} (h : k < ws.length) : (strs ws).getD k [] = [.s (bs (ws.getD k []))] := by
  simp [strs, List.getD_eq_getElem?_getD, List.getElem?_eq_getElem h]
def words : List (List UInt8) := [[65, 78, 68], [66, 89], [67, 79, 85, 78, 84], [67, 82, 69, 65, 84, 69], [68, 69, 76, 69, 84, 69], [68, 69, 83, 67], [68, 82, 79, 80], [70, 82, 79, 77], [71, 82, 79, 85, 80], [73, 78, 83, 69, 82, 84], [73, 78, 84], [73, 78, 84, 79], [73, 83], [74, 79, 73, 78], [75, 69, 89], [76, 73, 77, 73, 84], [77, 65, 88], [77, 73, 78], [78, 79, 84], [78, 85, 76, 76], [79, 78], [79, 82], [79, 82, 68, 69, 82], [80, 82, 73, 77, 65, 82, 89], [83, 69, 76, 69, 67, 84], [83, 69, 84], [83, 85, 77], [84, 65, 66, 76, 69], [84, 69, 88, 84], [85, 78, 73, 81, 85, 69], [85, 80, 68, 65, 84, 69], [86, 65, 76, 85, 69, 83], [87, 72, 69, 82, 69]]
def signs : List (List UInt8) := [[60, 62], [60, 61], [62, 61], [40], [41], [44], [59], [46], [42], [43], [45], [47], [37], [61], [60], [62]]
def idx (m : List UInt8) (ws : List (List UInt8)) : Nat := (ws.takeWhile (fun w => w != m)).length
theorem idx_le (m : List UInt8) (ws : List (List UInt8)) : idx m ws ≤ ws.length := (List.takeWhile_prefix _).length_le
theorem idx_step {m : List UInt8} {ws : List (List UInt8)} {k : Nat} (h : k < ws.length) : idx m (ws.drop k) = if ws.getD k [] = m then 0 else 1 + idx m (ws.drop (k + 1)) := by
  have hg : ws.getD k [] = ws[k] := by simp [List.getD_eq_getElem?_getD, List.getElem?_eq_getElem h]
  rw [hg, List.drop_eq_getElem_cons h]
  unfold idx
  rw [List.takeWhile_cons]
  by_cases e : ws[k] = m
  · simp [e]
  · simp [e, Nat.add_comm]
theorem idx_end {m : List UInt8} {ws : List (List UInt8)} {k : Nat} (h : ws.length ≤ k) : idx m (ws.drop k) = 0 := by rw [List.drop_of_length_le h]; rfl
theorem idx_no {m : List UInt8} {ws : List (List UInt8)} {k : Nat} (h : k < ws.length) (hn : ¬ m = ws.getD k []) : idx m (ws.drop k) = 1 + idx m (ws.drop (k + 1)) := by rw [idx_step h, if_neg (fun e => hn e.symm)]
theorem idx_yes {m : List UInt8} {ws : List (List UInt8)} {k : Nat} (h : k < ws.length) (hn : m = ws.getD k []) : idx m (ws.drop k) = 0 := by rw [idx_step h, if_pos hn.symm]
theorem t116 (ws : List (List UInt8)) (o : Own) (m : List UInt8) (σ : Sg) (hl : ws.length < 2 ^ 60) : VCalls Tryz.prog 171 [.sl o (strs ws), .s (bs m)] σ (fun x σ' => x = .i (if idx m ws < ws.length then (idx m ws : Nat) else -1) ∧ σ' = σ) := by
  (refine vfun (fun _ => .no) Q0h Tryz.func171 (by kernel_rfl) ?_; simp only [Q0f, Tryz.f171, zw])
  (have zz := Bx.mk (j4 ui9 Z3 Z75 @Q4l); (repeat' (first | exact zc | (with_reducible first | apply And.intro | apply Q0a | apply Q0b | refine Q0c (by decide +kernel) ?_ | intro _) | refine za zz.out ?_ | ((first | with_reducible refine VW.loop (0 : Nat) (fun k => k ≤ ws.length ∧ k + idx m (ws.drop k) = idx m ws) (fun k => [(0, .sl o (strs ws)), (1, .s (bs m)), (7, .i ws.length), (8, .i k)]) (fun _ => σ) (fun k => ws.length - k) ?_ (.refl _) ?_ (fun k ⟨hk, hst⟩ => ?_) | with_reducible simp (disch := omega) only [Q9x, Int.toNat_natCast]); (try refine zs zz.out ?_)) | refine zo ?_ | omega | refine zt zz.out ?_ | fail)); try (all_goals clear zz))
  all_goals first
    | rfl
    | (simp; done)
    | (have h1 := idx_no (m := m) (ws := ws) (k := k) (by omega) (by assumption)
       exact ⟨k + 1, ⟨⟨by omega, by omega⟩, by omega⟩, .refl _, by simp⟩)
    | (have h1 := idx_yes (m := m) (ws := ws) (k := k) (by omega) (by assumption)
       have h2 := idx_le m (ws.drop k)
       exact ⟨σ, .refl σ, by rw [if_pos (by omega)]; exact i_eq (by omega), rfl⟩)
    | (have h1 := idx_end (m := m) (ws := ws) (k := k) (by omega)
       exact ⟨σ, .refl σ, by rw [if_neg (by omega)], rfl⟩)
    | trace_state
theorem t105 (σ : Sg) : VCalls Tryz.prog 166 [] σ (fun x σ' => x = .sl .full (strs words) ∧ σ' = σ) := by
  (refine vfun (fun _ => .no) Q0h Tryz.func166 (by kernel_rfl) ?_; simp only [Q0f, Tryz.f166, zw])
  (have zz := Bx.mk (j2 ui9 Z75); (repeat' (first | exact zc | (with_reducible first | apply And.intro | apply Q0a | apply Q0b | refine Q0c (by decide +kernel) ?_ | intro _) | refine za zz.out ?_ | refine zo ?_ | omega | refine zt zz.out ?_ | fail)); try (all_goals clear zz))
  all_goals first
    | rfl
    | (simp; done)
    | (exact ⟨σ, .refl σ, rfl, rfl⟩)
    | trace_state
theorem t76 (σ : Sg) : VCalls Tryz.prog 133 [] σ (fun x σ' => x = .sl .full (strs signs) ∧ σ' = σ) := by
  (refine vfun (fun _ => .no) Q0h Tryz.func133 (by kernel_rfl) ?_; simp only [Q0f, Tryz.f133, zw])
  (have zz := Bx.mk (j2 ui9 Z75); (repeat' (first | exact zc | (with_reducible first | apply And.intro | apply Q0a | apply Q0b | refine Q0c (by decide +kernel) ?_ | intro _) | refine za zz.out ?_ | refine zo ?_ | omega | refine zt zz.out ?_ | fail)); try (all_goals clear zz))
  all_goals first
    | rfl
    | (simp; done)
    | (exact ⟨σ, .refl σ, rfl, rfl⟩)
    | trace_state
theorem t104 (ws : List (List UInt8)) (o : Own) (m : List UInt8) (σ : Sg) (hl : ws.length < 2 ^ 60) : VCalls Tryz.prog 165 [.sl o (strs ws), .s (bs m)] σ (fun x σ' => x = .b (decide (idx m ws < ws.length)) ∧ σ' = σ) := by
  (refine vfun (fun _ => .no) Q0h Tryz.func165 (by kernel_rfl) ?_; simp only [Q0f, Tryz.f165, zw])
  (have zz := Bx.mk (j4 ui9 Z3 Z75 @Q4l); (repeat' (first | exact zc | (with_reducible first | apply And.intro | apply Q0a | apply Q0b | refine Q0c (by decide +kernel) ?_ | intro _) | refine za zz.out ?_ | (with_reducible refine (t116 ws o m σ hl).use ?_; (try refine zs zz.out ?_)) | refine zo ?_ | omega | refine zt zz.out ?_ | fail)); try (all_goals clear zz))
  all_goals first
    | (exact ⟨σ, .refl σ, b_eq (by by_cases h : idx m ws < ws.length <;> simp [h]), rfl⟩)
    | trace_state
theorem lies140 : liesAt Tryz.prog Tryz.prog.depth 152 (2 / Tryz.prog.cellsOf 152) 0 152 1 = true := by kernel_rfl
theorem t118 (x : AV) (σ : Sg) : VCalls Tryz.prog 185 [x] σ (fun y σ' => y = x ∧ σ' = σ) :=
  vNoEscape (P := Tryz.prog) Tryz.func185 (by kernel_rfl) (by kernel_rfl) (by kernel_rfl) (by kernel_rfl)
theorem t115 (β : Nat) (x0 buf : AV) (σ : Sg) (hσ : σ β = some (.cells 152 [x0, buf])) (hx : x0 = .val (.pointer none) ∨ x0 = .ref β 0) : VCalls Tryz.prog 177 [.ref β 0] σ (fun x σ' => x = .tup [] ∧ σ' = σ.set β (.cells 152 [.ref β 0, buf])) := by
  rcases hx with rfl | rfl
  · (refine vfun (fun _ => .no) Q0h Tryz.func177 (by kernel_rfl) ?_; simp only [Q0f, Tryz.f177, zw])
    (have zz := Bx.mk (j5 X6l Q8s ui175 hσ @lies140); (repeat' (first | exact zc | (with_reducible first | apply And.intro | apply Q0a | apply Q0b | refine Q0c (by decide +kernel) ?_ | intro _) | refine za zz.out ?_ | (with_reducible refine (t118 _ _).use ?_; (try refine zs zz.out ?_)) | refine zo ?_ | omega | refine zt zz.out ?_ | fail)); try (all_goals clear zz))
    all_goals first
      | rfl
      | exact ⟨_, .refl _, rfl⟩
  · (refine vfun (fun _ => .no) Q0h Tryz.func177 (by kernel_rfl) ?_; simp only [Q0f, Tryz.f177, zw])
    (have zz := Bx.mk (j5 X6l Q8s ui175 hσ @lies140); (repeat' (first | exact zc | (with_reducible first | apply And.intro | apply Q0a | apply Q0b | refine Q0c (by decide +kernel) ?_ | intro _) | refine za zz.out ?_ | (with_reducible refine (t118 _ _).use ?_; (try refine zs zz.out ?_)) | refine zo ?_ | omega | refine zt zz.out ?_ | fail)); try (all_goals clear zz))
    all_goals exact ⟨σ, .refl _, (Sg.set_id hσ).symm⟩
def Bld (β : Nat) (acc : List UInt8) (σ S : Sg) : Prop :=
  σ β = none ∧ ((acc = [] ∧ S = σ.set β (.cells 152 [.val (.pointer none), .sl .nil []])) ∨
    ∃ τ, τ ≠ β ∧ σ τ = none ∧ S = (σ.set τ (.tok (some 5))).set β (.cells 152 [.ref β 0, .sl (.tok τ 1) (Q4n acc)]))
theorem t100 (β : Nat) (acc m : List UInt8) (σ S : Sg) (hb : Bld β acc σ S) (hl : acc.length + m.length < 2 ^ 40) : VCalls Tryz.prog 155 [.ref β 0, .s (bs m)] S (fun x σ' => x = .tup [.i m.length, .val .nilIface] ∧ Bld β (acc ++ m) σ σ') := by
  obtain ⟨h0, ⟨rfl, rfl⟩ | ⟨τ, hτ, hτ0, rfl⟩⟩ := hb
  · (refine vfun (fun _ => .no) Q0h Tryz.func155 (by kernel_rfl) ?_; simp only [Q0f, Tryz.f155, zw])
    (have zz := Bx.mk (j5 Z149 Q8s Q4r Z9 ui5); (repeat' (first | exact zc | (with_reducible first | apply And.intro | apply Q0a | apply Q0b | refine Q0c (by decide +kernel) ?_ | intro _) | refine za zz.out ?_ | (with_reducible refine (t115 β _ _ _ (zn _ _ _) (.inl rfl)).use ?_; (try refine zs zz.out ?_)) | refine zo ?_ | omega | refine zt zz.out ?_ | fail)); try (all_goals clear zz))
    all_goals first
      | rfl
      | (rename_i x hx hne
         refine ⟨(σ.set x (.tok (some 5))).set β (.cells 152 [.ref β 0, .sl (.tok x 1) (Q4n m)]), fun y o hy => ?_, h0, .inr ⟨x, hne, hx, rfl⟩⟩
         by_cases e1 : y = β <;> by_cases e2 : y = x <;> simp_all [Sg.set, Sg.del])
  · (refine vfun (fun _ => .no) Q0h Tryz.func155 (by kernel_rfl) ?_; simp only [Q0f, Tryz.f155, zw])
    (have zz := Bx.mk (j5 Z149 Q8s Q4r Z9 ui5); (repeat' (first | exact zc | (with_reducible first | apply And.intro | apply Q0a | apply Q0b | refine Q0c (by decide +kernel) ?_ | intro _) | refine za zz.out ?_ | (with_reducible refine (t115 β _ _ _ (zn _ _ _) (.inr rfl)).use ?_; (try refine zs zz.out ?_)) | refine zo ?_ | omega | refine zt zz.out ?_ | fail)); try (all_goals clear zz))
    all_goals first
      | rfl
      | exact .inr trivial
      | (rename_i x hx hnt hne
         refine ⟨(σ.set x (.tok (some 5))).set β (.cells 152 [.ref β 0, .sl (.tok x 1) (Q4n (acc ++ m))]), fun y o hy => ?_, h0, .inr ⟨x, hne, hx, rfl⟩⟩
         by_cases e1 : y = β <;> by_cases e2 : y = x <;> by_cases e3 : y = τ <;> simp_all [Sg.set, Sg.del])
theorem t101 (β : Nat) (acc : List UInt8) (c : UInt8) (σ S : Sg) (hb : Bld β acc σ S) (hl : acc.length < 2 ^ 40) : VCalls Tryz.prog 163 [.ref β 0, .u8 c.toNat] S (fun x σ' => x = .val .nilIface ∧ Bld β (acc ++ [c]) σ σ') := by
  obtain ⟨h0, ⟨rfl, rfl⟩ | ⟨τ, hτ, hτ0, rfl⟩⟩ := hb
  · (refine vfun (fun _ => .no) Q0h Tryz.func163 (by kernel_rfl) ?_; simp only [Q0f, Tryz.f163, zw])
    (have zz := Bx.mk (j6 Z149 Q8s Q4r Z9 ui5 @X6j); (repeat' (first | exact zc | (with_reducible first | apply And.intro | apply Q0a | apply Q0b | refine Q0c (by decide +kernel) ?_ | intro _) | refine za zz.out ?_ | (with_reducible refine (t115 β _ _ _ (zn _ _ _) (.inl rfl)).use ?_; (try refine zs zz.out ?_)) | refine zo ?_ | omega | refine zt zz.out ?_ | fail)); try (all_goals clear zz))
    all_goals first
      | rfl
      | (rename_i x hx hne
         refine ⟨(σ.set x (.tok (some 5))).set β (.cells 152 [.ref β 0, .sl (.tok x 1) (Q4n [c])]), fun y o hy => ?_, h0, .inr ⟨x, hne, hx, rfl⟩⟩
         by_cases e1 : y = β <;> by_cases e2 : y = x <;> simp_all [Sg.set, Sg.del])
  · (refine vfun (fun _ => .no) Q0h Tryz.func163 (by kernel_rfl) ?_; simp only [Q0f, Tryz.f163, zw])
    (have zz := Bx.mk (j6 Z149 Q8s Q4r Z9 ui5 @X6j); (repeat' (first | exact zc | (with_reducible first | apply And.intro | apply Q0a | apply Q0b | refine Q0c (by decide +kernel) ?_ | intro _) | refine za zz.out ?_ | (with_reducible refine (t115 β _ _ _ (zn _ _ _) (.inr rfl)).use ?_; (try refine zs zz.out ?_)) | refine zo ?_ | omega | refine zt zz.out ?_ | fail)); try (all_goals clear zz))
    all_goals first
      | rfl
      | exact .inr trivial
      | (rename_i x hx hnt hne
         refine ⟨(σ.set x (.tok (some 5))).set β (.cells 152 [.ref β 0, .sl (.tok x 1) (Q4n (acc ++ [c]))]), fun y o hy => ?_, h0, .inr ⟨x, hne, hx, rfl⟩⟩
         by_cases e1 : y = β <;> by_cases e2 : y = x <;> by_cases e3 : y = τ <;> simp_all [Sg.set, Sg.del])
theorem t102 (β : Nat) (acc : List UInt8) (σ S : Sg) (hb : Bld β acc σ S) : VCalls Tryz.prog 164 [.ref β 0] S (fun x σ' => x = .i acc.length ∧ σ' = S) := by
  obtain ⟨h0, ⟨rfl, rfl⟩ | ⟨τ, hτ, hτ0, rfl⟩⟩ := hb
  all_goals
    (refine vfun (fun _ => .no) Q0h Tryz.func164 (by kernel_rfl) ?_; simp only [Q0f, Tryz.f164, zw])
    (have zz := Bx.mk (j5 Z149 Q8s Q4r Z9 ui5); (repeat' (first | exact zc | (with_reducible first | apply And.intro | apply Q0a | apply Q0b | refine Q0c (by decide +kernel) ?_ | intro _) | refine za zz.out ?_ | refine zo ?_ | omega | refine zt zz.out ?_ | fail)); try (all_goals clear zz))
    all_goals exact ⟨_, .refl _, by simp⟩
theorem t103 (β : Nat) (acc : List UInt8) (σ S : Sg) (hb : Bld β acc σ S) (hl : acc.length < 2 ^ 40) : VCalls Tryz.prog 156 [.ref β 0] S (fun x σ' => x = .s (bs acc) ∧ σ' = S) := by
  obtain ⟨h0, ⟨rfl, rfl⟩ | ⟨τ, hτ, hτ0, rfl⟩⟩ := hb
  · (refine vfun (fun _ => .no) Q0h Tryz.func156 (by kernel_rfl) ?_; simp only [Q0f, Tryz.f156, zw])
    (have zz := Bx.mk (j6 Z149 Q8s Q4r Z9 ui5 Tryz.underlying170); (repeat' (first | exact zc | (with_reducible first | apply And.intro | apply Q0a | apply Q0b | refine Q0c (by decide +kernel) ?_ | intro _) | refine za zz.out ?_ | refine zo ?_ | omega | refine zt zz.out ?_ | fail)); try (all_goals clear zz))
    · exact ⟨bs [], ⟨rfl, rfl, by decide⟩, .inl trivial, rfl⟩
    · exact ⟨_, .refl _, rfl, rfl⟩
  · (refine vfun (fun _ => .no) Q0h Tryz.func156 (by kernel_rfl) ?_; simp only [Q0f, Tryz.f156, zw])
    (have zz := Bx.mk (j6 Z149 Q8s Q4r Z9 ui5 Tryz.underlying170); (repeat' (first | exact zc | (with_reducible first | apply And.intro | apply Q0a | apply Q0b | refine Q0c (by decide +kernel) ?_ | intro _) | refine za zz.out ?_ | refine zo ?_ | omega | refine zt zz.out ?_ | fail)); try (all_goals clear zz))
    · exact ⟨bs acc, ⟨(X8k _).symm, by rw [Q6g], by rw [Q6g]; omega⟩, .inr trivial, rfl⟩
    · exact ⟨_, .refl _, rfl, rfl⟩
end Go.Proofs.YtjdapkelojdefaaGreatDoor
namespace Go.Lex
open Go.V Go.Proofs.YtjdapkelojdefaaGreatDoor
def glue (r : List UInt8) (n : Nat) : Bool := decide (n < r.length) && (Q3h (r.getD n 0) || Q1j (r.getD n 0))
def Q7p (m : List UInt8) : Bool := decide (idx m words < words.length)
def X0x (kd : Nat) (r : List UInt8) (n : Nat) : Except Nat (Nat × List UInt8 × Nat) :=
  if glue r n = true then .error 4 else
  if kd = 2 then (if Q7p (r.take n) = true then .ok (2, r.take n, 0) else .error 4) else
  if kd = 1 then (if 16 < n then .error 2 else .ok (1, r.take n, 0)) else
  match num (r.take n) 0 with
  | some v => .ok (3, [], v)
  | none => .error 7
abbrev tokA (k : Nat) (t : List UInt8) (v a : Nat) : AV := .agg [.i k, .s (bs t), .i v, .i a]
def NOut (o : Option Nat) (x : AV) : Prop := (∃ v : Nat, o = some v ∧ x = .tup [.i v, .i 0]) ∨ (o = none ∧ x = .tup [.i 0, .i 7])
theorem NOut_numR (o : Option Nat) : NOut o (numR o) := by
  cases o with
  | none => exact .inr ⟨rfl, rfl⟩
  | some v => exact .inl ⟨v, rfl, rfl⟩
def POut (o : Except Nat (Nat × List UInt8 × Nat)) (x : AV) : Prop :=
  (∃ k t v, o = .ok (k, t, v) ∧ x = .tup [tokA k t v 0, .i 0]) ∨ (∃ (e : Nat) (k : Nat) (t : List UInt8) (v : Nat), o = .error e ∧ e ≠ 0 ∧ x = .tup [tokA k t v 0, .i e])
theorem POut.ok {o : Except Nat (Nat × List UInt8 × Nat)} {kk vv : Int} {t : List UInt8} (k v : Nat) (h : o = .ok (k, t, v)) (h1 : kk = k) (h2 : vv = v) : POut o (.tup [.agg [.i kk, .s (bs t), .i vv, .i 0], .i 0]) := .inl ⟨k, t, v, h, by rw [h1, h2]; rfl⟩
theorem POut.err {o : Except Nat (Nat × List UInt8 × Nat)} {kk vv ee : Int} {t : List UInt8} (e k v : Nat) (h : o = .error e) (he : e ≠ 0) (h0 : ee = e) (h1 : kk = k) (h2 : vv = v) : POut o (.tup [.agg [.i kk, .s (bs t), .i vv, .i 0], .i ee]) := .inr ⟨e, k, t, v, h, he, by rw [h0, h1, h2]; rfl⟩
def QOut (o : Except Nat (Nat × List UInt8 × Nat × Nat)) (a : Nat) (x : AV) : Prop :=
  (∃ k t v n, o = .ok (k, t, v, n) ∧ x = .tup [tokA k t v a, .i (n : Nat), .i 0]) ∨ (∃ (e k : Nat) (t : List UInt8) (v n b : Nat), o = .error e ∧ e ≠ 0 ∧ x = .tup [tokA k t v b, .i n, .i e])
theorem QOut.ok {o : Except Nat (Nat × List UInt8 × Nat × Nat)} {kk vv nn aa : Int} {a : Nat} {t : List UInt8} (k v n : Nat) (h : o = .ok (k, t, v, n)) (h1 : kk = k) (h2 : vv = v) (h3 : nn = n) (h4 : aa = a) : QOut o a (.tup [.agg [.i kk, .s (bs t), .i vv, .i aa], .i nn, .i 0]) := .inl ⟨k, t, v, n, h, by rw [h1, h2, h3, h4]⟩
theorem QOut.err {o : Except Nat (Nat × List UInt8 × Nat × Nat)} {a : Nat} {kk vv nn bb ee : Int} {t : List UInt8} (e k v n b : Nat) (h : o = .error e) (he : e ≠ 0) (h0 : ee = e) (h1 : kk = k) (h2 : vv = v) (h3 : nn = n) (h4 : bb = b) : QOut o a (.tup [.agg [.i kk, .s (bs t), .i vv, .i bb], .i nn, .i ee]) := .inr ⟨e, k, t, v, n, b, h, he, by rw [h0, h1, h2, h3, h4]⟩
theorem pre_all {p : UInt8 → Bool} {r : List UInt8} {k : Nat} (h : k < (r.take (pre p r)).length) : p ((r.take (pre p r)).getD k 0) = true := by
  have hm : (r.take (pre p r)) = r.takeWhile p := by
    unfold pre
    exact List.prefix_iff_eq_take.1 (List.takeWhile_prefix p) |>.symm
  rw [hm] at h ⊢
  rw [Q7i h]
  exact List.all_eq_true.1 (List.all_takeWhile) _ (List.getElem_mem h)
theorem digs {r : List UInt8} {n : Nat} (e : n = pre Q1z r) : ∀ k, k < (r.take n).length → 48 ≤ ((r.take n).getD k 0).toNat ∧ ((r.take n).getD k 0).toNat ≤ 57 := by
  intro k hk
  subst e
  have := pre_all hk
  simpa [Q1z] using this
theorem Q7c {kd : Nat} {r : List UInt8} {n : Nat} (h1 : n < r.length) (h : Q3h (r.getD n 0) = true ∨ Q1j (r.getD n 0) = true) : X0x kd r n = .error 4 := by
  unfold X0x glue
  rw [if_pos]
  rcases h with h | h <;> simp only [h, h1] <;> simp
theorem X9x {r : List UInt8} {n : Nat} (h1 : ¬ Q3h (r.getD n 0) = true) (h : ¬ Q1j (r.getD n 0) = true) : glue r n = false := by
  unfold glue
  simp only [Bool.not_eq_true] at h1 h
  rw [h1, h]; simp
theorem X9y {r : List UInt8} {n : Nat} (h1 : r.length ≤ n) : glue r n = false := by
  unfold glue
  simp; omega
theorem wordT_2 {r : List UInt8} {n : Nat} (hg : glue r n = false) : X0x 2 r n = if Q7p (r.take n) = true then .ok (2, r.take n, 0) else .error 4 := by
  unfold X0x; rw [hg, if_neg (by simp), if_pos rfl]
theorem wordT_1 {r : List UInt8} {n : Nat} (hg : glue r n = false) : X0x 1 r n = if 16 < n then .error 2 else .ok (1, r.take n, 0) := by
  unfold X0x; rw [hg, if_neg (by simp), if_neg (by simp), if_pos rfl]
theorem wordT_3 {r : List UInt8} {n v : Nat} (hg : glue r n = false) (hv : num (r.take n) 0 = some v) : X0x 3 r n = .ok (3, [], v) := by
  unfold X0x; rw [hg, if_neg (by simp), if_neg (by simp), if_neg (by simp), hv]
theorem wordT_3n {r : List UInt8} {n : Nat} (hg : glue r n = false) (hv : num (r.take n) 0 = none) : X0x 3 r n = .error 7 := by
  unfold X0x; rw [hg, if_neg (by simp), if_neg (by simp), if_neg (by simp), hv]
end Go.Lex
namespace Go.Proofs.YtjdapkelojdefaaGreatDoor
open Go Go.V Go.Lex
theorem t106' (l : List UInt8) (σ : Sg) (hl : l.length < 2 ^ 60) (hd : ∀ k, k < l.length → 48 ≤ (l.getD k 0).toNat ∧ (l.getD k 0).toNat ≤ 57) : VCalls Tryz.prog 167 [.s (bs l)] σ (fun x σ' => σ' = σ ∧ NOut (num l 0) x) :=
  (t106 l σ hl hd).mono fun x σ' h => ⟨h.2, by rw [h.1]; exact NOut_numR _⟩
theorem t77 (r : List UInt8) (n kd : Nat) (σ : Sg) (hl : r.length < 2 ^ 60) (hn : n ≤ r.length) (h0 : 0 < r.length) (hk : (kd = 2 ∧ Q1j (r.getD 0 0) = true) ∨ (kd = 1 ∧ Q1j (r.getD 0 0) = false ∧ Q2g (r.getD 0 0) = true) ∨ (kd = 3 ∧ Q1j (r.getD 0 0) = false ∧ Q2g (r.getD 0 0) = false ∧ n = pre Q1z r)) :
    VCalls Tryz.prog 134 [.s (bs r), .i n] σ (fun x σ' => POut (X0x kd r n) x ∧ σ' = σ) := by
  rcases hk with ⟨rfl, hg⟩ | ⟨rfl, hg, hf⟩ | ⟨rfl, hg, hf, hd⟩
  · (refine vfun (fun _ => .no) Q0h Tryz.func134 (by kernel_rfl) ?_; simp only [Q0f, Tryz.f134, zw])
    (have zz := Bx.mk (j7 ui9 Z5 ui3 ui30 Q0u Z75 hg); (repeat' (first | exact zc | (with_reducible first | apply And.intro | apply Q0a | apply Q0b | refine Q0c (by decide +kernel) ?_ | intro _) | refine za zz.out ?_ | ((first | with_reducible refine (t73 _ _).use ?_ | with_reducible refine (t74 _ _).use ?_ | with_reducible refine (t105 _).use ?_ | with_reducible refine (t104 words _ _ _ (by decide)).use ?_); (try refine zs zz.out ?_)) | refine zo ?_ | omega | refine zt zz.out ?_ | fail)); try (all_goals clear zz))
    all_goals first
      | exact ⟨σ, (by repeat (first | exact Sg.sub.refl _ | refine Sg.sub.set_both ?_ | refine Sg.sub.set_fresh ?_ (by first | assumption | exact Sg.set_none ‹_› ‹_›) | refine Sg.sub.del_fresh ?_ (by first | assumption | exact Sg.set_none ‹_› ‹_›))), .err 4 0 0 (Q7c (by omega) (.inr ‹_›)) (by decide) rfl rfl rfl, rfl⟩
      | exact ⟨σ, (by repeat (first | exact Sg.sub.refl _ | refine Sg.sub.set_both ?_ | refine Sg.sub.set_fresh ?_ (by first | assumption | exact Sg.set_none ‹_› ‹_›) | refine Sg.sub.del_fresh ?_ (by first | assumption | exact Sg.set_none ‹_› ‹_›))), .err 4 0 0 (Q7c (by omega) (.inl ‹_›)) (by decide) rfl rfl rfl, rfl⟩
      | (have hgl : glue r n = false := by first | exact X9y (by omega) | exact X9x ‹_› ‹_›
         first
           | exact ⟨σ, (by repeat (first | exact Sg.sub.refl _ | refine Sg.sub.set_both ?_ | refine Sg.sub.set_fresh ?_ (by first | assumption | exact Sg.set_none ‹_› ‹_›) | refine Sg.sub.del_fresh ?_ (by first | assumption | exact Sg.set_none ‹_› ‹_›))), .ok 2 0 (by rw [wordT_2 hgl, if_pos (by unfold Q7p; exact decide_eq_true ‹_›)]) rfl rfl, rfl⟩
           | exact ⟨σ, (by repeat (first | exact Sg.sub.refl _ | refine Sg.sub.set_both ?_ | refine Sg.sub.set_fresh ?_ (by first | assumption | exact Sg.set_none ‹_› ‹_›) | refine Sg.sub.del_fresh ?_ (by first | assumption | exact Sg.set_none ‹_› ‹_›))), .err 4 2 0 (by rw [wordT_2 hgl, if_neg (by unfold Q7p; rw [decide_eq_false ‹_›]; simp)]) (by decide) rfl rfl rfl, rfl⟩)
      | trace_state
  · (refine vfun (fun _ => .no) Q0h Tryz.func134 (by kernel_rfl) ?_; simp only [Q0f, Tryz.f134, zw])
    (have zz := Bx.mk (j8 ui9 Z5 ui3 ui30 Q0u Z75 hg hf); (repeat' (first | exact zc | (with_reducible first | apply And.intro | apply Q0a | apply Q0b | refine Q0c (by decide +kernel) ?_ | intro _) | refine za zz.out ?_ | ((first | with_reducible refine (t73 _ _).use ?_ | with_reducible refine (t74 _ _).use ?_ | with_reducible refine (t72 _ _).use ?_); (try refine zs zz.out ?_)) | refine zo ?_ | omega | refine zt zz.out ?_ | fail)); try (all_goals clear zz))
    all_goals first
      | exact ⟨σ, (by repeat (first | exact Sg.sub.refl _ | refine Sg.sub.set_both ?_ | refine Sg.sub.set_fresh ?_ (by first | assumption | exact Sg.set_none ‹_› ‹_›) | refine Sg.sub.del_fresh ?_ (by first | assumption | exact Sg.set_none ‹_› ‹_›))), .err 4 0 0 (Q7c (by omega) (.inr ‹_›)) (by decide) rfl rfl rfl, rfl⟩
      | exact ⟨σ, (by repeat (first | exact Sg.sub.refl _ | refine Sg.sub.set_both ?_ | refine Sg.sub.set_fresh ?_ (by first | assumption | exact Sg.set_none ‹_› ‹_›) | refine Sg.sub.del_fresh ?_ (by first | assumption | exact Sg.set_none ‹_› ‹_›))), .err 4 0 0 (Q7c (by omega) (.inl ‹_›)) (by decide) rfl rfl rfl, rfl⟩
      | (have hgl : glue r n = false := by first | exact X9y (by omega) | exact X9x ‹_› ‹_›
         first
           | exact ⟨σ, (by repeat (first | exact Sg.sub.refl _ | refine Sg.sub.set_both ?_ | refine Sg.sub.set_fresh ?_ (by first | assumption | exact Sg.set_none ‹_› ‹_›) | refine Sg.sub.del_fresh ?_ (by first | assumption | exact Sg.set_none ‹_› ‹_›))), .ok 1 0 (by rw [wordT_1 hgl, if_neg (by omega)]) rfl rfl, rfl⟩
           | exact ⟨σ, (by repeat (first | exact Sg.sub.refl _ | refine Sg.sub.set_both ?_ | refine Sg.sub.set_fresh ?_ (by first | assumption | exact Sg.set_none ‹_› ‹_›) | refine Sg.sub.del_fresh ?_ (by first | assumption | exact Sg.set_none ‹_› ‹_›))), .err 2 1 0 (by rw [wordT_1 hgl, if_pos (by omega)]) (by decide) rfl rfl rfl, rfl⟩)
      | trace_state
  · (refine vfun (fun _ => .no) Q0h Tryz.func134 (by kernel_rfl) ?_; simp only [Q0f, Tryz.f134, zw])
    (have zz := Bx.mk (j8 ui9 Z5 ui3 ui30 Q0u Z75 hg hf); (repeat' (first | exact zc | (with_reducible first | apply And.intro | apply Q0a | apply Q0b | refine Q0c (by decide +kernel) ?_ | intro _) | refine za zz.out ?_ | ((first | with_reducible refine (t73 _ _).use ?_ | with_reducible refine (t74 _ _).use ?_ | with_reducible refine (t72 _ _).use ?_ | ((with_reducible refine (t106' _ _ (by simp; omega) (digs hd)).mono ?_); rintro x σ' ⟨rfl, ⟨v, hv, rfl⟩ | ⟨hv, rfl⟩⟩)); (try refine zs zz.out ?_)) | refine zo ?_ | omega | refine zt zz.out ?_ | fail)); try (all_goals clear zz))
    all_goals first
      | exact ⟨σ, (by repeat (first | exact Sg.sub.refl _ | refine Sg.sub.set_both ?_ | refine Sg.sub.set_fresh ?_ (by first | assumption | exact Sg.set_none ‹_› ‹_›) | refine Sg.sub.del_fresh ?_ (by first | assumption | exact Sg.set_none ‹_› ‹_›))), .err 4 0 0 (Q7c (by omega) (.inr ‹_›)) (by decide) rfl rfl rfl, rfl⟩
      | exact ⟨σ, (by repeat (first | exact Sg.sub.refl _ | refine Sg.sub.set_both ?_ | refine Sg.sub.set_fresh ?_ (by first | assumption | exact Sg.set_none ‹_› ‹_›) | refine Sg.sub.del_fresh ?_ (by first | assumption | exact Sg.set_none ‹_› ‹_›))), .err 4 0 0 (Q7c (by omega) (.inl ‹_›)) (by decide) rfl rfl rfl, rfl⟩
      | (have hgl : glue r n = false := by first | exact X9y (by omega) | exact X9x ‹_› ‹_›
         first
           | exact ⟨σ, (by repeat (first | exact Sg.sub.refl _ | refine Sg.sub.set_both ?_ | refine Sg.sub.set_fresh ?_ (by first | assumption | exact Sg.set_none ‹_› ‹_›) | refine Sg.sub.del_fresh ?_ (by first | assumption | exact Sg.set_none ‹_› ‹_›))), .ok 3 _ (wordT_3 hgl hv) rfl rfl, rfl⟩
           | exact ⟨σ, (by repeat (first | exact Sg.sub.refl _ | refine Sg.sub.set_both ?_ | refine Sg.sub.set_fresh ?_ (by first | assumption | exact Sg.set_none ‹_› ‹_›) | refine Sg.sub.del_fresh ?_ (by first | assumption | exact Sg.set_none ‹_› ‹_›))), .err 7 3 0 (wordT_3n hgl hv) (by decide) rfl rfl rfl, rfl⟩)
      | trace_state
end Go.Proofs.YtjdapkelojdefaaGreatDoor
namespace Go.Lex
open Go.V Go.Proofs.YtjdapkelojdefaaGreatDoor
def qd : List UInt8 → Option (List UInt8 × Nat)
  | [] => none
  | [c] => if c = 39 then some ([], 1) else none
  | c :: d :: r => if c = 39 then (if d = 39 then (qd r).map (fun p => (39 :: p.1, 2 + p.2)) else some ([], 1)) else (qd (d :: r)).map (fun p => (c :: p.1, 1 + p.2))
def qa (acc : List UInt8) (m : Nat) (o : Option (List UInt8 × Nat)) : Option (List UInt8 × Nat) := o.map (fun p => (acc ++ p.1, m + p.2))
theorem qa_qa (a b : List UInt8) (m n : Nat) (o : Option (List UInt8 × Nat)) : qa a m (qa b n o) = qa (a ++ b) (m + n) o := by
  cases o with
  | none => rfl
  | some p => simp [qa, Nat.add_assoc]
theorem qa_zero (o : Option (List UInt8 × Nat)) : qa [] 0 o = o := by
  cases o with
  | none => rfl
  | some p => simp [qa]
theorem qa_none (a : List UInt8) (m : Nat) : qa a m none = none := rfl
theorem X5n {c : UInt8} {r : List UInt8} (h : c ≠ 39) : qd (c :: r) = qa [c] 1 (qd r) := by
  cases r with
  | nil => simp [qd, h, qa]
  | cons d r => simp [qd, h, qa]
theorem qd_two (r : List UInt8) : qd (39 :: 39 :: r) = qa [39] 2 (qd r) := by simp [qd, qa]
theorem X5o {r : List UInt8} (h : ∀ d r', r = d :: r' → d ≠ 39) : qd (39 :: r) = some ([], 1) := by
  cases r with
  | nil => rfl
  | cons d r => simp [qd, h d r rfl]
theorem qd_upTo (m : List UInt8) : qd m = qa (m.take (upTo 39 m)) (upTo 39 m) (qd (m.drop (upTo 39 m))) := by
  induction m with
  | nil => rfl
  | cons c r ih =>
    by_cases h : c = 39
    · subst h
      have : upTo 39 (39 :: r) = 0 := by simp [upTo]
      rw [this]; simp [qa_zero]
    · have : upTo 39 (c :: r) = upTo 39 r + 1 := by simp [upTo, h]
      rw [this, X5n h, List.take_succ_cons, List.drop_succ_cons]
      conv => lhs; rw [ih]
      rw [qa_qa, Nat.add_comm 1]
      rfl
theorem upTo_le (c : UInt8) (m : List UInt8) : upTo c m ≤ m.length := (List.takeWhile_prefix _).length_le
theorem upTo_at (c : UInt8) (m : List UInt8) (h : upTo c m < m.length) : m.getD (upTo c m) 0 = c := by
  induction m with
  | nil => simp at h
  | cons d r ih =>
    by_cases e : d = c
    · subst e
      have : upTo d (d :: r) = 0 := by simp [upTo]
      rw [this]; rfl
    · have h1 : upTo c (d :: r) = upTo c r + 1 := by simp [upTo, e]
      rw [h1] at h ⊢
      have := ih (by simpa using h)
      simpa using this
theorem eq39 (c : UInt8) : c = 39 ↔ c.toNat = 39 := ⟨fun h => by rw [h]; rfl, fun h => UInt8.toNat_inj.1 h⟩
theorem qd_at2 {l : List UInt8} {k : Nat} (h : k + 1 < l.length) (hc : (l.getD k 0).toNat = 39) (hd : (l.getD (k + 1) 0).toNat = 39) : qd (l.drop k) = qa [39] 2 (qd (l.drop (k + 2))) := by
  rw [List.drop_eq_getElem_cons (by omega), ← Q7i (by omega), List.drop_eq_getElem_cons h, ← Q7i h, (eq39 _).2 hc, (eq39 _).2 hd]
  exact qd_two _
theorem qd_at1 {l : List UInt8} {k : Nat} (h : k < l.length) (hc : (l.getD k 0).toNat = 39) (hd : k + 1 < l.length → (l.getD (k + 1) 0).toNat ≠ 39) : qd (l.drop k) = some ([], 1) := by
  rw [List.drop_eq_getElem_cons h, ← Q7i h, (eq39 _).2 hc]
  refine X5o (fun d r' e => ?_)
  have hlt : k + 1 < l.length := by
    have := congrArg List.length e
    simp at this
    omega
  rw [List.drop_eq_getElem_cons hlt, ← Q7i hlt] at e
  injection e with e1 e2
  subst e1
  exact fun e => hd hlt ((eq39 _).1 e)
theorem qd_end {l : List UInt8} {k : Nat} (h : l.length ≤ k) : qd (l.drop k) = none := by rw [List.drop_of_length_le h]; rfl
def Q6l (r : List UInt8) : Except Nat (Nat × List UInt8 × Nat × Nat) :=
  match qd (r.drop 1) with
  | none => .error 3
  | some (t, n) => if 40 < t.length then .error 2 else .ok (4, t, 0, 1 + n)
theorem quotedT_none {r : List UInt8} (h : qd (r.drop 1) = none) : Q6l r = .error 3 := by unfold Q6l; rw [h]
theorem quotedT_long {r t : List UInt8} {n : Nat} (h : qd (r.drop 1) = some (t, n)) (h' : 40 < t.length) : Q6l r = .error 2 := by unfold Q6l; rw [h]; exact if_pos h'
theorem X8m {r t : List UInt8} {n : Nat} (h : qd (r.drop 1) = some (t, n)) (h' : ¬ 40 < t.length) : Q6l r = .ok (4, t, 0, 1 + n) := by unfold Q6l; rw [h]; exact if_neg h'
theorem pre39 {l : List UInt8} {k : Nat} : Q1m [39] (l.drop k) = true ↔ k < l.length ∧ (l.getD k 0).toNat = 39 := by
  by_cases h : k < l.length
  · rw [List.drop_eq_getElem_cons h, ← Q7i h]
    have h1 : ∀ (c : UInt8) (m : List UInt8), (List.take 1 (c :: m) = [39]) ↔ c.toNat = 39 := fun c m => by simp [eq39]
    simp only [Q1m, List.length_cons, List.length_nil, Nat.zero_add, decide_eq_true_eq, h1, h, true_and]
  · rw [List.drop_of_length_le (by omega)]
    simp [Q1m]; omega
end Go.Lex
namespace Go.Proofs.YtjdapkelojdefaaGreatDoor
open Go Go.V Go.Lex
theorem Bld.get {β : Nat} {acc : List UInt8} {σ S : Sg} (hb : Bld β acc σ S) {x : Nat} {o : Ob} (h : σ x = some o) : S x = some o := by
  obtain ⟨h0, ⟨rfl, rfl⟩ | ⟨τ, hτ, hτ0, rfl⟩⟩ := hb
  all_goals
    have e1 : x ≠ β := fun e => by rw [e, h0] at h; cases h
    simp only [Sg.set, if_neg e1]
  · exact h
  · rw [if_neg (fun e => by rw [e, hτ0] at h; cases h)]; exact h
theorem Bld.sub {β : Nat} {acc : List UInt8} {σ S : Sg} (hb : Bld β acc σ S) : σ.sub S := fun _ _ h => hb.get h
theorem Bld.sub' {β x : Nat} {acc : List UInt8} {σ S : Sg} {o : Ob} (hb : Bld β acc (σ.set x o) S) (hx : σ x = none) : σ.sub S := fun _ _ h => hb.sub _ _ (Sg.sub_set hx o _ _ h)
theorem t101q (β : Nat) (acc : List UInt8) (σ S : Sg) (hb : Bld β acc σ S) (hl : acc.length < 2 ^ 40) : VCalls Tryz.prog 163 [.ref β 0, .u8 39] S (fun x σ' => x = .val .nilIface ∧ Bld β (acc ++ [39]) σ σ') := t101 β acc 39 σ S hb hl
theorem t99q (l : List UInt8) (σ : Sg) : VCalls Tryz.prog 162 [.s (bs l), .u8 39] σ (fun x σ' => x = .i (if upTo 39 l < l.length then (upTo 39 l : Nat) else -1) ∧ σ' = σ) := t99 l 39 σ
theorem t71 (r : List UInt8) (σ : Sg) (hl : r.length < 2 ^ 30) (h0 : 0 < r.length) : VCalls Tryz.prog 130 [.s (bs r)] σ (fun x σ' => QOut (Q6l r) 0 x ∧ σ' = σ) := by
  (refine vfun (fun _ => .no) Q0h Tryz.func130 (by kernel_rfl) ?_; simp only [Q0f, Tryz.f130, zw])
  repeat' (first | with_reducible rfl | exact .inr trivial | with_reducible apply And.intro | with_reducible apply Q0a | with_reducible apply Q0b | with_reducible refine Q0c (by decide +kernel) ?_ | with_reducible intro _ | ((first | (with_reducible first | refine .rs ?_ | refine .ds (by kernel_rfl) ?_ | refine .dg (by kernel_rfl) ?_ | refine .rg ?_ | refine .ite ?_ | refine .ret ?_ | refine .skip ?_ | refine .exit ?_ | refine .scope ?_ | refine .seq (.label ?_) | refine .block ?_ | refine .seq ?_) | (simp (disch := first | assumption | omega) only [w64, w8, tg_eq, n1, n2, nn, zm, zn, Sg.set_ne, Sg.set_ne', Sg.del_ne, Sg.del_ne'])); (try simp only [vO, vQ, ↓vP, vE, vS, vB, vL, vF, vM, vN, Q0g, zb, zd, ze, ne_eq, not_false_eq_true, zf, zg, zk, zl, Z9, Z5, Z3, Z30, Z102, Q2f, Q2r, Q2c, Q4f, X2l, Z152, vT])) | with_reducible refine Q1h ?_ | with_reducible refine Q0w (fun _ _ => ?_) | with_reducible refine Q1l (fun _ => ?_) (fun _ => ?_) | omega | ((with_reducible first | refine Q5c ?_ | refine Q3f ?_ | refine Q1v ?_ | refine Q3g ?_ | refine Q0v ?_); simp only [vO, vQ, ↓vP, vE, vS, vB, vL, vF, vM, vN, Q0g, zb, zd, ze, ne_eq, not_false_eq_true, zf, zg, zk, zl, Z9, Z5, Z3, Z30, Z102, Q2f, Q2r, Q2c, Q4f, X2l, Z152, vT]))
  rename_i x hx b hb hne
  refine VW.loop3 (1 : Nat) ([] : List UInt8) _ (fun k acc S => 1 ≤ k ∧ k ≤ r.length ∧ acc.length ≤ k ∧ qd (r.drop 1) = qa acc (k - 1) (qd (r.drop k)) ∧ Bld b acc (σ.set x (.cells 102 [.i 0, .s (bs []), .i 0, .i 0])) S) (fun k _ S => [(0, .s (bs r)), (2, .ref x 0), (5, .ref b 0), (6, .i k)]) (fun _ _ S => S) (fun k _ _ => r.length - k) ⟨by omega, by omega, by simp, by rw [qa_zero], ⟨by rw [Sg.set_other _ _ hne]; exact hb, .inl ⟨rfl, rfl⟩⟩⟩ (.refl _) ?_ (fun k acc S ⟨h1, h2, h3, h4, hB⟩ => have hS : S x = some (.cells 102 [.i 0, .s (bs []), .i 0, .i 0]) := hB.get (zn _ _ _); ?_)
  · simp only [vO, vQ, ↓vP, vE, vS, vB, vL, vF, vM, vN, Q0g, zb, zd, ze, ne_eq, not_false_eq_true, zf, zg, zk, zl, vT]
    trivial
  have hu := qd_upTo (r.drop k)
  have hul := upTo_le 39 (r.drop k)
  have hua := upTo_at 39 (r.drop k)
  have ht : VCalls Tryz.prog 162 [.s (bs (r.drop k)), .u8 39] S (fun x σ' => x = .i (if upTo 39 (r.drop k) < r.length - k then (upTo 39 (r.drop k) : Nat) else -1) ∧ σ' = S) := by
    have := t99q (r.drop k) S
    rw [List.length_drop] at this
    exact this
  simp only [List.length_drop, List.drop_drop, List.getD_eq_getElem?_getD, List.getElem?_drop] at hu hul hua
  rw [hu, qa_qa] at h4
  generalize upTo 39 (r.drop k) = m at *
  have tp : ∀ (l : List UInt8), VCalls Tryz.prog 128 [.s (bs l), .s (bs [39])] S (fun x σ' => x = .b (Q1m [39] l) ∧ σ' = S) := fun l => t68 l [39] S
  rcases Nat.lt_or_ge m (r.length - k) with hm | hm
  · simp only [if_pos hm] at ht
    have hc : ∀ m', (r.drop k).take m = (r.take (k + m)).drop k ∧ (m' = k + (m + 1) → k + m + 1 = m') := fun m' => ⟨by rw [List.drop_take]; congr 1; omega, by omega⟩
    have hat : (r.getD (k + m) 0).toNat = 39 := by rw [List.getD_eq_getElem?_getD, hua hm]; rfl
    have hlen : (acc ++ (r.take (k + m)).drop k).length ≤ k + m := by simp; omega
    rw [(hc 0).1] at h4
    clear hc hu
    repeat' (first | with_reducible rfl | exact .inr trivial | with_reducible apply And.intro | with_reducible apply Q0a | with_reducible apply Q0b | with_reducible refine Q0c (by decide +kernel) ?_ | with_reducible intro _ | ((first | (with_reducible first | refine .rs ?_ | refine .ds (by kernel_rfl) ?_ | refine .dg (by kernel_rfl) ?_ | refine .rg ?_ | refine .ite ?_ | refine .ret ?_ | refine .skip ?_ | refine .exit ?_ | refine .scope ?_ | refine .seq (.label ?_) | refine .block ?_ | refine .seq ?_) | (simp (disch := first | assumption | omega) only [w64, w8, tg_eq, n1, n2, nn, zm, zn, Sg.set_ne, Sg.set_ne', Sg.del_ne, Sg.del_ne']) | with_reducible refine ht.use ?_ | with_reducible refine (t68 _ _ _).use ?_ | with_reducible refine (t102 _ _ _ _ hB).use ?_ | with_reducible refine (t103 _ _ _ _ hB (by first | assumption | omega)).use ?_ | ((with_reducible refine (t100 _ _ _ _ _ hB (by simp; omega)).mono ?_); rintro y S' ⟨rfl, hB⟩; have hS := hB.get (zn _ _ _)) | ((with_reducible refine (t101q _ _ _ _ hB (by omega)).mono ?_); rintro y S' ⟨rfl, hB⟩; have hS := hB.get (zn _ _ _))); (try simp only [vO, vQ, ↓vP, vE, vS, vB, vL, vF, vM, vN, Q0g, zb, zd, ze, ne_eq, not_false_eq_true, zf, zg, zk, zl, Z9, Z5, Z3, Z30, Z102, Q2f, Q2r, Q2c, Q4f, X2l, Z152, hS, nadd, X8a, X8b, X8c, X8d, X8e, vT])) | with_reducible refine Q1h ?_ | with_reducible refine Q0w (fun _ _ => ?_) | with_reducible refine Q1l (fun _ => ?_) (fun _ => ?_) | omega | ((with_reducible first | refine Q5c ?_ | refine Q3f ?_ | refine Q1v ?_ | refine Q3g ?_ | refine Q0v ?_); simp only [vO, vQ, ↓vP, vE, vS, vB, vL, vF, vM, vN, Q0g, zb, zd, ze, ne_eq, not_false_eq_true, zf, zg, zk, zl, Z9, Z5, Z3, Z30, Z102, Q2f, Q2r, Q2c, Q4f, X2l, Z152, hS, nadd, X8a, X8b, X8c, X8d, X8e, vT]))
    all_goals first
      | (have hp := pre39.1 ‹_›
         have h5 := qd_at2 (l := r) (k := k + m) (by omega) hat (by rw [show k + m + 1 = k + (m + 1) from rfl]; exact hp.2)
         rw [h5, qa_qa] at h4
         exact ⟨k + (m + 1) + 1, _, S', ⟨⟨by omega, by omega, by simp at hlen ⊢; omega, by rw [h4, show k - 1 + m + 2 = k + (m + 1) + 1 - 1 by omega, show k + m + 2 = k + (m + 1) + 1 by omega], hB⟩, by omega⟩, .refl _, rfl⟩)
      | (have h5 := qd_at1 (l := r) (k := k + m) (by omega) hat (fun h6 h7 => absurd (pre39.2 ⟨h6, h7⟩) (by assumption))
         rw [h5] at h4
         have h6 : qd (r.drop 1) = some (acc ++ (r.take (k + m)).drop k, k - 1 + m + 1) := by rw [h4]; simp [qa]
         first
           | exact ⟨σ, (by repeat (first | exact Sg.sub.refl _ | exact hB.sub' hx | refine Sg.sub.set_both ?_ | refine Sg.sub.set_fresh ?_ (by first | assumption | exact Sg.set_none ‹_› ‹_›) | refine Sg.sub.del_fresh ?_ (by first | assumption | exact Sg.set_none ‹_› ‹_›))), .err 2 0 0 0 0 (quotedT_long h6 (by omega)) (by decide) rfl rfl rfl rfl rfl, rfl⟩
           | exact ⟨σ, (by repeat (first | exact Sg.sub.refl _ | exact hB.sub' hx | refine Sg.sub.set_both ?_ | refine Sg.sub.set_fresh ?_ (by first | assumption | exact Sg.set_none ‹_› ‹_›) | refine Sg.sub.del_fresh ?_ (by first | assumption | exact Sg.set_none ‹_› ‹_›))), .ok 4 0 _ (X8m h6 (by omega)) rfl rfl (by omega) rfl, rfl⟩)
      | trace_state
  · simp only [if_neg (Nat.not_lt.2 hm)] at ht
    repeat' (first | with_reducible rfl | exact .inr trivial | with_reducible apply And.intro | with_reducible apply Q0a | with_reducible apply Q0b | with_reducible refine Q0c (by decide +kernel) ?_ | with_reducible intro _ | ((first | (with_reducible first | refine .rs ?_ | refine .ds (by kernel_rfl) ?_ | refine .dg (by kernel_rfl) ?_ | refine .rg ?_ | refine .ite ?_ | refine .ret ?_ | refine .skip ?_ | refine .exit ?_ | refine .scope ?_ | refine .seq (.label ?_) | refine .block ?_ | refine .seq ?_) | (simp (disch := first | assumption | omega) only [w64, w8, tg_eq, n1, n2, nn, zm, zn, Sg.set_ne, Sg.set_ne', Sg.del_ne, Sg.del_ne']) | with_reducible refine ht.use ?_); (try simp only [vO, vQ, ↓vP, vE, vS, vB, vL, vF, vM, vN, Q0g, zb, zd, ze, ne_eq, not_false_eq_true, zf, zg, zk, zl, Z9, Z5, Z3, Z30, Z102, Q2f, Q2r, Q2c, Q4f, X2l, Z152, hS, vT])) | with_reducible refine Q1h ?_ | with_reducible refine Q0w (fun _ _ => ?_) | with_reducible refine Q1l (fun _ => ?_) (fun _ => ?_) | omega | ((with_reducible first | refine Q5c ?_ | refine Q3f ?_ | refine Q1v ?_ | refine Q3g ?_ | refine Q0v ?_); simp only [vO, vQ, ↓vP, vE, vS, vB, vL, vF, vM, vN, Q0g, zb, zd, ze, ne_eq, not_false_eq_true, zf, zg, zk, zl, Z9, Z5, Z3, Z30, Z102, Q2f, Q2r, Q2c, Q4f, X2l, Z152, hS, vT]))
    have h5 := qd_end (l := r) (k := k + m) (by omega)
    rw [h5, qa_none] at h4
    all_goals exact ⟨σ, (by repeat (first | exact Sg.sub.refl _ | exact hB.sub' hx | refine Sg.sub.set_both ?_ | refine Sg.sub.set_fresh ?_ (by first | assumption | exact Sg.set_none ‹_› ‹_›) | refine Sg.sub.del_fresh ?_ (by first | assumption | exact Sg.set_none ‹_› ‹_›))), .err 3 0 0 0 0 (quotedT_none h4) (by decide) rfl rfl rfl rfl rfl, rfl⟩
end Go.Proofs.YtjdapkelojdefaaGreatDoor
namespace Go.V
end Go.V
namespace Go.Proofs.YtjdapkelojdefaaGreatDoor
open Go Go.V Go.Lex
end Go.Proofs.YtjdapkelojdefaaGreatDoor
namespace Go.Lex
open Go.V Go.Proofs.YtjdapkelojdefaaGreatDoor
def wl (kd : Nat) (r : List UInt8) (n : Nat) : Except Nat (Nat × List UInt8 × Nat × Nat) :=
  match X0x kd r n with
  | .ok (k, t, v) => .ok (k, t, v, n)
  | .error e => .error e
theorem wl_ok {kd : Nat} {r : List UInt8} {n k v : Nat} {t : List UInt8} (h : X0x kd r n = .ok (k, t, v)) : wl kd r n = .ok (k, t, v, n) := by unfold wl; rw [h]
theorem wl_err {kd : Nat} {r : List UInt8} {n e : Nat} (h : X0x kd r n = .error e) : wl kd r n = .error e := by unfold wl; rw [h]
def tok1 (r : List UInt8) : Except Nat (Nat × List UInt8 × Nat × Nat) :=
  if (r.getD 0 0).toNat = 39 then Q6l r
  else if Q2g (r.getD 0 0) = true then wl 1 r (pre Q3h r)
  else if Q1j (r.getD 0 0) = true then wl 2 r (pre Q1j r)
  else if Q1z (r.getD 0 0) = true then wl 3 r (pre Q1z r)
  else match signs.find? (fun x => Q1m x r) with
  | some x => .ok (5, x, 0, x.length)
  | none => .error 4
theorem tok1_q {r : List UInt8} (h : (r.getD 0 0).toNat = 39) : tok1 r = Q6l r := if_pos h
theorem not39 {c : UInt8} (h : Q2g c = true ∨ Q1j c = true ∨ Q1z c = true) : ¬ c.toNat = 39 := by
  intro e
  rcases h with h | h | h <;> simp [Q2g, Q1j, Q1z, e] at h
theorem notFG {c : UInt8} (h : Q1j c = true) : Q2g c = false := by
  cases hh : Q2g c with
  | false => rfl
  | true => simp [Q2g, Q1j] at h hh; omega
theorem notGF {c : UInt8} (h : Q2g c = true) : Q1j c = false := by
  cases hh : Q1j c with
  | false => rfl
  | true => rw [notFG hh] at h; cases h
theorem notFD {c : UInt8} (h : Q1z c = true) : Q2g c = false := by
  cases hh : Q2g c with
  | false => rfl
  | true => simp [Q2g, Q1z] at h hh; omega
theorem notGD {c : UInt8} (h : Q1z c = true) : Q1j c = false := by
  cases hh : Q1j c with
  | false => rfl
  | true => simp [Q1j, Q1z] at h hh; omega
theorem tok1_1 {r : List UInt8} (h : Q2g (r.getD 0 0) = true) : tok1 r = wl 1 r (pre Q3h r) := by
  unfold tok1; rw [if_neg (not39 (.inl h)), if_pos h]
theorem tok1_2 {r : List UInt8} (h : Q1j (r.getD 0 0) = true) : tok1 r = wl 2 r (pre Q1j r) := by
  unfold tok1; rw [if_neg (not39 (.inr (.inl h))), if_neg (by rw [notFG h]; simp), if_pos h]
theorem tok1_3 {r : List UInt8} (h : Q1z (r.getD 0 0) = true) : tok1 r = wl 3 r (pre Q1z r) := by
  unfold tok1; rw [if_neg (not39 (.inr (.inr h))), if_neg (by rw [notFD h]; simp), if_neg (by rw [notGD h]; simp), if_pos h]
theorem tok1_s {r : List UInt8} (h0 : ¬ (r.getD 0 0).toNat = 39) (h1 : ¬ Q2g (r.getD 0 0) = true) (h2 : ¬ Q1j (r.getD 0 0) = true) (h3 : ¬ Q1z (r.getD 0 0) = true) : tok1 r = match signs.find? (fun x => Q1m x r) with
  | some x => .ok (5, x, 0, x.length)
  | none => .error 4 := by unfold tok1; rw [if_neg h0, if_neg h1, if_neg h2, if_neg h3]
def X3b (r : List UInt8) (k : Nat) : Prop := (signs.find? (fun x => Q1m x r)) = ((signs.drop k).find? (fun x => Q1m x r))
theorem noSign_zero (r : List UInt8) : X3b r 0 := rfl
theorem noSign_step {r : List UInt8} {k : Nat} (hk : k < signs.length) (h : X3b r k) (hn : ¬ Q1m (signs.getD k []) r = true) : X3b r (k + 1) := by
  unfold X3b at *
  rw [h, List.drop_eq_getElem_cons hk, List.find?_cons]
  have : signs[k] = signs.getD k [] := by simp [List.getD_eq_getElem?_getD, List.getElem?_eq_getElem hk]
  rw [this]
  simp only [Bool.not_eq_true] at hn
  rw [hn]
theorem noSign_yes {r : List UInt8} {k : Nat} (hk : k < signs.length) (h : X3b r k) (hn : Q1m (signs.getD k []) r = true) : (signs.find? (fun x => Q1m x r)) = some (signs.getD k []) := by
  unfold X3b at *
  rw [h, List.drop_eq_getElem_cons hk, List.find?_cons]
  have : signs[k] = signs.getD k [] := by simp [List.getD_eq_getElem?_getD, List.getElem?_eq_getElem hk]
  rw [this, hn]
theorem noSign_end {r : List UInt8} {k : Nat} (hk : signs.length ≤ k) (h : X3b r k) : (signs.find? (fun x => Q1m x r)) = none := by
  unfold X3b at h
  rw [h, List.drop_of_length_le hk]; rfl
theorem tok1_sign {r : List UInt8} {x : List UInt8} (h0 : ¬ (r.getD 0 0).toNat = 39) (h1 : ¬ Q2g (r.getD 0 0) = true) (h2 : ¬ Q1j (r.getD 0 0) = true) (h3 : ¬ Q1z (r.getD 0 0) = true) (h : signs.find? (fun x => Q1m x r) = some x) : tok1 r = .ok (5, x, 0, x.length) := by
  rw [tok1_s h0 h1 h2 h3, h]
theorem tok1_none {r : List UInt8} (h0 : ¬ (r.getD 0 0).toNat = 39) (h1 : ¬ Q2g (r.getD 0 0) = true) (h2 : ¬ Q1j (r.getD 0 0) = true) (h3 : ¬ Q1z (r.getD 0 0) = true) (h : signs.find? (fun x => Q1m x r) = none) : tok1 r = .error 4 := by
  rw [tok1_s h0 h1 h2 h3, h]
end Go.Lex
namespace Go.Proofs.YtjdapkelojdefaaGreatDoor
open Go Go.V Go.Lex
theorem t44 (r : List UInt8) (σ : Sg) (hl : r.length < 2 ^ 30) (h0 : 0 < r.length) : VCalls Tryz.prog 82 [.s (bs r)] σ (fun x σ' => QOut (tok1 r) 0 x ∧ σ' = σ) := by
  have hp : ∀ p, pre p r ≤ r.length := fun p => X6k p r
  have hp1 := hp Q3h
  have hp2 := hp Q1j
  have hp3 := hp Q1z
  (refine vfun (fun _ => .no) Q0h Tryz.func82 (by kernel_rfl) ?_; simp only [Q0f, Tryz.f82, zw])
  (have zz := Bx.mk (j4 ui9 Z5 ui3 (j9 ui30 Q0u Z75 @nadd @X8a @X8b @X8c @X8d @X8e)); (repeat' (first | exact zc | (with_reducible first | apply And.intro | apply Q0a | apply Q0b | refine Q0c (by decide +kernel) ?_ | intro _) | refine za zz.out ?_ | ((first | with_reducible refine (t72 _ _).use ?_ | with_reducible refine (t74 _ _).use ?_ | with_reducible refine (t75 _ _).use ?_ | with_reducible refine (t76 _).use ?_ | with_reducible refine (t69 _ 101 [] Q3h _ (by omega) (fun c => t73 c _)).use ?_ | with_reducible refine (t69 _ 131 [] Q1j _ (by omega) (fun c => t74 c _)).use ?_ | with_reducible refine (t69 _ 132 [] Q1z _ (by omega) (fun c => t75 c _)).use ?_ | ((with_reducible refine (t71 _ _ (by omega) (by omega)).mono ?_); rintro y σ' ⟨⟨k, t, v, n, ho, rfl⟩ | ⟨e, k, t, v, n, b, ho, he, rfl⟩, rfl⟩) | ((with_reducible refine (t77 _ _ 1 _ (by omega) (by omega) (by omega) (.inr (.inl ⟨rfl, notGF ‹_›, ‹_›⟩))).mono ?_); rintro y σ' ⟨⟨k, t, v, ho, rfl⟩ | ⟨e, k, t, v, ho, he, rfl⟩, rfl⟩) | ((with_reducible refine (t77 _ _ 2 _ (by omega) (by omega) (by omega) (.inl ⟨rfl, ‹_›⟩)).mono ?_); rintro y σ' ⟨⟨k, t, v, ho, rfl⟩ | ⟨e, k, t, v, ho, he, rfl⟩, rfl⟩) | ((with_reducible refine (t77 _ _ 3 _ (by omega) (by omega) (by omega) (.inr (.inr ⟨rfl, notGD ‹_›, notFD ‹_›, rfl⟩))).mono ?_); rintro y σ' ⟨⟨k, t, v, ho, rfl⟩ | ⟨e, k, t, v, ho, he, rfl⟩, rfl⟩)); (try refine zs zz.out ?_)) | refine zo ?_ | omega | refine zt zz.out ?_ | fail)); try (all_goals clear zz))
  all_goals first
    | exact ⟨σ, (by repeat (first | exact Sg.sub.refl _ | refine Sg.sub.set_both ?_ | refine Sg.sub.set_fresh ?_ (by first | assumption | exact Sg.set_none ‹_› ‹_›) | refine Sg.sub.del_fresh ?_ (by first | assumption | exact Sg.set_none ‹_› ‹_›))), .ok _ _ _ ((tok1_q (by omega)).trans ho) rfl rfl rfl rfl, rfl⟩
    | exact ⟨σ, (by repeat (first | exact Sg.sub.refl _ | refine Sg.sub.set_both ?_ | refine Sg.sub.set_fresh ?_ (by first | assumption | exact Sg.set_none ‹_› ‹_›) | refine Sg.sub.del_fresh ?_ (by first | assumption | exact Sg.set_none ‹_› ‹_›))), .err _ _ _ _ _ ((tok1_q (by omega)).trans ho) he rfl rfl rfl rfl rfl, rfl⟩
    | exact ⟨σ, (by repeat (first | exact Sg.sub.refl _ | refine Sg.sub.set_both ?_ | refine Sg.sub.set_fresh ?_ (by first | assumption | exact Sg.set_none ‹_› ‹_›) | refine Sg.sub.del_fresh ?_ (by first | assumption | exact Sg.set_none ‹_› ‹_›))), .ok _ _ _ ((tok1_1 ‹_›).trans (wl_ok ho)) rfl rfl rfl rfl, rfl⟩
    | exact ⟨σ, (by repeat (first | exact Sg.sub.refl _ | refine Sg.sub.set_both ?_ | refine Sg.sub.set_fresh ?_ (by first | assumption | exact Sg.set_none ‹_› ‹_›) | refine Sg.sub.del_fresh ?_ (by first | assumption | exact Sg.set_none ‹_› ‹_›))), .err _ _ _ _ 0 ((tok1_1 ‹_›).trans (wl_err ho)) he rfl rfl rfl rfl rfl, rfl⟩
    | exact ⟨σ, (by repeat (first | exact Sg.sub.refl _ | refine Sg.sub.set_both ?_ | refine Sg.sub.set_fresh ?_ (by first | assumption | exact Sg.set_none ‹_› ‹_›) | refine Sg.sub.del_fresh ?_ (by first | assumption | exact Sg.set_none ‹_› ‹_›))), .ok _ _ _ ((tok1_2 ‹_›).trans (wl_ok ho)) rfl rfl rfl rfl, rfl⟩
    | exact ⟨σ, (by repeat (first | exact Sg.sub.refl _ | refine Sg.sub.set_both ?_ | refine Sg.sub.set_fresh ?_ (by first | assumption | exact Sg.set_none ‹_› ‹_›) | refine Sg.sub.del_fresh ?_ (by first | assumption | exact Sg.set_none ‹_› ‹_›))), .err _ _ _ _ 0 ((tok1_2 ‹_›).trans (wl_err ho)) he rfl rfl rfl rfl rfl, rfl⟩
    | exact ⟨σ, (by repeat (first | exact Sg.sub.refl _ | refine Sg.sub.set_both ?_ | refine Sg.sub.set_fresh ?_ (by first | assumption | exact Sg.set_none ‹_› ‹_›) | refine Sg.sub.del_fresh ?_ (by first | assumption | exact Sg.set_none ‹_› ‹_›))), .ok _ _ _ ((tok1_3 ‹_›).trans (wl_ok ho)) rfl rfl rfl rfl, rfl⟩
    | exact ⟨σ, (by repeat (first | exact Sg.sub.refl _ | refine Sg.sub.set_both ?_ | refine Sg.sub.set_fresh ?_ (by first | assumption | exact Sg.set_none ‹_› ‹_›) | refine Sg.sub.del_fresh ?_ (by first | assumption | exact Sg.set_none ‹_› ‹_›))), .err _ _ _ _ 0 ((tok1_3 ‹_›).trans (wl_err ho)) he rfl rfl rfl rfl rfl, rfl⟩
    | skip
  rename_i x hx g0 g1 g2 g3
  have hsl : signs.length = 16 := rfl
  refine VW.loop (0 : Nat) (fun k => k ≤ 16 ∧ X3b r k) (fun k => [(0, .s (bs r)), (2, .ref x 0), (13, .sl .full (strs signs)), (14, .i 16), (15, .i k)]) (fun _ => σ.set x (.cells 102 [.i 0, .s (bs []), .i 0, .i 0])) (fun k => 16 - k) ⟨by omega, noSign_zero r⟩ (.refl _) ?_ (fun k ⟨h1, h2⟩ => ?_)
  · simp only [vO, vQ, ↓vP, vE, vS, vB, vL, vF, vM, vN, Q0g, zb, zd, ze, ne_eq, not_false_eq_true, zf, zg, zk, zl, vT]
    simp [Q4l, hsl]
  (have zz := Bx.mk (j5 ui9 Z5 ui3 ui30 (j9 Q0u Z75 @Q4l @nadd @X8a @X8b @X8c @X8d @X8e)); (repeat' (first | exact zc | (with_reducible first | apply And.intro | apply Q0a | apply Q0b | refine Q0c (by decide +kernel) ?_ | intro _) | refine za zz.out ?_ | ((first | with_reducible simp (disch := omega) only [Q9x, Int.toNat_natCast] | with_reducible refine (t68 _ _ _).use ?_); (try refine zs zz.out ?_)) | refine zo ?_ | omega | refine zt zz.out ?_ | fail)); try (all_goals clear zz))
  all_goals first
    | exact ⟨σ, (by repeat (first | exact Sg.sub.refl _ | refine Sg.sub.set_both ?_ | refine Sg.sub.set_fresh ?_ (by first | assumption | exact Sg.set_none ‹_› ‹_›) | refine Sg.sub.del_fresh ?_ (by first | assumption | exact Sg.set_none ‹_› ‹_›))), .ok 5 0 _ (tok1_sign (by omega) g1 g2 g3 (noSign_yes (by omega) h2 ‹_›)) rfl rfl rfl rfl, rfl⟩
    | exact ⟨k + 1, ⟨⟨by omega, noSign_step (by omega) h2 ‹_›⟩, by omega⟩, .refl _, rfl⟩
    | exact ⟨σ, (by repeat (first | exact Sg.sub.refl _ | refine Sg.sub.set_both ?_ | refine Sg.sub.set_fresh ?_ (by first | assumption | exact Sg.set_none ‹_› ‹_›) | refine Sg.sub.del_fresh ?_ (by first | assumption | exact Sg.set_none ‹_› ‹_›))), .err 4 0 0 0 0 (tok1_none (by omega) g1 g2 g3 (noSign_end (by omega) h2)) (by decide) rfl rfl rfl rfl rfl, rfl⟩
end Go.Proofs.YtjdapkelojdefaaGreatDoor
namespace Go.Lex
open Go.V Go.Proofs.YtjdapkelojdefaaGreatDoor
theorem qd_len : ∀ (m t : List UInt8) (n : Nat), qd m = some (t, n) → 0 < n ∧ n ≤ m.length
  | [], _, _, h => by cases h
  | [c], t, n, h => by
    simp only [qd] at h
    split at h
    · cases h; simp
    · cases h
  | c :: d :: r, t, n, h => by
    simp only [qd] at h
    split at h
    · split at h
      · cases hq : qd r with
        | none => rw [hq] at h; cases h
        | some p =>
          rw [hq] at h
          cases h
          have := qd_len r p.1 p.2 hq
          simp; omega
      · cases h; simp
    · cases hq : qd (d :: r) with
      | none => rw [hq] at h; cases h
      | some p =>
        rw [hq] at h
        cases h
        have := qd_len (d :: r) p.1 p.2 hq
        simp at this ⊢; omega
theorem pre_pos {p : UInt8 → Bool} {r : List UInt8} (h0 : 0 < r.length) (h : p (r.getD 0 0) = true) : 0 < pre p r := by
  have := pre_yes (p := p) (l := r) (k := 0) h0 h
  rw [List.drop_zero] at this
  omega
theorem wl_n {kd : Nat} {r : List UInt8} {n k v m : Nat} {t : List UInt8} (h : wl kd r n = .ok (k, t, v, m)) : m = n := by
  unfold wl at h
  split at h
  · cases h; rfl
  · cases h
theorem X5p {r : List UInt8} {k v n : Nat} {t : List UInt8} (h0 : 0 < r.length) (h : tok1 r = .ok (k, t, v, n)) : 0 < n ∧ n ≤ r.length := by
  unfold tok1 at h
  split at h
  · unfold Q6l at h
    split at h
    · cases h
    · rename_i t' n' hq
      split at h
      · cases h
      · cases h
        have := qd_len _ _ _ hq
        simp at this; omega
  · split at h
    · rename_i hf
      rw [wl_n h]
      exact ⟨pre_pos h0 (by unfold Q3h; rw [hf]; rfl), X6k _ _⟩
    · split at h
      · rename_i hf
        rw [wl_n h]
        exact ⟨pre_pos h0 hf, X6k _ _⟩
      · split at h
        · rename_i hf
          rw [wl_n h]
          exact ⟨pre_pos h0 hf, X6k _ _⟩
        · split at h
          · rename_i x hx
            cases h
            have h1 := List.find?_some hx
            have h2 := List.mem_of_find?_eq_some hx
            have h3 : ∀ x ∈ signs, 0 < x.length := by decide
            refine ⟨h3 _ h2, ?_⟩
            rcases Nat.lt_or_ge r.length t.length with h4 | h4
            · rw [Q8d h4] at h1; cases h1
            · exact h4
          · cases h
abbrev Tk := Nat × List UInt8 × Nat × Nat
def appE (o : List Tk) : Except (Nat × Nat) (List Tk) → Except (Nat × Nat) (List Tk)
  | .ok l => .ok (o ++ l)
  | .error e => .error e
theorem X9z (x : Except (Nat × Nat) (List Tk)) : appE [] x = x := by cases x <;> rfl
theorem X6m (a b : List Tk) (x : Except (Nat × Nat) (List Tk)) : appE a (appE b x) = appE (a ++ b) x := by cases x <;> simp [appE]
def toks (r : List UInt8) (a : Nat) : Except (Nat × Nat) (List Tk) :=
  if _h : r.length ≤ Q0t r then .ok [(6, [], 0, a + Q0t r)] else
  match tok1 (r.drop (Q0t r)) with
  | .error e => .error (e, a + Q0t r)
  | .ok (k, t, v, n) => if _h2 : n = 0 then .error (0, 0) else appE [(k, t, v, a + Q0t r)] (toks (r.drop (Q0t r + n)) (a + Q0t r + n))
termination_by r.length
decreasing_by simp; omega
theorem Q6x {r : List UInt8} {a : Nat} (h : r.length ≤ Q0t r) : toks r a = .ok [(6, [], 0, a + Q0t r)] := by rw [toks, dif_pos h]
theorem X3c {r : List UInt8} {a e : Nat} (h : Q0t r < r.length) (ht : tok1 (r.drop (Q0t r)) = .error e) : toks r a = .error (e, a + Q0t r) := by
  rw [toks, dif_neg (by omega), ht]
theorem X0y {r : List UInt8} {a k v n : Nat} {t : List UInt8} (h : Q0t r < r.length) (ht : tok1 (r.drop (Q0t r)) = .ok (k, t, v, n)) : toks r a = appE [(k, t, v, a + Q0t r)] (toks (r.drop (Q0t r + n)) (a + Q0t r + n)) := by
  have := X5p (by simp; omega) ht
  rw [toks, dif_neg (by omega), ht]
  simp only
  rw [dif_neg (by omega)]
def Q7q (s : List UInt8) : Except (Nat × Int) (List Tk) :=
  if 2000 < s.length then .error (2, -1) else
  match toks s 0 with
  | .ok l => .ok l
  | .error (e, a) => .error (e, (a : Int))
theorem lexAll_long {s : List UInt8} (h : 2000 < s.length) : Q7q s = .error (2, -1) := if_pos h
theorem X3d {s : List UInt8} {l : List Tk} (h : ¬ 2000 < s.length) (ht : toks s 0 = .ok l) : Q7q s = .ok l := by unfold Q7q; rw [if_neg h, ht]
theorem X8n {s : List UInt8} {e a : Nat} (h : ¬ 2000 < s.length) (ht : toks s 0 = .error (e, a)) : Q7q s = .error (e, (a : Int)) := by unfold Q7q; rw [if_neg h, ht]
theorem toks_nz : ∀ (n : Nat) (r : List UInt8) (a e b : Nat), r.length ≤ n → (∀ m e, tok1 m = .error e → e ≠ 0) → toks r a = .error (e, b) → e ≠ 0 := by
  intro n
  induction n with
  | zero =>
    intro r a e b hn _ h
    rw [Q6x (by have := X0w r; omega)] at h
    cases h
  | succ n ih =>
    intro r a e b hn hz h
    by_cases hb : r.length ≤ Q0t r
    · rw [Q6x hb] at h; cases h
    · cases ht : tok1 (r.drop (Q0t r)) with
      | error e' =>
        rw [X3c (by omega) ht] at h
        cases h
        exact hz _ _ ht
      | ok p =>
        obtain ⟨k, t, v, m⟩ := p
        have hm := X5p (by simp; omega) ht
        rw [X0y (by omega) ht] at h
        cases hr : toks (r.drop (Q0t r + m)) (a + Q0t r + m) with
        | ok l => rw [hr] at h; cases h
        | error q =>
          rw [hr] at h
          cases h
          exact ih _ _ _ _ (by simp; omega) hz hr
def tkA (x : Tk) : List AV := [.i x.1, .s (bs x.2.1), .i x.2.2.1, .i x.2.2.2]
def tksA (l : List Tk) : List (List AV) := l.map tkA
theorem Q0y (l : List Tk) : (tksA l).length = l.length := by simp [tksA]
theorem Y0a (a b : List Tk) : tksA a ++ tksA b = tksA (a ++ b) := by simp [tksA]
theorem Q1q (l : List Tk) : Q1t (tksA l) 4 = True := eq_true (fun e he => by obtain ⟨b, _, rfl⟩ := List.mem_map.1 he; rfl)
theorem Q8e (l : List Tk) : Q5b (tksA l) 4 = True := eq_true (fun e he => by obtain ⟨b, _, rfl⟩ := List.mem_map.1 he; exact ⟨rfl, rfl⟩)
theorem Y0b {l : List Tk} {k : Nat} (h : k < l.length) : (tksA l).getD k [] = tkA (l.getD k (0, [], 0, 0)) := by
  simp [tksA, List.getD_eq_getElem?_getD, List.getElem?_eq_getElem h]
theorem tksA_unit (k v a : Nat) (t : List UInt8) : [[AV.i k, AV.s (bs t), AV.i v, AV.i a]] = tksA [(k, t, v, a)] := rfl
theorem tksA_end (a : Nat) : [[AV.i 6, AV.s (bs []), AV.i 0, AV.i a]] = tksA [(6, [], 0, a)] := rfl
def TOut (o : Except (Nat × Int) (List Tk)) (x : AV) : Prop :=
  (∃ (l : List Tk) (τ : Nat), o = .ok l ∧ x = .tup [.sl (.tok τ 4) (tksA l), .agg [.i 0, .i 0]]) ∨ (∃ (e : Nat) (a : Int), o = .error (e, a) ∧ e ≠ 0 ∧ x = .tup [.sl .nil [], .agg [.i e, .i a]])
theorem TOut.ok {o : Except (Nat × Int) (List Tk)} {τ : Nat} {es : List (List AV)} (l : List Tk) (h : o = .ok l) (he : es = tksA l) : TOut o (.tup [.sl (.tok τ 4) es, .agg [.i 0, .i 0]]) := .inl ⟨l, τ, h, by rw [he]⟩
theorem TOut.err {o : Except (Nat × Int) (List Tk)} {ee aa : Int} (e : Nat) (a : Int) (h : o = .error (e, a)) (he : e ≠ 0) (h1 : ee = e) (h2 : aa = a) : TOut o (.tup [.sl .nil [], .agg [.i ee, .i aa]]) := .inr ⟨e, a, h, he, by rw [h1, h2]⟩
end Go.Lex
namespace Go.Proofs.YtjdapkelojdefaaGreatDoor
open Go Go.V Go.Lex
theorem t21 (s : List UInt8) (σ : Sg) : VCalls Tryz.prog 34 [.s (bs s)] σ (fun x σ' => TOut (Q7q s) x ∧ σ' = σ) := by
  (refine vfun (fun _ => .no) Q0h Tryz.func34 (by kernel_rfl) ?_; simp only [Q0f, Tryz.f34, zw])
  (have zz := Bx.mk (j5 ui9 Z5 ui3 ui30 (j9 Q0u ui56 ui47 @nadd @X8a @X8b @X8c @X8d @X8e)); (repeat' (first | exact zc | (with_reducible first | apply And.intro | apply Q0a | apply Q0b | refine Q0c (by decide +kernel) ?_ | intro _) | refine za zz.out ?_ | refine zo ?_ | omega | refine zt zz.out ?_ | fail)); try (all_goals clear zz))
  · exact ⟨σ, (by repeat (first | exact Sg.sub.refl _ | refine Sg.sub.set_both ?_ | refine Sg.sub.set_fresh ?_ (by first | assumption | exact Sg.set_none ‹_› ‹_›) | refine Sg.sub.del_fresh ?_ (by first | assumption | exact Sg.set_none ‹_› ‹_›))), .err 2 (-1) (lexAll_long (by omega)) (by decide) rfl rfl, rfl⟩
  rename_i x hx hl
  refine VW.loop4 (0 : Nat) ([] : List Tk) (.sl .nil []) _ (fun k o V S => k ≤ s.length ∧ o.length ≤ k ∧ toks s 0 = appE o (toks (s.drop k) k) ∧ Grown 102 4 (tksA o) (σ.set x (.cells 47 [.i 0, .i 0])) V S) (fun k o V S => [(0, .s (bs s)), (3, .ref x 0), (4, V), (5, .i k)]) (fun _ _ _ S => S) (fun k _ _ _ => s.length - k) ⟨by omega, by simp, by rw [X9z]; rfl, .nil _ _ _⟩ (.refl _) ?_ ?_
  · simp only [vO, vQ, ↓vP, vE, vS, vB, vL, vF, vM, vN, Q0g, zb, zd, ze, ne_eq, not_false_eq_true, zf, zg, zk, zl, vT]
    rfl
  rintro k o V S ⟨h1, h2, h3, hG⟩
  have hb := X0w (s.drop k)
  rw [List.length_drop] at hb
  have ht : ∀ σ, VCalls Tryz.prog 81 [.s (bs (s.drop k))] σ (fun x σ' => x = .i (Q0t (s.drop k)) ∧ σ' = σ) := fun σ => t43 _ σ (by simp; omega)
  have hend := Q6x (r := s.drop k) (a := k)
  have herr := fun e => X3c (r := s.drop k) (a := k) (e := e)
  have hok := fun kk v n t => X0y (r := s.drop k) (a := k) (k := kk) (v := v) (n := n) (t := t)
  have hlen := fun kk v n t => X5p (r := (s.drop k).drop (Q0t (s.drop k))) (k := kk) (v := v) (n := n) (t := t)
  simp only [List.length_drop, List.drop_drop] at hend herr hok hlen
  generalize Q0t (s.drop k) = b at *
  rcases hG with ⟨h5, rfl, rfl⟩ | ⟨τ, hτ, rfl, rfl⟩
  · obtain rfl : o = [] := by cases o with
      | nil => rfl
      | cons a r => simp [tksA] at h5
    clear h5
    (have zz := Bx.mk (j3 ui9 Z5 (j9 ui3 ui30 Q0u ui56 ui47 @nadd @X8a @X8b (j9 @X8c @X8d @X8e @Q0y @Y0a @Q1q @Q8e @tksA_unit @tksA_end))); (repeat' (first | exact zc | (with_reducible first | apply And.intro | apply Q0a | apply Q0b | refine Q0c (by decide +kernel) ?_ | intro _) | refine za zz.out ?_ | ((first | with_reducible refine (ht _).use ?_ | ((with_reducible refine (t44 _ _ (by simp; omega) (by simp; omega)).mono ?_); rintro y σ' ⟨⟨kk, t, v, n, ho, rfl⟩ | ⟨e, kk, t, v, n, b', ho, he, rfl⟩, rfl⟩)); (try refine zs zz.out ?_)) | refine zo ?_ | omega | refine zt zz.out ?_ | fail)); try (all_goals clear zz))
    all_goals first
      | exact ⟨σ, (by repeat (first | exact Sg.sub.refl _ | refine Sg.sub.set_both ?_ | refine Sg.sub.set_fresh ?_ (by first | assumption | exact Sg.set_none ‹_› ‹_›) | refine Sg.sub.del_fresh ?_ (by first | assumption | exact Sg.set_none ‹_› ‹_›))), .ok (([] : List Tk) ++ [(6, [], 0, k + b)]) (X3d (by omega) (by rw [h3, hend (by omega)]; rfl)) rfl, rfl⟩
      | (have hn := hlen _ _ _ _ (by omega) ho
         (try simp (disch := omega) only [w64, w8, tg_eq, n1, n2, nn, zm])
         exact ⟨k + b + n, ([] : List Tk) ++ [(kk, t, v, k + b)], _, _, ⟨⟨by omega, by simp only [List.length_append, List.length_cons, List.length_nil] at h2 ⊢; omega, by rw [h3, hok _ _ _ _ (by omega) ho, X6m, show k + (b + n) = k + b + n by omega], .tok (Sg.set_none ‹_› ‹_›)⟩, by omega⟩, (by repeat (first | exact Sg.sub.refl _ | refine Sg.sub.set_both ?_ | refine Sg.sub.set_fresh ?_ (by first | assumption | exact Sg.set_none ‹_› ‹_›) | refine Sg.sub.del_fresh ?_ (by first | assumption | exact Sg.set_none ‹_› ‹_›))), rfl, rfl⟩)
      | exact ⟨σ, (by repeat (first | exact Sg.sub.refl _ | refine Sg.sub.set_both ?_ | refine Sg.sub.set_fresh ?_ (by first | assumption | exact Sg.set_none ‹_› ‹_›) | refine Sg.sub.del_fresh ?_ (by first | assumption | exact Sg.set_none ‹_› ‹_›))), .err e _ (X8n (by omega) (by rw [h3, herr _ (by omega) ho]; rfl)) he rfl rfl, rfl⟩
  · obtain ⟨hne, hτ'⟩ := Sg.of_set_none hτ
    (have zz := Bx.mk (j3 ui9 Z5 (j9 ui3 ui30 Q0u ui56 ui47 @nadd @X8a @X8b (j9 @X8c @X8d @X8e @Q0y @Y0a @Q1q @Q8e @tksA_unit @tksA_end))); (repeat' (first | exact zc | (with_reducible first | apply And.intro | apply Q0a | apply Q0b | refine Q0c (by decide +kernel) ?_ | intro _) | refine za zz.out ?_ | ((first | with_reducible refine (ht _).use ?_ | ((with_reducible refine (t44 _ _ (by simp; omega) (by simp; omega)).mono ?_); rintro y σ' ⟨⟨kk, t, v, n, ho, rfl⟩ | ⟨e, kk, t, v, n, b', ho, he, rfl⟩, rfl⟩)); (try refine zs zz.out ?_)) | refine zo ?_ | omega | refine zt zz.out ?_ | fail)); try (all_goals clear zz))
    all_goals first
      | exact ⟨σ, (by repeat (first | exact Sg.sub.refl _ | refine Sg.sub.set_both ?_ | refine Sg.sub.set_fresh ?_ (by first | assumption | exact Sg.set_none ‹_› ‹_›) | refine Sg.sub.del_fresh ?_ (by first | assumption | exact Sg.set_none ‹_› ‹_›))), .ok (o ++ [(6, [], 0, k + b)]) (X3d (by omega) (by rw [h3, hend (by omega)]; rfl)) rfl, rfl⟩
      | (have hn := hlen _ _ _ _ (by omega) ho
         (try simp (disch := omega) only [w64, w8, tg_eq, n1, n2, nn, zm])
         exact ⟨k + b + n, o ++ [(kk, t, v, k + b)], _, _, ⟨⟨by omega, by simp only [List.length_append, List.length_cons, List.length_nil] at h2 ⊢; omega, by rw [h3, hok _ _ _ _ (by omega) ho, X6m, show k + (b + n) = k + b + n by omega], .tok (Sg.set_none ‹_› ‹_›)⟩, by omega⟩, (by repeat (first | exact Sg.sub.refl _ | refine Sg.sub.set_both ?_ | refine Sg.sub.set_fresh ?_ (by first | assumption | exact Sg.set_none ‹_› ‹_›) | refine Sg.sub.del_fresh ?_ (by first | assumption | exact Sg.set_none ‹_› ‹_›))), rfl, rfl⟩)
      | exact ⟨σ, (by repeat (first | exact Sg.sub.refl _ | refine Sg.sub.set_both ?_ | refine Sg.sub.set_fresh ?_ (by first | assumption | exact Sg.set_none ‹_› ‹_›) | refine Sg.sub.del_fresh ?_ (by first | assumption | exact Sg.set_none ‹_› ‹_›))), .err e _ (X8n (by omega) (by rw [h3, herr _ (by omega) ho]; rfl)) he rfl rfl, rfl⟩
end Go.Proofs.YtjdapkelojdefaaGreatDoor
namespace Go.V
theorem X0z {P : Program} {d : Nat} {t : TypeId} {fs : Array Field} {xs ys : List AV} (hu : P.underlying t = some (.struct fs)) (hs : P.stoodInHeld t = false) : X0n P (d + 1) t (.agg xs) (.agg ys) = X7w P (X0n P d) xs ys fs.toList := by
  simp only [X0n, hu, hs]
  rfl
theorem X1a {P : Program} {d : Nat} {t : TypeId} {k : IntKind} {q : IntKind} {a b : Int} (hu : P.underlying t = some (.int k)) : X0n P (d + 1) t (.val (.int q a)) (.val (.int q b)) = some (decide (a = b)) := by
  simp only [X0n, hu, if_true]
theorem X6n {P : Program} {d : Nat} {t : TypeId} {a b : ByteArray} (hu : P.underlying t = some .string) : X0n P (d + 1) t (.s a) (.s b) = some (sEq a b) := by
  simp only [X0n, hu]
theorem Q3u {P : Program} {eq : TypeId → AV → AV → Option Bool} {xs ys : List AV} {f : Field} {fs : List Field} {x y : AV} {c r : Bool} (hn : f.name ≠ "_") (hx : X6b P f.type (xs.drop f.offset) = some x) (hy : X6b P f.type (ys.drop f.offset) = some y)
    (he : eq f.type x y = some c) (hr : X7w P eq xs ys fs = some r) : X7w P eq xs ys (f :: fs) = some (c && r) := by
  simp only [X7w, if_neg hn, hx, hy, he, hr]
theorem Q1w {P : Program} {t : TypeId} {i : Option Value × Nat × Nat} {d : TypeDesc} {x : AV} {r : List AV} (hi : Q0l P t = some i) (hd : P.underlying t = some d) (ha : X4v d = false) : X6b P t (x :: r) = some x := by
  obtain ⟨z, n, b⟩ := i
  simp only [X6b, hi, hd, ha]
  rfl
theorem Y0c {P : Program} {t : TypeId} {d : TypeDesc} {xs ys : List AV} (hg : P.eqGuardType P.depth t = false) : veqT P t d (.agg xs) (.agg ys) = X0n P 10000 t (.agg xs) (.agg ys) := by
  simp only [veqT, hg]
  rfl
end Go.V
namespace Go.Lex
open Go.V
end Go.Lex
namespace Go.Proofs.YtjdapkelojdefaaGreatDoor
open Go Go.V Go.Lex
end Go.Proofs.YtjdapkelojdefaaGreatDoor
namespace Go.Lex
open Go.V Go.Proofs.YtjdapkelojdefaaGreatDoor
end Go.Lex
namespace Go.Proofs.YtjdapkelojdefaaGreatDoor
open Go Go.V Go.Lex
end Go.Proofs.YtjdapkelojdefaaGreatDoor
namespace Go.Cert
open Go.V
theorem ne_of {σ : Sg} {ρ x : Nat} {o : Ob} (h : σ ρ = some o) (hx : σ x = none) : ρ ≠ x := fun e => by subst e; rw [hx] at h; cases h
theorem ne_of2 {σ : Sg} {ρ x : Nat} {o : Ob} (hx : σ x = none) (h : σ ρ = some o) : ρ ≠ x := ne_of h hx
theorem ne_of2a {σ : Sg} {ρ x : Nat} {o : Ob} (hx : σ x = none) (h : σ ρ = some o) : x ≠ ρ := Ne.symm (ne_of h hx)
theorem ne_ob {σ : Sg} {ρ x : Nat} {o o' : Ob} (h : σ ρ = some o) (hx : σ x = some o') (hn : o ≠ o') : ρ ≠ x := fun e => by rw [e, hx] at h; cases h; exact hn rfl
open Go.V in
theorem lk {p : Prop} (h : p := by first | assumption | ((simp (disch := first | assumption | (apply ne_of2; assumption; assumption) | (apply ne_ob; assumption; assumption; (intro e; cases e; done)) | omega) only [zn, Sg.set_ne, Sg.set_ne', Sg.del_ne, Sg.del_ne']); first | done | rfl | assumption)) : p := h
end Go.Cert
namespace Go.V
open Go.RowKit
theorem at1 {σ : Sg} {ρ x : Nat} {o a : Ob} (h : σ ρ = some o) (hx : σ x = none) : (σ.set x a) ρ = some o := by rw [Sg.set_other _ _ (Go.Cert.ne_of h hx), h]
theorem Q8f {ρ : Nat} {S σ' : Sg} {o : Option Ob} (h : Keep (fun β => β = ρ) S σ') (hS : S ρ = o) : σ' ρ = o := (h ρ rfl).trans hS
theorem Post.lose {P : Program} {R R' : AV → Sg → Prop} (h : ∀ x σ', R x σ' → ∃ x' σ'', AVw x x' ∧ σ''.sub σ' ∧ R' x' σ'') {κ : K} {v : Value} {w : World} (hp : Post κ R v w) : Post κ R' v w := by
  obtain ⟨κ', x, σ', h1, h2, h3, h4, h5⟩ := hp
  obtain ⟨x', σ'', h6, h8, h7⟩ := h x σ' h5
  exact ⟨κ', x', σ'', h1, h2, h3.sub h8, h6 κ' v h4, h7⟩
theorem VCalls.lose {P : Program} {σ : Sg} {f : FuncId} {args : List AV} {R R' : AV → Sg → Prop} (hc : VCalls P f args σ R) (h : ∀ x σ', R x σ' → ∃ x' σ'', AVw x x' ∧ σ''.sub σ' ∧ R' x' σ'') : VCalls P f args σ R' := by
  refine ⟨fun κ vs hst hr => ?_⟩
  have hd := hc.go κ vs hst hr
  revert hd
  generalize (callFunc f vs).run P κ.w = r
  intro hd
  cases r with
  | halt x w => exact hd.elim
  | ok nx w =>
    cases nx <;> simp only [Done] at hd ⊢
    case value v => exact Post.lose (P := P) h hd
    case skip => exact Post.lose (P := P) h hd
    case enter f args =>
      refine hd.mono (fun e w' he => ?_)
      cases e with
      | returned v => exact Post.lose (P := P) h he
      | panicked c => exact he.elim
      | outgrown => exact he.elim
    case row r args => exact hd.mono (fun v w' he => Post.lose (P := P) h he)
theorem AVw.agg {cs cs' : List AV} (hl : cs.length = cs'.length) (h : ∀ (i : Nat) (x x' : AV), cs[i]? = some x → cs'[i]? = some x' → AVw x x') : AVw (.agg cs) (.agg cs') := fun κ v hr => by
  cases hr with
  | agg _ vs hl' hx =>
    refine .agg _ vs (by omega) (fun i x u h1 h2 => ?_)
    have hi : i < cs.length := by
      rcases Nat.lt_or_ge i cs.length with h' | h'
      · exact h'
      · rw [List.getElem?_eq_none (by omega)] at h1; cases h1
    exact h i cs[i] x (List.getElem?_eq_getElem hi) h1 κ u (hx i _ u (List.getElem?_eq_getElem hi) h2)
theorem Q0d {P : Program} {t : TypeId} {S : Sg} {β : Nat} {o' : Option Ob} {off : Nat} {R : AV → Prop} (h : S β = o') (hw : vlo P t o' off R) : vlo P t (S β) off R := h ▸ hw
theorem Q0e {i : Option (Option Value × Nat × Nat)} {S : Sg} {b : Nat} {o' : Option Ob} {β off : Nat} {x : AV} {σ : Sg} {R : Sg → Prop} (h : S b = o') (hw : vst i o' β off x σ R) : vst i (S b) β off x σ R := h ▸ hw
end Go.V
