/- Part 6 of the proof: K2, K4, T, K5, K6, K7, K8, K9, K10, K11, K12, K13, K14, K15, K16, B1. -/
import Derived.Test.YtjdapkelojdefaaGreatDoorN5
import Derived.Test.YtjdapkelojdefaaGreatDoorN4
import Derived.Test.YtjdapkelojdefaaGreatDoorProg
import Derived.Test.YtjdapkelojdefaaGreatDoorN3

set_option linter.all false
set_option maxRecDepth 100000
set_option maxHeartbeats 1000000
open Option renaming getD_some → zw
open Go.Proofs.Tryz renaming underlying5 → Z5, underlying9 → Z9, underlying149 → Z149
namespace Go.Proofs.YtjdapkelojdefaaGreatDoor
open Go Go.V Go.Lex
theorem Q0k : Tryz.prog.follows .mixedOrders = true := by kernel_rfl
theorem t72 (c : UInt8) (σ : Sg) : VCalls Tryz.prog 99 [.u8 c.toNat] σ (fun x σ' => x = .b (Q6p c) ∧ σ' = σ) := by
  (refine vfun (fun _ => .no) Q0k Tryz.func99 (by kernel_rfl) ?_; simp only [Q0f, Tryz.f99, zw])
  (have zz := Bx.mk Z5; (repeat' (first | exact zc | (with_reducible first | apply And.intro | apply Q0a | apply Q0b | refine Q0c (by decide +kernel) ?_ | intro _) | refine za zz.out ?_ | refine zo ?_ | omega | refine zt zz.out ?_ | fail)); try (all_goals clear zz))
  all_goals exact ⟨σ, .refl σ, b_eq (by simp [Q6p]; omega), rfl⟩
theorem t75 (c : UInt8) (σ : Sg) : VCalls Tryz.prog 132 [.u8 c.toNat] σ (fun x σ' => x = .b (Q8v c) ∧ σ' = σ) := by
  (refine vfun (fun _ => .no) Q0k Tryz.func132 (by kernel_rfl) ?_; simp only [Q0f, Tryz.f132, zw])
  (have zz := Bx.mk Z5; (repeat' (first | exact zc | (with_reducible first | apply And.intro | apply Q0a | apply Q0b | refine Q0c (by decide +kernel) ?_ | intro _) | refine za zz.out ?_ | refine zo ?_ | omega | refine zt zz.out ?_ | fail)); try (all_goals clear zz))
  all_goals exact ⟨σ, .refl σ, b_eq (by simp [Q8v]; omega), rfl⟩
theorem t73 (c : UInt8) (σ : Sg) : VCalls Tryz.prog 101 [.u8 c.toNat] σ (fun x σ' => x = .b (Q3q c) ∧ σ' = σ) := by
  (refine vfun (fun _ => .no) Q0k Tryz.func101 (by kernel_rfl) ?_; simp only [Q0f, Tryz.f101, zw])
  (have zz := Bx.mk Z5; (repeat' (first | exact zc | (with_reducible first | apply And.intro | apply Q0a | apply Q0b | refine Q0c (by decide +kernel) ?_ | intro _) | refine za zz.out ?_ | ((first | with_reducible refine (t72 c σ).use ?_ | with_reducible refine (t75 c σ).use ?_); (try refine zs zz.out ?_)) | refine zo ?_ | omega | refine zt zz.out ?_ | fail)); try (all_goals clear zz))
  all_goals exact ⟨σ, .refl σ, b_eq (by simp_all [Q3q]), rfl⟩
theorem t69 (l : List UInt8) (g : FuncId) (cap : List AV) (p : UInt8 → Bool) (σ : Sg) (hl : l.length < 2 ^ 60)
    (hp : ∀ (c : UInt8), VCalls Tryz.prog g (AV.u8 c.toNat :: cap) σ (fun x σ' => x = .b (p c) ∧ σ' = σ)) :
    VCalls Tryz.prog 100 [.s (bs l), .fn g cap] σ (fun x σ' => x = .i (pre p l) ∧ σ' = σ) := by
  (refine vfun (fun _ => .no) Q0k Tryz.func100 (by kernel_rfl) ?_; simp only [Q0f, Tryz.f100, zw])
  repeat ((first | (with_reducible first | refine .rs ?_ | refine .ds (by kernel_rfl) ?_ | refine .dg (by kernel_rfl) ?_ | refine .rg ?_ | refine .ite ?_ | refine .ret ?_ | refine .skip ?_ | refine .exit ?_ | refine .scope ?_ | refine .seq (.label ?_) | refine .block ?_ | refine .seq ?_)); (try simp only [vO, vQ, ↓vP, vE, vS, vB, vL, vF, vM, vN, Q0i, Nat.reduceEqDiff, Nat.reduceAdd, Nat.reduceLeDiff, ne_eq, not_false_eq_true, Nat.reduceMul, Nat.reduceSub, Int.toNat_zero, Int.reduceToNat, vT]))
  refine .loop (0 : Nat) (fun k => k ≤ l.length ∧ k + pre p (l.drop k) = pre p l) (fun k => [(0, .s (bs l)), (1, .fn g cap), (5, .i k)]) (fun _ => σ) (fun k => l.length - k) ⟨Nat.zero_le _, by simp⟩ (.refl _) (by simp only [vO, vQ, ↓vP, vE, vS, vB, vL, vF, vM, vN, Q0i, Nat.reduceEqDiff, Nat.reduceAdd, Nat.reduceLeDiff, ne_eq, not_false_eq_true, Nat.reduceMul, Nat.reduceSub, Int.toNat_zero, Int.reduceToNat]; trivial) ?_
  intro k ⟨hk, hpre⟩
  (have zz := Bx.mk Z9; (repeat' (first | exact zc | (with_reducible first | apply And.intro | apply Q0a | apply Q0b | refine Q0c (by decide +kernel) ?_ | intro _) | refine za zz.out ?_ | (with_reducible refine (hp _).use ?_; (try refine zs zz.out ?_)) | refine zo ?_ | omega | refine zt zz.out ?_ | fail)); try (all_goals clear zz))
  all_goals first
    | (have hk' : k < l.length := by omega
       have hst := X3n (p := p) (l := l) (k := k) hk'
       rw [if_pos (by assumption)] at hst
       (try simp (disch := omega) only [w64, w8, tg_eq, n1, n2, nn, Int.tdiv_eq_ediv_of_nonneg])
       exact ⟨k + 1, ⟨⟨by omega, by omega⟩, by omega⟩, .refl _, by simp⟩)
    | (have hk' : k < l.length := by omega
       have hst := X3n (p := p) (l := l) (k := k) hk'
       rw [if_neg (by assumption)] at hst
       exact ⟨σ, .refl σ, i_eq (by omega), rfl⟩)
    | (have h0 : pre p (List.drop k l) = 0 := by rw [List.drop_of_length_le (by omega)]; rfl
       exact ⟨σ, .refl σ, i_eq (by omega), rfl⟩)
theorem t117 (l : List UInt8) (c : UInt8) (σ : Sg) : VCalls Tryz.prog 187 [.s (bs l), .u8 c.toNat] σ (fun x σ' => x = .i (if upTo c l < l.length then (upTo c l : Nat) else -1) ∧ σ' = σ) := by
  have := vIndexByte (P := Tryz.prog) (σ := σ) (s := bs l) (c := c) Tryz.func187 (by kernel_rfl) (by kernel_rfl) (by kernel_rfl) (by kernel_rfl)
  rw [Q4z, Q4h] at this
  exact this
theorem t114 (l : List UInt8) (c : UInt8) (σ : Sg) : VCalls Tryz.prog 179 [.s (bs l), .u8 c.toNat] σ (fun x σ' => x = .i (if upTo c l < l.length then (upTo c l : Nat) else -1) ∧ σ' = σ) := by
  (refine vfun (fun _ => .no) Q0k Tryz.func179 (by kernel_rfl) ?_; simp only [Q0f, Tryz.f179, zw])
  (have zz := Bx.mk Z9; (repeat' (first | exact zc | (with_reducible first | apply And.intro | apply Q0a | apply Q0b | refine Q0c (by decide +kernel) ?_ | intro _) | refine za zz.out ?_ | (with_reducible refine (t117 l c σ).use ?_; (try refine zs zz.out ?_)) | refine zo ?_ | omega | refine zt zz.out ?_ | fail)); try (all_goals clear zz))
  all_goals exact ⟨σ, .refl σ, by simp⟩
end Go.Proofs.YtjdapkelojdefaaGreatDoor
namespace Go.Proofs.YtjdapkelojdefaaGreatDoor
open Go Go.V
theorem info0 : Q0m Tryz.prog 0 = some ((some (Value.tuple #[])), 1, 0) := by kernel_rfl
theorem info2 : Q0m Tryz.prog 2 = some ((some (Value.int IntKind.i64 0)), 1, 8) := by kernel_rfl
theorem Q8b : Q0m Tryz.prog 3 = some ((some (Value.int IntKind.i64 0)), 1, 8) := by kernel_rfl
theorem info4 : Q0m Tryz.prog 4 = some ((some (Value.bool false)), 1, 1) := by kernel_rfl
theorem Q9g : Q0m Tryz.prog 5 = some ((some (Value.int IntKind.u8 0)), 1, 1) := by kernel_rfl
theorem Q9h : Q0m Tryz.prog 9 = some ((some (Value.string { data := #[] })), 1, 16) := by kernel_rfl
theorem info20 : Q0m Tryz.prog 20 = some ((some Value.nilIface), 1, 16) := by kernel_rfl
theorem info22 : Q0m Tryz.prog 22 = some ((some (Value.agg #[(Value.int IntKind.i64 0), (Value.int IntKind.i64 0), (Value.string { data := #[] })])), 3, 32) := by kernel_rfl
theorem info23 : Q0m Tryz.prog 23 = some ((some (Value.agg #[(Value.int IntKind.i64 0), (Value.int IntKind.i64 0), (Value.string { data := #[] })])), 3, 32) := by kernel_rfl
theorem info24 : Q0m Tryz.prog 24 = some ((some (Value.slice none 0 0)), 1, 24) := by kernel_rfl
theorem info25 : Q0m Tryz.prog 25 = some ((some (Value.agg #[(Value.int IntKind.i64 0), (Value.int IntKind.i64 0), (Value.string { data := #[] }), (Value.string { data := #[] }), (Value.int IntKind.i64 0), (Value.int IntKind.i64 0), (Value.string { data := #[] }), (Value.slice none 0 0)])), 8, 104) := by kernel_rfl
theorem info26 : Q0m Tryz.prog 26 = some ((some (Value.agg #[(Value.int IntKind.i64 0), (Value.int IntKind.i64 0), (Value.string { data := #[] }), (Value.string { data := #[] }), (Value.int IntKind.i64 0), (Value.int IntKind.i64 0), (Value.string { data := #[] }), (Value.slice none 0 0)])), 8, 104) := by kernel_rfl
theorem info30 : Q0m Tryz.prog 30 = some ((some (Value.int IntKind.i64 0)), 1, 8) := by kernel_rfl
theorem info31 : Q0m Tryz.prog 31 = some ((some (Value.tuple #[(Value.string { data := #[] }), (Value.int IntKind.i64 0)])), 1, 0) := by kernel_rfl
theorem info34 : Q0m Tryz.prog 34 = some ((some Value.nilFunc), 1, 8) := by kernel_rfl
theorem info35 : Q0m Tryz.prog 35 = some ((some (Value.slice none 0 0)), 1, 24) := by kernel_rfl
theorem info37 : Q0m Tryz.prog 37 = some ((some (Value.slice none 0 0)), 1, 24) := by kernel_rfl
theorem info38 : Q0m Tryz.prog 38 = some ((some (Value.slice none 0 0)), 1, 24) := by kernel_rfl
theorem info39 : Q0m Tryz.prog 39 = some ((some (Value.slice none 0 0)), 1, 24) := by kernel_rfl
theorem info40 : Q0m Tryz.prog 40 = some ((some (Value.slice none 0 0)), 1, 24) := by kernel_rfl
theorem info41 : Q0m Tryz.prog 41 = some ((some (Value.agg #[(Value.int IntKind.i64 0), (Value.string { data := #[] }), (Value.slice none 0 0), (Value.string { data := #[] }), (Value.slice none 0 0), (Value.slice none 0 0), (Value.slice none 0 0), (Value.string { data := #[] }), (Value.slice none 0 0), (Value.slice none 0 0), (Value.slice none 0 0), (Value.slice none 0 0), (Value.bool false), (Value.int IntKind.i64 0)])), 14, 264) := by kernel_rfl
theorem info42 : Q0m Tryz.prog 42 = some ((some (Value.agg #[(Value.int IntKind.i64 0), (Value.string { data := #[] }), (Value.slice none 0 0), (Value.string { data := #[] }), (Value.slice none 0 0), (Value.slice none 0 0), (Value.slice none 0 0), (Value.string { data := #[] }), (Value.slice none 0 0), (Value.slice none 0 0), (Value.slice none 0 0), (Value.slice none 0 0), (Value.bool false), (Value.int IntKind.i64 0)])), 14, 264) := by kernel_rfl
theorem info55 : Q0m Tryz.prog 55 = some ((some (Value.pointer none)), 1, 8) := by kernel_rfl
theorem info56 : Q0m Tryz.prog 56 = some ((some (Value.slice none 0 0)), 1, 24) := by kernel_rfl
theorem info57 : Q0m Tryz.prog 57 = some ((some (Value.slice none 0 0)), 1, 24) := by kernel_rfl
theorem info58 : Q0m Tryz.prog 58 = some ((some (Value.agg #[(Value.slice none 0 0), (Value.int IntKind.i64 0), (Value.int IntKind.i64 0)])), 3, 40) := by kernel_rfl
theorem info59 : Q0m Tryz.prog 59 = some ((some (Value.agg #[(Value.slice none 0 0), (Value.int IntKind.i64 0), (Value.int IntKind.i64 0)])), 3, 40) := by kernel_rfl
theorem info62 : Q0m Tryz.prog 62 = some ((some (Value.pointer none)), 1, 8) := by kernel_rfl
theorem info63 : Q0m Tryz.prog 63 = some ((some (Value.agg #[(Value.slice none 0 0), (Value.int IntKind.i64 0)])), 2, 32) := by kernel_rfl
theorem info64 : Q0m Tryz.prog 64 = some ((some (Value.agg #[(Value.slice none 0 0), (Value.int IntKind.i64 0)])), 2, 32) := by kernel_rfl
theorem info67 : Q0m Tryz.prog 67 = some ((some (Value.agg #[(Value.string { data := #[] }), (Value.int IntKind.i64 0), (Value.int IntKind.i64 0), (Value.string { data := #[] }), (Value.string { data := #[] }), (Value.int IntKind.i64 0), (Value.int IntKind.i64 0), (Value.string { data := #[] }), (Value.slice none 0 0)])), 9, 120) := by kernel_rfl
theorem info68 : Q0m Tryz.prog 68 = some ((some (Value.agg #[(Value.string { data := #[] }), (Value.int IntKind.i64 0), (Value.int IntKind.i64 0), (Value.string { data := #[] }), (Value.string { data := #[] }), (Value.int IntKind.i64 0), (Value.int IntKind.i64 0), (Value.string { data := #[] }), (Value.slice none 0 0)])), 9, 120) := by kernel_rfl
theorem info70 : Q0m Tryz.prog 70 = some ((some (Value.agg #[(Value.int IntKind.i64 0), (Value.slice none 0 0)])), 2, 32) := by kernel_rfl
theorem info71 : Q0m Tryz.prog 71 = some ((some (Value.agg #[(Value.int IntKind.i64 0), (Value.slice none 0 0)])), 2, 32) := by kernel_rfl
theorem info75 : Q0m Tryz.prog 75 = some ((some (Value.slice none 0 0)), 1, 24) := by kernel_rfl
theorem info86 : Q0m Tryz.prog 86 = some ((some Value.nilFunc), 1, 8) := by kernel_rfl
theorem info94 : Q0m Tryz.prog 94 = some ((some (Value.tuple #[(Value.slice none 0 0), (Value.int IntKind.i64 0)])), 1, 0) := by kernel_rfl
theorem info100 : Q0m Tryz.prog 100 = some ((some (Value.pointer none)), 1, 8) := by kernel_rfl
theorem info101 : Q0m Tryz.prog 101 = some ((some (Value.agg #[(Value.int IntKind.i64 0), (Value.string { data := #[] }), (Value.int IntKind.i64 0), (Value.int IntKind.i64 0)])), 4, 40) := by kernel_rfl
theorem info102 : Q0m Tryz.prog 102 = some ((some (Value.agg #[(Value.int IntKind.i64 0), (Value.string { data := #[] }), (Value.int IntKind.i64 0), (Value.int IntKind.i64 0)])), 4, 40) := by kernel_rfl
theorem info106 : Q0m Tryz.prog 106 = some ((some Value.nilFunc), 1, 8) := by kernel_rfl
theorem info107 : Q0m Tryz.prog 107 = some ((some (Value.slice none 0 0)), 1, 24) := by kernel_rfl
theorem info122 : Q0m Tryz.prog 122 = some ((some Value.nilFunc), 1, 8) := by kernel_rfl
theorem info131 : Q0m Tryz.prog 131 = some ((some (Value.agg #[(Value.string { data := #[] }), (Value.int IntKind.i64 0), (Value.bool false), (Value.bool false)])), 4, 32) := by kernel_rfl
theorem info132 : Q0m Tryz.prog 132 = some ((some (Value.agg #[(Value.string { data := #[] }), (Value.int IntKind.i64 0), (Value.bool false), (Value.bool false)])), 4, 32) := by kernel_rfl
theorem info149 : Q0m Tryz.prog 149 = some ((some (Value.pointer none)), 1, 8) := by kernel_rfl
theorem Q4i : Q0m Tryz.prog 150 = some ((some (Value.slice none 0 0)), 1, 24) := by kernel_rfl
theorem info151 : Q0m Tryz.prog 151 = some ((some (Value.agg #[(Value.pointer none), (Value.slice none 0 0)])), 2, 32) := by kernel_rfl
theorem info152 : Q0m Tryz.prog 152 = some ((some (Value.agg #[(Value.pointer none), (Value.slice none 0 0)])), 2, 32) := by kernel_rfl
theorem info155 : Q0m Tryz.prog 155 = some ((some (Value.tuple #[(Value.int IntKind.i64 0), Value.nilIface])), 1, 0) := by kernel_rfl
theorem info175 : Q0m Tryz.prog 175 = some ((some (Value.pointer none)), 1, 8) := by kernel_rfl
theorem info178 : Q0m Tryz.prog 178 = some ((some (Value.agg #[(Value.int IntKind.u8 0), (Value.int IntKind.u8 0), (Value.int IntKind.u8 0), (Value.int IntKind.u8 0), (Value.int IntKind.u8 0), (Value.int IntKind.u8 0), (Value.int IntKind.u8 0), (Value.int IntKind.u8 0), (Value.int IntKind.u8 0), (Value.int IntKind.u8 0), (Value.int IntKind.u8 0), (Value.int IntKind.u8 0), (Value.int IntKind.u8 0), (Value.int IntKind.u8 0), (Value.int IntKind.u8 0), (Value.int IntKind.u8 0), (Value.int IntKind.u8 0), (Value.int IntKind.u8 0), (Value.int IntKind.u8 0), (Value.int IntKind.u8 0), (Value.int IntKind.u8 0), (Value.int IntKind.u8 0), (Value.int IntKind.u8 0), (Value.int IntKind.u8 0)])), 24, 24) := by kernel_rfl
theorem Q4j : Q0m Tryz.prog 179 = some ((some (Value.int IntKind.u64 0)), 1, 8) := by kernel_rfl
theorem info186 : Q0m Tryz.prog 186 = some ((some (Value.agg #[(Value.int IntKind.u64 0), (Value.int IntKind.u64 0), (Value.int IntKind.u64 0), (Value.int IntKind.u64 0), (Value.int IntKind.u64 0), (Value.int IntKind.u64 0), (Value.int IntKind.u64 0), (Value.int IntKind.u64 0), (Value.int IntKind.u64 0), (Value.int IntKind.u64 0), (Value.int IntKind.u64 0), (Value.int IntKind.u64 0), (Value.int IntKind.u64 0), (Value.int IntKind.u64 0), (Value.int IntKind.u64 0), (Value.int IntKind.u64 0), (Value.int IntKind.u64 0), (Value.int IntKind.u64 0), (Value.int IntKind.u64 0), (Value.int IntKind.u64 0)])), 20, 160) := by kernel_rfl
theorem Q4k : Q0m Tryz.prog 187 = some ((some (Value.int IntKind.u32 0)), 1, 4) := by kernel_rfl
def ui0 := And.intro Tryz.underlying0 info0
def ui2 := And.intro Tryz.underlying2 info2
def ui3 := And.intro Tryz.underlying3 Q8b
def ui4 := And.intro Tryz.underlying4 info4
def ui5 := And.intro Z5 Q9g
def ui9 := And.intro Z9 Q9h
def ui20 := And.intro Tryz.underlying20 info20
def ui22 := And.intro Tryz.underlying22 info22
def ui23 := And.intro Tryz.underlying23 info23
def ui24 := And.intro Tryz.underlying24 info24
def ui25 := And.intro Tryz.underlying25 info25
def ui26 := And.intro Tryz.underlying26 info26
def ui30 := And.intro Tryz.underlying30 info30
def ui31 := And.intro Tryz.underlying31 info31
def ui34 := And.intro Tryz.underlying34 info34
def ui35 := And.intro Tryz.underlying35 info35
def ui37 := And.intro Tryz.underlying37 info37
def ui38 := And.intro Tryz.underlying38 info38
def ui39 := And.intro Tryz.underlying39 info39
def ui40 := And.intro Tryz.underlying40 info40
def ui41 := And.intro Tryz.underlying41 info41
def ui42 := And.intro Tryz.underlying42 info42
def ui55 := And.intro Tryz.underlying55 info55
def ui56 := And.intro Tryz.underlying56 info56
def ui57 := And.intro Tryz.underlying57 info57
def ui58 := And.intro Tryz.underlying58 info58
def ui59 := And.intro Tryz.underlying59 info59
def ui62 := And.intro Tryz.underlying62 info62
def ui63 := And.intro Tryz.underlying63 info63
def ui64 := And.intro Tryz.underlying64 info64
def ui67 := And.intro Tryz.underlying67 info67
def ui68 := And.intro Tryz.underlying68 info68
def ui70 := And.intro Tryz.underlying70 info70
def ui71 := And.intro Tryz.underlying71 info71
def ui75 := And.intro Tryz.underlying75 info75
def ui86 := And.intro Tryz.underlying86 info86
def ui94 := And.intro Tryz.underlying94 info94
def X3o := And.intro Tryz.underlying100 info100
def Q0q := And.intro Tryz.underlying101 info101
def Q0r := And.intro Tryz.underlying102 info102
def X3p := And.intro Tryz.underlying106 info106
def Q0t := And.intro Tryz.underlying107 info107
def ui122 := And.intro Tryz.underlying122 info122
def Q0u := And.intro Tryz.underlying131 info131
def Q0v := And.intro Tryz.underlying132 info132
def X1q := And.intro Z149 info149
def Q3i := And.intro Tryz.underlying150 Q4i
def ui151 := And.intro Tryz.underlying151 info151
def Q6z := And.intro Tryz.underlying152 info152
def ui155 := And.intro Tryz.underlying155 info155
def ui175 := And.intro Tryz.underlying175 info175
def ui178 := And.intro Tryz.underlying178 info178
def Q7a := And.intro Tryz.underlying179 Q4j
def ui186 := And.intro Tryz.underlying186 info186
def Q8w := And.intro Tryz.underlying187 Q4k
end Go.Proofs.YtjdapkelojdefaaGreatDoor
namespace Go.Proofs.YtjdapkelojdefaaGreatDoor
open Go Go.V Go.Lex
def strs (ws : List (List UInt8)) : List (List AV) := ws.map fun w => [.s (bs w)]
theorem Q6q (ws : List (List UInt8)) : (strs ws).length = ws.length := by simp [strs]
theorem Q7u {ws : List (List UInt8)} {k : Nat} (h : k < ws.length) : (strs ws).getD k [] = [.s (bs (ws.getD k []))] := by
  simp [strs, List.getD_eq_getElem?_getD, List.getElem?_eq_getElem h]
def words : List (List UInt8) := [[65, 78, 68], [66, 89], [67, 79, 85, 78, 84], [67, 82, 69, 65, 84, 69], [68, 69, 76, 69, 84, 69], [68, 69, 83, 67], [68, 82, 79, 80], [70, 82, 79, 77], [71, 82, 79, 85, 80], [73, 78, 83, 69, 82, 84], [73, 78, 84], [73, 78, 84, 79], [73, 83], [74, 79, 73, 78], [75, 69, 89], [76, 73, 77, 73, 84], [77, 65, 88], [77, 73, 78], [78, 79, 84], [78, 85, 76, 76], [79, 78], [79, 82], [79, 82, 68, 69, 82], [80, 82, 73, 77, 65, 82, 89], [83, 69, 76, 69, 67, 84], [83, 69, 84], [83, 85, 77], [84, 65, 66, 76, 69], [84, 69, 88, 84], [85, 78, 73, 81, 85, 69], [85, 80, 68, 65, 84, 69], [86, 65, 76, 85, 69, 83], [87, 72, 69, 82, 69]]
def signs : List (List UInt8) := [[60, 62], [60, 61], [62, 61], [40], [41], [44], [59], [46], [42], [43], [45], [47], [37], [61], [60], [62]]
def idx (m : List UInt8) (ws : List (List UInt8)) : Nat := (ws.takeWhile (fun w => w != m)).length
theorem lies140 : liesAt Tryz.prog Tryz.prog.depth 152 (2 / Tryz.prog.cellsOf 152) 0 152 1 = true := by kernel_rfl
theorem t118 (x : AV) (σ : Sg) : VCalls Tryz.prog 185 [x] σ (fun y σ' => y = x ∧ σ' = σ) :=
  vNoEscape (P := Tryz.prog) Tryz.func185 (by kernel_rfl) (by kernel_rfl) (by kernel_rfl) (by kernel_rfl)
theorem t115 (β : Nat) (x0 buf : AV) (σ : Sg) (hσ : σ β = some (.cells 152 [x0, buf])) (hx : x0 = .val (.pointer none) ∨ x0 = .ref β 0) : VCalls Tryz.prog 177 [.ref β 0] σ (fun x σ' => x = .tup [] ∧ σ' = σ.set β (.cells 152 [.ref β 0, buf])) := by
  rcases hx with rfl | rfl
  · (refine vfun (fun _ => .no) Q0k Tryz.func177 (by kernel_rfl) ?_; simp only [Q0f, Tryz.f177, zw])
    (have zz := Bx.mk (j5 X1q Q6z ui175 hσ @lies140); (repeat' (first | exact zc | (with_reducible first | apply And.intro | apply Q0a | apply Q0b | refine Q0c (by decide +kernel) ?_ | intro _) | refine za zz.out ?_ | (with_reducible refine (t118 _ _).use ?_; (try refine zs zz.out ?_)) | refine zo ?_ | omega | refine zt zz.out ?_ | fail)); try (all_goals clear zz))
    all_goals first
      | rfl
      | exact ⟨_, .refl _, rfl⟩
  · (refine vfun (fun _ => .no) Q0k Tryz.func177 (by kernel_rfl) ?_; simp only [Q0f, Tryz.f177, zw])
    (have zz := Bx.mk (j5 X1q Q6z ui175 hσ @lies140); (repeat' (first | exact zc | (with_reducible first | apply And.intro | apply Q0a | apply Q0b | refine Q0c (by decide +kernel) ?_ | intro _) | refine za zz.out ?_ | (with_reducible refine (t118 _ _).use ?_; (try refine zs zz.out ?_)) | refine zo ?_ | omega | refine zt zz.out ?_ | fail)); try (all_goals clear zz))
    all_goals exact ⟨σ, .refl _, (Sg.set_id hσ).symm⟩
def Bld (β : Nat) (acc : List UInt8) (σ S : Sg) : Prop :=
  σ β = none ∧ ((acc = [] ∧ S = σ.set β (.cells 152 [.val (.pointer none), .sl .nil []])) ∨
    ∃ τ, τ ≠ β ∧ σ τ = none ∧ S = (σ.set τ (.tok (some 5))).set β (.cells 152 [.ref β 0, .sl (.tok τ 1) (Q3p acc)]))
theorem t100 (β : Nat) (acc m : List UInt8) (σ S : Sg) (hb : Bld β acc σ S) (hl : acc.length + m.length < 2 ^ 40) : VCalls Tryz.prog 155 [.ref β 0, .s (bs m)] S (fun x σ' => x = .tup [.i m.length, .val .nilIface] ∧ Bld β (acc ++ m) σ σ') := by
  obtain ⟨h0, ⟨rfl, rfl⟩ | ⟨τ, hτ, hτ0, rfl⟩⟩ := hb
  · (refine vfun (fun _ => .no) Q0k Tryz.func155 (by kernel_rfl) ?_; simp only [Q0f, Tryz.f155, zw])
    (have zz := Bx.mk (j5 Z149 Q6z Q3i Z9 ui5); (repeat' (first | exact zc | (with_reducible first | apply And.intro | apply Q0a | apply Q0b | refine Q0c (by decide +kernel) ?_ | intro _) | refine za zz.out ?_ | (with_reducible refine (t115 β _ _ _ (Sg.set_same _ _ _) (.inl rfl)).use ?_; (try refine zs zz.out ?_)) | refine zo ?_ | omega | refine zt zz.out ?_ | fail)); try (all_goals clear zz))
    all_goals first
      | rfl
      | (rename_i x hx hne
         refine ⟨(σ.set x (.tok (some 5))).set β (.cells 152 [.ref β 0, .sl (.tok x 1) (Q3p m)]), fun y o hy => ?_, h0, .inr ⟨x, hne, hx, rfl⟩⟩
         by_cases e1 : y = β <;> by_cases e2 : y = x <;> simp_all [Sg.set, Sg.del])
  · (refine vfun (fun _ => .no) Q0k Tryz.func155 (by kernel_rfl) ?_; simp only [Q0f, Tryz.f155, zw])
    (have zz := Bx.mk (j5 Z149 Q6z Q3i Z9 ui5); (repeat' (first | exact zc | (with_reducible first | apply And.intro | apply Q0a | apply Q0b | refine Q0c (by decide +kernel) ?_ | intro _) | refine za zz.out ?_ | (with_reducible refine (t115 β _ _ _ (Sg.set_same _ _ _) (.inr rfl)).use ?_; (try refine zs zz.out ?_)) | refine zo ?_ | omega | refine zt zz.out ?_ | fail)); try (all_goals clear zz))
    all_goals first
      | rfl
      | exact .inr trivial
      | (rename_i x hx hnt hne
         refine ⟨(σ.set x (.tok (some 5))).set β (.cells 152 [.ref β 0, .sl (.tok x 1) (Q3p (acc ++ m))]), fun y o hy => ?_, h0, .inr ⟨x, hne, hx, rfl⟩⟩
         by_cases e1 : y = β <;> by_cases e2 : y = x <;> by_cases e3 : y = τ <;> simp_all [Sg.set, Sg.del])
theorem t103 (β : Nat) (acc : List UInt8) (σ S : Sg) (hb : Bld β acc σ S) (hl : acc.length < 2 ^ 40) : VCalls Tryz.prog 156 [.ref β 0] S (fun x σ' => x = .s (bs acc) ∧ σ' = S) := by
  obtain ⟨h0, ⟨rfl, rfl⟩ | ⟨τ, hτ, hτ0, rfl⟩⟩ := hb
  · (refine vfun (fun _ => .no) Q0k Tryz.func156 (by kernel_rfl) ?_; simp only [Q0f, Tryz.f156, zw])
    (have zz := Bx.mk (j6 Z149 Q6z Q3i Z9 ui5 Tryz.underlying170); (repeat' (first | exact zc | (with_reducible first | apply And.intro | apply Q0a | apply Q0b | refine Q0c (by decide +kernel) ?_ | intro _) | refine za zz.out ?_ | refine zo ?_ | omega | refine zt zz.out ?_ | fail)); try (all_goals clear zz))
    · exact ⟨bs [], ⟨rfl, rfl, by decide⟩, .inl trivial, rfl⟩
    · exact ⟨_, .refl _, rfl, rfl⟩
  · (refine vfun (fun _ => .no) Q0k Tryz.func156 (by kernel_rfl) ?_; simp only [Q0f, Tryz.f156, zw])
    (have zz := Bx.mk (j6 Z149 Q6z Q3i Z9 ui5 Tryz.underlying170); (repeat' (first | exact zc | (with_reducible first | apply And.intro | apply Q0a | apply Q0b | refine Q0c (by decide +kernel) ?_ | intro _) | refine za zz.out ?_ | refine zo ?_ | omega | refine zt zz.out ?_ | fail)); try (all_goals clear zz))
    · exact ⟨bs acc, ⟨(X2q _).symm, by rw [Q4h], by rw [Q4h]; omega⟩, .inr trivial, rfl⟩
    · exact ⟨_, .refl _, rfl, rfl⟩
end Go.Proofs.YtjdapkelojdefaaGreatDoor
namespace Go.Lex
open Go.V Go.Proofs.YtjdapkelojdefaaGreatDoor
def glue (r : List UInt8) (n : Nat) : Bool := decide (n < r.length) && (Q3q (r.getD n 0) || isGreat (r.getD n 0))
def Q8x (m : List UInt8) : Bool := decide (idx m words < words.length)
def wordT (kd : Nat) (r : List UInt8) (n : Nat) : Except Nat (Nat × List UInt8 × Nat) :=
  if glue r n = true then .error 4 else
  if kd = 2 then (if Q8x (r.take n) = true then .ok (2, r.take n, 0) else .error 4) else
  if kd = 1 then (if 16 < n then .error 2 else .ok (1, r.take n, 0)) else
  match num (r.take n) 0 with
  | some v => .ok (3, [], v)
  | none => .error 7
end Go.Lex
namespace Go.Proofs.YtjdapkelojdefaaGreatDoor
open Go Go.V Go.Lex
end Go.Proofs.YtjdapkelojdefaaGreatDoor
namespace Go.Lex
open Go.V Go.Proofs.YtjdapkelojdefaaGreatDoor
theorem eq39 (c : UInt8) : c = 39 ↔ c.toNat = 39 := ⟨fun h => by rw [h]; rfl, fun h => UInt8.toNat_inj.1 h⟩
end Go.Lex
namespace Go.Proofs.YtjdapkelojdefaaGreatDoor
open Go Go.V Go.Lex
theorem Bld.get {β : Nat} {acc : List UInt8} {σ S : Sg} (hb : Bld β acc σ S) {x : Nat} {o : Ob} (h : σ x = some o) : S x = some o := by
  obtain ⟨h0, ⟨rfl, rfl⟩ | ⟨τ, hτ, hτ0, rfl⟩⟩ := hb
  all_goals
    have e1 : x ≠ β := fun e => by rw [e, h0] at h; cases h
    simp only [Sg.set, if_neg e1]
  · exact h
  · rw [if_neg (fun e => by rw [e, hτ0] at h; cases h)]; exact h
theorem Bld.sub {β : Nat} {acc : List UInt8} {σ S : Sg} (hb : Bld β acc σ S) : σ.sub S := fun _ _ h => hb.get h
end Go.Proofs.YtjdapkelojdefaaGreatDoor
namespace Go.V
end Go.V
namespace Go.Proofs.YtjdapkelojdefaaGreatDoor
open Go Go.V Go.Lex
end Go.Proofs.YtjdapkelojdefaaGreatDoor
namespace Go.Lex
open Go.V Go.Proofs.YtjdapkelojdefaaGreatDoor
def wl (kd : Nat) (r : List UInt8) (n : Nat) : Except Nat (Nat × List UInt8 × Nat × Nat) :=
  match wordT kd r n with
  | .ok (k, t, v) => .ok (k, t, v, n)
  | .error e => .error e
end Go.Lex
namespace Go.Proofs.YtjdapkelojdefaaGreatDoor
open Go Go.V Go.Lex
end Go.Proofs.YtjdapkelojdefaaGreatDoor
namespace Go.Lex
open Go.V Go.Proofs.YtjdapkelojdefaaGreatDoor
abbrev Tk := Nat × List UInt8 × Nat × Nat
def tkA (x : Tk) : List AV := [.i x.1, .s (bs x.2.1), .i x.2.2.1, .i x.2.2.2]
def tksA (l : List Tk) : List (List AV) := l.map tkA
theorem Q2p (l : List Tk) : (tksA l).length = l.length := by simp [tksA]
theorem X1c (a b : List Tk) : tksA a ++ tksA b = tksA (a ++ b) := by simp [tksA]
theorem Q3e (l : List Tk) : Q1i (tksA l) 4 = True := eq_true (fun e he => by obtain ⟨b, _, rfl⟩ := List.mem_map.1 he; rfl)
theorem Q7v (l : List Tk) : Q3l (tksA l) 4 = True := eq_true (fun e he => by obtain ⟨b, _, rfl⟩ := List.mem_map.1 he; exact ⟨rfl, rfl⟩)
theorem tksA_get {l : List Tk} {k : Nat} (h : k < l.length) : (tksA l).getD k [] = tkA (l.getD k (0, [], 0, 0)) := by
  simp [tksA, List.getD_eq_getElem?_getD, List.getElem?_eq_getElem h]
end Go.Lex
namespace Go.Proofs.YtjdapkelojdefaaGreatDoor
open Go Go.V Go.Lex
end Go.Proofs.YtjdapkelojdefaaGreatDoor
namespace Go.V
theorem veqIn_struct {P : Program} {d : Nat} {t : TypeId} {fs : Array Field} {xs ys : List AV} (hu : P.underlying t = some (.struct fs)) (hs : P.stoodInHeld t = false) : Q8m P (d + 1) t (.agg xs) (.agg ys) = X2l P (Q8m P d) xs ys fs.toList := by
  simp only [Q8m, hu, hs]
  rfl
theorem veqIn_int {P : Program} {d : Nat} {t : TypeId} {k : IntKind} {q : IntKind} {a b : Int} (hu : P.underlying t = some (.int k)) : Q8m P (d + 1) t (.val (.int q a)) (.val (.int q b)) = some (decide (a = b)) := by
  simp only [Q8m, hu, if_true]
theorem veqIn_str {P : Program} {d : Nat} {t : TypeId} {a b : ByteArray} (hu : P.underlying t = some .string) : Q8m P (d + 1) t (.s a) (.s b) = some (sEq a b) := by
  simp only [Q8m, hu]
theorem X0d {P : Program} {eq : TypeId → AV → AV → Option Bool} {xs ys : List AV} {f : Field} {fs : List Field} {x y : AV} {c r : Bool} (hn : f.name ≠ "_") (hx : X1h P f.type (xs.drop f.offset) = some x) (hy : X1h P f.type (ys.drop f.offset) = some y)
    (he : eq f.type x y = some c) (hr : X2l P eq xs ys fs = some r) : X2l P eq xs ys (f :: fs) = some (c && r) := by
  simp only [X2l, if_neg hn, hx, hy, he, hr]
theorem Q5z {P : Program} {t : TypeId} {i : Option Value × Nat × Nat} {d : TypeDesc} {x : AV} {r : List AV} (hi : Q0m P t = some i) (hd : P.underlying t = some d) (ha : X0p d = false) : X1h P t (x :: r) = some x := by
  obtain ⟨z, n, b⟩ := i
  simp only [X1h, hi, hd, ha]
  rfl
theorem veqT_agg {P : Program} {t : TypeId} {d : TypeDesc} {xs ys : List AV} (hg : P.eqGuardType P.depth t = false) : veqT P t d (.agg xs) (.agg ys) = Q8m P 10000 t (.agg xs) (.agg ys) := by
  simp only [veqT, hg]
  rfl
end Go.V
namespace Go.Lex
open Go.V
end Go.Lex
namespace Go.Proofs.YtjdapkelojdefaaGreatDoor
open Go Go.V Go.Lex
end Go.Proofs.YtjdapkelojdefaaGreatDoor
namespace Go.Lex
open Go.V Go.Proofs.YtjdapkelojdefaaGreatDoor
end Go.Lex
namespace Go.Proofs.YtjdapkelojdefaaGreatDoor
open Go Go.V Go.Lex
end Go.Proofs.YtjdapkelojdefaaGreatDoor
namespace Go.Cert
open Go.V
theorem ne_of {σ : Sg} {ρ x : Nat} {o : Ob} (h : σ ρ = some o) (hx : σ x = none) : ρ ≠ x := fun e => by subst e; rw [hx] at h; cases h
theorem ne_of2 {σ : Sg} {ρ x : Nat} {o : Ob} (hx : σ x = none) (h : σ ρ = some o) : ρ ≠ x := ne_of h hx
theorem ne_of2a {σ : Sg} {ρ x : Nat} {o : Ob} (hx : σ x = none) (h : σ ρ = some o) : x ≠ ρ := Ne.symm (ne_of h hx)
theorem ne_ob {σ : Sg} {ρ x : Nat} {o o' : Ob} (h : σ ρ = some o) (hx : σ x = some o') (hn : o ≠ o') : ρ ≠ x := fun e => by rw [e, hx] at h; cases h; exact hn rfl
open Go.V in
theorem lk {p : Prop} (h : p := by first | assumption | ((simp (disch := first | assumption | (apply ne_of2; assumption; assumption) | (apply ne_ob; assumption; assumption; (intro e; cases e; done)) | omega) only [Sg.set_same, Sg.set_ne, Sg.set_ne', Sg.del_ne, Sg.del_ne']); first | done | rfl | assumption)) : p := h
end Go.Cert
namespace Go.V
open Go.RowKit
theorem keepAt {ρ : Nat} {S σ' : Sg} {o : Option Ob} (h : Keep (fun β => β = ρ) S σ') (hS : S ρ = o) : σ' ρ = o := (h ρ rfl).trans hS
theorem AVw.agg {cs cs' : List AV} (hl : cs.length = cs'.length) (h : ∀ (i : Nat) (x x' : AV), cs[i]? = some x → cs'[i]? = some x' → AVw x x') : AVw (.agg cs) (.agg cs') := fun κ v hr => by
  cases hr with
  | agg _ vs hl' hx =>
    refine .agg _ vs (by omega) (fun i x u h1 h2 => ?_)
    have hi : i < cs.length := by
      rcases Nat.lt_or_ge i cs.length with h' | h'
      · exact h'
      · rw [List.getElem?_eq_none (by omega)] at h1; cases h1
    exact h i cs[i] x (List.getElem?_eq_getElem hi) h1 κ u (hx i _ u (List.getElem?_eq_getElem hi) h2)
theorem Q0d {P : Program} {t : TypeId} {S : Sg} {β : Nat} {o' : Option Ob} {off : Nat} {R : AV → Prop} (h : S β = o') (hw : vlo P t o' off R) : vlo P t (S β) off R := h ▸ hw
theorem Q0e {i : Option (Option Value × Nat × Nat)} {S : Sg} {b : Nat} {o' : Option Ob} {β off : Nat} {x : AV} {σ : Sg} {R : Sg → Prop} (h : S b = o') (hw : vst i o' β off x σ R) : vst i (S b) β off x σ R := h ▸ hw
end Go.V
