/-wraps2-/
import Derived.Test.YtkbfngepdgdecaaC28
set_option linter.unusedSimpArgs false
set_option linter.unusedVariables false
namespace Go.V
open Go.RowKit
theorem Post.lose {P : Program} {R R' : AV → Sg → Prop} (h : ∀ x σ', R x σ' → ∃ x' σ'', AVw x x' ∧ σ''.sub σ' ∧ R' x' σ'') {κ : K} {v : Value} {w : World} (hp : Post κ R v w) : Post κ R' v w := by
  obtain ⟨κ', x, σ', h1, h2, h3, h4, h5⟩ := hp
  obtain ⟨x', σ'', h6, h8, h7⟩ := h x σ' h5
  exact ⟨κ', x', σ'', h1, h2, h3.sub h8, h6 κ' v h4, h7⟩
/-- What is known of a result, and of the store, may be forgotten. -/
theorem VCalls.lose {P : Program} {σ : Sg} {f : FuncId} {args : List AV} {R R' : AV → Sg → Prop} (hc : VCalls P f args σ R) (h : ∀ x σ', R x σ' → ∃ x' σ'', AVw x x' ∧ σ''.sub σ' ∧ R' x' σ'') : VCalls P f args σ R' := by
  refine ⟨fun κ vs hst hr => ?_⟩
  have hd := hc.go κ vs hst hr
  revert hd
  generalize (callFunc f vs).run P κ.w = r
  intro hd
  cases r with
  | halt x w => exact hd.elim
  | ok nx w =>
    cases nx <;> simp only [Done] at hd ⊢
    case value v => exact Post.lose (P := P) h hd
    case skip => exact Post.lose (P := P) h hd
    case enter f args =>
      refine hd.mono (fun e w' he => ?_)
      cases e with
      | returned v => exact Post.lose (P := P) h he
      | panicked c => exact he.elim
      | outgrown => exact he.elim
    case row r args => exact hd.mono (fun v w' he => Post.lose (P := P) h he)
end Go.V
namespace Go.Proofs.Ytkbfngepdgdecaa
open Go Go.V Go.Cert
/-- A new row of bytes that is only read. -/
theorem lose_B {f : FuncId} {args : List AV} {l : List UInt8} {σ : Sg} (h : VCalls Try.prog f args σ (fun x σ' => ∃ y, x = .tup [y, .i 0] ∧ OwnB l σ y σ')) : VCalls Try.prog f args σ (fun x σ' => x = .tup [.sl .any (bytesL l), .i 0] ∧ σ' = σ) :=
  h.lose fun x σ' hx => by
    obtain ⟨y, rfl, τ, hτ, rfl, rfl⟩ := hx
    exact ⟨_, σ, (AVw.any _ _).tup2 (AVw.refl _), Sg.sub_set hτ _, rfl, rfl⟩
/-- The bits of those up to n who signed a header. -/
def bq (ps : Ps) (n q : Int) (l : List UInt8) : Nat := bitsOf (fun m => decide (((m : Int), certText q l) ∈ ps)) (min n.toNat 16)
theorem a14 {ρ : Nat} {own : List Nat} {ps : Ps} (n q : Int) {l : List UInt8} {σ : Sg} (hR : RegA σ ρ own ps) (hh : l.length = 128) : VCalls Try.prog 14 [.ref ρ 0, .i n, .agg (.i q :: aB l)] σ (fun x σ' => x = .tup [colC (bq ps n q l) n q l, .i (colE (bq ps n q l) n q)] ∧ σ' = σ) := by
  obtain ⟨m1, m2, pv, tv, ts, h⟩ := hR
  exact t14 ρ m1 m2 _ ps n q l σ hh h.at0 h.at1
theorem a16 {ρ : Nat} {own : List Nat} {ps : Ps} (n q s : Int) {l : List UInt8} {σ : Sg} (hR : RegA σ ρ own ps) (hh : l.length = 128) : VCalls Try.prog 16 [.ref ρ 0, .i n, cA q l s] σ (fun x σ' => x = .i (chk (bq ps n q l) n q s) ∧ σ' = σ) := by
  obtain ⟨m1, m2, pv, tv, ts, h⟩ := hR
  exact t16 ρ m1 m2 _ ps n q s l σ hh h.at0 h.at1
theorem c15 {ρ : Nat} {own : List Nat} {ps : Ps} (n q : Int) {l : List UInt8} {σ : Sg} (hR : RegC σ ρ own ps) (hh : l.length = 128) (hlen : ps.length ≤ 2 ^ 32) : VCalls Try.prog 15 [.ref ρ 0, .i n, .agg (.i q :: aB l)] σ (fun x σ' => x = .tup [colC (bq ps n q l) n q l, .i (colE (bq ps n q l) n q)] ∧ σ' = σ) := by
  obtain ⟨k, h⟩ := RegC.at _ _ _ _ hR
  by_cases hq : bad q
  · have he : ∀ m, colE m n q = 1 := fun m => if_pos (.inr hq)
    have hC : ∀ m, colC m n q l = cA 0 zs 0 := fun m => by rw [colC, he]; rfl
    rw [hC, he]
    exact t15a ρ n q l σ hh hq
  · exact t15 ρ ps k n q l σ hlen hh h hq
theorem c17 {ρ : Nat} {own : List Nat} {ps : Ps} (n q s : Int) {l : List UInt8} {σ : Sg} (hR : RegC σ ρ own ps) (hh : l.length = 128) (hlen : ps.length ≤ 2 ^ 32) : VCalls Try.prog 17 [.ref ρ 0, .i n, cA q l s] σ (fun x σ' => x = .i (chk (bq ps n q l) n q s) ∧ σ' = σ) := by
  obtain ⟨k, h⟩ := RegC.at _ _ _ _ hR
  exact t17 ρ ps k n q s l σ hlen hh h
abbrev sm3 : List Sgn := [(1, 1, zs), (2, 1, zs), (3, 1, zs)]
theorem small1 : colE (bq (sgs (sm3.take 40)) 4 1 zs) 4 1 = 0 ∧ bq (sgs (sm3.take 40)) 4 1 zs = 7 := by decide +kernel
theorem small2 : colE (bq (sgs (sm3.take 40)) 4 2 zs) 4 2 = 5 := by decide +kernel
theorem small3 : chk 7 4 1 7 = 0 ∧ chk 7 4 1 15 = 5 := by decide +kernel
theorem small4 : (sgs (sm3.take 40)).length = 3 := by decide +kernel
abbrev ps3 : Ps := sgs (sm3.take 40)
theorem k14 {ρ : Nat} {own : List Nat} {σ : Sg} (hR : RegA σ ρ own ps3) : VCalls Try.prog 14 [.ref ρ 0, .i 4, .agg (.i 1 :: aB zs)] σ (fun x σ' => x = .tup [cA 1 zs 7, .i 0] ∧ σ' = σ) := by
  have := a14 4 1 hR zs_len
  rw [colC, small1.1, if_pos rfl, small1.2] at this
  exact this
theorem k14' {ρ : Nat} {own : List Nat} {σ : Sg} (hR : RegA σ ρ own ps3) : VCalls Try.prog 14 [.ref ρ 0, .i 4, .agg (.i 2 :: aB zs)] σ (fun x σ' => x = .tup [cA 0 zs 0, .i 5] ∧ σ' = σ) := by
  have := a14 4 2 hR zs_len
  rw [colC, small2, if_neg (by decide)] at this
  exact this
theorem k16 {ρ : Nat} {own : List Nat} {σ : Sg} (hR : RegA σ ρ own ps3) : VCalls Try.prog 16 [.ref ρ 0, .i 4, cA 1 zs 7] σ (fun x σ' => x = .i 0 ∧ σ' = σ) := by
  have := a16 4 1 7 hR zs_len
  rw [small1.2, small3.1] at this
  exact this
theorem k16' {ρ : Nat} {own : List Nat} {σ : Sg} (hR : RegA σ ρ own ps3) : VCalls Try.prog 16 [.ref ρ 0, .i 4, cA 1 zs 15] σ (fun x σ' => x = .i 5 ∧ σ' = σ) := by
  have := a16 4 1 15 hR zs_len
  rw [small1.2, small3.2] at this
  exact this
theorem vlo_app {P : Program} {t : TypeId} {S : Sg} {β : Nat} {o' : Option Ob} {off : Nat} {R : AV → Prop} (h : S β = o') (hw : vlo P t o' off R) : vlo P t (S β) off R := h ▸ hw
theorem vst_app {i : Option (Option Value × Nat × Nat)} {S : Sg} {b : Nat} {o' : Option Ob} {β off : Nat} {x : AV} {σ : Sg} {R : Sg → Prop} (h : S b = o') (hw : vst i o' β off x σ R) : vst i (S b) β off x σ R := h ▸ hw
end Go.Proofs.Ytkbfngepdgdecaa
