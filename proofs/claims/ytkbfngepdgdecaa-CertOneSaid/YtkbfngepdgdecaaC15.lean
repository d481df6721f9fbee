import Derived.Test.YtkbfngepdgdecaaC11
set_option linter.unusedSimpArgs false
set_option linter.unusedVariables false
namespace Go.Cert
open Go.V
theorem veqIn_struct {P : Program} {d : Nat} {t : TypeId} {fs : Array Field} {xs ys : List AV} (hu : P.underlying t = some (.struct fs)) (hs : P.stoodInHeld t = false) : veqIn P (d + 1) t (.agg xs) (.agg ys) = veqFs P (veqIn P d) xs ys fs.toList := by
  simp only [veqIn, hu, hs]
  rfl
theorem veqIn_int {P : Program} {d : Nat} {t : TypeId} {k : IntKind} {q : IntKind} {a b : Int} (hu : P.underlying t = some (.int k)) : veqIn P (d + 1) t (.val (.int q a)) (.val (.int q b)) = some (decide (a = b)) := by
  simp only [veqIn, hu, if_true]
theorem veqIn_str {P : Program} {d : Nat} {t : TypeId} {a b : ByteArray} (hu : P.underlying t = some .string) : veqIn P (d + 1) t (.s a) (.s b) = some (sEq a b) := by
  simp only [veqIn, hu]
theorem veqFs_cons {P : Program} {eq : TypeId → AV → AV → Option Bool} {xs ys : List AV} {f : Field} {fs : List Field} {x y : AV} {c r : Bool} (hn : f.name ≠ "_") (hx : partO P f.type (xs.drop f.offset) = some x) (hy : partO P f.type (ys.drop f.offset) = some y)
    (he : eq f.type x y = some c) (hr : veqFs P eq xs ys fs = some r) : veqFs P eq xs ys (f :: fs) = some (c && r) := by
  simp only [veqFs, if_neg hn, hx, hy, he, hr]
theorem partO_one {P : Program} {t : TypeId} {i : Option Value × Nat × Nat} {d : TypeDesc} {x : AV} {r : List AV} (hi : tInfo P t = some i) (hd : P.underlying t = some d) (ha : isAggD d = false) : partO P t (x :: r) = some x := by
  obtain ⟨z, n, b⟩ := i
  simp only [partO, hi, hd, ha]
  rfl
theorem veqT_agg {P : Program} {t : TypeId} {d : TypeDesc} {xs ys : List AV} (hg : P.eqGuardType P.depth t = false) : veqT P t d (.agg xs) (.agg ys) = veqIn P 10000 t (.agg xs) (.agg ys) := by
  simp only [veqT, hg]
  rfl
end Go.Cert
namespace Go.Proofs.Ytkbfngepdgdecaa
open Go Go.V Go.Cert
def keyV (p : Int × List UInt8) : Value := .agg #[.int .i64 p.1, .string (bs p.2)]
/-- The map of who is known. -/
def knownM (ps : Ps) : List (Value × AV) := ps.map fun p => (keyV p, AV.b true)
theorem ofKey_V (a : Int × List UInt8) : ofKey (keyV a) = .agg [.i a.1, .s (bs a.2)] := rfl
theorem key_eq' (a b : Int × List UInt8) : veqIn Try.prog 10000 77 (.agg [.i a.1, .s (bs a.2)]) (.agg [.i b.1, .s (bs b.2)]) = some (decide (a.1 = b.1) && (sEq (bs a.2) (bs b.2) && true)) := by
  rw [veqIn_struct (d := 9999) Try.underlying77 (by kernel_rfl)]
  exact veqFs_cons (by decide) (partO_one info3 Try.underlying3 rfl) (partO_one info3 Try.underlying3 rfl) (veqIn_int Try.underlying3) (veqFs_cons (by decide) (partO_one info9 Try.underlying9 rfl) (partO_one info9 Try.underlying9 rfl) (veqIn_str Try.underlying9) rfl)
theorem key_eq (a b : Int × List UInt8) : vkeyS Try.prog 77 (keyV a) (keyV b) = some (decide (a = b)) := by
  unfold vkeyS
  rw [ofKey_V, ofKey_V, key_eq', bs_sEq, Bool.and_true]
  obtain ⟨a1, a2⟩ := a
  obtain ⟨b1, b2⟩ := b
  simp [Prod.mk.injEq]
theorem find_known (p : Int × List UInt8) (ps : Ps) : vfindS Try.prog 77 (keyV p) (knownM ps) = some (if p ∈ ps then some (AV.b true) else none) := by
  induction ps with
  | nil => simp [knownM, vfindS]
  | cons a r ih =>
    unfold knownM at ih ⊢
    rw [List.map_cons, vfindS, key_eq]
    by_cases h : p = a
    · subst h
      simp
    · simp only [h, decide_false]
      rw [ih]
      simp [h]
end Go.Proofs.Ytkbfngepdgdecaa
