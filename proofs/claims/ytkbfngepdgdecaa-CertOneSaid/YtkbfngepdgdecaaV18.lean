/- Arguments that are slices and structs: opened. -/
import Derived.Test.YtkbfngepdgdecaaV16
import Derived.Below
import Derived.Carry
set_option linter.unusedVariables false
namespace Go.V
open Go.RowKit
variable {P : Program}
theorem one_of {W : World} {cs : List AV} {v : Value} (hv : v.cells.toList = [v]) (h : RL (K0 W) cs v.cells.toList) : ∃ x, cs = [x] ∧ Rel (K0 W) x v := by
  rw [hv] at h
  match cs, h with
  | [x], h => exact ⟨x, rfl, h.2 0 x v rfl rfl⟩
theorem open_sl {H : Type} {enc : TypeId × Value → H} {W : World} {base : Nat} {t e : TypeId} {v : Value} {d : DataW H} {p : List MemPlace} (l : List TypeId) (hl : plainSet P l = true) (ht : t ∈ l) (hu : P.underlying t = some (.slice e))
    (hw : Value.okWide P W .any base t v) (h : DataW.Trod enc P W 0 (fun _ => true) true t v d p) : ∃ x, AT P t [x] ∧ Rel (K0 W) x v := by
  obtain ⟨fuel, h⟩ := h
  obtain ⟨cs, h1, h2⟩ := open_plain hl fuel t _ d p ht h
  have hv : v.cells.toList = [v] := by
    simp only [Value.okWide, hu, Cell.okWide] at hw
    cases v <;> simp_all [Cell.ok, Value.cells]
  obtain ⟨x, rfl, hx⟩ := one_of hv h2
  exact ⟨x, h1, hx⟩
theorem open_st {H : Type} {enc : TypeId × Value → H} {W : World} {base : Nat} {t : TypeId} {fs : Array Field} {v : Value} {d : DataW H} {p : List MemPlace} (l : List TypeId) (hl : plainSet P l = true) (ht : t ∈ l) (hu : P.underlying t = some (.struct fs))
    (hw : Value.okWide P W .any base t v) (h : DataW.Trod enc P W 0 (fun _ => true) true t v d p) : ∃ cs, AT P t cs ∧ Rel (K0 W) (.agg cs) v := by
  obtain ⟨fuel, h⟩ := h
  obtain ⟨cs, h1, h2⟩ := open_plain hl fuel t _ d p ht h
  simp only [Value.okWide, hu] at hw
  obtain ⟨vs, rfl, _, _⟩ := hw
  have h3 := h2.row
  exact ⟨cs, h1, .agg cs vs (by simpa [Value.cells] using h3.1) (fun i x u g1 g2 => h3.2 i x u g1 (by simpa [Value.cells] using g2))⟩
theorem trod_low {H : Type} {enc : TypeId × Value → H} {W : World} {t : TypeId} {v : Value} {d : DataW H} {p : List MemPlace} (h : DataW.Trod enc P W 0 (fun _ => true) true t v d p) : ∀ x ∈ p, x.block < W.heap.size := by
  obtain ⟨m, hm⟩ := h
  exact DataW.trod_lt m _ _ _ hm
/-! ### What the readings say -/
theorem AT.inv_int {t : TypeId} {k : IntKind} {cs : List AV} (hu : P.underlying t = some (.int k)) (h : AT P t cs) : ∃ n, cs = [.val (.int k n)] ∧ (Lit.int k n).wf = true := by
  cases h with
  | int h hw => rw [hu] at h; cases h; exact ⟨_, rfl, hw⟩
  | _ => simp_all
theorem AT.inv_slice {t e : TypeId} {cs : List AV} (hu : P.underlying t = some (.slice e)) (h : AT P t cs) : cs = [.sl .nil []] ∨ ∃ es, cs = [.sl .view es] ∧ es.length ≤ maxLen ∧ ∀ x ∈ es, AT P e x := by
  cases h with
  | nil h => exact .inl rfl
  | sl h hn hes => rw [hu] at h; cases h; exact .inr ⟨_, rfl, hn, hes⟩
  | _ => simp_all
theorem AT.inv_struct {t : TypeId} {fs : Array Field} {cs : List AV} (hu : P.underlying t = some (.struct fs)) (h : AT P t cs) : cs.length = P.cellsOf t ∧ ∀ f ∈ fs.toList, AT P f.type ((cs.drop f.offset).take (P.cellsOf f.type)) := by
  cases h with
  | struct h hl hf => rw [hu] at h; cases h; exact ⟨hl, hf⟩
  | _ => simp_all
theorem AT.inv_array {t e : TypeId} {n : Nat} {cs : List AV} (hu : P.underlying t = some (.array n e)) (h : AT P t cs) : cs.length = P.cellsOf t ∧ ∀ i, i < n → AT P e ((cs.drop (i * P.cellsOf e)).take (P.cellsOf e)) := by
  cases h with
  | array h hl he => rw [hu] at h; cases h; exact ⟨hl, he⟩
  | _ => simp_all
theorem AT.inv_str {t : TypeId} {cs : List AV} (hu : P.underlying t = some .string) (h : AT P t cs) : ∃ s, cs = [.s s] ∧ s.size ≤ maxLen := by
  cases h with
  | str h hs => exact ⟨_, rfl, hs⟩
  | _ => simp_all
theorem AT.inv_bool {t : TypeId} {cs : List AV} (hu : P.underlying t = some .bool) (h : AT P t cs) : ∃ b, cs = [.b b] := by
  cases h with
  | bool h => exact ⟨_, rfl⟩
  | _ => simp_all
theorem wf_i64 {n : Int} (h : (Lit.int .i64 n).wf = true) : -9223372036854775808 ≤ n ∧ n ≤ 9223372036854775807 := by
  simp only [Lit.wf, Bool.and_eq_true, decide_eq_true_eq] at h
  exact h
theorem relArgs_nil {κ : K} : RelArgs κ [] #[] := ⟨rfl, fun i x u h1 h2 => by simp at h1⟩
theorem relArgs_cons {κ : K} {x : AV} {v : Value} {xs : List AV} {vs : List Value} (h : Rel κ x v) (hr : RelArgs κ xs vs.toArray) : RelArgs κ (x :: xs) (v :: vs).toArray := by
  refine ⟨by have := hr.1; simp at this ⊢; omega, fun i y u h1 h2 => ?_⟩
  cases i with
  | zero => simp at h1 h2; subst h1; subst h2; exact h
  | succ i => exact hr.2 i y u (by simpa using h1) (by simpa using h2)
end Go.V
