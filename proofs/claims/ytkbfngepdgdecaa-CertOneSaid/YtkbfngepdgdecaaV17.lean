/- An array that was written, and from now on is only read. -/
import Derived.Test.YtkbfngepdgdecaaV15
set_option linter.unusedVariables false
namespace Go.V
open Go.RowKit
variable {P : Program}
/-- What an object's cells are, once nobody writes them any more. -/
theorem St.still {κ : K} {σ : Sg} (h : St κ σ) {β b hi : Nat} {t : TypeId} {cs : List AV} (hβ : σ β = some (.cells t cs)) (hμ : κ.μ β = some (b, 0, hi)) :
    κ.le { κ with M := fun b' x => κ.M b' x ∧ ¬ (b' = b ∧ x < hi) } ∧ St { κ with M := fun b' x => κ.M b' x ∧ ¬ (b' = b ∧ x < hi) } (σ.del β) := by
  have hle : κ.le { κ with M := fun b' x => κ.M b' x ∧ ¬ (b' = b ∧ x < hi) } := ⟨rfl, rfl, rfl, Nat.le_refl _, fun _ _ _ hm => ⟨rfl, fun hh => hm hh.1⟩, rfl, fun _ _ => rfl, fun _ _ g => g⟩
  refine ⟨hle, ⟨fun β' ob hb => ?_, fun β1 β2 o1 o2 b' lo1 hi1 lo2 hi2 hne g1 g2 g3 g4 => h.apart β1 β2 o1 o2 b' lo1 hi1 lo2 hi2 hne (Sg.del_sub _ _ _ _ g1) (Sg.del_sub _ _ _ _ g2) g3 g4, h.fin, fun b' x hm => h.mlt b' x hm.1, h.bas⟩⟩
  have hne : β' ≠ β := fun e => by subst e; simp [Sg.del] at hb
  have hb' := Sg.del_sub _ _ _ _ hb
  obtain ⟨b1, lo1, hi1, g1, g2, g3⟩ := h.ob β' ob hb'
  refine ⟨b1, lo1, hi1, g1, fun x hx hx' => ⟨g2 x hx hx', fun hh => ?_⟩, g3.keep hle rfl⟩
  obtain ⟨e, hlt⟩ := hh
  subst e
  have := h.apart β β' _ _ b1 0 hi lo1 hi1 (Ne.symm hne) hβ hb' hμ g1
  omega
/-- A slice of an object that is not written from now on: a plain slice. -/
theorem VCalls.still {f : FuncId} {args : List AV} {σ : Sg} {R : AV → Sg → Prop}
    (hc : VCalls P f args σ (fun x σ' => ∃ (β n sz : Nat) (t : TypeId) (cs : List AV), 0 < sz ∧ x = .ms β 0 n sz ∧ σ' β = some (.cells t cs) ∧ n * sz ≤ cs.length ∧ R (.sl .any (chunks sz n cs)) (σ'.del β))) : VCalls P f args σ R := by
  have post : ∀ {κ : K} {v : Value} {w : World}, Post κ (fun x σ' => ∃ (β n sz : Nat) (t : TypeId) (cs : List AV), 0 < sz ∧ x = .ms β 0 n sz ∧ σ' β = some (.cells t cs) ∧ n * sz ≤ cs.length ∧ R (.sl .any (chunks sz n cs)) (σ'.del β)) v w → Post κ R v w := by
    intro κ v w hp
    obtain ⟨κ', x, σ', rfl, hle, hst, hrel, β, n, sz, t, cs, hsz, rfl, hβ, hn, hR⟩ := hp
    cases hrel with
    | ms _ _ _ _ b hi c hμ hnc hh =>
      obtain ⟨b', lo, hi', h1, h2, h3, h4, arr, fz, h5, h6, h7⟩ := hst.ob β _ hβ
      rw [hμ] at h1
      cases h1
      obtain ⟨hle2, hst2⟩ := hst.still hβ hμ
      have hle3 : ∀ i j, i < n → j < sz → i * sz + j < arr.size := fun i j hi hj => by
        have : (i + 1) * sz ≤ n * sz := Nat.mul_le_mul_right _ (by omega)
        rw [Nat.succ_mul] at this
        have hsz' := h7.1
        omega
      refine ⟨{ κ' with M := fun b' x => κ'.M b' x ∧ ¬ (b' = b ∧ x < hi) }, .sl .any (chunks sz n cs), σ'.del β, rfl, hle.trans hle2, hst2, ?_, hR⟩
      have hin : ∀ (i : Nat) (e : List AV), (chunks sz n cs)[i]? = some e → i < n ∧ e = (cs.drop (i * sz)).take sz := fun i e he => by
        rcases Nat.lt_or_ge i n with h' | h'
        · rw [chunks_get sz n cs i h'] at he
          cases he
          exact ⟨h', rfl⟩
        · rw [List.getElem?_eq_none (by rw [chunks_length]; exact h')] at he; cases he
      have hz : ∀ (i : Nat) (e : List AV), (chunks sz n cs)[i]? = some e → e.length = sz := fun i e he => by
        obtain ⟨hi, rfl⟩ := hin i e he
        have : (i + 1) * sz ≤ n * sz := Nat.mul_le_mul_right _ (by omega)
        rw [Nat.succ_mul] at this
        simp; omega
      have hr : ∀ i j, i < n → j < sz → K.reads { κ' with M := fun b' x => κ'.M b' x ∧ ¬ (b' = b ∧ x < hi) } b (0 + i * sz + j) (arr.getD (i * sz + j) undef) := fun i j hi' hj => by
        have := hle3 i j hi' hj
        refine ⟨?_, fun hm => hm.2 ⟨rfl, ?_⟩⟩
        · rw [Nat.zero_add]
          show κ'.w.cell? _ = _
          rw [cell_of_heap h5]
          simp [this]
        · have hsz' := h7.1
          omega
      have hx : ∀ (i j : Nat) (e : List AV) (x : AV), (chunks sz n cs)[i]? = some e → e[j]? = some x → Rel { κ' with M := fun b' x => κ'.M b' x ∧ ¬ (b' = b ∧ x < hi) } x (arr.getD (i * sz + j) undef) := fun i j e x he hx => by
        have hl := hz i e he
        obtain ⟨hi', rfl⟩ := hin i e he
        have hj : j < sz := by
          rcases Nat.lt_or_ge j sz with h' | h'
          · exact h'
          · rw [List.getElem?_eq_none (by omega)] at hx; cases hx
        rw [List.getElem?_take, if_pos hj, List.getElem?_drop] at hx
        have := hle3 i j hi' hj
        exact (h7.2 _ _ _ hx (by simp [this])).mono hle2
      exact .sl .any _ ⟨b, 0, none⟩ n c sz (fun i j => arr.getD (i * sz + j) undef) trivial (chunks_length _ _ _).symm hnc rfl hz hr hx
  refine ⟨fun κ vs hst hr => ?_⟩
  have hd := hc.go κ vs hst hr
  revert hd
  generalize (callFunc f vs).run P κ.w = r
  intro hd
  cases r with
  | halt x w => exact hd.elim
  | ok nx w =>
    cases nx <;> simp only [Done] at hd ⊢
    case value v => exact post hd
    case skip => exact post hd
    case enter f args =>
      refine hd.mono (fun e w' he => ?_)
      cases e with
      | returned v => exact post he
      | panicked c => exact he.elim
      | outgrown => exact he.elim
    case row r args => exact hd.mono (fun v w' he => post he)
end Go.V
