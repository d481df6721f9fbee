import Derived.Test.YtkbfngepdgdecaaV15
namespace Go.V
/-- The text of a row of bytes. -/
def bs (l : List UInt8) : ByteArray := ⟨l.toArray⟩
theorem bs_list (s : ByteArray) : bs s.data.toList = s := ByteArray.ext (by simp [bs])
theorem bs_size (l : List UInt8) : (bs l).size = l.length := by simp [bs, ByteArray.size]
theorem bs_toList (l : List UInt8) : (bs l).data.toList = l := by simp [bs]
theorem bs_get (l : List UInt8) (i : Nat) (h : i < (bs l).size) : (bs l)[i] = l[i]'(by rw [bs_size] at h; exact h) := by
  show (bs l).data[i]'h = _
  simp [bs]
theorem bs_byteAt (l : List UInt8) (i : Nat) : byteAt (bs l) i = l.getD i 0 := by
  unfold byteAt bs
  simp [List.getD_eq_getElem?_getD]
theorem getD_lt {l : List UInt8} {k : Nat} (h : k < l.length) : l.getD k 0 = l[k] := by simp [List.getD_eq_getElem?_getD, List.getElem?_eq_getElem h]
theorem bs_inj {l m : List UInt8} (h : bs l = bs m) : l = m := by rw [← bs_toList l, h, bs_toList]
theorem bs_sEq (l m : List UInt8) : sEq (bs l) (bs m) = decide (l = m) := by
  unfold sEq
  by_cases h : l = m
  · subst h; simp
  · rw [decide_eq_false h, decide_eq_false (fun e => h (bs_inj e))]
theorem bs_append (l m : List UInt8) : bs l ++ bs m = bs (l ++ m) := by
  apply ByteArray.ext
  simp [bs]
theorem bs_extract (l : List UInt8) (i j : Nat) : (bs l).extract i j = bs ((l.take j).drop i) := by
  apply ByteArray.ext
  apply Array.toList_inj.1
  simp [bs, ByteArray.data_extract, List.drop_take]
theorem bs_fold (l : List UInt8) : ByteArray.mk l.toArray = bs l := rfl
theorem bs_bytes (l : List UInt8) : bytesAV (bs l) = l.map fun b => [AV.u8 b.toNat] := by unfold bytesAV; rw [bs_toList]
/-- Bytes in a row. -/
def bytesL (l : List UInt8) : List (List AV) := l.map fun b => [AV.u8 b.toNat]
theorem bs_bytesAV (l : List UInt8) : bytesAV (bs l) = bytesL l := bs_bytes l
theorem bytesL_len (l : List UInt8) : (bytesL l).length = l.length := by simp [bytesL]
theorem bytesL_app (a b : List UInt8) : bytesL a ++ bytesL b = bytesL (a ++ b) := by simp [bytesL]
theorem bytesL_all (l : List UInt8) : allLen (bytesL l) 1 = True := by
  refine eq_true (fun e he => ?_)
  obtain ⟨b, _, rfl⟩ := List.mem_map.1 he
  rfl
theorem bytesL_one (l : List UInt8) : allOne (bytesL l) 1 = True := by
  refine eq_true (fun e he => ?_)
  obtain ⟨b, _, rfl⟩ := List.mem_map.1 he
  exact ⟨rfl, rfl⟩
theorem bytesL_unit (b : UInt8) : [[AV.u8 b.toNat]] = bytesL [b] := rfl
theorem w_small {n : Int} (h1 : 0 ≤ n) (h2 : n ≤ 9223372036854775807) : IntKind.i64.wrap n = n := w64 (by omega) h2

def pre (p : UInt8 → Bool) (l : List UInt8) : Nat := (l.takeWhile p).length
theorem pre_le (p : UInt8 → Bool) (l : List UInt8) : pre p l ≤ l.length := (List.takeWhile_prefix p).length_le
theorem pre_step {p : UInt8 → Bool} {l : List UInt8} {k : Nat} (h : k < l.length) : pre p (l.drop k) = if p (l.getD k 0) = true then 1 + pre p (l.drop (k + 1)) else 0 := by
  rw [getD_lt h]
  rw [List.drop_eq_getElem_cons h]
  unfold pre
  rw [List.takeWhile_cons]
  split <;> simp [Nat.add_comm]
theorem pre_yes {p : UInt8 → Bool} {l : List UInt8} {k : Nat} (h : k < l.length) (hp : p (l.getD k 0) = true) : pre p (l.drop k) = 1 + pre p (l.drop (k + 1)) := by rw [pre_step h, if_pos hp]
theorem pre_no {p : UInt8 → Bool} {l : List UInt8} {k : Nat} (h : k < l.length) (hp : ¬ p (l.getD k 0) = true) : pre p (l.drop k) = 0 := by rw [pre_step h, if_neg hp]
theorem pre_end {p : UInt8 → Bool} {l : List UInt8} {k : Nat} (h : l.length ≤ k) : pre p (l.drop k) = 0 := by rw [List.drop_of_length_le h]; rfl
def hasPre (m l : List UInt8) : Bool := decide (l.take m.length = m)
theorem hasPre_short {m l : List UInt8} (h : l.length < m.length) : hasPre m l = false := by
  unfold hasPre
  rw [decide_eq_false]
  intro e
  have := congrArg List.length e
  simp at this
  omega
theorem b_eq {p q : Bool} (h : p = true ↔ q = true) : AV.b p = AV.b q := by
  congr 2
  cases p <;> cases q <;> simp_all
theorem i_eq {m n : Int} (h : m = n) : AV.i m = AV.i n := by rw [h]
theorem n1 (i : Nat) : ((i : Int) + 1).toNat = i + 1 := by omega
theorem n2 (i : Nat) : ((i : Int) + 2).toNat = i + 2 := by omega
theorem nn (i j : Nat) : ((i : Int) + (j : Int)).toNat = i + j := by omega
/-- Nothing but names of this call has come. -/
def Ext (σ0 σ : Sg) : Prop := σ0.sub σ
theorem Sg.sub.set_fresh {σ S : Sg} {x : Nat} {o : Ob} (h : σ.sub S) (hx : σ x = none) : σ.sub (S.set x o) := fun y p hy => by
  unfold Sg.set
  by_cases e : y = x
  · subst e; rw [hx] at hy; cases hy
  · rw [if_neg e]; exact h y p hy
theorem Sg.sub.del_fresh {σ S : Sg} {x : Nat} (h : σ.sub S) (hx : σ x = none) : σ.sub (S.del x) := fun y p hy => by
  unfold Sg.del
  by_cases e : y = x
  · subst e; rw [hx] at hy; cases hy
  · rw [if_neg e]; exact h y p hy
theorem Sg.sub.set_both {σ S : Sg} {x : Nat} {o : Ob} (h : σ.sub S) : (σ.set x o).sub (S.set x o) := fun y p hy => by
  unfold Sg.set at *
  by_cases e : y = x
  · rw [if_pos e] at hy ⊢; exact hy
  · rw [if_neg e] at hy ⊢; exact h y p hy
theorem Sg.set_none {σ : Sg} {x τ : Nat} {o : Ob} (h : σ τ = none) (hne : τ ≠ x) : (σ.set x o) τ = none := by rw [Sg.set_other _ _ hne]; exact h
theorem Sg.of_set_none {σ : Sg} {x τ : Nat} {o : Ob} (h : (σ.set x o) τ = none) : τ ≠ x ∧ σ τ = none := by
  by_cases e : τ = x
  · subst e; rw [Sg.set_same] at h; cases h
  · rw [Sg.set_other _ _ e] at h; exact ⟨e, h⟩
/-- A slice made by append out of nothing: what it holds, and the store beside σ. -/
def Grown (e sz : Nat) (es : List (List AV)) (σ : Sg) (V : AV) (S : Sg) : Prop :=
  (es = [] ∧ V = .sl .nil [] ∧ S = σ) ∨ ∃ τ, σ τ = none ∧ V = .sl (.tok τ sz) es ∧ S = σ.set τ (.tok (some e))
theorem Grown.nil (e sz : Nat) (σ : Sg) : Grown e sz [] σ (.sl .nil []) σ := .inl ⟨rfl, rfl, rfl⟩
theorem Grown.tok {e sz : Nat} {es : List (List AV)} {σ : Sg} {τ : Nat} (h : σ τ = none) : Grown e sz es σ (.sl (.tok τ sz) es) (σ.set τ (.tok (some e))) := .inr ⟨τ, h, rfl, rfl⟩
theorem VW.loop4 {P : Program} {H : Nat → Hint} {n : Nat} {Q : VX → (Nat → AV) → Sg → Prop} {ρ : Nat → AV} {σ : Sg} {α β γ δ : Type} {c : Code} (x : α) (y : β) (z : γ) (u : δ) (Inv : α → β → γ → δ → Prop) (vals : α → β → γ → δ → List (Nat × AV)) (sg : α → β → γ → δ → Sg) (m : α → β → γ → δ → Nat) (h0 : Inv x y z u) (hσ : (sg x y z u).sub σ) (hρ : Holds (vals x y z u) ρ)
    (round : ∀ a b d e, Inv a b d e → VW P H n c (sq (fun ρ σ => ∃ a' b' d' e', (Inv a' b' d' e' ∧ m a' b' d' e' < m a b d e) ∧ (sg a' b' d' e').sub σ ∧ Holds (vals a' b' d' e') ρ) Q) (env (vals a b d e)) (sg a b d e)) : VW P H n (.loop c) Q ρ σ :=
  .loop (x, y, z, u) (fun p => Inv p.1 p.2.1 p.2.2.1 p.2.2.2) (fun p => vals p.1 p.2.1 p.2.2.1 p.2.2.2) (fun p => sg p.1 p.2.1 p.2.2.1 p.2.2.2) (fun p => m p.1 p.2.1 p.2.2.1 p.2.2.2) h0 hσ hρ (fun p hp => (round p.1 p.2.1 p.2.2.1 p.2.2.2 hp).mono (fun e ρ σ hq => by
    cases e with
    | normal => obtain ⟨a', b', d', e', h⟩ := hq; exact ⟨(a', b', d', e'), h⟩
    | exit id => exact hq
    | ret => exact hq))
theorem nadd (i j : Nat) : (i : Int) + (j : Int) = ((i + j : Nat) : Int) := by omega
theorem nadd1 (i : Nat) : (i : Int) + 1 = ((i + 1 : Nat) : Int) := by omega
theorem nadd2 (i : Nat) : (i : Int) + 2 = ((i + 2 : Nat) : Int) := by omega
theorem nadd3 (i : Nat) : (i : Int) + 3 = ((i + 3 : Nat) : Int) := by omega
theorem n1add (i : Nat) : 1 + (i : Int) = ((1 + i : Nat) : Int) := by omega
theorem n2add (i : Nat) : 2 + (i : Int) = ((2 + i : Nat) : Int) := by omega
theorem int_lit (n : Nat) : ((n : Nat) : Int) = (n : Int) := rfl
/-- Texts and bytes. -/
theorem vT :
    (∀ (l : List UInt8), bytesAV (bs l) = bytesL l) ∧
    (∀ (l : List UInt8), (bytesL l).length = l.length) ∧
    (∀ (a b : List UInt8), bytesL a ++ bytesL b = bytesL (a ++ b)) ∧
    (∀ (l : List UInt8), allLen (bytesL l) 1 = True) ∧
    (∀ (l : List UInt8), allOne (bytesL l) 1 = True) ∧
    (∀ (l : List UInt8), (bs l).size = l.length) ∧
    (∀ (l : List UInt8) (i j : Nat), (bs l).extract i j = bs ((l.take j).drop i)) ∧
    (∀ (l m : List UInt8), sEq (bs l) (bs m) = decide (l = m)) ∧
    (∀ (l m : List UInt8), bs l ++ bs m = bs (l ++ m)) ∧
    (∀ (l : List UInt8) (i : Nat), byteAt (bs l) i = l.getD i 0) ∧
    (∀ (l : List UInt8), ByteArray.mk l.toArray = bs l) ∧
    (∀ {α : Type} (l : List α), l.take l.length = l) :=
  ⟨bs_bytesAV, bytesL_len, bytesL_app, bytesL_all, bytesL_one, bs_size, bs_extract, bs_sEq, bs_append, bs_byteAt, bs_fold, fun _ => List.take_length⟩
end Go.V
