/- Part 4 of the proof: L1, L3, V19, V22. -/
import Derived.Test.YtjdapkelojdefaaGreatDoorN3

set_option linter.all false
namespace Go.V
def bs (l : List UInt8) : ByteArray := ⟨l.toArray⟩
theorem X1p (s : ByteArray) : bs s.data.toList = s := ByteArray.ext (by simp [bs])
theorem Q4h (l : List UInt8) : (bs l).size = l.length := by simp [bs, ByteArray.size]
theorem Q4z (l : List UInt8) : (bs l).data.toList = l := by simp [bs]
theorem bs_byteAt (l : List UInt8) (i : Nat) : X0r (bs l) i = l.getD i 0 := by
  unfold X0r bs
  simp [List.getD_eq_getElem?_getD]
theorem getD_lt {l : List UInt8} {k : Nat} (h : k < l.length) : l.getD k 0 = l[k] := by simp [List.getD_eq_getElem?_getD, List.getElem?_eq_getElem h]
theorem bs_inj {l m : List UInt8} (h : bs l = bs m) : l = m := by rw [← Q4z l, h, Q4z]
theorem bs_sEq (l m : List UInt8) : sEq (bs l) (bs m) = decide (l = m) := by
  unfold sEq
  by_cases h : l = m
  · subst h; simp
  · rw [decide_eq_false h, decide_eq_false (fun e => h (bs_inj e))]
theorem bs_append (l m : List UInt8) : bs l ++ bs m = bs (l ++ m) := by
  apply ByteArray.ext
  simp [bs]
theorem bs_extract (l : List UInt8) (i j : Nat) : (bs l).extract i j = bs ((l.take j).drop i) := by
  apply ByteArray.ext
  apply Array.toList_inj.1
  simp [bs, ByteArray.data_extract, List.drop_take]
theorem bs_fold (l : List UInt8) : ByteArray.mk l.toArray = bs l := rfl
theorem bs_bytes (l : List UInt8) : Q0z (bs l) = l.map fun b => [AV.u8 b.toNat] := by unfold Q0z; rw [Q4z]
def Q3p (l : List UInt8) : List (List AV) := l.map fun b => [AV.u8 b.toNat]
theorem X2q (l : List UInt8) : Q0z (bs l) = Q3p l := bs_bytes l
theorem bytesL_len (l : List UInt8) : (Q3p l).length = l.length := by simp [Q3p]
theorem bytesL_app (a b : List UInt8) : Q3p a ++ Q3p b = Q3p (a ++ b) := by simp [Q3p]
theorem bytesL_all (l : List UInt8) : Q1i (Q3p l) 1 = True := by
  refine eq_true (fun e he => ?_)
  obtain ⟨b, _, rfl⟩ := List.mem_map.1 he
  rfl
theorem bytesL_one (l : List UInt8) : Q3l (Q3p l) 1 = True := by
  refine eq_true (fun e he => ?_)
  obtain ⟨b, _, rfl⟩ := List.mem_map.1 he
  exact ⟨rfl, rfl⟩
def pre (p : UInt8 → Bool) (l : List UInt8) : Nat := (l.takeWhile p).length
theorem X3n {p : UInt8 → Bool} {l : List UInt8} {k : Nat} (h : k < l.length) : pre p (l.drop k) = if p (l.getD k 0) = true then 1 + pre p (l.drop (k + 1)) else 0 := by
  rw [getD_lt h]
  rw [List.drop_eq_getElem_cons h]
  unfold pre
  rw [List.takeWhile_cons]
  split <;> simp [Nat.add_comm]
theorem pre_end {p : UInt8 → Bool} {l : List UInt8} {k : Nat} (h : l.length ≤ k) : pre p (l.drop k) = 0 := by rw [List.drop_of_length_le h]; rfl
theorem b_eq {p q : Bool} (h : p = true ↔ q = true) : AV.b p = AV.b q := by
  congr 2
  cases p <;> cases q <;> simp_all
theorem i_eq {m n : Int} (h : m = n) : AV.i m = AV.i n := by rw [h]
theorem n1 (i : Nat) : ((i : Int) + 1).toNat = i + 1 := by omega
theorem n2 (i : Nat) : ((i : Int) + 2).toNat = i + 2 := by omega
theorem nn (i j : Nat) : ((i : Int) + (j : Int)).toNat = i + j := by omega
theorem Sg.sub.set_fresh {σ S : Sg} {x : Nat} {o : Ob} (h : σ.sub S) (hx : σ x = none) : σ.sub (S.set x o) := fun y p hy => by
  unfold Sg.set
  by_cases e : y = x
  · subst e; rw [hx] at hy; cases hy
  · rw [if_neg e]; exact h y p hy
theorem Sg.sub.set_both {σ S : Sg} {x : Nat} {o : Ob} (h : σ.sub S) : (σ.set x o).sub (S.set x o) := fun y p hy => by
  unfold Sg.set at *
  by_cases e : y = x
  · rw [if_pos e] at hy ⊢; exact hy
  · rw [if_neg e] at hy ⊢; exact h y p hy
theorem Sg.set_none {σ : Sg} {x τ : Nat} {o : Ob} (h : σ τ = none) (hne : τ ≠ x) : (σ.set x o) τ = none := by rw [Sg.set_other _ _ hne]; exact h
theorem Sg.of_set_none {σ : Sg} {x τ : Nat} {o : Ob} (h : (σ.set x o) τ = none) : τ ≠ x ∧ σ τ = none := by
  by_cases e : τ = x
  · subst e; rw [Sg.set_same] at h; cases h
  · rw [Sg.set_other _ _ e] at h; exact ⟨e, h⟩
def Grown (e sz : Nat) (es : List (List AV)) (σ : Sg) (V : AV) (S : Sg) : Prop :=
  (es = [] ∧ V = .sl .nil [] ∧ S = σ) ∨ ∃ τ, σ τ = none ∧ V = .sl (.tok τ sz) es ∧ S = σ.set τ (.tok (some e))
theorem Grown.nil (e sz : Nat) (σ : Sg) : Grown e sz [] σ (.sl .nil []) σ := .inl ⟨rfl, rfl, rfl⟩
theorem Grown.tok {e sz : Nat} {es : List (List AV)} {σ : Sg} {τ : Nat} (h : σ τ = none) : Grown e sz es σ (.sl (.tok τ sz) es) (σ.set τ (.tok (some e))) := .inr ⟨τ, h, rfl, rfl⟩
theorem VW.loop4 {P : Program} {H : Nat → Hint} {n : Nat} {Q : VX → (Nat → AV) → Sg → Prop} {ρ : Nat → AV} {σ : Sg} {α β γ δ : Type} {c : Code} (x : α) (y : β) (z : γ) (u : δ) (Inv : α → β → γ → δ → Prop) (vals : α → β → γ → δ → List (Nat × AV)) (sg : α → β → γ → δ → Sg) (m : α → β → γ → δ → Nat) (h0 : Inv x y z u) (hσ : (sg x y z u).sub σ) (hρ : Holds (vals x y z u) ρ)
    (round : ∀ a b d e, Inv a b d e → VW P H n c (sq (fun ρ σ => ∃ a' b' d' e', (Inv a' b' d' e' ∧ m a' b' d' e' < m a b d e) ∧ (sg a' b' d' e').sub σ ∧ Holds (vals a' b' d' e') ρ) Q) (env (vals a b d e)) (sg a b d e)) : VW P H n (.loop c) Q ρ σ :=
  .loop (x, y, z, u) (fun p => Inv p.1 p.2.1 p.2.2.1 p.2.2.2) (fun p => vals p.1 p.2.1 p.2.2.1 p.2.2.2) (fun p => sg p.1 p.2.1 p.2.2.1 p.2.2.2) (fun p => m p.1 p.2.1 p.2.2.1 p.2.2.2) h0 hσ hρ (fun p hp => (round p.1 p.2.1 p.2.2.1 p.2.2.2 hp).mono (fun e ρ σ hq => by
    cases e with
    | normal => obtain ⟨a', b', d', e', h⟩ := hq; exact ⟨(a', b', d', e'), h⟩
    | exit id => exact hq
    | ret => exact hq))
theorem nadd (i j : Nat) : (i : Int) + (j : Int) = ((i + j : Nat) : Int) := by omega
theorem nadd1 (i : Nat) : (i : Int) + 1 = ((i + 1 : Nat) : Int) := by omega
theorem nadd2 (i : Nat) : (i : Int) + 2 = ((i + 2 : Nat) : Int) := by omega
theorem nadd3 (i : Nat) : (i : Int) + 3 = ((i + 3 : Nat) : Int) := by omega
theorem n1add (i : Nat) : 1 + (i : Int) = ((1 + i : Nat) : Int) := by omega
theorem n2add (i : Nat) : 2 + (i : Int) = ((2 + i : Nat) : Int) := by omega
theorem vT :
    (∀ (l : List UInt8), Q0z (bs l) = Q3p l) ∧
    (∀ (l : List UInt8), (Q3p l).length = l.length) ∧
    (∀ (a b : List UInt8), Q3p a ++ Q3p b = Q3p (a ++ b)) ∧
    (∀ (l : List UInt8), Q1i (Q3p l) 1 = True) ∧
    (∀ (l : List UInt8), Q3l (Q3p l) 1 = True) ∧
    (∀ (l : List UInt8), (bs l).size = l.length) ∧
    (∀ (l : List UInt8) (i j : Nat), (bs l).extract i j = bs ((l.take j).drop i)) ∧
    (∀ (l m : List UInt8), sEq (bs l) (bs m) = decide (l = m)) ∧
    (∀ (l m : List UInt8), bs l ++ bs m = bs (l ++ m)) ∧
    (∀ (l : List UInt8) (i : Nat), X0r (bs l) i = l.getD i 0) ∧
    (∀ (l : List UInt8), ByteArray.mk l.toArray = bs l) ∧
    (∀ {α : Type} (l : List α), l.take l.length = l) :=
  ⟨X2q, bytesL_len, bytesL_app, bytesL_all, bytesL_one, Q4h, bs_extract, bs_sEq, bs_append, bs_byteAt, bs_fold, fun _ => List.take_length⟩
end Go.V
namespace Go.Lex
open Go.V
def Q6p (c : UInt8) : Bool := (decide (97 ≤ c.toNat) && decide (c.toNat ≤ 122)) || decide (c.toNat = 95)
def isGreat (c : UInt8) : Bool := decide (65 ≤ c.toNat) && decide (c.toNat ≤ 90)
def Q8v (c : UInt8) : Bool := decide (48 ≤ c.toNat) && decide (c.toNat ≤ 57)
def Q3q (c : UInt8) : Bool := Q6p c || Q8v c
def ws (c : UInt8) : Bool := c == 9 || c == 10 || c == 13 || c == 32
def num : List UInt8 → Nat → Option Nat
  | [], n => some n
  | c :: r, n => if 9223372036854775807 < 10 * n + (c.toNat - 48) then none else num r (10 * n + (c.toNat - 48))
end Go.Lex
namespace Go.V
open Go.RowKit
variable {P : Program}
theorem VCalls.arg1 {f : FuncId} {x x' : AV} {r : List AV} {σ : Sg} {R : AV → Sg → Prop} (h : AVw x x') (hc : VCalls P f (x' :: r) σ R) : VCalls P f (x :: r) σ R := by
  refine ⟨fun κ vs hst hr => hc.go κ vs hst ?_⟩
  refine ⟨hr.1, fun i y v h1 h2 => ?_⟩
  cases i with
  | zero => simp at h1; subst h1; exact h κ v (hr.2 0 x v (by simp) h2)
  | succ i => exact hr.2 (i + 1) y v (by simpa using h1) h2
end Go.V
namespace Go.V
open Go.RowKit
variable {P : Program}
theorem Post.le {κ κ' : K} (h : κ.le κ') {R : AV → Sg → Prop} {v : Value} {w : World} (hp : Post κ' R v w) : Post κ R v w := by
  obtain ⟨k, x, s, h1, h2, h3, h4, h5⟩ := hp
  exact ⟨k, x, s, h1, h.trans h2, h3, h4, h5⟩
theorem VCalls.ghost {f : FuncId} {args : List AV} {σ : Sg} {R : AV → Sg → Prop} (h : ∀ κ, St κ σ → ∃ κ' σ', κ.le κ' ∧ κ'.w = κ.w ∧ St κ' σ' ∧ VCalls P f args σ' R) : VCalls P f args σ R := by
  refine ⟨fun κ vs hst hr => ?_⟩
  obtain ⟨κ', σ', hle, hw, hst', hc⟩ := h κ hst
  have hd := hc.go κ' vs hst' ⟨hr.1, fun i x v h1 h2 => (hr.2 i x v h1 h2).mono hle⟩
  rw [hw] at hd
  revert hd
  generalize (callFunc f vs).run P κ.w = r
  intro hd
  cases r with
  | halt x w => exact hd.elim
  | ok nx w =>
    cases nx <;> simp only [Done] at hd ⊢
    case value v => exact Post.le hle hd
    case skip => exact Post.le hle hd
    case enter f args =>
      refine hd.mono (fun e w' he => ?_)
      cases e with
      | returned v => exact Post.le hle he
      | panicked c => exact he.elim
      | outgrown => exact he.elim
    case row r args => exact hd.mono (fun v w' he => Post.le hle he)
theorem St.seen {κ : K} {σ : Sg} (h : St κ σ) {ω : Nat} {t : TypeId} {cs : List AV} {i τ sz : Nat} (hω : σ ω = some (.cells t cs)) (hi : cs[i]? = some (.sl .nil [])) : St κ (σ.set ω (.cells t (cs.set i (.sl (.tok τ sz) [])))) where
  ob β o hb := by
    by_cases e : β = ω
    · subst e
      rw [Sg.set_same] at hb
      cases hb
      obtain ⟨b, lo, hi', h1, h2, h3⟩ := h.ob β _ hω
      refine ⟨b, lo, hi', h1, h2, ?_⟩
      obtain ⟨g1, g2, c, fz, g3, g4, g5, g6⟩ := h3
      refine ⟨g1, by rw [List.length_set]; exact g2, c, fz, g3, g4, by rw [List.length_set]; exact g5, fun j x v hx hv => ?_⟩
      rw [List.getElem?_set] at hx
      by_cases hj : i = j
      · subst hj
        have hr := g6 i _ v hi hv
        have hlt : i < cs.length := (List.getElem?_eq_some_iff.1 hi).1
        rw [if_pos rfl, if_pos hlt] at hx
        cases hx
        cases hr with
        | slnil k hk => exact .slnil _ trivial
        | slemp k hk a c => rcases hk with hk | hk <;> cases hk
        | sl k es a n c sz f hk => exact hk.elim
      · rw [if_neg hj] at hx
        exact g6 j x v hx hv
    · rw [Sg.set_other _ _ e] at hb
      exact h.ob β o hb
  apart β β' o o' b lo hi lo' hi' hne h1 h2 h3 h4 := by
    have get : ∀ β o, (σ.set ω (.cells t (cs.set i (.sl (.tok τ sz) [])))) β = some o → ∃ o, σ β = some o := fun β o hb => by
      by_cases e : β = ω
      · subst e; exact ⟨_, hω⟩
      · rw [Sg.set_other _ _ e] at hb; exact ⟨_, hb⟩
    obtain ⟨p, hp⟩ := get β o h1
    obtain ⟨q, hq⟩ := get β' o' h2
    exact h.apart β β' p q b lo hi lo' hi' hne hp hq h3 h4
  fin := h.fin
  mlt := h.mlt
  bas := h.bas
  glob := h.glob
theorem VCalls.tok0 {f : FuncId} {args : List AV} {σ : Sg} {R : AV → Sg → Prop} {ω : Nat} {t e : TypeId} {cs : List AV} (i sz : Nat) (hω : σ ω = some (.cells t cs)) (hi : cs[i]? = some (.sl .nil []))
    (hc : ∀ τ, σ τ = none → τ ≠ ω → VCalls P f args ((σ.set τ (.tok (some e))).set ω (.cells t (cs.set i (.sl (.tok τ sz) [])))) R) : VCalls P f args σ R := by
  refine VCalls.ghost (fun κ hst => ?_)
  obtain ⟨τ, hτ, hτ'⟩ := hst.fresh
  have hτσ := hτ' σ (.refl σ)
  have hne : τ ≠ ω := fun e => by subst e; rw [hτσ] at hω; cases hω
  obtain ⟨hle, hs⟩ := hst.noRoom (some e) hτ
  refine ⟨_, _, hle, rfl, hs.seen (τ := τ) (sz := sz) (i := i) (ω := ω) (t := t) (cs := cs) ?_ hi, hc τ hτσ hne⟩
  rw [Sg.set_other _ _ hne.symm]
  exact hω
theorem Q5a (e : TypeId) (s : Nat) (es : List (List AV)) (σ : Sg) (R : AV → Sg → Prop) : X0c .ro e s es σ R = R (.sl .full es) σ := rfl
theorem Q2x {c : Prop} [Decidable c] {a b : Hint} (h : c) (e : TypeId) (s : Nat) (es : List (List AV)) (σ : Sg) (R : AV → Sg → Prop) : X0c (if c then a else b) e s es σ R = X0c a e s es σ R := by rw [if_pos h]
theorem Q2y {c : Prop} [Decidable c] {a b : Hint} (h : ¬ c) (e : TypeId) (s : Nat) (es : List (List AV)) (σ : Sg) (R : AV → Sg → Prop) : X0c (if c then a else b) e s es σ R = X0c b e s es σ R := by rw [if_neg h]
end Go.V
