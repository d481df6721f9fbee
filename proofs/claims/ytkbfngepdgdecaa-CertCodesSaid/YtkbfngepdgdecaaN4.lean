/- Part 4 of the proof: L1, V17, T, C1, C3, C4, C8. -/
import Derived.Test.YtkbfngepdgdecaaN3
import Derived.Test.YtkbfngepdgdecaaProg

namespace Go.V
/-- The text of a row of bytes. -/
def bs (l : List UInt8) : ByteArray := ⟨l.toArray⟩
theorem bs_list (s : ByteArray) : bs s.data.toList = s := ByteArray.ext (by simp [bs])
theorem bs_size (l : List UInt8) : (bs l).size = l.length := by simp [bs, ByteArray.size]
theorem bs_toList (l : List UInt8) : (bs l).data.toList = l := by simp [bs]
theorem bs_get (l : List UInt8) (i : Nat) (h : i < (bs l).size) : (bs l)[i] = l[i]'(by rw [bs_size] at h; exact h) := by
  show (bs l).data[i]'h = _
  simp [bs]
theorem bs_byteAt (l : List UInt8) (i : Nat) : byteAt (bs l) i = l.getD i 0 := by
  unfold byteAt bs
  simp [List.getD_eq_getElem?_getD]
theorem getD_lt {l : List UInt8} {k : Nat} (h : k < l.length) : l.getD k 0 = l[k] := by simp [List.getD_eq_getElem?_getD, List.getElem?_eq_getElem h]
theorem bs_inj {l m : List UInt8} (h : bs l = bs m) : l = m := by rw [← bs_toList l, h, bs_toList]
theorem bs_sEq (l m : List UInt8) : sEq (bs l) (bs m) = decide (l = m) := by
  unfold sEq
  by_cases h : l = m
  · subst h; simp
  · rw [decide_eq_false h, decide_eq_false (fun e => h (bs_inj e))]
theorem bs_append (l m : List UInt8) : bs l ++ bs m = bs (l ++ m) := by
  apply ByteArray.ext
  simp [bs]
theorem bs_extract (l : List UInt8) (i j : Nat) : (bs l).extract i j = bs ((l.take j).drop i) := by
  apply ByteArray.ext
  apply Array.toList_inj.1
  simp [bs, ByteArray.data_extract, List.drop_take]
theorem bs_fold (l : List UInt8) : ByteArray.mk l.toArray = bs l := rfl
theorem bs_bytes (l : List UInt8) : bytesAV (bs l) = l.map fun b => [AV.u8 b.toNat] := by unfold bytesAV; rw [bs_toList]
/-- Bytes in a row. -/
def bytesL (l : List UInt8) : List (List AV) := l.map fun b => [AV.u8 b.toNat]
theorem bs_bytesAV (l : List UInt8) : bytesAV (bs l) = bytesL l := bs_bytes l
theorem bytesL_len (l : List UInt8) : (bytesL l).length = l.length := by simp [bytesL]
theorem bytesL_app (a b : List UInt8) : bytesL a ++ bytesL b = bytesL (a ++ b) := by simp [bytesL]
theorem bytesL_all (l : List UInt8) : allLen (bytesL l) 1 = True := by
  refine eq_true (fun e he => ?_)
  obtain ⟨b, _, rfl⟩ := List.mem_map.1 he
  rfl
theorem bytesL_one (l : List UInt8) : allOne (bytesL l) 1 = True := by
  refine eq_true (fun e he => ?_)
  obtain ⟨b, _, rfl⟩ := List.mem_map.1 he
  exact ⟨rfl, rfl⟩
theorem bytesL_unit (b : UInt8) : [[AV.u8 b.toNat]] = bytesL [b] := rfl
theorem w_small {n : Int} (h1 : 0 ≤ n) (h2 : n ≤ 9223372036854775807) : IntKind.i64.wrap n = n := w64 (by omega) h2

def pre (p : UInt8 → Bool) (l : List UInt8) : Nat := (l.takeWhile p).length
theorem pre_le (p : UInt8 → Bool) (l : List UInt8) : pre p l ≤ l.length := (List.takeWhile_prefix p).length_le
theorem pre_step {p : UInt8 → Bool} {l : List UInt8} {k : Nat} (h : k < l.length) : pre p (l.drop k) = if p (l.getD k 0) = true then 1 + pre p (l.drop (k + 1)) else 0 := by
  rw [getD_lt h]
  rw [List.drop_eq_getElem_cons h]
  unfold pre
  rw [List.takeWhile_cons]
  split <;> simp [Nat.add_comm]
theorem pre_yes {p : UInt8 → Bool} {l : List UInt8} {k : Nat} (h : k < l.length) (hp : p (l.getD k 0) = true) : pre p (l.drop k) = 1 + pre p (l.drop (k + 1)) := by rw [pre_step h, if_pos hp]
theorem pre_no {p : UInt8 → Bool} {l : List UInt8} {k : Nat} (h : k < l.length) (hp : ¬ p (l.getD k 0) = true) : pre p (l.drop k) = 0 := by rw [pre_step h, if_neg hp]
theorem pre_end {p : UInt8 → Bool} {l : List UInt8} {k : Nat} (h : l.length ≤ k) : pre p (l.drop k) = 0 := by rw [List.drop_of_length_le h]; rfl
def hasPre (m l : List UInt8) : Bool := decide (l.take m.length = m)
theorem hasPre_short {m l : List UInt8} (h : l.length < m.length) : hasPre m l = false := by
  unfold hasPre
  rw [decide_eq_false]
  intro e
  have := congrArg List.length e
  simp at this
  omega
theorem b_eq {p q : Bool} (h : p = true ↔ q = true) : AV.b p = AV.b q := by
  congr 2
  cases p <;> cases q <;> simp_all
theorem i_eq {m n : Int} (h : m = n) : AV.i m = AV.i n := by rw [h]
theorem n1 (i : Nat) : ((i : Int) + 1).toNat = i + 1 := by omega
theorem n2 (i : Nat) : ((i : Int) + 2).toNat = i + 2 := by omega
theorem nn (i j : Nat) : ((i : Int) + (j : Int)).toNat = i + j := by omega
/-- Nothing but names of this call has come. -/
def Ext (σ0 σ : Sg) : Prop := σ0.sub σ
theorem Sg.sub.set_fresh {σ S : Sg} {x : Nat} {o : Ob} (h : σ.sub S) (hx : σ x = none) : σ.sub (S.set x o) := fun y p hy => by
  unfold Sg.set
  by_cases e : y = x
  · subst e; rw [hx] at hy; cases hy
  · rw [if_neg e]; exact h y p hy
theorem Sg.sub.del_fresh {σ S : Sg} {x : Nat} (h : σ.sub S) (hx : σ x = none) : σ.sub (S.del x) := fun y p hy => by
  unfold Sg.del
  by_cases e : y = x
  · subst e; rw [hx] at hy; cases hy
  · rw [if_neg e]; exact h y p hy
theorem Sg.sub.set_both {σ S : Sg} {x : Nat} {o : Ob} (h : σ.sub S) : (σ.set x o).sub (S.set x o) := fun y p hy => by
  unfold Sg.set at *
  by_cases e : y = x
  · rw [if_pos e] at hy ⊢; exact hy
  · rw [if_neg e] at hy ⊢; exact h y p hy
theorem Sg.set_none {σ : Sg} {x τ : Nat} {o : Ob} (h : σ τ = none) (hne : τ ≠ x) : (σ.set x o) τ = none := by rw [Sg.set_other _ _ hne]; exact h
theorem Sg.of_set_none {σ : Sg} {x τ : Nat} {o : Ob} (h : (σ.set x o) τ = none) : τ ≠ x ∧ σ τ = none := by
  by_cases e : τ = x
  · subst e; rw [Sg.set_same] at h; cases h
  · rw [Sg.set_other _ _ e] at h; exact ⟨e, h⟩
/-- A slice made by append out of nothing: what it holds, and the store beside σ. -/
def Grown (e sz : Nat) (es : List (List AV)) (σ : Sg) (V : AV) (S : Sg) : Prop :=
  (es = [] ∧ V = .sl .nil [] ∧ S = σ) ∨ ∃ τ, σ τ = none ∧ V = .sl (.tok τ sz) es ∧ S = σ.set τ (.tok (some e))
theorem Grown.nil (e sz : Nat) (σ : Sg) : Grown e sz [] σ (.sl .nil []) σ := .inl ⟨rfl, rfl, rfl⟩
theorem Grown.tok {e sz : Nat} {es : List (List AV)} {σ : Sg} {τ : Nat} (h : σ τ = none) : Grown e sz es σ (.sl (.tok τ sz) es) (σ.set τ (.tok (some e))) := .inr ⟨τ, h, rfl, rfl⟩
theorem VW.loop4 {P : Program} {H : Nat → Hint} {n : Nat} {Q : VX → (Nat → AV) → Sg → Prop} {ρ : Nat → AV} {σ : Sg} {α β γ δ : Type} {c : Code} (x : α) (y : β) (z : γ) (u : δ) (Inv : α → β → γ → δ → Prop) (vals : α → β → γ → δ → List (Nat × AV)) (sg : α → β → γ → δ → Sg) (m : α → β → γ → δ → Nat) (h0 : Inv x y z u) (hσ : (sg x y z u).sub σ) (hρ : Holds (vals x y z u) ρ)
    (round : ∀ a b d e, Inv a b d e → VW P H n c (sq (fun ρ σ => ∃ a' b' d' e', (Inv a' b' d' e' ∧ m a' b' d' e' < m a b d e) ∧ (sg a' b' d' e').sub σ ∧ Holds (vals a' b' d' e') ρ) Q) (env (vals a b d e)) (sg a b d e)) : VW P H n (.loop c) Q ρ σ :=
  .loop (x, y, z, u) (fun p => Inv p.1 p.2.1 p.2.2.1 p.2.2.2) (fun p => vals p.1 p.2.1 p.2.2.1 p.2.2.2) (fun p => sg p.1 p.2.1 p.2.2.1 p.2.2.2) (fun p => m p.1 p.2.1 p.2.2.1 p.2.2.2) h0 hσ hρ (fun p hp => (round p.1 p.2.1 p.2.2.1 p.2.2.2 hp).mono (fun e ρ σ hq => by
    cases e with
    | normal => obtain ⟨a', b', d', e', h⟩ := hq; exact ⟨(a', b', d', e'), h⟩
    | exit id => exact hq
    | ret => exact hq))
theorem nadd (i j : Nat) : (i : Int) + (j : Int) = ((i + j : Nat) : Int) := by omega
theorem nadd1 (i : Nat) : (i : Int) + 1 = ((i + 1 : Nat) : Int) := by omega
theorem nadd2 (i : Nat) : (i : Int) + 2 = ((i + 2 : Nat) : Int) := by omega
theorem nadd3 (i : Nat) : (i : Int) + 3 = ((i + 3 : Nat) : Int) := by omega
theorem n1add (i : Nat) : 1 + (i : Int) = ((1 + i : Nat) : Int) := by omega
theorem n2add (i : Nat) : 2 + (i : Int) = ((2 + i : Nat) : Int) := by omega
theorem int_lit (n : Nat) : ((n : Nat) : Int) = (n : Int) := rfl
/-- Texts and bytes. -/
theorem vT :
    (∀ (l : List UInt8), bytesAV (bs l) = bytesL l) ∧
    (∀ (l : List UInt8), (bytesL l).length = l.length) ∧
    (∀ (a b : List UInt8), bytesL a ++ bytesL b = bytesL (a ++ b)) ∧
    (∀ (l : List UInt8), allLen (bytesL l) 1 = True) ∧
    (∀ (l : List UInt8), allOne (bytesL l) 1 = True) ∧
    (∀ (l : List UInt8), (bs l).size = l.length) ∧
    (∀ (l : List UInt8) (i j : Nat), (bs l).extract i j = bs ((l.take j).drop i)) ∧
    (∀ (l m : List UInt8), sEq (bs l) (bs m) = decide (l = m)) ∧
    (∀ (l m : List UInt8), bs l ++ bs m = bs (l ++ m)) ∧
    (∀ (l : List UInt8) (i : Nat), byteAt (bs l) i = l.getD i 0) ∧
    (∀ (l : List UInt8), ByteArray.mk l.toArray = bs l) ∧
    (∀ {α : Type} (l : List α), l.take l.length = l) :=
  ⟨bs_bytesAV, bytesL_len, bytesL_app, bytesL_all, bytesL_one, bs_size, bs_extract, bs_sEq, bs_append, bs_byteAt, bs_fold, fun _ => List.take_length⟩
end Go.V

/- An array that was written, and from now on is only read. -/
set_option linter.unusedVariables false
namespace Go.V
open Go.RowKit
variable {P : Program}
/-- What an object's cells are, once nobody writes them any more. -/
theorem St.still {κ : K} {σ : Sg} (h : St κ σ) {β b hi : Nat} {t : TypeId} {cs : List AV} (hβ : σ β = some (.cells t cs)) (hμ : κ.μ β = some (b, 0, hi)) :
    κ.le { κ with M := fun b' x => κ.M b' x ∧ ¬ (b' = b ∧ x < hi) } ∧ St { κ with M := fun b' x => κ.M b' x ∧ ¬ (b' = b ∧ x < hi) } (σ.del β) := by
  have hle : κ.le { κ with M := fun b' x => κ.M b' x ∧ ¬ (b' = b ∧ x < hi) } := ⟨rfl, rfl, rfl, Nat.le_refl _, fun _ _ _ hm => ⟨rfl, fun hh => hm hh.1⟩, rfl, fun _ _ => rfl, fun _ _ g => g⟩
  refine ⟨hle, ⟨fun β' ob hb => ?_, fun β1 β2 o1 o2 b' lo1 hi1 lo2 hi2 hne g1 g2 g3 g4 => h.apart β1 β2 o1 o2 b' lo1 hi1 lo2 hi2 hne (Sg.del_sub _ _ _ _ g1) (Sg.del_sub _ _ _ _ g2) g3 g4, h.fin, fun b' x hm => h.mlt b' x hm.1, h.bas⟩⟩
  have hne : β' ≠ β := fun e => by subst e; simp [Sg.del] at hb
  have hb' := Sg.del_sub _ _ _ _ hb
  obtain ⟨b1, lo1, hi1, g1, g2, g3⟩ := h.ob β' ob hb'
  refine ⟨b1, lo1, hi1, g1, fun x hx hx' => ⟨g2 x hx hx', fun hh => ?_⟩, g3.keep hle rfl⟩
  obtain ⟨e, hlt⟩ := hh
  subst e
  have := h.apart β β' _ _ b1 0 hi lo1 hi1 (Ne.symm hne) hβ hb' hμ g1
  omega
/-- A slice of an object that is not written from now on: a plain slice. -/
theorem VCalls.still {f : FuncId} {args : List AV} {σ : Sg} {R : AV → Sg → Prop}
    (hc : VCalls P f args σ (fun x σ' => ∃ (β n sz : Nat) (t : TypeId) (cs : List AV), 0 < sz ∧ x = .ms β 0 n sz ∧ σ' β = some (.cells t cs) ∧ n * sz ≤ cs.length ∧ R (.sl .any (chunks sz n cs)) (σ'.del β))) : VCalls P f args σ R := by
  have post : ∀ {κ : K} {v : Value} {w : World}, Post κ (fun x σ' => ∃ (β n sz : Nat) (t : TypeId) (cs : List AV), 0 < sz ∧ x = .ms β 0 n sz ∧ σ' β = some (.cells t cs) ∧ n * sz ≤ cs.length ∧ R (.sl .any (chunks sz n cs)) (σ'.del β)) v w → Post κ R v w := by
    intro κ v w hp
    obtain ⟨κ', x, σ', rfl, hle, hst, hrel, β, n, sz, t, cs, hsz, rfl, hβ, hn, hR⟩ := hp
    cases hrel with
    | ms _ _ _ _ b hi c hμ hnc hh =>
      obtain ⟨b', lo, hi', h1, h2, h3, h4, arr, fz, h5, h6, h7⟩ := hst.ob β _ hβ
      rw [hμ] at h1
      cases h1
      obtain ⟨hle2, hst2⟩ := hst.still hβ hμ
      have hle3 : ∀ i j, i < n → j < sz → i * sz + j < arr.size := fun i j hi hj => by
        have : (i + 1) * sz ≤ n * sz := Nat.mul_le_mul_right _ (by omega)
        rw [Nat.succ_mul] at this
        have hsz' := h7.1
        omega
      refine ⟨{ κ' with M := fun b' x => κ'.M b' x ∧ ¬ (b' = b ∧ x < hi) }, .sl .any (chunks sz n cs), σ'.del β, rfl, hle.trans hle2, hst2, ?_, hR⟩
      have hin : ∀ (i : Nat) (e : List AV), (chunks sz n cs)[i]? = some e → i < n ∧ e = (cs.drop (i * sz)).take sz := fun i e he => by
        rcases Nat.lt_or_ge i n with h' | h'
        · rw [chunks_get sz n cs i h'] at he
          cases he
          exact ⟨h', rfl⟩
        · rw [List.getElem?_eq_none (by rw [chunks_length]; exact h')] at he; cases he
      have hz : ∀ (i : Nat) (e : List AV), (chunks sz n cs)[i]? = some e → e.length = sz := fun i e he => by
        obtain ⟨hi, rfl⟩ := hin i e he
        have : (i + 1) * sz ≤ n * sz := Nat.mul_le_mul_right _ (by omega)
        rw [Nat.succ_mul] at this
        simp; omega
      have hr : ∀ i j, i < n → j < sz → K.reads { κ' with M := fun b' x => κ'.M b' x ∧ ¬ (b' = b ∧ x < hi) } b (0 + i * sz + j) (arr.getD (i * sz + j) undef) := fun i j hi' hj => by
        have := hle3 i j hi' hj
        refine ⟨?_, fun hm => hm.2 ⟨rfl, ?_⟩⟩
        · rw [Nat.zero_add]
          show κ'.w.cell? _ = _
          rw [cell_of_heap h5]
          simp [this]
        · have hsz' := h7.1
          omega
      have hx : ∀ (i j : Nat) (e : List AV) (x : AV), (chunks sz n cs)[i]? = some e → e[j]? = some x → Rel { κ' with M := fun b' x => κ'.M b' x ∧ ¬ (b' = b ∧ x < hi) } x (arr.getD (i * sz + j) undef) := fun i j e x he hx => by
        have hl := hz i e he
        obtain ⟨hi', rfl⟩ := hin i e he
        have hj : j < sz := by
          rcases Nat.lt_or_ge j sz with h' | h'
          · exact h'
          · rw [List.getElem?_eq_none (by omega)] at hx; cases hx
        rw [List.getElem?_take, if_pos hj, List.getElem?_drop] at hx
        have := hle3 i j hi' hj
        exact (h7.2 _ _ _ hx (by simp [this])).mono hle2
      exact .sl .any _ ⟨b, 0, none⟩ n c sz (fun i j => arr.getD (i * sz + j) undef) trivial (chunks_length _ _ _).symm hnc rfl hz hr hx
  refine ⟨fun κ vs hst hr => ?_⟩
  have hd := hc.go κ vs hst hr
  revert hd
  generalize (callFunc f vs).run P κ.w = r
  intro hd
  cases r with
  | halt x w => exact hd.elim
  | ok nx w =>
    cases nx <;> simp only [Done] at hd ⊢
    case value v => exact post hd
    case skip => exact post hd
    case enter f args =>
      refine hd.mono (fun e w' he => ?_)
      cases e with
      | returned v => exact post he
      | panicked c => exact he.elim
      | outgrown => exact he.elim
    case row r args => exact hd.mono (fun v w' he => post he)
end Go.V

/- Of each type: its zero, its cells, its bytes. (Written by gent.py.) -/
namespace Go.Proofs.Ytkbfngepdgdecaa
open Go Go.V
set_option maxRecDepth 100000 in
theorem info0 : tInfo Try.prog 0 = some ((some (Value.tuple #[])), 1, 0) := by kernel_rfl
set_option maxRecDepth 100000 in
theorem info1 : tInfo Try.prog 1 = some ((some Value.nilFunc), 1, 8) := by kernel_rfl
set_option maxRecDepth 100000 in
theorem info2 : tInfo Try.prog 2 = some ((some (Value.int IntKind.i64 0)), 1, 8) := by kernel_rfl
set_option maxRecDepth 100000 in
theorem info3 : tInfo Try.prog 3 = some ((some (Value.int IntKind.i64 0)), 1, 8) := by kernel_rfl
set_option maxRecDepth 100000 in
theorem info4 : tInfo Try.prog 4 = some ((some (Value.bool false)), 1, 1) := by kernel_rfl
set_option maxRecDepth 100000 in
theorem info5 : tInfo Try.prog 5 = some ((some (Value.int IntKind.u8 0)), 1, 1) := by kernel_rfl
set_option maxRecDepth 100000 in
theorem info6 : tInfo Try.prog 6 = some ((some (Value.int IntKind.u8 0)), 1, 1) := by kernel_rfl
set_option maxRecDepth 100000 in
theorem info7 : tInfo Try.prog 7 = some ((some (Value.agg #[(Value.int IntKind.i64 0), (Value.int IntKind.i64 0), (Value.bool false), (Value.int IntKind.u8 0)])), 4, 24) := by kernel_rfl
set_option maxRecDepth 100000 in
theorem info8 : tInfo Try.prog 8 = some ((some (Value.agg #[(Value.int IntKind.i64 0), (Value.int IntKind.i64 0), (Value.bool false), (Value.int IntKind.u8 0)])), 4, 24) := by kernel_rfl
set_option maxRecDepth 100000 in
theorem info9 : tInfo Try.prog 9 = some ((some (Value.string { data := #[] })), 1, 16) := by kernel_rfl
set_option maxRecDepth 100000 in
theorem info10 : tInfo Try.prog 10 = some ((some (Value.string { data := #[] })), 1, 16) := by kernel_rfl
set_option maxRecDepth 100000 in
theorem info11 : tInfo Try.prog 11 = some ((some (Value.string { data := #[] })), 1, 16) := by kernel_rfl
set_option maxRecDepth 100000 in
theorem info12 : tInfo Try.prog 12 = some ((some (Value.int IntKind.u64 0)), 1, 8) := by kernel_rfl
set_option maxRecDepth 100000 in
theorem info13 : tInfo Try.prog 13 = some ((some (Value.agg #[(Value.string { data := #[] }), (Value.int IntKind.u64 0)])), 2, 24) := by kernel_rfl
set_option maxRecDepth 100000 in
theorem info14 : tInfo Try.prog 14 = some ((some (Value.agg #[(Value.string { data := #[] }), (Value.int IntKind.u64 0)])), 2, 24) := by kernel_rfl
set_option maxRecDepth 100000 in
theorem info15 : tInfo Try.prog 15 = some ((some (Value.pointer none)), 1, 8) := by kernel_rfl
set_option maxRecDepth 100000 in
theorem info16 : tInfo Try.prog 16 = some ((some (Value.pointer none)), 1, 8) := by kernel_rfl
set_option maxRecDepth 100000 in
theorem info17 : tInfo Try.prog 17 = some ((some (Value.pointer none)), 1, 8) := by kernel_rfl
set_option maxRecDepth 100000 in
theorem info18 : tInfo Try.prog 18 = some ((some (Value.agg #[(Value.pointer none)])), 1, 8) := by kernel_rfl
set_option maxRecDepth 100000 in
theorem info19 : tInfo Try.prog 19 = some ((some (Value.agg #[(Value.pointer none)])), 1, 8) := by kernel_rfl
set_option maxRecDepth 100000 in
theorem info20 : tInfo Try.prog 20 = some ((some Value.nilIface), 1, 16) := by kernel_rfl
set_option maxRecDepth 100000 in
theorem info21 : tInfo Try.prog 21 = some ((some (Value.int IntKind.i32 0)), 1, 4) := by kernel_rfl
set_option maxRecDepth 100000 in
theorem info22 : tInfo Try.prog 22 = some ((some (Value.slice none 0 0)), 1, 24) := by kernel_rfl
set_option maxRecDepth 100000 in
theorem info23 : tInfo Try.prog 23 = some ((some (Value.agg #[(Value.int IntKind.u8 0), (Value.int IntKind.u8 0), (Value.int IntKind.u8 0), (Value.int IntKind.u8 0), (Value.int IntKind.u8 0), (Value.int IntKind.u8 0), (Value.int IntKind.u8 0), (Value.int IntKind.u8 0), (Value.int IntKind.u8 0), (Value.int IntKind.u8 0), (Value.int IntKind.u8 0), (Value.int IntKind.u8 0), (Value.int IntKind.u8 0), (Value.int IntKind.u8 0), (Value.int IntKind.u8 0), (Value.int IntKind.u8 0), (Value.int IntKind.u8 0), (Value.int IntKind.u8 0), (Value.int IntKind.u8 0), (Value.int IntKind.u8 0), (Value.int IntKind.u8 0), (Value.int IntKind.u8 0), (Value.int IntKind.u8 0), (Value.int IntKind.u8 0), (Value.int IntKind.u8 0), (Value.int IntKind.u8 0), (Value.int IntKind.u8 0), (Value.int IntKind.u8 0), (Value.int IntKind.u8 0), (Value.int IntKind.u8 0), (Value.int IntKind.u8 0), (Value.int IntKind.u8 0)])), 32, 32) := by kernel_rfl
set_option maxRecDepth 100000 in
theorem info24 : tInfo Try.prog 24 = some ((some (Value.agg #[(Value.int IntKind.u8 0), (Value.int IntKind.u8 0), (Value.int IntKind.u8 0), (Value.int IntKind.u8 0), (Value.int IntKind.u8 0), (Value.int IntKind.u8 0), (Value.int IntKind.u8 0), (Value.int IntKind.u8 0), (Value.int IntKind.u8 0), (Value.int IntKind.u8 0), (Value.int IntKind.u8 0), (Value.int IntKind.u8 0), (Value.int IntKind.u8 0), (Value.int IntKind.u8 0), (Value.int IntKind.u8 0), (Value.int IntKind.u8 0), (Value.int IntKind.u8 0), (Value.int IntKind.u8 0), (Value.int IntKind.u8 0), (Value.int IntKind.u8 0), (Value.int IntKind.u8 0), (Value.int IntKind.u8 0), (Value.int IntKind.u8 0), (Value.int IntKind.u8 0), (Value.int IntKind.u8 0), (Value.int IntKind.u8 0), (Value.int IntKind.u8 0), (Value.int IntKind.u8 0), (Value.int IntKind.u8 0), (Value.int IntKind.u8 0), (Value.int IntKind.u8 0), (Value.int IntKind.u8 0)])), 32, 32) := by kernel_rfl
set_option maxRecDepth 100000 in
theorem info25 : tInfo Try.prog 25 = some ((some (Value.agg (List.toArray ([(Value.int IntKind.i64 0), (Value.int IntKind.u8 0), (Value.int IntKind.u8 0), (Value.int IntKind.u8 0), (Value.int IntKind.u8 0), (Value.int IntKind.u8 0), (Value.int IntKind.u8 0), (Value.int IntKind.u8 0), (Value.int IntKind.u8 0), (Value.int IntKind.u8 0), (Value.int IntKind.u8 0), (Value.int IntKind.u8 0), (Value.int IntKind.u8 0), (Value.int IntKind.u8 0), (Value.int IntKind.u8 0), (Value.int IntKind.u8 0), (Value.int IntKind.u8 0), (Value.int IntKind.u8 0), (Value.int IntKind.u8 0), (Value.int IntKind.u8 0), (Value.int IntKind.u8 0), (Value.int IntKind.u8 0), (Value.int IntKind.u8 0), (Value.int IntKind.u8 0), (Value.int IntKind.u8 0), (Value.int IntKind.u8 0), (Value.int IntKind.u8 0), (Value.int IntKind.u8 0), (Value.int IntKind.u8 0), (Value.int IntKind.u8 0), (Value.int IntKind.u8 0), (Value.int IntKind.u8 0), (Value.int IntKind.u8 0), (Value.int IntKind.u8 0), (Value.int IntKind.u8 0), (Value.int IntKind.u8 0), (Value.int IntKind.u8 0), (Value.int IntKind.u8 0), (Value.int IntKind.u8 0), (Value.int IntKind.u8 0), (Value.int IntKind.u8 0), (Value.int IntKind.u8 0), (Value.int IntKind.u8 0), (Value.int IntKind.u8 0), (Value.int IntKind.u8 0), (Value.int IntKind.u8 0), (Value.int IntKind.u8 0), (Value.int IntKind.u8 0), (Value.int IntKind.u8 0), (Value.int IntKind.u8 0), (Value.int IntKind.u8 0), (Value.int IntKind.u8 0), (Value.int IntKind.u8 0), (Value.int IntKind.u8 0), (Value.int IntKind.u8 0), (Value.int IntKind.u8 0), (Value.int IntKind.u8 0), (Value.int IntKind.u8 0), (Value.int IntKind.u8 0), (Value.int IntKind.u8 0), (Value.int IntKind.u8 0), (Value.int IntKind.u8 0), (Value.int IntKind.u8 0), (Value.int IntKind.u8 0)] ++ ([(Value.int IntKind.u8 0), (Value.int IntKind.u8 0), (Value.int IntKind.u8 0), (Value.int IntKind.u8 0), (Value.int IntKind.u8 0), (Value.int IntKind.u8 0), (Value.int IntKind.u8 0), (Value.int IntKind.u8 0), (Value.int IntKind.u8 0), (Value.int IntKind.u8 0), (Value.int IntKind.u8 0), (Value.int IntKind.u8 0), (Value.int IntKind.u8 0), (Value.int IntKind.u8 0), (Value.int IntKind.u8 0), (Value.int IntKind.u8 0), (Value.int IntKind.u8 0), (Value.int IntKind.u8 0), (Value.int IntKind.u8 0), (Value.int IntKind.u8 0), (Value.int IntKind.u8 0), (Value.int IntKind.u8 0), (Value.int IntKind.u8 0), (Value.int IntKind.u8 0), (Value.int IntKind.u8 0), (Value.int IntKind.u8 0), (Value.int IntKind.u8 0), (Value.int IntKind.u8 0), (Value.int IntKind.u8 0), (Value.int IntKind.u8 0), (Value.int IntKind.u8 0), (Value.int IntKind.u8 0)] ++ [(Value.int IntKind.u8 0), (Value.int IntKind.u8 0), (Value.int IntKind.u8 0), (Value.int IntKind.u8 0), (Value.int IntKind.u8 0), (Value.int IntKind.u8 0), (Value.int IntKind.u8 0), (Value.int IntKind.u8 0), (Value.int IntKind.u8 0), (Value.int IntKind.u8 0), (Value.int IntKind.u8 0), (Value.int IntKind.u8 0), (Value.int IntKind.u8 0), (Value.int IntKind.u8 0), (Value.int IntKind.u8 0), (Value.int IntKind.u8 0), (Value.int IntKind.u8 0), (Value.int IntKind.u8 0), (Value.int IntKind.u8 0), (Value.int IntKind.u8 0), (Value.int IntKind.u8 0), (Value.int IntKind.u8 0), (Value.int IntKind.u8 0), (Value.int IntKind.u8 0), (Value.int IntKind.u8 0), (Value.int IntKind.u8 0), (Value.int IntKind.u8 0), (Value.int IntKind.u8 0), (Value.int IntKind.u8 0), (Value.int IntKind.u8 0), (Value.int IntKind.u8 0), (Value.int IntKind.u8 0), (Value.int IntKind.u8 0)]))))), 129, 136) := by kernel_rfl
set_option maxRecDepth 100000 in
theorem info26 : tInfo Try.prog 26 = some ((some (Value.agg (List.toArray ([(Value.int IntKind.i64 0), (Value.int IntKind.u8 0), (Value.int IntKind.u8 0), (Value.int IntKind.u8 0), (Value.int IntKind.u8 0), (Value.int IntKind.u8 0), (Value.int IntKind.u8 0), (Value.int IntKind.u8 0), (Value.int IntKind.u8 0), (Value.int IntKind.u8 0), (Value.int IntKind.u8 0), (Value.int IntKind.u8 0), (Value.int IntKind.u8 0), (Value.int IntKind.u8 0), (Value.int IntKind.u8 0), (Value.int IntKind.u8 0), (Value.int IntKind.u8 0), (Value.int IntKind.u8 0), (Value.int IntKind.u8 0), (Value.int IntKind.u8 0), (Value.int IntKind.u8 0), (Value.int IntKind.u8 0), (Value.int IntKind.u8 0), (Value.int IntKind.u8 0), (Value.int IntKind.u8 0), (Value.int IntKind.u8 0), (Value.int IntKind.u8 0), (Value.int IntKind.u8 0), (Value.int IntKind.u8 0), (Value.int IntKind.u8 0), (Value.int IntKind.u8 0), (Value.int IntKind.u8 0), (Value.int IntKind.u8 0), (Value.int IntKind.u8 0), (Value.int IntKind.u8 0), (Value.int IntKind.u8 0), (Value.int IntKind.u8 0), (Value.int IntKind.u8 0), (Value.int IntKind.u8 0), (Value.int IntKind.u8 0), (Value.int IntKind.u8 0), (Value.int IntKind.u8 0), (Value.int IntKind.u8 0), (Value.int IntKind.u8 0), (Value.int IntKind.u8 0), (Value.int IntKind.u8 0), (Value.int IntKind.u8 0), (Value.int IntKind.u8 0), (Value.int IntKind.u8 0), (Value.int IntKind.u8 0), (Value.int IntKind.u8 0), (Value.int IntKind.u8 0), (Value.int IntKind.u8 0), (Value.int IntKind.u8 0), (Value.int IntKind.u8 0), (Value.int IntKind.u8 0), (Value.int IntKind.u8 0), (Value.int IntKind.u8 0), (Value.int IntKind.u8 0), (Value.int IntKind.u8 0), (Value.int IntKind.u8 0), (Value.int IntKind.u8 0), (Value.int IntKind.u8 0), (Value.int IntKind.u8 0)] ++ ([(Value.int IntKind.u8 0), (Value.int IntKind.u8 0), (Value.int IntKind.u8 0), (Value.int IntKind.u8 0), (Value.int IntKind.u8 0), (Value.int IntKind.u8 0), (Value.int IntKind.u8 0), (Value.int IntKind.u8 0), (Value.int IntKind.u8 0), (Value.int IntKind.u8 0), (Value.int IntKind.u8 0), (Value.int IntKind.u8 0), (Value.int IntKind.u8 0), (Value.int IntKind.u8 0), (Value.int IntKind.u8 0), (Value.int IntKind.u8 0), (Value.int IntKind.u8 0), (Value.int IntKind.u8 0), (Value.int IntKind.u8 0), (Value.int IntKind.u8 0), (Value.int IntKind.u8 0), (Value.int IntKind.u8 0), (Value.int IntKind.u8 0), (Value.int IntKind.u8 0), (Value.int IntKind.u8 0), (Value.int IntKind.u8 0), (Value.int IntKind.u8 0), (Value.int IntKind.u8 0), (Value.int IntKind.u8 0), (Value.int IntKind.u8 0), (Value.int IntKind.u8 0), (Value.int IntKind.u8 0)] ++ [(Value.int IntKind.u8 0), (Value.int IntKind.u8 0), (Value.int IntKind.u8 0), (Value.int IntKind.u8 0), (Value.int IntKind.u8 0), (Value.int IntKind.u8 0), (Value.int IntKind.u8 0), (Value.int IntKind.u8 0), (Value.int IntKind.u8 0), (Value.int IntKind.u8 0), (Value.int IntKind.u8 0), (Value.int IntKind.u8 0), (Value.int IntKind.u8 0), (Value.int IntKind.u8 0), (Value.int IntKind.u8 0), (Value.int IntKind.u8 0), (Value.int IntKind.u8 0), (Value.int IntKind.u8 0), (Value.int IntKind.u8 0), (Value.int IntKind.u8 0), (Value.int IntKind.u8 0), (Value.int IntKind.u8 0), (Value.int IntKind.u8 0), (Value.int IntKind.u8 0), (Value.int IntKind.u8 0), (Value.int IntKind.u8 0), (Value.int IntKind.u8 0), (Value.int IntKind.u8 0), (Value.int IntKind.u8 0), (Value.int IntKind.u8 0), (Value.int IntKind.u8 0), (Value.int IntKind.u8 0), (Value.int IntKind.u8 0)]))))), 129, 136) := by kernel_rfl
set_option maxRecDepth 100000 in
theorem info27 : tInfo Try.prog 27 = some ((some (Value.agg (List.toArray (([(Value.int IntKind.i64 0), (Value.int IntKind.u8 0), (Value.int IntKind.u8 0), (Value.int IntKind.u8 0), (Value.int IntKind.u8 0), (Value.int IntKind.u8 0), (Value.int IntKind.u8 0), (Value.int IntKind.u8 0), (Value.int IntKind.u8 0), (Value.int IntKind.u8 0), (Value.int IntKind.u8 0), (Value.int IntKind.u8 0), (Value.int IntKind.u8 0), (Value.int IntKind.u8 0), (Value.int IntKind.u8 0), (Value.int IntKind.u8 0), (Value.int IntKind.u8 0), (Value.int IntKind.u8 0), (Value.int IntKind.u8 0), (Value.int IntKind.u8 0), (Value.int IntKind.u8 0), (Value.int IntKind.u8 0), (Value.int IntKind.u8 0), (Value.int IntKind.u8 0), (Value.int IntKind.u8 0), (Value.int IntKind.u8 0), (Value.int IntKind.u8 0), (Value.int IntKind.u8 0), (Value.int IntKind.u8 0), (Value.int IntKind.u8 0), (Value.int IntKind.u8 0), (Value.int IntKind.u8 0)] ++ [(Value.int IntKind.u8 0), (Value.int IntKind.u8 0), (Value.int IntKind.u8 0), (Value.int IntKind.u8 0), (Value.int IntKind.u8 0), (Value.int IntKind.u8 0), (Value.int IntKind.u8 0), (Value.int IntKind.u8 0), (Value.int IntKind.u8 0), (Value.int IntKind.u8 0), (Value.int IntKind.u8 0), (Value.int IntKind.u8 0), (Value.int IntKind.u8 0), (Value.int IntKind.u8 0), (Value.int IntKind.u8 0), (Value.int IntKind.u8 0), (Value.int IntKind.u8 0), (Value.int IntKind.u8 0), (Value.int IntKind.u8 0), (Value.int IntKind.u8 0), (Value.int IntKind.u8 0), (Value.int IntKind.u8 0), (Value.int IntKind.u8 0), (Value.int IntKind.u8 0), (Value.int IntKind.u8 0), (Value.int IntKind.u8 0), (Value.int IntKind.u8 0), (Value.int IntKind.u8 0), (Value.int IntKind.u8 0), (Value.int IntKind.u8 0), (Value.int IntKind.u8 0), (Value.int IntKind.u8 0), (Value.int IntKind.u8 0)]) ++ ([(Value.int IntKind.u8 0), (Value.int IntKind.u8 0), (Value.int IntKind.u8 0), (Value.int IntKind.u8 0), (Value.int IntKind.u8 0), (Value.int IntKind.u8 0), (Value.int IntKind.u8 0), (Value.int IntKind.u8 0), (Value.int IntKind.u8 0), (Value.int IntKind.u8 0), (Value.int IntKind.u8 0), (Value.int IntKind.u8 0), (Value.int IntKind.u8 0), (Value.int IntKind.u8 0), (Value.int IntKind.u8 0), (Value.int IntKind.u8 0), (Value.int IntKind.u8 0), (Value.int IntKind.u8 0), (Value.int IntKind.u8 0), (Value.int IntKind.u8 0), (Value.int IntKind.u8 0), (Value.int IntKind.u8 0), (Value.int IntKind.u8 0), (Value.int IntKind.u8 0), (Value.int IntKind.u8 0), (Value.int IntKind.u8 0), (Value.int IntKind.u8 0), (Value.int IntKind.u8 0), (Value.int IntKind.u8 0), (Value.int IntKind.u8 0), (Value.int IntKind.u8 0), (Value.int IntKind.u8 0)] ++ [(Value.int IntKind.u8 0), (Value.int IntKind.u8 0), (Value.int IntKind.u8 0), (Value.int IntKind.u8 0), (Value.int IntKind.u8 0), (Value.int IntKind.u8 0), (Value.int IntKind.u8 0), (Value.int IntKind.u8 0), (Value.int IntKind.u8 0), (Value.int IntKind.u8 0), (Value.int IntKind.u8 0), (Value.int IntKind.u8 0), (Value.int IntKind.u8 0), (Value.int IntKind.u8 0), (Value.int IntKind.u8 0), (Value.int IntKind.u8 0), (Value.int IntKind.u8 0), (Value.int IntKind.u8 0), (Value.int IntKind.u8 0), (Value.int IntKind.u8 0), (Value.int IntKind.u8 0), (Value.int IntKind.u8 0), (Value.int IntKind.u8 0), (Value.int IntKind.u8 0), (Value.int IntKind.u8 0), (Value.int IntKind.u8 0), (Value.int IntKind.u8 0), (Value.int IntKind.u8 0), (Value.int IntKind.u8 0), (Value.int IntKind.u8 0), (Value.int IntKind.u8 0), (Value.int IntKind.u8 0), (Value.int IntKind.i64 0)]))))), 130, 144) := by kernel_rfl
set_option maxRecDepth 100000 in
theorem info28 : tInfo Try.prog 28 = some ((some (Value.agg (List.toArray (([(Value.int IntKind.i64 0), (Value.int IntKind.u8 0), (Value.int IntKind.u8 0), (Value.int IntKind.u8 0), (Value.int IntKind.u8 0), (Value.int IntKind.u8 0), (Value.int IntKind.u8 0), (Value.int IntKind.u8 0), (Value.int IntKind.u8 0), (Value.int IntKind.u8 0), (Value.int IntKind.u8 0), (Value.int IntKind.u8 0), (Value.int IntKind.u8 0), (Value.int IntKind.u8 0), (Value.int IntKind.u8 0), (Value.int IntKind.u8 0), (Value.int IntKind.u8 0), (Value.int IntKind.u8 0), (Value.int IntKind.u8 0), (Value.int IntKind.u8 0), (Value.int IntKind.u8 0), (Value.int IntKind.u8 0), (Value.int IntKind.u8 0), (Value.int IntKind.u8 0), (Value.int IntKind.u8 0), (Value.int IntKind.u8 0), (Value.int IntKind.u8 0), (Value.int IntKind.u8 0), (Value.int IntKind.u8 0), (Value.int IntKind.u8 0), (Value.int IntKind.u8 0), (Value.int IntKind.u8 0)] ++ [(Value.int IntKind.u8 0), (Value.int IntKind.u8 0), (Value.int IntKind.u8 0), (Value.int IntKind.u8 0), (Value.int IntKind.u8 0), (Value.int IntKind.u8 0), (Value.int IntKind.u8 0), (Value.int IntKind.u8 0), (Value.int IntKind.u8 0), (Value.int IntKind.u8 0), (Value.int IntKind.u8 0), (Value.int IntKind.u8 0), (Value.int IntKind.u8 0), (Value.int IntKind.u8 0), (Value.int IntKind.u8 0), (Value.int IntKind.u8 0), (Value.int IntKind.u8 0), (Value.int IntKind.u8 0), (Value.int IntKind.u8 0), (Value.int IntKind.u8 0), (Value.int IntKind.u8 0), (Value.int IntKind.u8 0), (Value.int IntKind.u8 0), (Value.int IntKind.u8 0), (Value.int IntKind.u8 0), (Value.int IntKind.u8 0), (Value.int IntKind.u8 0), (Value.int IntKind.u8 0), (Value.int IntKind.u8 0), (Value.int IntKind.u8 0), (Value.int IntKind.u8 0), (Value.int IntKind.u8 0), (Value.int IntKind.u8 0)]) ++ ([(Value.int IntKind.u8 0), (Value.int IntKind.u8 0), (Value.int IntKind.u8 0), (Value.int IntKind.u8 0), (Value.int IntKind.u8 0), (Value.int IntKind.u8 0), (Value.int IntKind.u8 0), (Value.int IntKind.u8 0), (Value.int IntKind.u8 0), (Value.int IntKind.u8 0), (Value.int IntKind.u8 0), (Value.int IntKind.u8 0), (Value.int IntKind.u8 0), (Value.int IntKind.u8 0), (Value.int IntKind.u8 0), (Value.int IntKind.u8 0), (Value.int IntKind.u8 0), (Value.int IntKind.u8 0), (Value.int IntKind.u8 0), (Value.int IntKind.u8 0), (Value.int IntKind.u8 0), (Value.int IntKind.u8 0), (Value.int IntKind.u8 0), (Value.int IntKind.u8 0), (Value.int IntKind.u8 0), (Value.int IntKind.u8 0), (Value.int IntKind.u8 0), (Value.int IntKind.u8 0), (Value.int IntKind.u8 0), (Value.int IntKind.u8 0), (Value.int IntKind.u8 0), (Value.int IntKind.u8 0)] ++ [(Value.int IntKind.u8 0), (Value.int IntKind.u8 0), (Value.int IntKind.u8 0), (Value.int IntKind.u8 0), (Value.int IntKind.u8 0), (Value.int IntKind.u8 0), (Value.int IntKind.u8 0), (Value.int IntKind.u8 0), (Value.int IntKind.u8 0), (Value.int IntKind.u8 0), (Value.int IntKind.u8 0), (Value.int IntKind.u8 0), (Value.int IntKind.u8 0), (Value.int IntKind.u8 0), (Value.int IntKind.u8 0), (Value.int IntKind.u8 0), (Value.int IntKind.u8 0), (Value.int IntKind.u8 0), (Value.int IntKind.u8 0), (Value.int IntKind.u8 0), (Value.int IntKind.u8 0), (Value.int IntKind.u8 0), (Value.int IntKind.u8 0), (Value.int IntKind.u8 0), (Value.int IntKind.u8 0), (Value.int IntKind.u8 0), (Value.int IntKind.u8 0), (Value.int IntKind.u8 0), (Value.int IntKind.u8 0), (Value.int IntKind.u8 0), (Value.int IntKind.u8 0), (Value.int IntKind.u8 0), (Value.int IntKind.i64 0)]))))), 130, 144) := by kernel_rfl
set_option maxRecDepth 100000 in
theorem info29 : tInfo Try.prog 29 = some ((some Value.nilFunc), 1, 8) := by kernel_rfl
set_option maxRecDepth 100000 in
theorem info30 : tInfo Try.prog 30 = some ((some (Value.pointer none)), 1, 8) := by kernel_rfl
set_option maxRecDepth 100000 in
theorem info31 : tInfo Try.prog 31 = some ((some (Value.pointer none)), 1, 8) := by kernel_rfl
set_option maxRecDepth 100000 in
theorem info32 : tInfo Try.prog 32 = some ((some (Value.tuple #[(Value.pointer none), (Value.pointer none)])), 1, 0) := by kernel_rfl
set_option maxRecDepth 100000 in
theorem info33 : tInfo Try.prog 33 = some ((some Value.nilFunc), 1, 8) := by kernel_rfl
set_option maxRecDepth 100000 in
theorem info34 : tInfo Try.prog 34 = some ((some (Value.slice none 0 0)), 1, 24) := by kernel_rfl
set_option maxRecDepth 100000 in
theorem info35 : tInfo Try.prog 35 = some ((some (Value.int IntKind.i64 0)), 1, 8) := by kernel_rfl
set_option maxRecDepth 100000 in
theorem info36 : tInfo Try.prog 36 = some ((some (Value.tuple #[(Value.slice none 0 0), (Value.int IntKind.i64 0)])), 1, 0) := by kernel_rfl
set_option maxRecDepth 100000 in
theorem info37 : tInfo Try.prog 37 = some ((some Value.nilFunc), 1, 8) := by kernel_rfl
set_option maxRecDepth 100000 in
theorem info38 : tInfo Try.prog 38 = some ((some (Value.tuple #[(Value.agg (List.toArray (([(Value.int IntKind.i64 0), (Value.int IntKind.u8 0), (Value.int IntKind.u8 0), (Value.int IntKind.u8 0), (Value.int IntKind.u8 0), (Value.int IntKind.u8 0), (Value.int IntKind.u8 0), (Value.int IntKind.u8 0), (Value.int IntKind.u8 0), (Value.int IntKind.u8 0), (Value.int IntKind.u8 0), (Value.int IntKind.u8 0), (Value.int IntKind.u8 0), (Value.int IntKind.u8 0), (Value.int IntKind.u8 0), (Value.int IntKind.u8 0), (Value.int IntKind.u8 0), (Value.int IntKind.u8 0), (Value.int IntKind.u8 0), (Value.int IntKind.u8 0), (Value.int IntKind.u8 0), (Value.int IntKind.u8 0), (Value.int IntKind.u8 0), (Value.int IntKind.u8 0), (Value.int IntKind.u8 0), (Value.int IntKind.u8 0), (Value.int IntKind.u8 0), (Value.int IntKind.u8 0), (Value.int IntKind.u8 0), (Value.int IntKind.u8 0), (Value.int IntKind.u8 0), (Value.int IntKind.u8 0)] ++ [(Value.int IntKind.u8 0), (Value.int IntKind.u8 0), (Value.int IntKind.u8 0), (Value.int IntKind.u8 0), (Value.int IntKind.u8 0), (Value.int IntKind.u8 0), (Value.int IntKind.u8 0), (Value.int IntKind.u8 0), (Value.int IntKind.u8 0), (Value.int IntKind.u8 0), (Value.int IntKind.u8 0), (Value.int IntKind.u8 0), (Value.int IntKind.u8 0), (Value.int IntKind.u8 0), (Value.int IntKind.u8 0), (Value.int IntKind.u8 0), (Value.int IntKind.u8 0), (Value.int IntKind.u8 0), (Value.int IntKind.u8 0), (Value.int IntKind.u8 0), (Value.int IntKind.u8 0), (Value.int IntKind.u8 0), (Value.int IntKind.u8 0), (Value.int IntKind.u8 0), (Value.int IntKind.u8 0), (Value.int IntKind.u8 0), (Value.int IntKind.u8 0), (Value.int IntKind.u8 0), (Value.int IntKind.u8 0), (Value.int IntKind.u8 0), (Value.int IntKind.u8 0), (Value.int IntKind.u8 0), (Value.int IntKind.u8 0)]) ++ ([(Value.int IntKind.u8 0), (Value.int IntKind.u8 0), (Value.int IntKind.u8 0), (Value.int IntKind.u8 0), (Value.int IntKind.u8 0), (Value.int IntKind.u8 0), (Value.int IntKind.u8 0), (Value.int IntKind.u8 0), (Value.int IntKind.u8 0), (Value.int IntKind.u8 0), (Value.int IntKind.u8 0), (Value.int IntKind.u8 0), (Value.int IntKind.u8 0), (Value.int IntKind.u8 0), (Value.int IntKind.u8 0), (Value.int IntKind.u8 0), (Value.int IntKind.u8 0), (Value.int IntKind.u8 0), (Value.int IntKind.u8 0), (Value.int IntKind.u8 0), (Value.int IntKind.u8 0), (Value.int IntKind.u8 0), (Value.int IntKind.u8 0), (Value.int IntKind.u8 0), (Value.int IntKind.u8 0), (Value.int IntKind.u8 0), (Value.int IntKind.u8 0), (Value.int IntKind.u8 0), (Value.int IntKind.u8 0), (Value.int IntKind.u8 0), (Value.int IntKind.u8 0), (Value.int IntKind.u8 0)] ++ [(Value.int IntKind.u8 0), (Value.int IntKind.u8 0), (Value.int IntKind.u8 0), (Value.int IntKind.u8 0), (Value.int IntKind.u8 0), (Value.int IntKind.u8 0), (Value.int IntKind.u8 0), (Value.int IntKind.u8 0), (Value.int IntKind.u8 0), (Value.int IntKind.u8 0), (Value.int IntKind.u8 0), (Value.int IntKind.u8 0), (Value.int IntKind.u8 0), (Value.int IntKind.u8 0), (Value.int IntKind.u8 0), (Value.int IntKind.u8 0), (Value.int IntKind.u8 0), (Value.int IntKind.u8 0), (Value.int IntKind.u8 0), (Value.int IntKind.u8 0), (Value.int IntKind.u8 0), (Value.int IntKind.u8 0), (Value.int IntKind.u8 0), (Value.int IntKind.u8 0), (Value.int IntKind.u8 0), (Value.int IntKind.u8 0), (Value.int IntKind.u8 0), (Value.int IntKind.u8 0), (Value.int IntKind.u8 0), (Value.int IntKind.u8 0), (Value.int IntKind.u8 0), (Value.int IntKind.u8 0), (Value.int IntKind.i64 0)])))), (Value.int IntKind.i64 0)])), 1, 0) := by kernel_rfl
set_option maxRecDepth 100000 in
theorem info39 : tInfo Try.prog 39 = some ((some Value.nilFunc), 1, 8) := by kernel_rfl
set_option maxRecDepth 100000 in
theorem info40 : tInfo Try.prog 40 = some ((some Value.nilFunc), 1, 8) := by kernel_rfl
set_option maxRecDepth 100000 in
theorem info41 : tInfo Try.prog 41 = some ((some Value.nilFunc), 1, 8) := by kernel_rfl
set_option maxRecDepth 100000 in
theorem info42 : tInfo Try.prog 42 = some ((some Value.nilFunc), 1, 8) := by kernel_rfl
set_option maxRecDepth 100000 in
theorem info43 : tInfo Try.prog 43 = some ((some Value.nilFunc), 1, 8) := by kernel_rfl
set_option maxRecDepth 100000 in
theorem info44 : tInfo Try.prog 44 = some ((some (Value.tuple #[(Value.int IntKind.i64 0), (Value.int IntKind.i64 0)])), 1, 0) := by kernel_rfl
set_option maxRecDepth 100000 in
theorem info45 : tInfo Try.prog 45 = some ((some Value.nilFunc), 1, 8) := by kernel_rfl
set_option maxRecDepth 100000 in
theorem info46 : tInfo Try.prog 46 = some ((some (Value.agg (List.toArray (([(Value.int IntKind.i64 0), (Value.int IntKind.i64 0), (Value.int IntKind.u8 0), (Value.int IntKind.u8 0), (Value.int IntKind.u8 0), (Value.int IntKind.u8 0), (Value.int IntKind.u8 0), (Value.int IntKind.u8 0), (Value.int IntKind.u8 0), (Value.int IntKind.u8 0), (Value.int IntKind.u8 0), (Value.int IntKind.u8 0), (Value.int IntKind.u8 0), (Value.int IntKind.u8 0), (Value.int IntKind.u8 0), (Value.int IntKind.u8 0), (Value.int IntKind.u8 0), (Value.int IntKind.u8 0), (Value.int IntKind.u8 0), (Value.int IntKind.u8 0), (Value.int IntKind.u8 0), (Value.int IntKind.u8 0), (Value.int IntKind.u8 0), (Value.int IntKind.u8 0), (Value.int IntKind.u8 0), (Value.int IntKind.u8 0), (Value.int IntKind.u8 0), (Value.int IntKind.u8 0), (Value.int IntKind.u8 0), (Value.int IntKind.u8 0), (Value.int IntKind.u8 0), (Value.int IntKind.u8 0)] ++ [(Value.int IntKind.u8 0), (Value.int IntKind.u8 0), (Value.int IntKind.u8 0), (Value.int IntKind.u8 0), (Value.int IntKind.u8 0), (Value.int IntKind.u8 0), (Value.int IntKind.u8 0), (Value.int IntKind.u8 0), (Value.int IntKind.u8 0), (Value.int IntKind.u8 0), (Value.int IntKind.u8 0), (Value.int IntKind.u8 0), (Value.int IntKind.u8 0), (Value.int IntKind.u8 0), (Value.int IntKind.u8 0), (Value.int IntKind.u8 0), (Value.int IntKind.u8 0), (Value.int IntKind.u8 0), (Value.int IntKind.u8 0), (Value.int IntKind.u8 0), (Value.int IntKind.u8 0), (Value.int IntKind.u8 0), (Value.int IntKind.u8 0), (Value.int IntKind.u8 0), (Value.int IntKind.u8 0), (Value.int IntKind.u8 0), (Value.int IntKind.u8 0), (Value.int IntKind.u8 0), (Value.int IntKind.u8 0), (Value.int IntKind.u8 0), (Value.int IntKind.u8 0), (Value.int IntKind.u8 0), (Value.int IntKind.u8 0)]) ++ ([(Value.int IntKind.u8 0), (Value.int IntKind.u8 0), (Value.int IntKind.u8 0), (Value.int IntKind.u8 0), (Value.int IntKind.u8 0), (Value.int IntKind.u8 0), (Value.int IntKind.u8 0), (Value.int IntKind.u8 0), (Value.int IntKind.u8 0), (Value.int IntKind.u8 0), (Value.int IntKind.u8 0), (Value.int IntKind.u8 0), (Value.int IntKind.u8 0), (Value.int IntKind.u8 0), (Value.int IntKind.u8 0), (Value.int IntKind.u8 0), (Value.int IntKind.u8 0), (Value.int IntKind.u8 0), (Value.int IntKind.u8 0), (Value.int IntKind.u8 0), (Value.int IntKind.u8 0), (Value.int IntKind.u8 0), (Value.int IntKind.u8 0), (Value.int IntKind.u8 0), (Value.int IntKind.u8 0), (Value.int IntKind.u8 0), (Value.int IntKind.u8 0), (Value.int IntKind.u8 0), (Value.int IntKind.u8 0), (Value.int IntKind.u8 0), (Value.int IntKind.u8 0), (Value.int IntKind.u8 0)] ++ [(Value.int IntKind.u8 0), (Value.int IntKind.u8 0), (Value.int IntKind.u8 0), (Value.int IntKind.u8 0), (Value.int IntKind.u8 0), (Value.int IntKind.u8 0), (Value.int IntKind.u8 0), (Value.int IntKind.u8 0), (Value.int IntKind.u8 0), (Value.int IntKind.u8 0), (Value.int IntKind.u8 0), (Value.int IntKind.u8 0), (Value.int IntKind.u8 0), (Value.int IntKind.u8 0), (Value.int IntKind.u8 0), (Value.int IntKind.u8 0), (Value.int IntKind.u8 0), (Value.int IntKind.u8 0), (Value.int IntKind.u8 0), (Value.int IntKind.u8 0), (Value.int IntKind.u8 0), (Value.int IntKind.u8 0), (Value.int IntKind.u8 0), (Value.int IntKind.u8 0), (Value.int IntKind.u8 0), (Value.int IntKind.u8 0), (Value.int IntKind.u8 0), (Value.int IntKind.u8 0), (Value.int IntKind.u8 0), (Value.int IntKind.u8 0), (Value.int IntKind.u8 0), (Value.int IntKind.u8 0), (Value.int IntKind.u8 0)]))))), 130, 144) := by kernel_rfl
set_option maxRecDepth 100000 in
theorem info47 : tInfo Try.prog 47 = some ((some (Value.agg (List.toArray (([(Value.int IntKind.i64 0), (Value.int IntKind.i64 0), (Value.int IntKind.u8 0), (Value.int IntKind.u8 0), (Value.int IntKind.u8 0), (Value.int IntKind.u8 0), (Value.int IntKind.u8 0), (Value.int IntKind.u8 0), (Value.int IntKind.u8 0), (Value.int IntKind.u8 0), (Value.int IntKind.u8 0), (Value.int IntKind.u8 0), (Value.int IntKind.u8 0), (Value.int IntKind.u8 0), (Value.int IntKind.u8 0), (Value.int IntKind.u8 0), (Value.int IntKind.u8 0), (Value.int IntKind.u8 0), (Value.int IntKind.u8 0), (Value.int IntKind.u8 0), (Value.int IntKind.u8 0), (Value.int IntKind.u8 0), (Value.int IntKind.u8 0), (Value.int IntKind.u8 0), (Value.int IntKind.u8 0), (Value.int IntKind.u8 0), (Value.int IntKind.u8 0), (Value.int IntKind.u8 0), (Value.int IntKind.u8 0), (Value.int IntKind.u8 0), (Value.int IntKind.u8 0), (Value.int IntKind.u8 0)] ++ [(Value.int IntKind.u8 0), (Value.int IntKind.u8 0), (Value.int IntKind.u8 0), (Value.int IntKind.u8 0), (Value.int IntKind.u8 0), (Value.int IntKind.u8 0), (Value.int IntKind.u8 0), (Value.int IntKind.u8 0), (Value.int IntKind.u8 0), (Value.int IntKind.u8 0), (Value.int IntKind.u8 0), (Value.int IntKind.u8 0), (Value.int IntKind.u8 0), (Value.int IntKind.u8 0), (Value.int IntKind.u8 0), (Value.int IntKind.u8 0), (Value.int IntKind.u8 0), (Value.int IntKind.u8 0), (Value.int IntKind.u8 0), (Value.int IntKind.u8 0), (Value.int IntKind.u8 0), (Value.int IntKind.u8 0), (Value.int IntKind.u8 0), (Value.int IntKind.u8 0), (Value.int IntKind.u8 0), (Value.int IntKind.u8 0), (Value.int IntKind.u8 0), (Value.int IntKind.u8 0), (Value.int IntKind.u8 0), (Value.int IntKind.u8 0), (Value.int IntKind.u8 0), (Value.int IntKind.u8 0), (Value.int IntKind.u8 0)]) ++ ([(Value.int IntKind.u8 0), (Value.int IntKind.u8 0), (Value.int IntKind.u8 0), (Value.int IntKind.u8 0), (Value.int IntKind.u8 0), (Value.int IntKind.u8 0), (Value.int IntKind.u8 0), (Value.int IntKind.u8 0), (Value.int IntKind.u8 0), (Value.int IntKind.u8 0), (Value.int IntKind.u8 0), (Value.int IntKind.u8 0), (Value.int IntKind.u8 0), (Value.int IntKind.u8 0), (Value.int IntKind.u8 0), (Value.int IntKind.u8 0), (Value.int IntKind.u8 0), (Value.int IntKind.u8 0), (Value.int IntKind.u8 0), (Value.int IntKind.u8 0), (Value.int IntKind.u8 0), (Value.int IntKind.u8 0), (Value.int IntKind.u8 0), (Value.int IntKind.u8 0), (Value.int IntKind.u8 0), (Value.int IntKind.u8 0), (Value.int IntKind.u8 0), (Value.int IntKind.u8 0), (Value.int IntKind.u8 0), (Value.int IntKind.u8 0), (Value.int IntKind.u8 0), (Value.int IntKind.u8 0)] ++ [(Value.int IntKind.u8 0), (Value.int IntKind.u8 0), (Value.int IntKind.u8 0), (Value.int IntKind.u8 0), (Value.int IntKind.u8 0), (Value.int IntKind.u8 0), (Value.int IntKind.u8 0), (Value.int IntKind.u8 0), (Value.int IntKind.u8 0), (Value.int IntKind.u8 0), (Value.int IntKind.u8 0), (Value.int IntKind.u8 0), (Value.int IntKind.u8 0), (Value.int IntKind.u8 0), (Value.int IntKind.u8 0), (Value.int IntKind.u8 0), (Value.int IntKind.u8 0), (Value.int IntKind.u8 0), (Value.int IntKind.u8 0), (Value.int IntKind.u8 0), (Value.int IntKind.u8 0), (Value.int IntKind.u8 0), (Value.int IntKind.u8 0), (Value.int IntKind.u8 0), (Value.int IntKind.u8 0), (Value.int IntKind.u8 0), (Value.int IntKind.u8 0), (Value.int IntKind.u8 0), (Value.int IntKind.u8 0), (Value.int IntKind.u8 0), (Value.int IntKind.u8 0), (Value.int IntKind.u8 0), (Value.int IntKind.u8 0)]))))), 130, 144) := by kernel_rfl
set_option maxRecDepth 100000 in
theorem info48 : tInfo Try.prog 48 = some ((some Value.nilFunc), 1, 8) := by kernel_rfl
set_option maxRecDepth 100000 in
theorem info49 : tInfo Try.prog 49 = some ((some Value.nilFunc), 1, 8) := by kernel_rfl
set_option maxRecDepth 100000 in
theorem info50 : tInfo Try.prog 50 = some ((some Value.nilFunc), 1, 8) := by kernel_rfl
set_option maxRecDepth 100000 in
theorem info51 : tInfo Try.prog 51 = some ((some (Value.slice none 0 0)), 1, 24) := by kernel_rfl
set_option maxRecDepth 100000 in
theorem info52 : tInfo Try.prog 52 = some ((some (Value.agg #[(Value.int IntKind.i64 0), (Value.int IntKind.i64 0)])), 2, 16) := by kernel_rfl
set_option maxRecDepth 100000 in
theorem info53 : tInfo Try.prog 53 = some ((some (Value.agg #[(Value.int IntKind.i64 0), (Value.int IntKind.i64 0)])), 2, 16) := by kernel_rfl
set_option maxRecDepth 100000 in
theorem info54 : tInfo Try.prog 54 = some ((some (Value.tuple #[(Value.slice none 0 0), (Value.agg #[(Value.int IntKind.i64 0), (Value.int IntKind.i64 0)])])), 1, 0) := by kernel_rfl
set_option maxRecDepth 100000 in
theorem info55 : tInfo Try.prog 55 = some ((some Value.nilFunc), 1, 8) := by kernel_rfl
set_option maxRecDepth 100000 in
theorem info56 : tInfo Try.prog 56 = some ((some Value.nilFunc), 1, 8) := by kernel_rfl
set_option maxRecDepth 100000 in
theorem info57 : tInfo Try.prog 57 = some ((some Value.nilFunc), 1, 8) := by kernel_rfl
set_option maxRecDepth 100000 in
theorem info58 : tInfo Try.prog 58 = some ((some (Value.agg #[(Value.int IntKind.i64 0), (Value.string { data := #[] }), (Value.int IntKind.i64 0), (Value.int IntKind.i64 0)])), 4, 40) := by kernel_rfl
set_option maxRecDepth 100000 in
theorem info59 : tInfo Try.prog 59 = some ((some (Value.agg #[(Value.int IntKind.i64 0), (Value.string { data := #[] }), (Value.int IntKind.i64 0), (Value.int IntKind.i64 0)])), 4, 40) := by kernel_rfl
set_option maxRecDepth 100000 in
theorem info60 : tInfo Try.prog 60 = some ((some Value.nilFunc), 1, 8) := by kernel_rfl
set_option maxRecDepth 100000 in
theorem info61 : tInfo Try.prog 61 = some ((some Value.nilFunc), 1, 8) := by kernel_rfl
set_option maxRecDepth 100000 in
theorem info62 : tInfo Try.prog 62 = some ((some Value.nilFunc), 1, 8) := by kernel_rfl
set_option maxRecDepth 100000 in
theorem info63 : tInfo Try.prog 63 = some ((some Value.nilFunc), 1, 8) := by kernel_rfl
set_option maxRecDepth 100000 in
theorem info64 : tInfo Try.prog 64 = some ((some Value.nilFunc), 1, 8) := by kernel_rfl
set_option maxRecDepth 100000 in
theorem info65 : tInfo Try.prog 65 = some ((some Value.nilFunc), 1, 8) := by kernel_rfl
set_option maxRecDepth 100000 in
theorem info66 : tInfo Try.prog 66 = some ((some Value.nilFunc), 1, 8) := by kernel_rfl
set_option maxRecDepth 100000 in
theorem info67 : tInfo Try.prog 67 = some ((some Value.nilFunc), 1, 8) := by kernel_rfl
set_option maxRecDepth 100000 in
theorem info68 : tInfo Try.prog 68 = some ((some Value.nilFunc), 1, 8) := by kernel_rfl
set_option maxRecDepth 100000 in
theorem info69 : tInfo Try.prog 69 = some ((some Value.nilFunc), 1, 8) := by kernel_rfl
set_option maxRecDepth 100000 in
theorem info70 : tInfo Try.prog 70 = some ((some (Value.slice none 0 0)), 1, 24) := by kernel_rfl
set_option maxRecDepth 100000 in
theorem info71 : tInfo Try.prog 71 = some ((some Value.nilFunc), 1, 8) := by kernel_rfl
set_option maxRecDepth 100000 in
theorem info72 : tInfo Try.prog 72 = some ((some Value.nilFunc), 1, 8) := by kernel_rfl
set_option maxRecDepth 100000 in
theorem info73 : tInfo Try.prog 73 = some ((some Value.nilFunc), 1, 8) := by kernel_rfl
set_option maxRecDepth 100000 in
theorem info74 : tInfo Try.prog 74 = some ((some Value.nilFunc), 1, 8) := by kernel_rfl
set_option maxRecDepth 100000 in
theorem info75 : tInfo Try.prog 75 = some ((some Value.nilFunc), 1, 8) := by kernel_rfl
set_option maxRecDepth 100000 in
theorem info76 : tInfo Try.prog 76 = some ((some (Value.agg #[(Value.int IntKind.i64 0), (Value.string { data := #[] })])), 2, 24) := by kernel_rfl
set_option maxRecDepth 100000 in
theorem info77 : tInfo Try.prog 77 = some ((some (Value.agg #[(Value.int IntKind.i64 0), (Value.string { data := #[] })])), 2, 24) := by kernel_rfl
set_option maxRecDepth 100000 in
theorem info78 : tInfo Try.prog 78 = some ((some Value.nilFunc), 1, 8) := by kernel_rfl
set_option maxRecDepth 100000 in
theorem info79 : tInfo Try.prog 79 = some ((some (Value.tuple #[(Value.agg #[(Value.int IntKind.i64 0), (Value.string { data := #[] }), (Value.int IntKind.i64 0), (Value.int IntKind.i64 0)]), (Value.int IntKind.i64 0), (Value.int IntKind.i64 0)])), 1, 0) := by kernel_rfl
set_option maxRecDepth 100000 in
theorem info80 : tInfo Try.prog 80 = some ((some Value.nilFunc), 1, 8) := by kernel_rfl
set_option maxRecDepth 100000 in
theorem info81 : tInfo Try.prog 81 = some ((some Value.nilFunc), 1, 8) := by kernel_rfl
set_option maxRecDepth 100000 in
theorem info82 : tInfo Try.prog 82 = some ((some Value.nilFunc), 1, 8) := by kernel_rfl
set_option maxRecDepth 100000 in
theorem info83 : tInfo Try.prog 83 = some ((some Value.nilFunc), 1, 8) := by kernel_rfl
set_option maxRecDepth 100000 in
theorem info84 : tInfo Try.prog 84 = some ((some (Value.tuple #[(Value.slice none 0 0), (Value.int IntKind.i64 0), (Value.int IntKind.i64 0)])), 1, 0) := by kernel_rfl
set_option maxRecDepth 100000 in
theorem info85 : tInfo Try.prog 85 = some ((some Value.nilFunc), 1, 8) := by kernel_rfl
set_option maxRecDepth 100000 in
theorem info86 : tInfo Try.prog 86 = some ((some (Value.tuple #[(Value.agg (List.toArray ([(Value.int IntKind.i64 0), (Value.int IntKind.u8 0), (Value.int IntKind.u8 0), (Value.int IntKind.u8 0), (Value.int IntKind.u8 0), (Value.int IntKind.u8 0), (Value.int IntKind.u8 0), (Value.int IntKind.u8 0), (Value.int IntKind.u8 0), (Value.int IntKind.u8 0), (Value.int IntKind.u8 0), (Value.int IntKind.u8 0), (Value.int IntKind.u8 0), (Value.int IntKind.u8 0), (Value.int IntKind.u8 0), (Value.int IntKind.u8 0), (Value.int IntKind.u8 0), (Value.int IntKind.u8 0), (Value.int IntKind.u8 0), (Value.int IntKind.u8 0), (Value.int IntKind.u8 0), (Value.int IntKind.u8 0), (Value.int IntKind.u8 0), (Value.int IntKind.u8 0), (Value.int IntKind.u8 0), (Value.int IntKind.u8 0), (Value.int IntKind.u8 0), (Value.int IntKind.u8 0), (Value.int IntKind.u8 0), (Value.int IntKind.u8 0), (Value.int IntKind.u8 0), (Value.int IntKind.u8 0), (Value.int IntKind.u8 0), (Value.int IntKind.u8 0), (Value.int IntKind.u8 0), (Value.int IntKind.u8 0), (Value.int IntKind.u8 0), (Value.int IntKind.u8 0), (Value.int IntKind.u8 0), (Value.int IntKind.u8 0), (Value.int IntKind.u8 0), (Value.int IntKind.u8 0), (Value.int IntKind.u8 0), (Value.int IntKind.u8 0), (Value.int IntKind.u8 0), (Value.int IntKind.u8 0), (Value.int IntKind.u8 0), (Value.int IntKind.u8 0), (Value.int IntKind.u8 0), (Value.int IntKind.u8 0), (Value.int IntKind.u8 0), (Value.int IntKind.u8 0), (Value.int IntKind.u8 0), (Value.int IntKind.u8 0), (Value.int IntKind.u8 0), (Value.int IntKind.u8 0), (Value.int IntKind.u8 0), (Value.int IntKind.u8 0), (Value.int IntKind.u8 0), (Value.int IntKind.u8 0), (Value.int IntKind.u8 0), (Value.int IntKind.u8 0), (Value.int IntKind.u8 0), (Value.int IntKind.u8 0)] ++ ([(Value.int IntKind.u8 0), (Value.int IntKind.u8 0), (Value.int IntKind.u8 0), (Value.int IntKind.u8 0), (Value.int IntKind.u8 0), (Value.int IntKind.u8 0), (Value.int IntKind.u8 0), (Value.int IntKind.u8 0), (Value.int IntKind.u8 0), (Value.int IntKind.u8 0), (Value.int IntKind.u8 0), (Value.int IntKind.u8 0), (Value.int IntKind.u8 0), (Value.int IntKind.u8 0), (Value.int IntKind.u8 0), (Value.int IntKind.u8 0), (Value.int IntKind.u8 0), (Value.int IntKind.u8 0), (Value.int IntKind.u8 0), (Value.int IntKind.u8 0), (Value.int IntKind.u8 0), (Value.int IntKind.u8 0), (Value.int IntKind.u8 0), (Value.int IntKind.u8 0), (Value.int IntKind.u8 0), (Value.int IntKind.u8 0), (Value.int IntKind.u8 0), (Value.int IntKind.u8 0), (Value.int IntKind.u8 0), (Value.int IntKind.u8 0), (Value.int IntKind.u8 0), (Value.int IntKind.u8 0)] ++ [(Value.int IntKind.u8 0), (Value.int IntKind.u8 0), (Value.int IntKind.u8 0), (Value.int IntKind.u8 0), (Value.int IntKind.u8 0), (Value.int IntKind.u8 0), (Value.int IntKind.u8 0), (Value.int IntKind.u8 0), (Value.int IntKind.u8 0), (Value.int IntKind.u8 0), (Value.int IntKind.u8 0), (Value.int IntKind.u8 0), (Value.int IntKind.u8 0), (Value.int IntKind.u8 0), (Value.int IntKind.u8 0), (Value.int IntKind.u8 0), (Value.int IntKind.u8 0), (Value.int IntKind.u8 0), (Value.int IntKind.u8 0), (Value.int IntKind.u8 0), (Value.int IntKind.u8 0), (Value.int IntKind.u8 0), (Value.int IntKind.u8 0), (Value.int IntKind.u8 0), (Value.int IntKind.u8 0), (Value.int IntKind.u8 0), (Value.int IntKind.u8 0), (Value.int IntKind.u8 0), (Value.int IntKind.u8 0), (Value.int IntKind.u8 0), (Value.int IntKind.u8 0), (Value.int IntKind.u8 0), (Value.int IntKind.u8 0)])))), (Value.int IntKind.i64 0)])), 1, 0) := by kernel_rfl
set_option maxRecDepth 100000 in
theorem info87 : tInfo Try.prog 87 = some ((some Value.nilFunc), 1, 8) := by kernel_rfl
set_option maxRecDepth 100000 in
theorem info88 : tInfo Try.prog 88 = some ((some (Value.tuple #[(Value.int IntKind.i64 0), (Value.int IntKind.i64 0), (Value.int IntKind.i64 0)])), 1, 0) := by kernel_rfl
set_option maxRecDepth 100000 in
theorem info89 : tInfo Try.prog 89 = some ((some Value.nilFunc), 1, 8) := by kernel_rfl
set_option maxRecDepth 100000 in
theorem info90 : tInfo Try.prog 90 = some ((some (Value.map none)), 1, 8) := by kernel_rfl
set_option maxRecDepth 100000 in
theorem info91 : tInfo Try.prog 91 = some ((some (Value.map none)), 1, 8) := by kernel_rfl
set_option maxRecDepth 100000 in
theorem info92 : tInfo Try.prog 92 = some ((some (Value.slice none 0 0)), 1, 24) := by kernel_rfl
set_option maxRecDepth 100000 in
theorem info93 : tInfo Try.prog 93 = some ((some (Value.agg #[(Value.map none), (Value.slice none 0 0), (Value.map none)])), 3, 40) := by kernel_rfl
set_option maxRecDepth 100000 in
theorem info94 : tInfo Try.prog 94 = some ((some (Value.agg #[(Value.map none), (Value.slice none 0 0), (Value.map none)])), 3, 40) := by kernel_rfl
set_option maxRecDepth 100000 in
theorem info95 : tInfo Try.prog 95 = some ((some (Value.slice none 0 0)), 1, 24) := by kernel_rfl
set_option maxRecDepth 100000 in
theorem info96 : tInfo Try.prog 96 = some ((some (Value.agg #[(Value.slice none 0 0)])), 1, 24) := by kernel_rfl
set_option maxRecDepth 100000 in
theorem info97 : tInfo Try.prog 97 = some ((some (Value.agg #[(Value.slice none 0 0)])), 1, 24) := by kernel_rfl
set_option maxRecDepth 100000 in
theorem info98 : tInfo Try.prog 98 = some ((some Value.nilFunc), 1, 8) := by kernel_rfl
set_option maxRecDepth 100000 in
theorem info99 : tInfo Try.prog 99 = some ((some (Value.agg #[(Value.int IntKind.i64 0), (Value.string { data := #[] })])), 2, 24) := by kernel_rfl
set_option maxRecDepth 100000 in
theorem info100 : tInfo Try.prog 100 = some ((some (Value.agg #[(Value.int IntKind.i64 0), (Value.string { data := #[] })])), 2, 24) := by kernel_rfl
set_option maxRecDepth 100000 in
theorem info101 : tInfo Try.prog 101 = some ((some Value.nilFunc), 1, 8) := by kernel_rfl
set_option maxRecDepth 100000 in
theorem info102 : tInfo Try.prog 102 = some ((some Value.nilFunc), 1, 8) := by kernel_rfl
set_option maxRecDepth 100000 in
theorem info103 : tInfo Try.prog 103 = some ((some Value.nilFunc), 1, 8) := by kernel_rfl
set_option maxRecDepth 100000 in
theorem info104 : tInfo Try.prog 104 = some ((some Value.nilFunc), 1, 8) := by kernel_rfl
set_option maxRecDepth 100000 in
theorem info105 : tInfo Try.prog 105 = some ((some Value.nilFunc), 1, 8) := by kernel_rfl
set_option maxRecDepth 100000 in
theorem info106 : tInfo Try.prog 106 = some ((some (Value.int IntKind.u64 0)), 1, 8) := by kernel_rfl
set_option maxRecDepth 100000 in
theorem info107 : tInfo Try.prog 107 = some ((some Value.nilFunc), 1, 8) := by kernel_rfl
set_option maxRecDepth 100000 in
theorem info108 : tInfo Try.prog 108 = some ((some (Value.slice none 0 0)), 1, 24) := by kernel_rfl
set_option maxRecDepth 100000 in
theorem info109 : tInfo Try.prog 109 = some ((some Value.nilFunc), 1, 8) := by kernel_rfl
set_option maxRecDepth 100000 in
theorem info110 : tInfo Try.prog 110 = some ((some (Value.slice none 0 0)), 1, 24) := by kernel_rfl
set_option maxRecDepth 100000 in
theorem info111 : tInfo Try.prog 111 = some ((some Value.nilFunc), 1, 8) := by kernel_rfl
set_option maxRecDepth 100000 in
theorem info112 : tInfo Try.prog 112 = some ((some Value.nilFunc), 1, 8) := by kernel_rfl
set_option maxRecDepth 100000 in
theorem info113 : tInfo Try.prog 113 = some ((some Value.nilFunc), 1, 8) := by kernel_rfl
set_option maxRecDepth 100000 in
theorem info114 : tInfo Try.prog 114 = some ((some (Value.tuple #[(Value.agg #[(Value.int IntKind.i64 0), (Value.string { data := #[] }), (Value.int IntKind.i64 0), (Value.int IntKind.i64 0)]), (Value.int IntKind.i64 0)])), 1, 0) := by kernel_rfl
set_option maxRecDepth 100000 in
theorem info115 : tInfo Try.prog 115 = some ((some Value.nilFunc), 1, 8) := by kernel_rfl
set_option maxRecDepth 100000 in
theorem info116 : tInfo Try.prog 116 = some ((some Value.nilFunc), 1, 8) := by kernel_rfl
set_option maxRecDepth 100000 in
theorem info117 : tInfo Try.prog 117 = some ((some Value.nilFunc), 1, 8) := by kernel_rfl
set_option maxRecDepth 100000 in
theorem info118 : tInfo Try.prog 118 = some ((some (Value.tuple #[(Value.slice none 0 0), (Value.int IntKind.i64 0), (Value.int IntKind.i64 0)])), 1, 0) := by kernel_rfl
set_option maxRecDepth 100000 in
theorem info119 : tInfo Try.prog 119 = some ((some Value.nilFunc), 1, 8) := by kernel_rfl
set_option maxRecDepth 100000 in
theorem info120 : tInfo Try.prog 120 = some ((some (Value.pointer none)), 1, 8) := by kernel_rfl
set_option maxRecDepth 100000 in
theorem info121 : tInfo Try.prog 121 = some ((some Value.nilFunc), 1, 8) := by kernel_rfl
set_option maxRecDepth 100000 in
theorem info122 : tInfo Try.prog 122 = some ((some Value.nilFunc), 1, 8) := by kernel_rfl
set_option maxRecDepth 100000 in
theorem info123 : tInfo Try.prog 123 = some ((some Value.nilFunc), 1, 8) := by kernel_rfl
set_option maxRecDepth 100000 in
theorem info124 : tInfo Try.prog 124 = some ((some (Value.agg #[(Value.slice none 0 0), (Value.bool false)])), 2, 32) := by kernel_rfl
set_option maxRecDepth 100000 in
theorem info125 : tInfo Try.prog 125 = some ((some (Value.agg #[(Value.slice none 0 0), (Value.bool false)])), 2, 32) := by kernel_rfl
set_option maxRecDepth 100000 in
theorem info126 : tInfo Try.prog 126 = some ((some (Value.tuple #[(Value.int IntKind.i64 0), (Value.bool false)])), 1, 0) := by kernel_rfl
set_option maxRecDepth 100000 in
theorem info127 : tInfo Try.prog 127 = some ((some Value.nilFunc), 1, 8) := by kernel_rfl
set_option maxRecDepth 100000 in
theorem info128 : tInfo Try.prog 128 = some ((some Value.nilFunc), 1, 8) := by kernel_rfl
set_option maxRecDepth 100000 in
theorem info129 : tInfo Try.prog 129 = some ((some (Value.tuple #[(Value.slice none 0 0), (Value.bool false)])), 1, 0) := by kernel_rfl
set_option maxRecDepth 100000 in
theorem info130 : tInfo Try.prog 130 = some ((some Value.nilFunc), 1, 8) := by kernel_rfl
set_option maxRecDepth 100000 in
theorem info131 : tInfo Try.prog 131 = some ((some Value.nilFunc), 1, 8) := by kernel_rfl
set_option maxRecDepth 100000 in
theorem info132 : tInfo Try.prog 132 = some ((some (Value.tuple #[(Value.agg #[(Value.int IntKind.u8 0), (Value.int IntKind.u8 0), (Value.int IntKind.u8 0), (Value.int IntKind.u8 0), (Value.int IntKind.u8 0), (Value.int IntKind.u8 0), (Value.int IntKind.u8 0), (Value.int IntKind.u8 0), (Value.int IntKind.u8 0), (Value.int IntKind.u8 0), (Value.int IntKind.u8 0), (Value.int IntKind.u8 0), (Value.int IntKind.u8 0), (Value.int IntKind.u8 0), (Value.int IntKind.u8 0), (Value.int IntKind.u8 0), (Value.int IntKind.u8 0), (Value.int IntKind.u8 0), (Value.int IntKind.u8 0), (Value.int IntKind.u8 0), (Value.int IntKind.u8 0), (Value.int IntKind.u8 0), (Value.int IntKind.u8 0), (Value.int IntKind.u8 0), (Value.int IntKind.u8 0), (Value.int IntKind.u8 0), (Value.int IntKind.u8 0), (Value.int IntKind.u8 0), (Value.int IntKind.u8 0), (Value.int IntKind.u8 0), (Value.int IntKind.u8 0), (Value.int IntKind.u8 0)]), (Value.bool false)])), 1, 0) := by kernel_rfl
set_option maxRecDepth 100000 in
theorem info133 : tInfo Try.prog 133 = some ((some Value.nilFunc), 1, 8) := by kernel_rfl
set_option maxRecDepth 100000 in
theorem info134 : tInfo Try.prog 134 = some ((some Value.nilFunc), 1, 8) := by kernel_rfl
set_option maxRecDepth 100000 in
theorem info135 : tInfo Try.prog 135 = some ((some (Value.int IntKind.u32 0)), 1, 4) := by kernel_rfl
set_option maxRecDepth 100000 in
theorem info136 : tInfo Try.prog 136 = some ((some Value.nilFunc), 1, 8) := by kernel_rfl
set_option maxRecDepth 100000 in
theorem info137 : tInfo Try.prog 137 = some ((some (Value.int IntKind.u64 0)), 1, 8) := by kernel_rfl
set_option maxRecDepth 100000 in
theorem info138 : tInfo Try.prog 138 = some ((some (Value.pointer none)), 1, 8) := by kernel_rfl
set_option maxRecDepth 100000 in
theorem info139 : tInfo Try.prog 139 = some ((some (Value.agg #[(Value.pointer none), (Value.slice none 0 0)])), 2, 32) := by kernel_rfl
set_option maxRecDepth 100000 in
theorem info140 : tInfo Try.prog 140 = some ((some (Value.agg #[(Value.pointer none), (Value.slice none 0 0)])), 2, 32) := by kernel_rfl
set_option maxRecDepth 100000 in
theorem info141 : tInfo Try.prog 141 = some ((some Value.nilFunc), 1, 8) := by kernel_rfl
set_option maxRecDepth 100000 in
theorem info142 : tInfo Try.prog 142 = some ((some Value.nilIface), 1, 16) := by kernel_rfl
set_option maxRecDepth 100000 in
theorem info143 : tInfo Try.prog 143 = some ((some Value.nilIface), 1, 16) := by kernel_rfl
set_option maxRecDepth 100000 in
theorem info144 : tInfo Try.prog 144 = some ((some (Value.tuple #[(Value.int IntKind.i64 0), Value.nilIface])), 1, 0) := by kernel_rfl
set_option maxRecDepth 100000 in
theorem info145 : tInfo Try.prog 145 = some ((some Value.nilFunc), 1, 8) := by kernel_rfl
set_option maxRecDepth 100000 in
theorem info146 : tInfo Try.prog 146 = some ((some Value.nilFunc), 1, 8) := by kernel_rfl
set_option maxRecDepth 100000 in
theorem info147 : tInfo Try.prog 147 = some ((some Value.nilFunc), 1, 8) := by kernel_rfl
set_option maxRecDepth 100000 in
theorem info148 : tInfo Try.prog 148 = some ((some Value.nilFunc), 1, 8) := by kernel_rfl
set_option maxRecDepth 100000 in
theorem info149 : tInfo Try.prog 149 = some ((some Value.nilFunc), 1, 8) := by kernel_rfl
set_option maxRecDepth 100000 in
theorem info150 : tInfo Try.prog 150 = some ((some Value.nilFunc), 1, 8) := by kernel_rfl
set_option maxRecDepth 100000 in
theorem info151 : tInfo Try.prog 151 = some ((some Value.nilFunc), 1, 8) := by kernel_rfl
set_option maxRecDepth 100000 in
theorem info152 : tInfo Try.prog 152 = some ((some (Value.pointer none)), 1, 8) := by kernel_rfl
set_option maxRecDepth 100000 in
theorem info153 : tInfo Try.prog 153 = some ((some Value.nilFunc), 1, 8) := by kernel_rfl
set_option maxRecDepth 100000 in
theorem info154 : tInfo Try.prog 154 = some ((some (Value.pointer none)), 1, 8) := by kernel_rfl
set_option maxRecDepth 100000 in
theorem info155 : tInfo Try.prog 155 = some ((some Value.nilFunc), 1, 8) := by kernel_rfl
set_option maxRecDepth 100000 in
theorem info156 : tInfo Try.prog 156 = some ((some (Value.agg #[(Value.pointer none), (Value.pointer none), (Value.pointer none), (Value.string { data := #[] })])), 4, 40) := by kernel_rfl
set_option maxRecDepth 100000 in
theorem info157 : tInfo Try.prog 157 = some ((some (Value.agg #[(Value.pointer none), (Value.pointer none), (Value.pointer none), (Value.string { data := #[] })])), 4, 40) := by kernel_rfl
set_option maxRecDepth 100000 in
theorem info158 : tInfo Try.prog 158 = some ((some (Value.agg #[])), 0, 0) := by kernel_rfl
set_option maxRecDepth 100000 in
theorem info159 : tInfo Try.prog 159 = some ((some (Value.agg #[])), 0, 0) := by kernel_rfl
set_option maxRecDepth 100000 in
theorem info160 : tInfo Try.prog 160 = some ((some (Value.agg #[])), 0, 0) := by kernel_rfl
set_option maxRecDepth 100000 in
theorem info161 : tInfo Try.prog 161 = some ((some (Value.int IntKind.u8 0)), 1, 1) := by kernel_rfl
set_option maxRecDepth 100000 in
theorem info162 : tInfo Try.prog 162 = some ((some (Value.int IntKind.u8 0)), 1, 1) := by kernel_rfl
set_option maxRecDepth 100000 in
theorem info163 : tInfo Try.prog 163 = some ((some Value.nilFunc), 1, 8) := by kernel_rfl
set_option maxRecDepth 100000 in
theorem info164 : tInfo Try.prog 164 = some ((some (Value.int IntKind.i32 0)), 1, 4) := by kernel_rfl
set_option maxRecDepth 100000 in
theorem info165 : tInfo Try.prog 165 = some ((some (Value.int IntKind.i32 0)), 1, 4) := by kernel_rfl
set_option maxRecDepth 100000 in
theorem info166 : tInfo Try.prog 166 = some ((some (Value.agg #[(Value.int IntKind.u64 0), (Value.int IntKind.u64 0), (Value.int IntKind.u32 0), (Value.int IntKind.u8 0), (Value.int IntKind.u8 0), (Value.int IntKind.u8 0), (Value.int IntKind.u8 0), Value.nilFunc, (Value.pointer none), (Value.int IntKind.i32 0), (Value.int IntKind.i32 0)])), 11, 48) := by kernel_rfl
set_option maxRecDepth 100000 in
theorem info167 : tInfo Try.prog 167 = some ((some (Value.agg #[(Value.int IntKind.u64 0), (Value.int IntKind.u64 0), (Value.int IntKind.u32 0), (Value.int IntKind.u8 0), (Value.int IntKind.u8 0), (Value.int IntKind.u8 0), (Value.int IntKind.u8 0), Value.nilFunc, (Value.pointer none), (Value.int IntKind.i32 0), (Value.int IntKind.i32 0)])), 11, 48) := by kernel_rfl
end Go.Proofs.Ytkbfngepdgdecaa

set_option linter.unusedSimpArgs false
set_option linter.unusedVariables false
namespace Go.Cert
open Go.V
/-- n in k bytes, the greatest first. -/
def be : Nat → Nat → List UInt8
  | 0, _ => []
  | k + 1, n => be k (n / 256) ++ [UInt8.ofNat n]
theorem be_len : ∀ (k n : Nat), (be k n).length = k
  | 0, _ => rfl
  | k + 1, n => by simp [be, be_len k]
theorem be_get : ∀ (k n j : Nat), j < k → (be k n)[j]? = some (UInt8.ofNat (n / 256 ^ (k - 1 - j)))
  | 0, _, _, h => by omega
  | k + 1, n, j, h => by
    rw [be]
    rcases Nat.lt_or_ge j k with h1 | h1
    · rw [List.getElem?_append_left (by rw [be_len]; exact h1), be_get k _ j h1, Nat.div_div_eq_div_mul, show k + 1 - 1 - j = (k - 1 - j) + 1 by omega, Nat.pow_succ, Nat.mul_comm]
    · obtain rfl : j = k := by omega
      rw [List.getElem?_append_right (by rw [be_len]; exact Nat.le_refl _), be_len, Nat.sub_self]
      simp
theorem be_take (k n j : Nat) (h : j < k) : (be k n).take j ++ [UInt8.ofNat (n / 256 ^ (k - 1 - j))] = (be k n).take (j + 1) := by
  rw [List.take_add_one, be_get k n j h]
  rfl
theorem be_all (k n : Nat) : (be k n).take k = be k n := List.take_of_length_le (by rw [be_len]; exact Nat.le_refl _)
def rowB (ls : List (List UInt8)) : List UInt8 := be 4 ls.length ++ (ls.map fun l => be 4 l.length ++ l).flatten
theorem u8_mod (n : Int) : IntKind.u8.wrap n = n % 256 := by
  have h1 : IntKind.u8.signed = false := rfl
  have h2 : IntKind.u8.bits = 8 := rfl
  unfold IntKind.wrap
  rw [h1, h2]
  rfl
theorem u8_nat (n : Nat) : IntKind.u8.wrap (n : Int) = ((UInt8.ofNat n).toNat : Int) := by
  rw [u8_mod, UInt8.toNat_ofNat']
  omega
theorem pow_cast (m : Nat) : (2 : Int) ^ m = ((2 ^ m : Nat) : Int) := by rw [Int.natCast_pow]; rfl
theorem shr_nat (n m : Nat) (hm : m ≤ 63) : (n : Int).fdiv (2 ^ (min m IntKind.i64.bits)) = ((n / 2 ^ m : Nat) : Int) := by
  have hb : IntKind.i64.bits = 64 := rfl
  rw [hb, Nat.min_eq_left (by omega), pow_cast, ← Int.ofNat_fdiv]
theorem pow_256 (k : Nat) : 256 ^ k = 2 ^ (8 * k) := by rw [Nat.pow_mul]
end Go.Cert
namespace Go.Proofs.Ytkbfngepdgdecaa
open Go Go.V Go.Cert
theorem mixed : Try.prog.follows .mixedOrders = true := by kernel_rfl
/-- A row of bytes of its own. -/
def OwnB (l : List UInt8) (σ : Sg) (x : AV) (σ' : Sg) : Prop := ∃ τ, σ τ = none ∧ x = .sl (.tok τ 1) (bytesL l) ∧ σ' = σ.set τ (.tok (some 5))
set_option maxHeartbeats 1000000 in
set_option maxRecDepth 100000 in
theorem t58 (n k : Nat) (σ : Sg) (hk : 0 < k ∧ k ≤ 8) : VCalls Try.prog 58 [.sl .nil [], .i n, .i k] σ (fun x σ' => OwnB (be k n) σ x σ') := by
  (refine vfun (fun _ => .no) mixed Try.func58 (by kernel_rfl) ?_; simp only [bodyOf, Try.f58, Option.getD_some])
  repeat' (first | with_reducible rfl | exact .inr trivial | with_reducible apply And.intro | with_reducible apply vqx_step | with_reducible apply vqm_step | with_reducible refine vkp_free (by decide +kernel) ?_ | with_reducible intro _ | ((first | (with_reducible first | refine .rs ?_ | refine .ds (by kernel_rfl) ?_ | refine .dg (by kernel_rfl) ?_ | refine .rg ?_ | refine .ite ?_ | refine .ret ?_ | refine .skip ?_ | refine .exit ?_ | refine .scope ?_ | refine .seq (.label ?_) | refine .block ?_ | refine .seq ?_)); (try simp only [vO, vQ, ↓vP, vE, vS, vB, vL, vF, vM, vN, vbs_full, Nat.reduceEqDiff, Nat.reduceAdd, Nat.reduceLeDiff, ne_eq, not_false_eq_true, Nat.reduceMul, Nat.reduceSub, Int.toNat_zero, Int.reduceToNat, Try.underlying34, Try.underlying5, Try.underlying3, info34, info5, info3, nadd, nadd1, nadd2, nadd3, n1add, n2add, vT])) | ((simp (disch := first | assumption | omega) only [w64, w8, tg_eq, Go.V.n1, Go.V.n2, Go.V.nn, Int.tdiv_eq_ediv_of_nonneg, Sg.set_same, Sg.set_ne, Sg.set_ne', Sg.del_ne, Sg.del_ne']); (try simp only [vO, vQ, ↓vP, vE, vS, vB, vL, vF, vM, vN, vbs_full, Nat.reduceEqDiff, Nat.reduceAdd, Nat.reduceLeDiff, ne_eq, not_false_eq_true, Nat.reduceMul, Nat.reduceSub, Int.toNat_zero, Int.reduceToNat, Try.underlying34, Try.underlying5, Try.underlying3, info34, info5, info3, nadd, nadd1, nadd2, nadd3, n1add, n2add, vT])) | with_reducible refine vfresh_set ?_ | with_reducible refine vfresh_intro (fun _ _ => ?_) | with_reducible refine vif_intro (fun _ => ?_) (fun _ => ?_) | omega | ((with_reducible first | refine vop_at ?_ | refine vops_at ?_ | refine vquiet_at ?_ | refine vmix_at ?_ | refine Holds_at ?_); simp only [vO, vQ, ↓vP, vE, vS, vB, vL, vF, vM, vN, vbs_full, Nat.reduceEqDiff, Nat.reduceAdd, Nat.reduceLeDiff, ne_eq, not_false_eq_true, Nat.reduceMul, Nat.reduceSub, Int.toNat_zero, Int.reduceToNat, Try.underlying34, Try.underlying5, Try.underlying3, info34, info5, info3, nadd, nadd1, nadd2, nadd3, n1add, n2add, vT]))
  refine VW.loop3 (0 : Nat) (.sl .nil []) _ (fun j V S => j ≤ k ∧ Grown 5 1 (bytesL ((be k n).take j)) σ V S) (fun j V _ => [(0, V), (1, .i n), (7, .i (8 * ((k : Int) - 1 - j)))]) (fun _ _ S => S) (fun j _ _ => k - j) ⟨Nat.zero_le _, by rw [List.take_zero]; exact .nil _ _ _⟩ (.refl _) ?_ ?_
  · simp only [vO, vQ, ↓vP, vE, vS, vB, vL, vF, vM, vN, vbs_full, Nat.reduceEqDiff, Nat.reduceAdd, Nat.reduceLeDiff, ne_eq, not_false_eq_true, Nat.reduceMul, Nat.reduceSub, Int.toNat_zero, Int.reduceToNat, vT]
    exact i_eq (by omega)
  rintro j V S ⟨h1, hG⟩
  have hs : j < k → IntKind.u8.wrap ((n : Int).fdiv (2 ^ (min (8 * ((k : Int) - 1 - j)).toNat IntKind.i64.bits))) = ((UInt8.ofNat (n / 256 ^ (k - 1 - j))).toNat : Int) := fun h => by
    rw [show (8 * ((k : Int) - 1 - j)).toNat = 8 * (k - 1 - j) by omega, shr_nat _ _ (by omega), u8_nat, pow_256]
  have hlen : ((be k n).take j).length ≤ 8 := by simp [be_len]; omega
  rcases hG with ⟨h5, rfl, rfl⟩ | ⟨τ, hτ, rfl, rfl⟩
  · have h0 : (be k n).take j = [] := by simpa [bytesL] using h5
    repeat' (first | with_reducible rfl | exact .inr trivial | with_reducible apply And.intro | with_reducible apply vqx_step | with_reducible apply vqm_step | with_reducible refine vkp_free (by decide +kernel) ?_ | with_reducible intro _ | ((first | (with_reducible first | refine .rs ?_ | refine .ds (by kernel_rfl) ?_ | refine .dg (by kernel_rfl) ?_ | refine .rg ?_ | refine .ite ?_ | refine .ret ?_ | refine .skip ?_ | refine .exit ?_ | refine .scope ?_ | refine .seq (.label ?_) | refine .block ?_ | refine .seq ?_)); (try simp only [vO, vQ, ↓vP, vE, vS, vB, vL, vF, vM, vN, vbs_full, Nat.reduceEqDiff, Nat.reduceAdd, Nat.reduceLeDiff, ne_eq, not_false_eq_true, Nat.reduceMul, Nat.reduceSub, Int.toNat_zero, Int.reduceToNat, Try.underlying34, Try.underlying5, Try.underlying3, info34, info5, info3, nadd, nadd1, nadd2, nadd3, n1add, n2add, vT])) | ((simp (disch := first | assumption | omega) only [w64, w8, tg_eq, Go.V.n1, Go.V.n2, Go.V.nn, Int.tdiv_eq_ediv_of_nonneg, Sg.set_same, Sg.set_ne, Sg.set_ne', Sg.del_ne, Sg.del_ne']); (try simp only [vO, vQ, ↓vP, vE, vS, vB, vL, vF, vM, vN, vbs_full, Nat.reduceEqDiff, Nat.reduceAdd, Nat.reduceLeDiff, ne_eq, not_false_eq_true, Nat.reduceMul, Nat.reduceSub, Int.toNat_zero, Int.reduceToNat, Try.underlying34, Try.underlying5, Try.underlying3, info34, info5, info3, nadd, nadd1, nadd2, nadd3, n1add, n2add, vT])) | with_reducible refine vfresh_set ?_ | with_reducible refine vfresh_intro (fun _ _ => ?_) | with_reducible refine vif_intro (fun _ => ?_) (fun _ => ?_) | omega | ((with_reducible first | refine vop_at ?_ | refine vops_at ?_ | refine vquiet_at ?_ | refine vmix_at ?_ | refine Holds_at ?_); simp only [vO, vQ, ↓vP, vE, vS, vB, vL, vF, vM, vN, vbs_full, Nat.reduceEqDiff, Nat.reduceAdd, Nat.reduceLeDiff, ne_eq, not_false_eq_true, Nat.reduceMul, Nat.reduceSub, Int.toNat_zero, Int.reduceToNat, Try.underlying34, Try.underlying5, Try.underlying3, info34, info5, info3, nadd, nadd1, nadd2, nadd3, n1add, n2add, vT]))
    · have hjk : j < k := by omega
      rw [hs hjk]
      exact ⟨j + 1, .sl (.tok _ 1) (bytesL ((be k n).take (j + 1))), _, ⟨⟨by omega, .tok (by assumption)⟩, by omega⟩, .refl _, by rw [← be_take k n j hjk, h0]; rfl, i_eq (by omega)⟩
    · exfalso
      have := congrArg List.length h0
      simp [be_len] at this
      omega
  · repeat' (first | with_reducible rfl | exact .inr trivial | with_reducible apply And.intro | with_reducible apply vqx_step | with_reducible apply vqm_step | with_reducible refine vkp_free (by decide +kernel) ?_ | with_reducible intro _ | ((first | (with_reducible first | refine .rs ?_ | refine .ds (by kernel_rfl) ?_ | refine .dg (by kernel_rfl) ?_ | refine .rg ?_ | refine .ite ?_ | refine .ret ?_ | refine .skip ?_ | refine .exit ?_ | refine .scope ?_ | refine .seq (.label ?_) | refine .block ?_ | refine .seq ?_)); (try simp only [vO, vQ, ↓vP, vE, vS, vB, vL, vF, vM, vN, vbs_full, Nat.reduceEqDiff, Nat.reduceAdd, Nat.reduceLeDiff, ne_eq, not_false_eq_true, Nat.reduceMul, Nat.reduceSub, Int.toNat_zero, Int.reduceToNat, Try.underlying34, Try.underlying5, Try.underlying3, info34, info5, info3, nadd, nadd1, nadd2, nadd3, n1add, n2add, vT])) | ((simp (disch := first | assumption | omega) only [w64, w8, tg_eq, Go.V.n1, Go.V.n2, Go.V.nn, Int.tdiv_eq_ediv_of_nonneg, Sg.set_same, Sg.set_ne, Sg.set_ne', Sg.del_ne, Sg.del_ne']); (try simp only [vO, vQ, ↓vP, vE, vS, vB, vL, vF, vM, vN, vbs_full, Nat.reduceEqDiff, Nat.reduceAdd, Nat.reduceLeDiff, ne_eq, not_false_eq_true, Nat.reduceMul, Nat.reduceSub, Int.toNat_zero, Int.reduceToNat, Try.underlying34, Try.underlying5, Try.underlying3, info34, info5, info3, nadd, nadd1, nadd2, nadd3, n1add, n2add, vT])) | with_reducible refine vfresh_set ?_ | with_reducible refine vfresh_intro (fun _ _ => ?_) | with_reducible refine vif_intro (fun _ => ?_) (fun _ => ?_) | omega | ((with_reducible first | refine vop_at ?_ | refine vops_at ?_ | refine vquiet_at ?_ | refine vmix_at ?_ | refine Holds_at ?_); simp only [vO, vQ, ↓vP, vE, vS, vB, vL, vF, vM, vN, vbs_full, Nat.reduceEqDiff, Nat.reduceAdd, Nat.reduceLeDiff, ne_eq, not_false_eq_true, Nat.reduceMul, Nat.reduceSub, Int.toNat_zero, Int.reduceToNat, Try.underlying34, Try.underlying5, Try.underlying3, info34, info5, info3, nadd, nadd1, nadd2, nadd3, n1add, n2add, vT]))
    · have hjk : j < k := by omega
      rw [hs hjk]
      exact ⟨j + 1, .sl (.tok _ 1) (bytesL ((be k n).take (j + 1))), _, ⟨⟨by omega, .tok (by assumption)⟩, by omega⟩, (by repeat (first | exact Sg.sub.refl _ | refine Sg.sub.set_both ?_ | refine Sg.sub.set_fresh ?_ (by first | assumption | exact Sg.set_none ‹_› ‹_›) | refine Sg.sub.del_fresh ?_ (by first | assumption | exact Sg.set_none ‹_› ‹_›))), by rw [← be_take k n j hjk, ← bytesL_app]; rfl, i_eq (by omega)⟩
    · obtain rfl : j = k := by omega
      exact ⟨_, .refl _, τ, hτ, by rw [be_all], rfl⟩
set_option maxHeartbeats 1000000 in
set_option maxRecDepth 100000 in
theorem t47 (n : Nat) (σ : Sg) : VCalls Try.prog 47 [.i n] σ (fun x σ' => OwnB (be 8 n) σ x σ') := by
  have h : ∀ σ, VCalls Try.prog 58 [.sl .nil [], .i n, .i 8] σ (fun x σ' => OwnB (be 8 n) σ x σ') := fun σ => t58 n 8 σ (by omega)
  (refine vfun (fun _ => .no) mixed Try.func47 (by kernel_rfl) ?_; simp only [bodyOf, Try.f47, Option.getD_some])
  repeat' (first | with_reducible rfl | exact .inr trivial | with_reducible apply And.intro | with_reducible apply vqx_step | with_reducible apply vqm_step | with_reducible refine vkp_free (by decide +kernel) ?_ | with_reducible intro _ | ((first | (with_reducible first | refine .rs ?_ | refine .ds (by kernel_rfl) ?_ | refine .dg (by kernel_rfl) ?_ | refine .rg ?_ | refine .ite ?_ | refine .ret ?_ | refine .skip ?_ | refine .exit ?_ | refine .scope ?_ | refine .seq (.label ?_) | refine .block ?_ | refine .seq ?_)); (try simp only [vO, vQ, ↓vP, vE, vS, vB, vL, vF, vM, vN, vbs_full, Nat.reduceEqDiff, Nat.reduceAdd, Nat.reduceLeDiff, ne_eq, not_false_eq_true, Nat.reduceMul, Nat.reduceSub, Int.toNat_zero, Int.reduceToNat, Try.underlying34, Try.underlying5, Try.underlying3, info34, info5, info3, nadd, nadd1, nadd2, nadd3, n1add, n2add, vT])) | ((simp (disch := first | assumption | omega) only [w64, w8, tg_eq, Go.V.n1, Go.V.n2, Go.V.nn, Int.tdiv_eq_ediv_of_nonneg, Sg.set_same, Sg.set_ne, Sg.set_ne', Sg.del_ne, Sg.del_ne']); (try simp only [vO, vQ, ↓vP, vE, vS, vB, vL, vF, vM, vN, vbs_full, Nat.reduceEqDiff, Nat.reduceAdd, Nat.reduceLeDiff, ne_eq, not_false_eq_true, Nat.reduceMul, Nat.reduceSub, Int.toNat_zero, Int.reduceToNat, Try.underlying34, Try.underlying5, Try.underlying3, info34, info5, info3, nadd, nadd1, nadd2, nadd3, n1add, n2add, vT])) | ((((with_reducible refine (h _).mono ?_); rintro y σ' ⟨τ, hτ, rfl, rfl⟩)); (try simp only [vO, vQ, ↓vP, vE, vS, vB, vL, vF, vM, vN, vbs_full, Nat.reduceEqDiff, Nat.reduceAdd, Nat.reduceLeDiff, ne_eq, not_false_eq_true, Nat.reduceMul, Nat.reduceSub, Int.toNat_zero, Int.reduceToNat, Try.underlying34, Try.underlying5, Try.underlying3, info34, info5, info3, nadd, nadd1, nadd2, nadd3, n1add, n2add, vT])) | with_reducible refine vfresh_set ?_ | with_reducible refine vfresh_intro (fun _ _ => ?_) | with_reducible refine vif_intro (fun _ => ?_) (fun _ => ?_) | omega | ((with_reducible first | refine vop_at ?_ | refine vops_at ?_ | refine vquiet_at ?_ | refine vmix_at ?_ | refine Holds_at ?_); simp only [vO, vQ, ↓vP, vE, vS, vB, vL, vF, vM, vN, vbs_full, Nat.reduceEqDiff, Nat.reduceAdd, Nat.reduceLeDiff, ne_eq, not_false_eq_true, Nat.reduceMul, Nat.reduceSub, Int.toNat_zero, Int.reduceToNat, Try.underlying34, Try.underlying5, Try.underlying3, info34, info5, info3, nadd, nadd1, nadd2, nadd3, n1add, n2add, vT]))
  all_goals exact ⟨_, .refl _, τ, hτ, rfl, rfl⟩
set_option maxHeartbeats 1000000 in
set_option maxRecDepth 100000 in
theorem t94 (n : Nat) (σ : Sg) (hn : n < 2 ^ 40) : VCalls Try.prog 94 [.i n] σ (fun x σ' => OwnB (be 4 n) σ x σ') := by
  (refine vfun (fun _ => .obj) mixed Try.func94 (by kernel_rfl) ?_; simp only [bodyOf, Try.f94, Option.getD_some])
  repeat' (first | with_reducible rfl | exact .inr trivial | with_reducible apply And.intro | with_reducible apply vqx_step | with_reducible apply vqm_step | with_reducible refine vkp_free (by decide +kernel) ?_ | with_reducible intro _ | ((first | (with_reducible first | refine .rs ?_ | refine .ds (by kernel_rfl) ?_ | refine .dg (by kernel_rfl) ?_ | refine .rg ?_ | refine .ite ?_ | refine .ret ?_ | refine .skip ?_ | refine .exit ?_ | refine .scope ?_ | refine .seq (.label ?_) | refine .block ?_ | refine .seq ?_)); (try simp only [vO, vQ, ↓vP, vE, vS, vB, vL, vF, vM, vN, vbs_full, Nat.reduceEqDiff, Nat.reduceAdd, Nat.reduceLeDiff, ne_eq, not_false_eq_true, Nat.reduceMul, Nat.reduceSub, Int.toNat_zero, Int.reduceToNat, Try.underlying34, Try.underlying5, Try.underlying3, info34, info5, info3, nadd, nadd1, nadd2, nadd3, n1add, n2add, vT])) | ((simp (disch := first | assumption | omega) only [w64, w8, tg_eq, Go.V.n1, Go.V.n2, Go.V.nn, Int.tdiv_eq_ediv_of_nonneg, Sg.set_same, Sg.set_ne, Sg.set_ne', Sg.del_ne, Sg.del_ne']); (try simp only [vO, vQ, ↓vP, vE, vS, vB, vL, vF, vM, vN, vbs_full, Nat.reduceEqDiff, Nat.reduceAdd, Nat.reduceLeDiff, ne_eq, not_false_eq_true, Nat.reduceMul, Nat.reduceSub, Int.toNat_zero, Int.reduceToNat, Try.underlying34, Try.underlying5, Try.underlying3, info34, info5, info3, nadd, nadd1, nadd2, nadd3, n1add, n2add, vT])) | with_reducible refine vfresh_set ?_ | with_reducible refine vfresh_intro (fun _ _ => ?_) | with_reducible refine vif_intro (fun _ => ?_) (fun _ => ?_) | omega | ((with_reducible first | refine vop_at ?_ | refine vops_at ?_ | refine vquiet_at ?_ | refine vmix_at ?_ | refine Holds_at ?_); simp only [vO, vQ, ↓vP, vE, vS, vB, vL, vF, vM, vN, vbs_full, Nat.reduceEqDiff, Nat.reduceAdd, Nat.reduceLeDiff, ne_eq, not_false_eq_true, Nat.reduceMul, Nat.reduceSub, Int.toNat_zero, Int.reduceToNat, Try.underlying34, Try.underlying5, Try.underlying3, info34, info5, info3, nadd, nadd1, nadd2, nadd3, n1add, n2add, vT]))
  refine ⟨_, .refl _, _, by assumption, ?_, rfl⟩
  rw [show (n : Int) / 16777216 = ((n / 256 / 256 / 256 : Nat) : Int) by omega, show (n : Int) / 65536 = ((n / 256 / 256 : Nat) : Int) by omega, show (n : Int) / 256 = ((n / 256 : Nat) : Int) by omega, u8_nat, u8_nat, u8_nat, u8_nat]
  rfl
set_option maxHeartbeats 1000000 in
set_option maxRecDepth 100000 in
theorem t59 (k : Own) (l : List UInt8) (σ : Sg) (hl : l.length ≤ 65536) : VCalls Try.prog 59 [.sl k (bytesL l)] σ (fun x σ' => ∃ y, x = .tup [y, .i 0] ∧ OwnB (be 4 l.length ++ l) σ y σ') := by
  have h : ∀ σ, VCalls Try.prog 58 [.sl .nil [], .i (l.length : Int), .i 4] σ (fun x σ' => OwnB (be 4 l.length) σ x σ') := fun σ => t58 l.length 4 σ (by omega)
  have hb : (be 4 l.length).length = 4 := be_len _ _
  (refine vfun (fun _ => .no) mixed Try.func59 (by kernel_rfl) ?_; simp only [bodyOf, Try.f59, Option.getD_some])
  repeat' (first | with_reducible rfl | exact .inr trivial | with_reducible apply And.intro | with_reducible apply vqx_step | with_reducible apply vqm_step | with_reducible refine vkp_free (by decide +kernel) ?_ | with_reducible intro _ | ((first | (with_reducible first | refine .rs ?_ | refine .ds (by kernel_rfl) ?_ | refine .dg (by kernel_rfl) ?_ | refine .rg ?_ | refine .ite ?_ | refine .ret ?_ | refine .skip ?_ | refine .exit ?_ | refine .scope ?_ | refine .seq (.label ?_) | refine .block ?_ | refine .seq ?_)); (try simp only [vO, vQ, ↓vP, vE, vS, vB, vL, vF, vM, vN, vbs_full, Nat.reduceEqDiff, Nat.reduceAdd, Nat.reduceLeDiff, ne_eq, not_false_eq_true, Nat.reduceMul, Nat.reduceSub, Int.toNat_zero, Int.reduceToNat, Try.underlying34, Try.underlying5, Try.underlying3, info34, info5, info3, nadd, nadd1, nadd2, nadd3, n1add, n2add, vT])) | ((simp (disch := first | assumption | omega) only [w64, w8, tg_eq, Go.V.n1, Go.V.n2, Go.V.nn, Int.tdiv_eq_ediv_of_nonneg, Sg.set_same, Sg.set_ne, Sg.set_ne', Sg.del_ne, Sg.del_ne']); (try simp only [vO, vQ, ↓vP, vE, vS, vB, vL, vF, vM, vN, vbs_full, Nat.reduceEqDiff, Nat.reduceAdd, Nat.reduceLeDiff, ne_eq, not_false_eq_true, Nat.reduceMul, Nat.reduceSub, Int.toNat_zero, Int.reduceToNat, Try.underlying34, Try.underlying5, Try.underlying3, info34, info5, info3, nadd, nadd1, nadd2, nadd3, n1add, n2add, vT])) | ((((with_reducible refine (h _).mono ?_); rintro y σ' ⟨τ, hτ, rfl, rfl⟩)); (try simp only [vO, vQ, ↓vP, vE, vS, vB, vL, vF, vM, vN, vbs_full, Nat.reduceEqDiff, Nat.reduceAdd, Nat.reduceLeDiff, ne_eq, not_false_eq_true, Nat.reduceMul, Nat.reduceSub, Int.toNat_zero, Int.reduceToNat, Try.underlying34, Try.underlying5, Try.underlying3, info34, info5, info3, nadd, nadd1, nadd2, nadd3, n1add, n2add, vT])) | with_reducible refine vfresh_set ?_ | with_reducible refine vfresh_intro (fun _ _ => ?_) | with_reducible refine vif_intro (fun _ => ?_) (fun _ => ?_) | omega | ((with_reducible first | refine vop_at ?_ | refine vops_at ?_ | refine vquiet_at ?_ | refine vmix_at ?_ | refine Holds_at ?_); simp only [vO, vQ, ↓vP, vE, vS, vB, vL, vF, vM, vN, vbs_full, Nat.reduceEqDiff, Nat.reduceAdd, Nat.reduceLeDiff, ne_eq, not_false_eq_true, Nat.reduceMul, Nat.reduceSub, Int.toNat_zero, Int.reduceToNat, Try.underlying34, Try.underlying5, Try.underlying3, info34, info5, info3, nadd, nadd1, nadd2, nadd3, n1add, n2add, vT]))
  all_goals exact ⟨_, (by repeat (first | exact Sg.sub.refl _ | refine Sg.sub.set_both ?_ | refine Sg.sub.set_fresh ?_ (by first | assumption | exact Sg.set_none ‹_› ‹_›) | refine Sg.sub.del_fresh ?_ (by first | assumption | exact Sg.set_none ‹_› ‹_›))), _, rfl, _, by assumption, rfl, rfl⟩
set_option maxHeartbeats 1000000 in
set_option maxRecDepth 100000 in
theorem t95 (k : Own) (l : List UInt8) (σ : Sg) (hl : l.length ≤ 65536) : VCalls Try.prog 95 [.sl k (bytesL l)] σ (fun x σ' => ∃ y, x = .tup [y, .i 0] ∧ OwnB (be 4 l.length ++ l) σ y σ') := by
  have hb : (be 4 l.length).length = 4 := be_len _ _
  (refine vfun (fun _ => .no) mixed Try.func95 (by kernel_rfl) ?_; simp only [bodyOf, Try.f95, Option.getD_some])
  repeat' (first | with_reducible rfl | exact .inr trivial | with_reducible apply And.intro | with_reducible apply vqx_step | with_reducible apply vqm_step | with_reducible refine vkp_free (by decide +kernel) ?_ | with_reducible intro _ | ((first | (with_reducible first | refine .rs ?_ | refine .ds (by kernel_rfl) ?_ | refine .dg (by kernel_rfl) ?_ | refine .rg ?_ | refine .ite ?_ | refine .ret ?_ | refine .skip ?_ | refine .exit ?_ | refine .scope ?_ | refine .seq (.label ?_) | refine .block ?_ | refine .seq ?_)); (try simp only [vO, vQ, ↓vP, vE, vS, vB, vL, vF, vM, vN, vbs_full, Nat.reduceEqDiff, Nat.reduceAdd, Nat.reduceLeDiff, ne_eq, not_false_eq_true, Nat.reduceMul, Nat.reduceSub, Int.toNat_zero, Int.reduceToNat, Try.underlying34, Try.underlying5, Try.underlying3, info34, info5, info3, nadd, nadd1, nadd2, nadd3, n1add, n2add, vT])) | ((simp (disch := first | assumption | omega) only [w64, w8, tg_eq, Go.V.n1, Go.V.n2, Go.V.nn, Int.tdiv_eq_ediv_of_nonneg, Sg.set_same, Sg.set_ne, Sg.set_ne', Sg.del_ne, Sg.del_ne']); (try simp only [vO, vQ, ↓vP, vE, vS, vB, vL, vF, vM, vN, vbs_full, Nat.reduceEqDiff, Nat.reduceAdd, Nat.reduceLeDiff, ne_eq, not_false_eq_true, Nat.reduceMul, Nat.reduceSub, Int.toNat_zero, Int.reduceToNat, Try.underlying34, Try.underlying5, Try.underlying3, info34, info5, info3, nadd, nadd1, nadd2, nadd3, n1add, n2add, vT])) | ((((with_reducible refine (t94 _ _ (by omega)).mono ?_); rintro y σ' ⟨τ, hτ, rfl, rfl⟩)); (try simp only [vO, vQ, ↓vP, vE, vS, vB, vL, vF, vM, vN, vbs_full, Nat.reduceEqDiff, Nat.reduceAdd, Nat.reduceLeDiff, ne_eq, not_false_eq_true, Nat.reduceMul, Nat.reduceSub, Int.toNat_zero, Int.reduceToNat, Try.underlying34, Try.underlying5, Try.underlying3, info34, info5, info3, nadd, nadd1, nadd2, nadd3, n1add, n2add, vT])) | with_reducible refine vfresh_set ?_ | with_reducible refine vfresh_intro (fun _ _ => ?_) | with_reducible refine vif_intro (fun _ => ?_) (fun _ => ?_) | omega | ((with_reducible first | refine vop_at ?_ | refine vops_at ?_ | refine vquiet_at ?_ | refine vmix_at ?_ | refine Holds_at ?_); simp only [vO, vQ, ↓vP, vE, vS, vB, vL, vF, vM, vN, vbs_full, Nat.reduceEqDiff, Nat.reduceAdd, Nat.reduceLeDiff, ne_eq, not_false_eq_true, Nat.reduceMul, Nat.reduceSub, Int.toNat_zero, Int.reduceToNat, Try.underlying34, Try.underlying5, Try.underlying3, info34, info5, info3, nadd, nadd1, nadd2, nadd3, n1add, n2add, vT]))
  all_goals exact ⟨_, (by repeat (first | exact Sg.sub.refl _ | refine Sg.sub.set_both ?_ | refine Sg.sub.set_fresh ?_ (by first | assumption | exact Sg.set_none ‹_› ‹_›) | refine Sg.sub.del_fresh ?_ (by first | assumption | exact Sg.set_none ‹_› ‹_›))), _, rfl, _, by assumption, rfl, rfl⟩
end Go.Proofs.Ytkbfngepdgdecaa

set_option linter.unusedSimpArgs false
set_option linter.unusedVariables false
namespace Go.Cert
/-- How many may be faulty: n is 3f+1, f in 1..5. -/
def isN (n : Int) : Prop := 4 ≤ n ∧ n ≤ 16 ∧ n % 3 = 1
instance (n : Int) : Decidable (isN n) := by unfold isN; infer_instance
def fOf (n : Int) : Int := if isN n then n / 3 else 0
def fErr (n : Int) : Int := if isN n then 0 else 1
def most (n : Int) : Int := if isN n then 2 * (n / 3) + 1 else 0
theorem fErr_eq (n : Int) : (fErr n = 0) = isN n := by unfold fErr; by_cases h : isN n <;> simp [h]
theorem fOf_yes {n : Int} (h : isN n) : fOf n = n / 3 ∧ 4 ≤ n ∧ n ≤ 16 := ⟨by simp [fOf, h], h.1, h.2.1⟩
end Go.Cert
namespace Go.Proofs.Ytkbfngepdgdecaa
open Go Go.V Go.Cert
set_option maxHeartbeats 1000000 in
set_option maxRecDepth 100000 in
theorem t61 (n : Int) (σ : Sg) : VCalls Try.prog 61 [.i n] σ (fun x σ' => x = .tup [.i (fOf n), .i (fErr n)] ∧ σ' = σ) := by
  (refine vfun (fun _ => .no) mixed Try.func61 (by kernel_rfl) ?_; simp only [bodyOf, Try.f61, Option.getD_some])
  repeat' (first | with_reducible rfl | exact .inr trivial | with_reducible apply And.intro | with_reducible apply vqx_step | with_reducible apply vqm_step | with_reducible refine vkp_free (by decide +kernel) ?_ | with_reducible intro _ | ((first | (with_reducible first | refine .rs ?_ | refine .ds (by kernel_rfl) ?_ | refine .dg (by kernel_rfl) ?_ | refine .rg ?_ | refine .ite ?_ | refine .ret ?_ | refine .skip ?_ | refine .exit ?_ | refine .scope ?_ | refine .seq (.label ?_) | refine .block ?_ | refine .seq ?_)); (try simp only [vO, vQ, ↓vP, vE, vS, vB, vL, vF, vM, vN, vbs_full, Nat.reduceEqDiff, Nat.reduceAdd, Nat.reduceLeDiff, ne_eq, not_false_eq_true, Nat.reduceMul, Nat.reduceSub, Int.toNat_zero, Int.reduceToNat, Try.underlying34, Try.underlying5, Try.underlying3, info34, info5, info3, nadd, nadd1, nadd2, nadd3, n1add, n2add, vT])) | ((simp (disch := first | assumption | omega) only [w64, w8, tg_eq, Go.V.n1, Go.V.n2, Go.V.nn, Int.tdiv_eq_ediv_of_nonneg, Sg.set_same, Sg.set_ne, Sg.set_ne', Sg.del_ne, Sg.del_ne']); (try simp only [vO, vQ, ↓vP, vE, vS, vB, vL, vF, vM, vN, vbs_full, Nat.reduceEqDiff, Nat.reduceAdd, Nat.reduceLeDiff, ne_eq, not_false_eq_true, Nat.reduceMul, Nat.reduceSub, Int.toNat_zero, Int.reduceToNat, Try.underlying34, Try.underlying5, Try.underlying3, info34, info5, info3, nadd, nadd1, nadd2, nadd3, n1add, n2add, vT])) | with_reducible refine vfresh_set ?_ | with_reducible refine vfresh_intro (fun _ _ => ?_) | with_reducible refine vif_intro (fun _ => ?_) (fun _ => ?_) | omega | ((with_reducible first | refine vop_at ?_ | refine vops_at ?_ | refine vquiet_at ?_ | refine vmix_at ?_ | refine Holds_at ?_); simp only [vO, vQ, ↓vP, vE, vS, vB, vL, vF, vM, vN, vbs_full, Nat.reduceEqDiff, Nat.reduceAdd, Nat.reduceLeDiff, ne_eq, not_false_eq_true, Nat.reduceMul, Nat.reduceSub, Int.toNat_zero, Int.reduceToNat, Try.underlying34, Try.underlying5, Try.underlying3, info34, info5, info3, nadd, nadd1, nadd2, nadd3, n1add, n2add, vT]))
  all_goals have ht : 4 ≤ n → n.tmod 3 = n % 3 := fun h => Int.tmod_eq_emod_of_nonneg (by omega)
  all_goals refine ⟨_, .refl _, ?_, rfl⟩
  · simp [fOf, fErr, isN]; omega
  · simp [fOf, fErr, isN]; omega
  · have : isN n := ⟨by omega, by omega, by omega⟩
    simp [fOf, fErr, this]
  · have : ¬ isN n := fun h => by have := h.2.2; omega
    simp [fOf, fErr, this]
set_option maxHeartbeats 1000000 in
set_option maxRecDepth 100000 in
theorem t66 (n : Int) (σ : Sg) : VCalls Try.prog 66 [.i n] σ (fun x σ' => x = .tup [.i (fOf n), .i (fErr n)] ∧ σ' = σ) := by
  (refine vfun (fun _ => .no) mixed Try.func66 (by kernel_rfl) ?_; simp only [bodyOf, Try.f66, Option.getD_some])
  repeat' (first | with_reducible rfl | exact .inr trivial | with_reducible apply And.intro | with_reducible apply vqx_step | with_reducible apply vqm_step | with_reducible refine vkp_free (by decide +kernel) ?_ | with_reducible intro _ | ((first | (with_reducible first | refine .rs ?_ | refine .ds (by kernel_rfl) ?_ | refine .dg (by kernel_rfl) ?_ | refine .rg ?_ | refine .ite ?_ | refine .ret ?_ | refine .skip ?_ | refine .exit ?_ | refine .scope ?_ | refine .seq (.label ?_) | refine .block ?_ | refine .seq ?_)); (try simp only [vO, vQ, ↓vP, vE, vS, vB, vL, vF, vM, vN, vbs_full, Nat.reduceEqDiff, Nat.reduceAdd, Nat.reduceLeDiff, ne_eq, not_false_eq_true, Nat.reduceMul, Nat.reduceSub, Int.toNat_zero, Int.reduceToNat, Try.underlying34, Try.underlying5, Try.underlying3, info34, info5, info3, nadd, nadd1, nadd2, nadd3, n1add, n2add, vT])) | ((simp (disch := first | assumption | omega) only [w64, w8, tg_eq, Go.V.n1, Go.V.n2, Go.V.nn, Int.tdiv_eq_ediv_of_nonneg, Sg.set_same, Sg.set_ne, Sg.set_ne', Sg.del_ne, Sg.del_ne']); (try simp only [vO, vQ, ↓vP, vE, vS, vB, vL, vF, vM, vN, vbs_full, Nat.reduceEqDiff, Nat.reduceAdd, Nat.reduceLeDiff, ne_eq, not_false_eq_true, Nat.reduceMul, Nat.reduceSub, Int.toNat_zero, Int.reduceToNat, Try.underlying34, Try.underlying5, Try.underlying3, info34, info5, info3, nadd, nadd1, nadd2, nadd3, n1add, n2add, vT])) | with_reducible refine vfresh_set ?_ | with_reducible refine vfresh_intro (fun _ _ => ?_) | with_reducible refine vif_intro (fun _ => ?_) (fun _ => ?_) | omega | ((with_reducible first | refine vop_at ?_ | refine vops_at ?_ | refine vquiet_at ?_ | refine vmix_at ?_ | refine Holds_at ?_); simp only [vO, vQ, ↓vP, vE, vS, vB, vL, vF, vM, vN, vbs_full, Nat.reduceEqDiff, Nat.reduceAdd, Nat.reduceLeDiff, ne_eq, not_false_eq_true, Nat.reduceMul, Nat.reduceSub, Int.toNat_zero, Int.reduceToNat, Try.underlying34, Try.underlying5, Try.underlying3, info34, info5, info3, nadd, nadd1, nadd2, nadd3, n1add, n2add, vT]))
  refine VW.loop3 (1 : Nat) () () (fun j _ _ => 1 ≤ j ∧ j ≤ 6 ∧ ∀ i : Nat, 1 ≤ i → i < j → n ≠ 3 * i + 1) (fun j _ _ => [(0, .i n), (4, .i j)]) (fun _ _ _ => σ) (fun j _ _ => 6 - j) ⟨by omega, by omega, fun i h1 h2 => by omega⟩ (.refl _) ?_ ?_
  · simp only [vO, vQ, ↓vP, vE, vS, vB, vL, vF, vM, vN, vbs_full, Nat.reduceEqDiff, Nat.reduceAdd, Nat.reduceLeDiff, ne_eq, not_false_eq_true, Nat.reduceMul, Nat.reduceSub, Int.toNat_zero, Int.reduceToNat, vT]
    rfl
  rintro j _ _ ⟨h1, h2, h3⟩
  repeat' (first | with_reducible rfl | exact .inr trivial | with_reducible apply And.intro | with_reducible apply vqx_step | with_reducible apply vqm_step | with_reducible refine vkp_free (by decide +kernel) ?_ | with_reducible intro _ | ((first | (with_reducible first | refine .rs ?_ | refine .ds (by kernel_rfl) ?_ | refine .dg (by kernel_rfl) ?_ | refine .rg ?_ | refine .ite ?_ | refine .ret ?_ | refine .skip ?_ | refine .exit ?_ | refine .scope ?_ | refine .seq (.label ?_) | refine .block ?_ | refine .seq ?_)); (try simp only [vO, vQ, ↓vP, vE, vS, vB, vL, vF, vM, vN, vbs_full, Nat.reduceEqDiff, Nat.reduceAdd, Nat.reduceLeDiff, ne_eq, not_false_eq_true, Nat.reduceMul, Nat.reduceSub, Int.toNat_zero, Int.reduceToNat, Try.underlying34, Try.underlying5, Try.underlying3, info34, info5, info3, nadd, nadd1, nadd2, nadd3, n1add, n2add, vT])) | ((simp (disch := first | assumption | omega) only [w64, w8, tg_eq, Go.V.n1, Go.V.n2, Go.V.nn, Int.tdiv_eq_ediv_of_nonneg, Sg.set_same, Sg.set_ne, Sg.set_ne', Sg.del_ne, Sg.del_ne']); (try simp only [vO, vQ, ↓vP, vE, vS, vB, vL, vF, vM, vN, vbs_full, Nat.reduceEqDiff, Nat.reduceAdd, Nat.reduceLeDiff, ne_eq, not_false_eq_true, Nat.reduceMul, Nat.reduceSub, Int.toNat_zero, Int.reduceToNat, Try.underlying34, Try.underlying5, Try.underlying3, info34, info5, info3, nadd, nadd1, nadd2, nadd3, n1add, n2add, vT])) | with_reducible refine vfresh_set ?_ | with_reducible refine vfresh_intro (fun _ _ => ?_) | with_reducible refine vif_intro (fun _ => ?_) (fun _ => ?_) | omega | ((with_reducible first | refine vop_at ?_ | refine vops_at ?_ | refine vquiet_at ?_ | refine vmix_at ?_ | refine Holds_at ?_); simp only [vO, vQ, ↓vP, vE, vS, vB, vL, vF, vM, vN, vbs_full, Nat.reduceEqDiff, Nat.reduceAdd, Nat.reduceLeDiff, ne_eq, not_false_eq_true, Nat.reduceMul, Nat.reduceSub, Int.toNat_zero, Int.reduceToNat, Try.underlying34, Try.underlying5, Try.underlying3, info34, info5, info3, nadd, nadd1, nadd2, nadd3, n1add, n2add, vT]))
  · refine ⟨_, .refl _, ?_, rfl⟩
    have hn : isN n := ⟨by omega, by omega, by omega⟩
    have : n / 3 = j := by omega
    simp [fOf, fErr, hn, this]
  · refine ⟨j + 1, (), (), ⟨⟨by omega, by omega, fun i h4 h5 => ?_⟩, by omega⟩, .refl _, rfl⟩
    rcases Nat.lt_or_ge i j with h6 | h6
    · exact h3 i h4 h6
    · obtain rfl : i = j := by omega
      omega
  · refine ⟨_, .refl _, ?_, rfl⟩
    have hn : ¬ isN n := fun h => by
      obtain ⟨h4, h5, h6⟩ := h
      exact h3 (n / 3).toNat (by omega) (by omega) (by omega)
    simp [fOf, fErr, hn]
set_option maxHeartbeats 1000000 in
set_option maxRecDepth 100000 in
theorem t63 (n : Int) (σ : Sg) : VCalls Try.prog 63 [.i n] σ (fun x σ' => x = .i (most n) ∧ σ' = σ) := by
  (refine vfun (fun _ => .no) mixed Try.func63 (by kernel_rfl) ?_; simp only [bodyOf, Try.f63, Option.getD_some])
  repeat' (first | with_reducible rfl | exact .inr trivial | with_reducible apply And.intro | with_reducible apply vqx_step | with_reducible apply vqm_step | with_reducible refine vkp_free (by decide +kernel) ?_ | with_reducible intro _ | ((first | (with_reducible first | refine .rs ?_ | refine .ds (by kernel_rfl) ?_ | refine .dg (by kernel_rfl) ?_ | refine .rg ?_ | refine .ite ?_ | refine .ret ?_ | refine .skip ?_ | refine .exit ?_ | refine .scope ?_ | refine .seq (.label ?_) | refine .block ?_ | refine .seq ?_)); (try simp only [vO, vQ, ↓vP, vE, vS, vB, vL, vF, vM, vN, vbs_full, Nat.reduceEqDiff, Nat.reduceAdd, Nat.reduceLeDiff, ne_eq, not_false_eq_true, Nat.reduceMul, Nat.reduceSub, Int.toNat_zero, Int.reduceToNat, Try.underlying34, Try.underlying5, Try.underlying3, info34, info5, info3, nadd, nadd1, nadd2, nadd3, n1add, n2add, vT])) | ((simp (disch := first | assumption | omega) only [w64, w8, tg_eq, Go.V.n1, Go.V.n2, Go.V.nn, Int.tdiv_eq_ediv_of_nonneg, Sg.set_same, Sg.set_ne, Sg.set_ne', Sg.del_ne, Sg.del_ne']); (try simp only [vO, vQ, ↓vP, vE, vS, vB, vL, vF, vM, vN, vbs_full, Nat.reduceEqDiff, Nat.reduceAdd, Nat.reduceLeDiff, ne_eq, not_false_eq_true, Nat.reduceMul, Nat.reduceSub, Int.toNat_zero, Int.reduceToNat, Try.underlying34, Try.underlying5, Try.underlying3, info34, info5, info3, nadd, nadd1, nadd2, nadd3, n1add, n2add, vT])) | ((((with_reducible refine (t61 _ _).mono ?_); rintro _ _ ⟨rfl, rfl⟩)); (try simp only [vO, vQ, ↓vP, vE, vS, vB, vL, vF, vM, vN, vbs_full, Nat.reduceEqDiff, Nat.reduceAdd, Nat.reduceLeDiff, ne_eq, not_false_eq_true, Nat.reduceMul, Nat.reduceSub, Int.toNat_zero, Int.reduceToNat, Try.underlying34, Try.underlying5, Try.underlying3, info34, info5, info3, nadd, nadd1, nadd2, nadd3, n1add, n2add, vT])) | with_reducible refine vfresh_set ?_ | with_reducible refine vfresh_intro (fun _ _ => ?_) | with_reducible refine vif_intro (fun _ => ?_) (fun _ => ?_) | omega | ((with_reducible first | refine vop_at ?_ | refine vops_at ?_ | refine vquiet_at ?_ | refine vmix_at ?_ | refine Holds_at ?_); simp only [vO, vQ, ↓vP, vE, vS, vB, vL, vF, vM, vN, vbs_full, Nat.reduceEqDiff, Nat.reduceAdd, Nat.reduceLeDiff, ne_eq, not_false_eq_true, Nat.reduceMul, Nat.reduceSub, Int.toNat_zero, Int.reduceToNat, Try.underlying34, Try.underlying5, Try.underlying3, info34, info5, info3, nadd, nadd1, nadd2, nadd3, n1add, n2add, vT]))
  · have hn := (fErr_eq n).mp ‹_›
    obtain ⟨h1, h2, h3⟩ := fOf_yes hn
    refine ⟨_, .refl _, ?_, rfl⟩
    rw [h1, w64 (n := 2 * (n / 3)) (by omega) (by omega), w64 (by omega) (by omega)]
    simp [most, hn]
  · have hn : ¬ isN n := fun h => ‹¬ _› ((fErr_eq n).mpr h)
    exact ⟨_, .refl _, by simp [most, hn], rfl⟩
set_option maxHeartbeats 1000000 in
set_option maxRecDepth 100000 in
theorem t39 (n : Int) (σ : Sg) : VCalls Try.prog 39 [.i n] σ (fun x σ' => x = .i (most n) ∧ σ' = σ) := by
  (refine vfun (fun _ => .no) mixed Try.func39 (by kernel_rfl) ?_; simp only [bodyOf, Try.f39, Option.getD_some])
  repeat' (first | with_reducible rfl | exact .inr trivial | with_reducible apply And.intro | with_reducible apply vqx_step | with_reducible apply vqm_step | with_reducible refine vkp_free (by decide +kernel) ?_ | with_reducible intro _ | ((first | (with_reducible first | refine .rs ?_ | refine .ds (by kernel_rfl) ?_ | refine .dg (by kernel_rfl) ?_ | refine .rg ?_ | refine .ite ?_ | refine .ret ?_ | refine .skip ?_ | refine .exit ?_ | refine .scope ?_ | refine .seq (.label ?_) | refine .block ?_ | refine .seq ?_)); (try simp only [vO, vQ, ↓vP, vE, vS, vB, vL, vF, vM, vN, vbs_full, Nat.reduceEqDiff, Nat.reduceAdd, Nat.reduceLeDiff, ne_eq, not_false_eq_true, Nat.reduceMul, Nat.reduceSub, Int.toNat_zero, Int.reduceToNat, Try.underlying34, Try.underlying5, Try.underlying3, info34, info5, info3, nadd, nadd1, nadd2, nadd3, n1add, n2add, vT])) | ((simp (disch := first | assumption | omega) only [w64, w8, tg_eq, Go.V.n1, Go.V.n2, Go.V.nn, Int.tdiv_eq_ediv_of_nonneg, Sg.set_same, Sg.set_ne, Sg.set_ne', Sg.del_ne, Sg.del_ne']); (try simp only [vO, vQ, ↓vP, vE, vS, vB, vL, vF, vM, vN, vbs_full, Nat.reduceEqDiff, Nat.reduceAdd, Nat.reduceLeDiff, ne_eq, not_false_eq_true, Nat.reduceMul, Nat.reduceSub, Int.toNat_zero, Int.reduceToNat, Try.underlying34, Try.underlying5, Try.underlying3, info34, info5, info3, nadd, nadd1, nadd2, nadd3, n1add, n2add, vT])) | ((((with_reducible refine (t66 _ _).mono ?_); rintro _ _ ⟨rfl, rfl⟩)); (try simp only [vO, vQ, ↓vP, vE, vS, vB, vL, vF, vM, vN, vbs_full, Nat.reduceEqDiff, Nat.reduceAdd, Nat.reduceLeDiff, ne_eq, not_false_eq_true, Nat.reduceMul, Nat.reduceSub, Int.toNat_zero, Int.reduceToNat, Try.underlying34, Try.underlying5, Try.underlying3, info34, info5, info3, nadd, nadd1, nadd2, nadd3, n1add, n2add, vT])) | with_reducible refine vfresh_set ?_ | with_reducible refine vfresh_intro (fun _ _ => ?_) | with_reducible refine vif_intro (fun _ => ?_) (fun _ => ?_) | omega | ((with_reducible first | refine vop_at ?_ | refine vops_at ?_ | refine vquiet_at ?_ | refine vmix_at ?_ | refine Holds_at ?_); simp only [vO, vQ, ↓vP, vE, vS, vB, vL, vF, vM, vN, vbs_full, Nat.reduceEqDiff, Nat.reduceAdd, Nat.reduceLeDiff, ne_eq, not_false_eq_true, Nat.reduceMul, Nat.reduceSub, Int.toNat_zero, Int.reduceToNat, Try.underlying34, Try.underlying5, Try.underlying3, info34, info5, info3, nadd, nadd1, nadd2, nadd3, n1add, n2add, vT]))
  · have hn := (fErr_eq n).mp ‹_›
    obtain ⟨h1, h2, h3⟩ := fOf_yes hn
    refine ⟨_, .refl _, ?_, rfl⟩
    rw [h1, w64 (n := 2 * (n / 3)) (by omega) (by omega), w64 (by omega) (by omega)]
    simp [most, hn]
  · have hn : ¬ isN n := fun h => ‹¬ _› ((fErr_eq n).mpr h)
    exact ⟨_, .refl _, by simp [most, hn], rfl⟩
set_option maxHeartbeats 1000000 in
set_option maxRecDepth 100000 in
theorem t65 (n : Int) (σ : Sg) : VCalls Try.prog 65 [.i n] σ (fun x σ' => x = .val (.int .u64 (if 0 ≤ n ∧ n ≤ 65535 then n else 0)) ∧ σ' = σ) := by
  (refine vfun (fun _ => .no) mixed Try.func65 (by kernel_rfl) ?_; simp only [bodyOf, Try.f65, Option.getD_some])
  repeat' (first | with_reducible rfl | exact .inr trivial | with_reducible apply And.intro | with_reducible apply vqx_step | with_reducible apply vqm_step | with_reducible refine vkp_free (by decide +kernel) ?_ | with_reducible intro _ | ((first | (with_reducible first | refine .rs ?_ | refine .ds (by kernel_rfl) ?_ | refine .dg (by kernel_rfl) ?_ | refine .rg ?_ | refine .ite ?_ | refine .ret ?_ | refine .skip ?_ | refine .exit ?_ | refine .scope ?_ | refine .seq (.label ?_) | refine .block ?_ | refine .seq ?_)); (try simp only [vO, vQ, ↓vP, vE, vS, vB, vL, vF, vM, vN, vbs_full, Nat.reduceEqDiff, Nat.reduceAdd, Nat.reduceLeDiff, ne_eq, not_false_eq_true, Nat.reduceMul, Nat.reduceSub, Int.toNat_zero, Int.reduceToNat, Try.underlying34, Try.underlying5, Try.underlying3, info34, info5, info3, Try.underlying106, nadd, nadd1, nadd2, nadd3, n1add, n2add, vT])) | ((simp (disch := first | assumption | omega) only [w64, w8, tg_eq, Go.V.n1, Go.V.n2, Go.V.nn, Int.tdiv_eq_ediv_of_nonneg, Sg.set_same, Sg.set_ne, Sg.set_ne', Sg.del_ne, Sg.del_ne']); (try simp only [vO, vQ, ↓vP, vE, vS, vB, vL, vF, vM, vN, vbs_full, Nat.reduceEqDiff, Nat.reduceAdd, Nat.reduceLeDiff, ne_eq, not_false_eq_true, Nat.reduceMul, Nat.reduceSub, Int.toNat_zero, Int.reduceToNat, Try.underlying34, Try.underlying5, Try.underlying3, info34, info5, info3, Try.underlying106, nadd, nadd1, nadd2, nadd3, n1add, n2add, vT])) | with_reducible refine vfresh_set ?_ | with_reducible refine vfresh_intro (fun _ _ => ?_) | with_reducible refine vif_intro (fun _ => ?_) (fun _ => ?_) | omega | ((with_reducible first | refine vop_at ?_ | refine vops_at ?_ | refine vquiet_at ?_ | refine vmix_at ?_ | refine Holds_at ?_); simp only [vO, vQ, ↓vP, vE, vS, vB, vL, vF, vM, vN, vbs_full, Nat.reduceEqDiff, Nat.reduceAdd, Nat.reduceLeDiff, ne_eq, not_false_eq_true, Nat.reduceMul, Nat.reduceSub, Int.toNat_zero, Int.reduceToNat, Try.underlying34, Try.underlying5, Try.underlying3, info34, info5, info3, Try.underlying106, nadd, nadd1, nadd2, nadd3, n1add, n2add, vT]))
  all_goals refine ⟨_, .refl _, ?_, rfl⟩
  · rw [if_neg (by omega)]
  · rw [if_neg (by omega)]
  · rw [if_pos (by omega)]
    rw [show IntKind.u64.wrap n = n from by
      have h1 : IntKind.u64.signed = false := rfl
      have h2 : IntKind.u64.bits = 64 := rfl
      unfold IntKind.wrap
      rw [h1, h2]
      show n % 18446744073709551616 = n
      omega]
end Go.Proofs.Ytkbfngepdgdecaa

set_option linter.unusedSimpArgs false
set_option linter.unusedVariables false
namespace Go.Cert
open Go.V
/-- How many of the first n bits of s are set. -/
def cnt : Nat → Nat → Nat
  | 0, _ => 0
  | n + 1, s => cnt n s + s / 2 ^ n % 2
theorem bit_mod (s n i : Nat) : s % 2 ^ n / 2 ^ i % 2 = if i < n then s / 2 ^ i % 2 else 0 := by
  have h := Nat.testBit_mod_two_pow s n i
  rw [Nat.testBit_eq_decide_div_mod_eq, Nat.testBit_eq_decide_div_mod_eq] at h
  have h1 := Nat.mod_two_eq_zero_or_one (s / 2 ^ i)
  have h2 := Nat.mod_two_eq_zero_or_one (s % 2 ^ n / 2 ^ i)
  split
  · rename_i hi
    simp only [hi, decide_true, Bool.true_and, decide_eq_decide] at h
    omega
  · rename_i hi
    simp only [hi, decide_false, Bool.false_and, decide_eq_false_iff_not] at h
    omega
theorem cnt_mod (s n : Nat) : ∀ m, cnt m (s % 2 ^ n) = cnt (min m n) s
  | 0 => by simp [cnt]
  | m + 1 => by
    rw [cnt, cnt_mod s n m, bit_mod]
    split
    · rename_i h
      rw [Nat.min_eq_left (by omega), Nat.min_eq_left (by omega), cnt]
    · rename_i h
      rw [Nat.min_eq_right (by omega), Nat.min_eq_right (by omega)]
      omega
def a64 (a b : Int) : Int := IntKind.u64.wrap ↑(BitVec.ofInt IntKind.u64.bits a &&& BitVec.ofInt IntKind.u64.bits b).toNat
def sh (a : Int) (k : Nat) : Int := a.fdiv (2 ^ (min k IntKind.u64.bits))
def sw1 (x : Int) : Int := IntKind.u64.wrap (a64 (sh x 1) 6148914691236517205 + a64 x 6148914691236517205)
def sw2 (x : Int) : Int := IntKind.u64.wrap (a64 (sh x 2) 3689348814741910323 + a64 x 3689348814741910323)
def sw3 (x : Int) : Int := a64 (IntKind.u64.wrap (sh x 4 + x)) 1085102592571150095
def sw4 (x : Int) (k : Nat) : Int := IntKind.u64.wrap (x + sh x k)
def sw (x : Int) : Int := IntKind.i64.wrap ↑(BitVec.ofInt IntKind.i64.bits (IntKind.i64.wrap (sw4 (sw4 (sw4 (sw3 (sw2 (sw1 x))) 8) 16) 32)) &&& BitVec.ofInt IntKind.i64.bits 127).toNat
theorem u64_nat {n : Nat} (h : n < 18446744073709551616) : IntKind.u64.wrap (n : Int) = (n : Int) := by
  have h1 : IntKind.u64.signed = false := rfl
  have h2 : IntKind.u64.bits = 64 := rfl
  unfold IntKind.wrap
  rw [h1, h2]
  show (n : Int) % 18446744073709551616 = n
  omega
theorem i64_nat {n : Nat} (h : n < 9223372036854775808) : IntKind.i64.wrap (n : Int) = (n : Int) := w64 (by omega) (by omega)
theorem and_nat {a b : Nat} (ha : a < 18446744073709551616) (hb : b < 18446744073709551616) : (BitVec.ofInt 64 (a : Int) &&& BitVec.ofInt 64 (b : Int)).toNat = a &&& b := by
  rw [BitVec.toNat_and, BitVec.ofInt_natCast, BitVec.ofInt_natCast, BitVec.toNat_ofNat, BitVec.toNat_ofNat, Nat.mod_eq_of_lt ha, Nat.mod_eq_of_lt hb]
theorem a64_nat {a b : Nat} (ha : a < 18446744073709551616) (hb : b < 18446744073709551616) : a64 (a : Int) (b : Int) = ((a &&& b : Nat) : Int) := by
  unfold a64
  rw [show IntKind.u64.bits = 64 from rfl, and_nat ha hb, u64_nat (Nat.lt_of_le_of_lt Nat.and_le_right hb)]
theorem sh_nat (a k : Nat) (hk : k ≤ 64) : sh (a : Int) k = ((a / 2 ^ k : Nat) : Int) := by
  unfold sh
  rw [show IntKind.u64.bits = 64 from rfl, Nat.min_eq_left hk, pow_cast, ← Int.ofNat_fdiv]
def n1 (x : Nat) : Nat := (x / 2 &&& 6148914691236517205) + (x &&& 6148914691236517205)
def n2 (x : Nat) : Nat := (x / 4 &&& 3689348814741910323) + (x &&& 3689348814741910323)
def n3 (x : Nat) : Nat := x / 16 + x &&& 1085102592571150095
def swT3 (c : Nat) : Nat := c + c / 4294967296 &&& 127
def swT2 (b : Nat) : Nat := swT3 (b + b / 65536)
def swT (a : Nat) : Nat := swT2 (a + a / 256)
def swN (x : Nat) : Nat := swT (n3 (n2 (n1 x)))
theorem sw4_nat (y k m : Nat) (hk : k ≤ 64) (hm : 2 ^ k = m) (hy : y ≤ 4611686018427387904) : sw4 (y : Int) k = ((y + y / m : Nat) : Int) := by
  unfold sw4
  have := Nat.div_le_self y m
  rw [sh_nat y k hk, hm, ← Int.natCast_add, u64_nat (by omega)]
theorem swT3_eq (c : Nat) (h : c ≤ 4611686018427387903) : IntKind.i64.wrap ↑(BitVec.ofInt IntKind.i64.bits (IntKind.i64.wrap (sw4 c 32)) &&& BitVec.ofInt IntKind.i64.bits 127).toNat = (swT3 c : Int) := by
  have := Nat.div_le_self c 4294967296
  rw [sw4_nat c 32 4294967296 (by omega) rfl (by omega), i64_nat (n := c + c / 4294967296) (by omega), show IntKind.i64.bits = 64 from rfl, show (127 : Int) = ((127 : Nat) : Int) from rfl, and_nat (by omega) (by omega)]
  exact i64_nat (Nat.lt_of_le_of_lt Nat.and_le_right (by omega))
theorem and1 (z M : Nat) : z &&& M ≤ M := Nat.and_le_right
theorem sw_nat (x : Nat) (hx : x < 18446744073709551616) : sw (x : Int) = (swN x : Int) := by
  have e1 : sw1 (x : Int) = (n1 x : Int) := by
    unfold sw1 n1
    have b1 := and1 (x / 2) 6148914691236517205
    have b2 := and1 x 6148914691236517205
    rw [sh_nat x 1 (by omega), show x / 2 ^ 1 = x / 2 from rfl, show (6148914691236517205 : Int) = ((6148914691236517205 : Nat) : Int) from rfl, a64_nat (by omega) (by omega), a64_nat hx (by omega), ← Int.natCast_add, u64_nat (by omega)]
  have l1 : n1 x ≤ 12297829382473034410 := by
    unfold n1
    have b1 := and1 (x / 2) 6148914691236517205
    have b2 := and1 x 6148914691236517205
    omega
  have e2 : sw2 (n1 x : Int) = (n2 (n1 x) : Int) := by
    generalize n1 x = y at l1
    unfold sw2 n2
    have b1 := and1 (y / 4) 3689348814741910323
    have b2 := and1 y 3689348814741910323
    rw [sh_nat y 2 (by omega), show y / 2 ^ 2 = y / 4 from rfl, show (3689348814741910323 : Int) = ((3689348814741910323 : Nat) : Int) from rfl, a64_nat (by omega) (by omega), a64_nat (by omega) (by omega), ← Int.natCast_add, u64_nat (by omega)]
  have l2 : n2 (n1 x) ≤ 7378697629483820646 := by
    generalize n1 x = y
    unfold n2
    have b1 := and1 (y / 4) 3689348814741910323
    have b2 := and1 y 3689348814741910323
    omega
  have e3 : sw3 (n2 (n1 x) : Int) = (n3 (n2 (n1 x)) : Int) := by
    generalize n2 (n1 x) = y at l2
    unfold sw3 n3
    rw [sh_nat y 4 (by omega), show y / 2 ^ 4 = y / 16 from rfl, ← Int.natCast_add, u64_nat (by omega), show (1085102592571150095 : Int) = ((1085102592571150095 : Nat) : Int) from rfl, a64_nat (by omega) (by omega)]
  have l3 : n3 (n2 (n1 x)) ≤ 1085102592571150095 := Nat.and_le_right
  unfold sw swN
  rw [e1, e2, e3]
  generalize n3 (n2 (n1 x)) = y at l3
  unfold swT swT2
  rw [sw4_nat y 8 256 (by omega) rfl (by omega), sw4_nat (y + y / 256) 16 65536 (by omega) rfl (by omega), swT3_eq _ (by omega)]
def swOK : Nat → Nat → Bool
  | 0, s => Nat.beq (swN s) (cnt 16 s)
  | k + 1, s => swOK k s && swOK k (s + 2 ^ k)
theorem swOK_all : ∀ k s, swOK k s = true → ∀ i, i < 2 ^ k → swN (s + i) = cnt 16 (s + i)
  | 0, s, h, i, hi => by
    obtain rfl : i = 0 := by simpa using hi
    exact Nat.eq_of_beq_eq_true h
  | k + 1, s, h, i, hi => by
    rw [swOK, Bool.and_eq_true] at h
    rcases Nat.lt_or_ge i (2 ^ k) with h1 | h1
    · exact swOK_all k s h.1 i h1
    · have := swOK_all k (s + 2 ^ k) h.2 (i - 2 ^ k) (by rw [Nat.pow_succ] at hi; omega)
      rwa [show s + 2 ^ k + (i - 2 ^ k) = s + i by omega] at this
end Go.Cert

namespace Go.Cert
set_option maxRecDepth 100000 in
theorem sw_16 : swOK 16 0 = true := by decide +kernel
/-- The count of bits as the library takes it is the count, below 2^16. -/
theorem sw_cnt (x : Int) (h : 0 ≤ x ∧ x < 65536) : sw x = (cnt 16 x.toNat : Int) := by
  obtain ⟨n, rfl⟩ := Int.eq_ofNat_of_zero_le h.1
  rw [sw_nat n (by omega)]
  have := swOK_all 16 0 sw_16 n (by omega)
  rw [Nat.zero_add] at this
  rw [this]
  rfl
end Go.Cert
