/-wraps-/
import Derived.Test.YtkbfngepdgdecaaC17
import Derived.Test.YtkbfngepdgdecaaC23
set_option linter.unusedSimpArgs false
set_option linter.unusedVariables false
namespace Go.Cert
open Go.V
/-- What each signed: who, the token of the row, the texts. -/
abbrev Ts := List (Int × Nat × List ByteArray)
def strs (l : List ByteArray) : List (List AV) := l.map fun s => [AV.s s]
def esOf (ts : Ts) : List (Value × AV) := ts.map fun t => (.int .i64 t.1, .sl (.tok t.2.1 1) (strs t.2.2))
def getT (w : Int) : Ts → Option (Nat × List ByteArray)
  | [] => none
  | t :: r => if w = t.1 then some t.2 else getT w r
def putT (w : Int) (τ : Nat) (l : List ByteArray) : Ts → Ts
  | [] => [(w, τ, l)]
  | t :: r => if w = t.1 then (t.1, τ, l) :: r else t :: putT w τ l r
theorem strs_app (a b : List ByteArray) : strs a ++ strs b = strs (a ++ b) := by simp [strs]
theorem strs_len (a : List ByteArray) : (strs a).length = a.length := by simp [strs]
theorem strs_all (a : List ByteArray) : allLen (strs a) 1 = True := by
  refine eq_true (fun e he => ?_)
  obtain ⟨b, _, rfl⟩ := List.mem_map.1 he
  rfl
def rowT : Option (Nat × List ByteArray) → AV
  | some (τ, l) => .sl (.tok τ 1) (strs l)
  | none => .sl .nil []
theorem find_T (w : Int) : ∀ ts : Ts, vfind (.int .i64 w) (esOf ts) = some ((getT w ts).map fun x => .sl (.tok x.1 1) (strs x.2))
  | [] => rfl
  | t :: r => by
    have ih := find_T w r
    unfold esOf at ih ⊢
    rw [List.map_cons, vfind, getT]
    by_cases h : w = t.1
    · simp [vkeyEq, h]
    · simp only [vkeyEq, h, decide_false, if_false]
      exact ih
theorem put_T (w : Int) (τ : Nat) (l : List ByteArray) : ∀ ts : Ts, vput (.int .i64 w) (.sl (.tok τ 1) (strs l)) (esOf ts) = esOf (putT w τ l ts)
  | [] => rfl
  | t :: r => by
    have ih := put_T w τ l r
    unfold esOf at ih ⊢
    rw [List.map_cons, vput, putT]
    by_cases h : w = t.1
    · simp [vkeyEq, h]
    · simp only [vkeyEq, h, decide_false, if_false]
      rw [ih]
      simp
theorem fit_T (w : Int) (ts : Ts) : KeysFit (.int .i64 w) (esOf ts) := by
  intro k x hk q a q' b h1 h2
  obtain ⟨t, _, ht⟩ := List.mem_map.1 hk
  cases ht
  cases h1
  cases h2
  rfl
def toks (ts : Ts) : List Nat := ts.map (·.2.1)
theorem get_mem {w : Int} {τ : Nat} {l : List ByteArray} : ∀ {ts : Ts}, getT w ts = some (τ, l) → τ ∈ toks ts
  | [], h => by cases h
  | t :: r, h => by
    rw [getT] at h
    split at h
    · rw [show τ = t.2.1 from by rw [Option.some.inj h]]; simp [toks]
    · have := get_mem h
      unfold toks at this ⊢
      exact List.mem_cons_of_mem _ this
/-- A row that is new: its token is one more. -/
theorem put_new {w : Int} {τ : Nat} {l : List ByteArray} : ∀ {ts : Ts}, getT w ts = none → toks (putT w τ l ts) = toks ts ++ [τ]
  | [], _ => rfl
  | t :: r, h => by
    rw [getT] at h
    split at h
    · cases h
    · rename_i hw
      rw [putT, if_neg hw]
      have := put_new (τ := τ) (l := l) h
      unfold toks at this ⊢
      rw [List.map_cons, this]
      rfl
/-- A row that was there: its token is another. -/
theorem put_old {w : Int} {τ τ' : Nat} {l l' : List ByteArray} : ∀ {ts : Ts}, getT w ts = some (τ, l) → (toks ts).Nodup → τ' ∉ toks ts → (toks (putT w τ' l' ts)).Nodup ∧ (∀ x, x ∈ toks (putT w τ' l' ts) ↔ x = τ' ∨ (x ∈ toks ts ∧ x ≠ τ))
  | [], h, _, _ => by cases h
  | t :: r, h, hn, hf => by
    have hn' : t.2.1 ∉ toks r ∧ (toks r).Nodup := List.nodup_cons.1 hn
    have hf' : τ' ≠ t.2.1 ∧ τ' ∉ toks r := ⟨fun e => hf (by rw [e]; exact List.mem_cons_self ..), fun e => hf (List.mem_cons_of_mem _ e)⟩
    rw [getT] at h
    split at h
    · rename_i hw
      have h1 : t.2.1 = τ := by rw [Option.some.inj h]
      rw [putT, if_pos hw]
      refine ⟨List.nodup_cons.2 ⟨hf'.2, hn'.2⟩, fun x => ?_⟩
      show x ∈ τ' :: toks r ↔ x = τ' ∨ (x ∈ t.2.1 :: toks r ∧ x ≠ τ)
      rw [← h1]
      constructor
      · intro hx
        rcases List.mem_cons.1 hx with rfl | hx
        · exact .inl rfl
        · exact .inr ⟨List.mem_cons_of_mem _ hx, fun e => hn'.1 (e ▸ hx)⟩
      · rintro (rfl | ⟨hx, hne⟩)
        · exact List.mem_cons_self ..
        · rcases List.mem_cons.1 hx with e | hx
          · exact absurd e hne
          · exact List.mem_cons_of_mem _ hx
    · rename_i hw
      obtain ⟨ih1, ih2⟩ := put_old (l' := l') h hn'.2 hf'.2
      have hτ : τ ∈ toks r := get_mem h
      have hne : t.2.1 ≠ τ := fun e => hn'.1 (e ▸ hτ)
      rw [putT, if_neg hw]
      refine ⟨List.nodup_cons.2 ⟨fun hm => ?_, ih1⟩, fun x => ?_⟩
      · rcases (ih2 _).1 hm with e | ⟨h1, _⟩
        · exact hf'.1 e.symm
        · exact hn'.1 h1
      · show x ∈ t.2.1 :: toks (putT w τ' l' r) ↔ x = τ' ∨ (x ∈ t.2.1 :: toks r ∧ x ≠ τ)
        rw [List.mem_cons, List.mem_cons, ih2]
        constructor
        · rintro (rfl | h1 | ⟨h1, h2⟩)
          · exact .inr ⟨.inl rfl, hne⟩
          · exact .inl h1
          · exact .inr ⟨.inr h1, h2⟩
        · rintro (h1 | ⟨rfl | h1, h2⟩)
          · exact .inr (.inl h1)
          · exact .inl rfl
          · exact .inr (.inr ⟨h1, h2⟩)
/-- The row of all pairs: nil, or its own. -/
def VT (pv : Ps) : Option Nat → AV
  | none => .sl .nil []
  | some τ => .sl (.tok τ 2) (pairsA pv)
end Go.Cert
namespace Go.Proofs.Ytkbfngepdgdecaa
open Go Go.V Go.Cert
/-- A registry: the names it owns. -/
structure Reg (σ : Sg) (ρ : Nat) (own : List Nat) (ps : Ps) (m1 m2 : Nat) (pv : Ps) (tv : Option Nat) (ts : Ts) : Prop where
  own_eq : own = ρ :: m1 :: m2 :: (tv.toList ++ toks ts)
  at0 : σ ρ = some (.cells 94 [.map m1, VT pv tv, .map m2])
  at1 : σ m1 = some (.map (knownM ps))
  at2 : σ m2 = some (.map (esOf ts))
  ne : m1 ≠ m2
  atv : ∀ τ, tv = some τ → σ τ = some (.tok (some 77)) ∧ τ ∉ toks ts
  ats : ∀ τ, τ ∈ toks ts → σ τ = some (.tok (some 9))
  nd : (toks ts).Nodup
  pl : pv.length ≤ ps.length ∧ ∀ w τ l, getT w ts = some (τ, l) → l.length ≤ ps.length
theorem upd90 {m : Nat} {w : Int} {l : List UInt8} {ps : Ps} {σ : Sg} {R : Sg → Prop} (h : σ m = some (.map (knownM ps))) (hn : (w, l) ∉ ps) (hR : R (σ.set m (.map (knownM (ps ++ [(w, l)]))))) : vmapUpdate Try.prog 90 (.map m) (.agg [.i w, .s (bs l)]) (.b true) σ R := by
  unfold vmapUpdate
  simp only [Try.underlying90, allV, h, Option.map_some]
  refine ⟨⟨keyOK_V w l, ?_⟩, ?_⟩
  · have := find_known (w, l) ps
    unfold keyV at this
    rw [this, if_neg hn]
  · have : knownM (ps ++ [(w, l)]) = knownM ps ++ [(.agg #[.int .i64 w, .string (bs l)], AV.b true)] := by simp [knownM, keyV]
    rw [this] at hR
    exact hR
theorem look91 {m : Nat} {w : Int} {ts : Ts} {σ : Sg} {R : AV → Prop} (h : σ m = some (.map (esOf ts))) (hR : R (rowT (getT w ts))) : vlookup Try.prog 91 (.map m) (.i w) false σ R := by
  unfold vlookup
  simp only [Try.underlying91, Try.underlying3, h, info110]
  refine ⟨fit_T w ts, ?_⟩
  rw [find_T]
  cases hg : getT w ts with
  | none => rw [hg] at hR; exact hR
  | some x => rw [hg] at hR; exact hR
theorem upd91 {m : Nat} {w : Int} {τ : Nat} {l : List ByteArray} {ts : Ts} {σ : Sg} {R : Sg → Prop} (h : σ m = some (.map (esOf ts))) (hR : R (σ.set m (.map (esOf (putT w τ l ts))))) : vmapUpdate Try.prog 91 (.map m) (.i w) (.sl (.tok τ 1) (strs l)) σ R := by
  unfold vmapUpdate
  simp only [Try.underlying91, Try.underlying3, h]
  refine ⟨⟨fit_T w ts, by rw [find_T]; simp⟩, ?_⟩
  rw [put_T]
  exact hR
theorem get_put (w : Int) (y : Nat) (l' : List ByteArray) (w' : Int) : ∀ ts : Ts, getT w' (putT w y l' ts) = if w' = w then some (y, l') else getT w' ts
  | [] => rfl
  | t :: r => by
    have ih := get_put w y l' w' r
    rw [putT]
    by_cases h : w = t.1
    · rw [if_pos h, getT, getT]
      by_cases h2 : w' = w
      · rw [if_pos h2, if_pos (h2.trans h)]
      · rw [if_neg h2, if_neg (fun e => h2 (e.trans h.symm)), if_neg (fun e => h2 (e.trans h.symm))]
    · rw [if_neg h, getT, getT, ih]
      by_cases h2 : w' = t.1
      · rw [if_pos h2, if_pos h2, if_neg (fun e => h (e.symm.trans h2))]
      · rw [if_neg h2, if_neg h2]
def nextL (w : Int) (b : ByteArray) (ts : Ts) : List ByteArray := match getT w ts with
  | none => [b]
  | some (_, l0) => l0 ++ [b]
theorem reg_new {σ σ' : Sg} {ρ m1 m2 x y : Nat} {own : List Nat} {ps pv : Ps} {tv : Option Nat} {ts : Ts} {w : Int} {l : List UInt8} (pw : Ps) (hpw : pw.length ≤ ps.length) (hR : Reg σ ρ own ps m1 m2 pv tv ts)
    (h0 : σ' ρ = some (.cells 94 [.map m1, VT (pw ++ [(w, l)]) (some x), .map m2])) (h1 : σ' m1 = some (.map (knownM (ps ++ [(w, l)])))) (h2 : σ' m2 = some (.map (esOf (putT w y (nextL w (bs l) ts) ts))))
    (hx : σ' x = some (.tok (some 77))) (hxn : σ x = none) (hy : σ' y = some (.tok (some 9))) (hyo : y ∉ toks ts) (hyn : σ y = none ∨ tv = some y)
    (hto : ∀ t, t ∈ toks ts → (∀ l0, getT w ts ≠ some (t, l0)) → σ' t = σ t) (hfr : ∀ β, β ∉ own → σ β ≠ none → σ' β = σ β) :
    ∃ own' pv' tv' ts', Reg σ' ρ own' (ps ++ [(w, l)]) m1 m2 pv' tv' ts' ∧ Only own own' σ σ' := by
  have hxt : x ∉ toks ts := fun h => by rw [hR.ats x h] at hxn; cases hxn
  have hxy : x ≠ y := fun e => by rw [e, hy] at hx; cases hx
  have hmem : (toks (putT w y (nextL w (bs l) ts) ts)).Nodup ∧ ∀ t, t ∈ toks (putT w y (nextL w (bs l) ts) ts) → t = y ∨ (t ∈ toks ts ∧ σ' t = some (.tok (some 9))) := by
    cases hg : getT w ts with
    | none =>
      rw [put_new hg]
      refine ⟨List.nodup_append.2 ⟨hR.nd, by simp, fun a ha b hb => by
        have : b = y := by simpa using hb
        subst this
        exact fun e => hyo (e ▸ ha)⟩, fun t ht => ?_⟩
      rcases List.mem_append.1 ht with h | h
      · exact .inr ⟨h, by rw [hto t h (fun l0 e => by rw [hg] at e; cases e), hR.ats t h]⟩
      · exact .inl (by simpa using h)
    | some z =>
      obtain ⟨τ0, l0⟩ := z
      obtain ⟨g1, g2⟩ := put_old (l' := nextL w (bs l) ts) hg hR.nd hyo
      refine ⟨g1, fun t ht => ?_⟩
      rcases (g2 t).1 ht with h | ⟨h, hn⟩
      · exact .inl h
      · exact .inr ⟨h, by rw [hto t h (fun l1 e => by rw [hg] at e; cases e; exact hn rfl), hR.ats t h]⟩
  refine ⟨_, pw ++ [(w, l)], some x, putT w y (nextL w (bs l) ts) ts, ⟨rfl, h0, h1, h2, hR.ne, ?_, ?_, hmem.1, ?_, ?_⟩, ?_, ?_⟩
  · intro τ hτ
    cases hτ
    refine ⟨hx, fun h => ?_⟩
    rcases hmem.2 x h with h | h
    · exact hxy h
    · exact hxt h.1
  · intro t ht
    rcases hmem.2 t ht with rfl | h
    · exact hy
    · exact h.2
  · simp [hpw]
  · intro w' τ l1 hg
    rw [get_put] at hg
    have hp := hR.pl.2
    split at hg
    · cases hg
      rw [List.length_append, nextL]
      cases hq : getT w ts with
      | none => simp
      | some z =>
        have := hp w z.1 z.2 hq
        simpa using this
    · have := hp w' τ l1 hg
      simp; omega
  · exact hfr
  · intro β hβ
    rw [hR.own_eq]
    rcases List.mem_cons.1 hβ with rfl | hβ
    · exact .inl (by simp)
    rcases List.mem_cons.1 hβ with rfl | hβ
    · exact .inl (by simp)
    rcases List.mem_cons.1 hβ with rfl | hβ
    · exact .inl (by simp)
    rcases List.mem_append.1 hβ with hβ | hβ
    · have : β = x := by simpa using hβ
      subst this
      exact .inr hxn
    · rcases hmem.2 β hβ with rfl | h
      · rcases hyn with h | h
        · exact .inr h
        · exact .inl (by simp [h])
      · exact .inl (by simp [h.1])
theorem fresh_del {σ : Sg} {m τ y : Nat} {a : Ob} (h : ((σ.set m a).del τ) y = none) : y = τ ∨ (y ≠ m ∧ σ y = none) := by
  unfold Sg.del Sg.set at h
  by_cases e : y = τ
  · exact .inl e
  · rw [if_neg e] at h
    by_cases e2 : y = m
    · rw [if_pos e2] at h; cases h
    · rw [if_neg e2] at h; exact .inr ⟨e2, h⟩
theorem own_out {σ : Sg} {ρ m1 m2 : Nat} {own : List Nat} {ps pv : Ps} {tv : Option Nat} {ts : Ts} (hR : Reg σ ρ own ps m1 m2 pv tv ts) {β : Nat} (h : β ∉ own) : β ≠ ρ ∧ β ≠ m1 ∧ β ≠ m2 ∧ (∀ τ, tv = some τ → β ≠ τ) ∧ ∀ τ l w, getT w ts = some (τ, l) → β ≠ τ := by
  rw [hR.own_eq] at h
  simp only [List.mem_cons, List.mem_append, not_or] at h
  obtain ⟨h1, h2, h3, h4, h5⟩ := h
  refine ⟨h1, h2, h3, fun τ e e2 => h4 (by rw [e, e2]; simp), fun τ l w hg e => h5 (by rw [e]; exact get_mem hg)⟩
end Go.Proofs.Ytkbfngepdgdecaa
