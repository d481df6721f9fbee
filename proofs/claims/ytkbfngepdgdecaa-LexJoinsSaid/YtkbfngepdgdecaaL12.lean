import Derived.Test.YtkbfngepdgdecaaL10
namespace Go.Lex
open Go.V Go.Proofs.Ytkbfngepdgdecaa
theorem qd_len : ∀ (m t : List UInt8) (n : Nat), qd m = some (t, n) → 0 < n ∧ n ≤ m.length
  | [], _, _, h => by cases h
  | [c], t, n, h => by
    simp only [qd] at h
    split at h
    · cases h; simp
    · cases h
  | c :: d :: r, t, n, h => by
    simp only [qd] at h
    split at h
    · split at h
      · cases hq : qd r with
        | none => rw [hq] at h; cases h
        | some p =>
          rw [hq] at h
          cases h
          have := qd_len r p.1 p.2 hq
          simp; omega
      · cases h; simp
    · cases hq : qd (d :: r) with
      | none => rw [hq] at h; cases h
      | some p =>
        rw [hq] at h
        cases h
        have := qd_len (d :: r) p.1 p.2 hq
        simp at this ⊢; omega
theorem pre_pos {p : UInt8 → Bool} {r : List UInt8} (h0 : 0 < r.length) (h : p (r.getD 0 0) = true) : 0 < pre p r := by
  have := pre_yes (p := p) (l := r) (k := 0) h0 h
  rw [List.drop_zero] at this
  omega
theorem wl_n {kd : Nat} {r : List UInt8} {n k v m : Nat} {t : List UInt8} (h : wl kd r n = .ok (k, t, v, m)) : m = n := by
  unfold wl at h
  split at h
  · cases h; rfl
  · cases h
theorem tok1_len {r : List UInt8} {k v n : Nat} {t : List UInt8} (h0 : 0 < r.length) (h : tok1 r = .ok (k, t, v, n)) : 0 < n ∧ n ≤ r.length := by
  unfold tok1 at h
  split at h
  · unfold quotedT at h
    split at h
    · cases h
    · rename_i t' n' hq
      split at h
      · cases h
      · cases h
        have := qd_len _ _ _ hq
        simp at this; omega
  · split at h
    · rename_i hf
      rw [wl_n h]
      exact ⟨pre_pos h0 (by unfold isSmall; rw [hf]; rfl), pre_le _ _⟩
    · split at h
      · rename_i hf
        rw [wl_n h]
        exact ⟨pre_pos h0 hf, pre_le _ _⟩
      · split at h
        · rename_i hf
          rw [wl_n h]
          exact ⟨pre_pos h0 hf, pre_le _ _⟩
        · split at h
          · rename_i x hx
            cases h
            have h1 := List.find?_some hx
            have h2 := List.mem_of_find?_eq_some hx
            have h3 : ∀ x ∈ signs, 0 < x.length := by decide
            refine ⟨h3 _ h2, ?_⟩
            rcases Nat.lt_or_ge r.length t.length with h4 | h4
            · rw [hasPre_short h4] at h1; cases h1
            · exact h4
          · cases h
abbrev Tk := Nat × List UInt8 × Nat × Nat
def appE (o : List Tk) : Except (Nat × Nat) (List Tk) → Except (Nat × Nat) (List Tk)
  | .ok l => .ok (o ++ l)
  | .error e => .error e
theorem appE_nil (x : Except (Nat × Nat) (List Tk)) : appE [] x = x := by cases x <;> rfl
theorem appE_appE (a b : List Tk) (x : Except (Nat × Nat) (List Tk)) : appE a (appE b x) = appE (a ++ b) x := by cases x <;> simp [appE]
/-- All tokens of what is left of a source, a bytes behind its head. -/
def toks (r : List UInt8) (a : Nat) : Except (Nat × Nat) (List Tk) :=
  if _h : r.length ≤ blanks r then .ok [(6, [], 0, a + blanks r)] else
  match tok1 (r.drop (blanks r)) with
  | .error e => .error (e, a + blanks r)
  | .ok (k, t, v, n) => if _h2 : n = 0 then .error (0, 0) else appE [(k, t, v, a + blanks r)] (toks (r.drop (blanks r + n)) (a + blanks r + n))
termination_by r.length
decreasing_by simp; omega
theorem toks_end {r : List UInt8} {a : Nat} (h : r.length ≤ blanks r) : toks r a = .ok [(6, [], 0, a + blanks r)] := by rw [toks, dif_pos h]
theorem toks_err {r : List UInt8} {a e : Nat} (h : blanks r < r.length) (ht : tok1 (r.drop (blanks r)) = .error e) : toks r a = .error (e, a + blanks r) := by
  rw [toks, dif_neg (by omega), ht]
theorem toks_ok {r : List UInt8} {a k v n : Nat} {t : List UInt8} (h : blanks r < r.length) (ht : tok1 (r.drop (blanks r)) = .ok (k, t, v, n)) : toks r a = appE [(k, t, v, a + blanks r)] (toks (r.drop (blanks r + n)) (a + blanks r + n)) := by
  have := tok1_len (by simp; omega) ht
  rw [toks, dif_neg (by omega), ht]
  simp only
  rw [dif_neg (by omega)]
/-- What a source has. -/
def lexAll (s : List UInt8) : Except (Nat × Int) (List Tk) :=
  if 2000 < s.length then .error (2, -1) else
  match toks s 0 with
  | .ok l => .ok l
  | .error (e, a) => .error (e, (a : Int))
theorem lexAll_long {s : List UInt8} (h : 2000 < s.length) : lexAll s = .error (2, -1) := if_pos h
theorem lexAll_ok {s : List UInt8} {l : List Tk} (h : ¬ 2000 < s.length) (ht : toks s 0 = .ok l) : lexAll s = .ok l := by unfold lexAll; rw [if_neg h, ht]
theorem lexAll_err {s : List UInt8} {e a : Nat} (h : ¬ 2000 < s.length) (ht : toks s 0 = .error (e, a)) : lexAll s = .error (e, (a : Int)) := by unfold lexAll; rw [if_neg h, ht]
theorem toks_nz : ∀ (n : Nat) (r : List UInt8) (a e b : Nat), r.length ≤ n → (∀ m e, tok1 m = .error e → e ≠ 0) → toks r a = .error (e, b) → e ≠ 0 := by
  intro n
  induction n with
  | zero =>
    intro r a e b hn _ h
    rw [toks_end (by have := blanks_le r; omega)] at h
    cases h
  | succ n ih =>
    intro r a e b hn hz h
    by_cases hb : r.length ≤ blanks r
    · rw [toks_end hb] at h; cases h
    · cases ht : tok1 (r.drop (blanks r)) with
      | error e' =>
        rw [toks_err (by omega) ht] at h
        cases h
        exact hz _ _ ht
      | ok p =>
        obtain ⟨k, t, v, m⟩ := p
        have hm := tok1_len (by simp; omega) ht
        rw [toks_ok (by omega) ht] at h
        cases hr : toks (r.drop (blanks r + m)) (a + blanks r + m) with
        | ok l => rw [hr] at h; cases h
        | error q =>
          rw [hr] at h
          cases h
          exact ih _ _ _ _ (by simp; omega) hz hr
/-- Tokens in cells. -/
def tkA (x : Tk) : List AV := [.i x.1, .s (bs x.2.1), .i x.2.2.1, .i x.2.2.2]
def tksA (l : List Tk) : List (List AV) := l.map tkA
theorem tksA_len (l : List Tk) : (tksA l).length = l.length := by simp [tksA]
theorem tksA_app (a b : List Tk) : tksA a ++ tksA b = tksA (a ++ b) := by simp [tksA]
theorem tksA_all (l : List Tk) : allLen (tksA l) 4 = True := eq_true (fun e he => by obtain ⟨b, _, rfl⟩ := List.mem_map.1 he; rfl)
theorem tksA_one (l : List Tk) : allOne (tksA l) 4 = True := eq_true (fun e he => by obtain ⟨b, _, rfl⟩ := List.mem_map.1 he; exact ⟨rfl, rfl⟩)
theorem tksA_get {l : List Tk} {k : Nat} (h : k < l.length) : (tksA l).getD k [] = tkA (l.getD k (0, [], 0, 0)) := by
  simp [tksA, List.getD_eq_getElem?_getD, List.getElem?_eq_getElem h]
theorem tksA_unit (k v a : Nat) (t : List UInt8) : [[AV.i k, AV.s (bs t), AV.i v, AV.i a]] = tksA [(k, t, v, a)] := rfl
theorem tksA_end (a : Nat) : [[AV.i 6, AV.s (bs []), AV.i 0, AV.i a]] = tksA [(6, [], 0, a)] := rfl
def TOut (o : Except (Nat × Int) (List Tk)) (x : AV) : Prop :=
  (∃ (l : List Tk) (τ : Nat), o = .ok l ∧ x = .tup [.sl (.tok τ 4) (tksA l), .agg [.i 0, .i 0]]) ∨ (∃ (e : Nat) (a : Int), o = .error (e, a) ∧ e ≠ 0 ∧ x = .tup [.sl .nil [], .agg [.i e, .i a]])
theorem TOut.ok {o : Except (Nat × Int) (List Tk)} {τ : Nat} {es : List (List AV)} (l : List Tk) (h : o = .ok l) (he : es = tksA l) : TOut o (.tup [.sl (.tok τ 4) es, .agg [.i 0, .i 0]]) := .inl ⟨l, τ, h, by rw [he]⟩
theorem TOut.err {o : Except (Nat × Int) (List Tk)} {ee aa : Int} (e : Nat) (a : Int) (h : o = .error (e, a)) (he : e ≠ 0) (h1 : ee = e) (h2 : aa = a) : TOut o (.tup [.sl .nil [], .agg [.i ee, .i aa]]) := .inr ⟨e, a, h, he, by rw [h1, h2]⟩
end Go.Lex
