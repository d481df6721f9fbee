import Derived.Test.YtkbfngepdgdecaaL17
namespace Go.Lex
open Go.V Go.Proofs.Ytkbfngepdgdecaa
theorem pre_cut {p : UInt8 → Bool} (r : List UInt8) (d : Nat) (h : pre p r ≤ d) : pre p (r.take d) = pre p r := by
  unfold pre at *
  induction r generalizing d with
  | nil => simp
  | cons c r ih =>
    rw [List.takeWhile_cons] at h ⊢
    split at h
    · rename_i hc
      cases d with
      | zero => simp at h
      | succ d =>
        rw [List.take_succ_cons, List.takeWhile_cons, if_pos hc, if_pos hc]
        simp only [List.length_cons] at h ⊢
        rw [ih d (by omega)]
    · rename_i hc
      cases d with
      | zero => simp [hc]
      | succ d => rw [List.take_succ_cons, List.takeWhile_cons, if_neg hc, if_neg hc]
theorem hasPre_cut {x r : List UInt8} {d : Nat} (h : x.length ≤ d) : hasPre x (r.take d) = hasPre x r := by
  unfold hasPre
  rw [List.take_take, Nat.min_eq_left h]
theorem hasPre_cut_le {x r : List UInt8} {d : Nat} (h : hasPre x (r.take d) = true) : hasPre x r = true := by
  rcases Nat.lt_or_ge d x.length with h1 | h1
  · rw [hasPre_short (by simp; omega)] at h; cases h
  · rw [hasPre_cut h1] at h; exact h
theorem qd_cut : ∀ (m t : List UInt8) (n d : Nat), qd m = some (t, n) → n ≤ d → qd (m.take d) = some (t, n)
  | [], _, _, _, h, _ => by cases h
  | [c], t, n, d, h, hd => by
    simp only [qd] at h
    split at h
    · rename_i hc
      subst hc
      cases h
      cases d with
      | zero => omega
      | succ d => simp [qd]
    · cases h
  | c :: e :: r, t, n, d, h, hd => by
    cases d with
    | zero =>
      have := qd_len _ _ _ h
      omega
    | succ d =>
      by_cases hc : c = 39
      · subst hc
        by_cases he : e = 39
        · subst he
          rw [qd_two] at h
          cases hq : qd r with
          | none => rw [hq] at h; cases h
          | some p =>
            rw [hq] at h
            cases h
            cases d with
            | zero => omega
            | succ d =>
              have := qd_cut r p.1 p.2 d hq (by omega)
              rw [List.take_succ_cons, List.take_succ_cons, qd_two, this]
              rfl
        · rw [qd_close (fun d' r' e' => by injection e' with e1 e2; rw [← e1]; exact he)] at h
          cases h
          rw [List.take_succ_cons, qd_close]
          intro d' r' e'
          cases d with
          | zero => simp at e'
          | succ d =>
            rw [List.take_succ_cons] at e'
            injection e' with e1 e2
            rw [← e1]; exact he
      · rw [qd_other hc] at h
        cases hq : qd (e :: r) with
        | none => rw [hq] at h; cases h
        | some p =>
          rw [hq] at h
          cases h
          have := qd_cut (e :: r) p.1 p.2 d hq (by omega)
          rw [List.take_succ_cons, qd_other hc, this]
          rfl
theorem getD_cut {r : List UInt8} {n d : Nat} (h : n < d) : (r.take d).getD n 0 = r.getD n 0 := by
  simp [List.getD_eq_getElem?_getD, List.getElem?_take, h]
theorem glue_cut {r : List UInt8} {n d : Nat} (h : glue r n = false) (hd : n ≤ d) : glue (r.take d) n = false := by
  unfold glue at *
  rcases Nat.lt_or_ge n d with h1 | h1
  · rw [getD_cut h1]
    rcases Nat.lt_or_ge n r.length with h2 | h2
    · rw [decide_eq_true h2] at h
      rw [decide_eq_true (by simp; omega)]; exact h
    · rw [decide_eq_false (by simp; omega)]; rfl
  · rw [decide_eq_false (by simp; omega)]; rfl
theorem wl_glue {kd : Nat} {r : List UInt8} {n k v m : Nat} {t : List UInt8} (h : wl kd r n = .ok (k, t, v, m)) : glue r n = false := by
  unfold wl wordT at h
  split at h
  · rename_i h1
    split at h1
    · cases h1
    · rename_i hg; simpa using hg
  · cases h
theorem wl_cut {kd : Nat} {p : UInt8 → Bool} {r : List UInt8} {k v m d : Nat} {t : List UInt8} (h : wl kd r (pre p r) = .ok (k, t, v, m)) (hd : m ≤ d) : wl kd (r.take d) (pre p (r.take d)) = .ok (k, t, v, m) := by
  have hm := wl_n h
  have hg := wl_glue h
  rw [pre_cut r d (by omega)]
  rw [← h]
  unfold wl wordT
  rw [hg, glue_cut hg (by omega), List.take_take, Nat.min_eq_left (by omega)]
theorem find_cut {l : List (List UInt8)} {r : List UInt8} {x : List UInt8} {d : Nat} (hx : x.length ≤ d) : l.find? (fun x => hasPre x r) = some x → l.find? (fun x => hasPre x (r.take d)) = some x := by
  induction l with
  | nil => intro h; cases h
  | cons a l ih =>
    intro h
    rw [List.find?_cons] at h ⊢
    split at h
    · rename_i ha
      cases h
      rw [hasPre_cut hx, ha]
    · rename_i ha
      cases hh : hasPre a (r.take d) with
      | true => rw [hasPre_cut_le hh] at ha; cases ha
      | false => simp only; exact ih h
theorem tok1_cut {r : List UInt8} {k v n d : Nat} {t : List UInt8} (h0 : 0 < r.length) (h : tok1 r = .ok (k, t, v, n)) (hd : n ≤ d) : tok1 (r.take d) = .ok (k, t, v, n) := by
  have hl := tok1_len h0 h
  have hg : (r.take d).getD 0 0 = r.getD 0 0 := getD_cut (by omega)
  by_cases h1 : (r.getD 0 0).toNat = 39
  · rw [tok1_q h1] at h
    rw [tok1_q (by rw [hg]; exact h1)]
    unfold quotedT at h ⊢
    cases hq : qd (r.drop 1) with
    | none => rw [hq] at h; cases h
    | some p =>
      rw [hq] at h
      simp only at h
      have hn : n = 1 + p.2 := by split at h <;> cases h; rfl
      have := qd_cut (r.drop 1) p.1 p.2 (d - 1) hq (by omega)
      rw [List.drop_take, this]
      exact h
  · by_cases h2 : isFirst (r.getD 0 0) = true
    · rw [tok1_1 h2] at h
      rw [tok1_1 (by rw [hg]; exact h2)]
      exact wl_cut h hd
    · by_cases h3 : isGreat (r.getD 0 0) = true
      · rw [tok1_2 h3] at h
        rw [tok1_2 (by rw [hg]; exact h3)]
        exact wl_cut h hd
      · by_cases h4 : isDigit (r.getD 0 0) = true
        · rw [tok1_3 h4] at h
          rw [tok1_3 (by rw [hg]; exact h4)]
          exact wl_cut h hd
        · rw [tok1_s h1 h2 h3 h4] at h
          rw [tok1_s (by rw [hg]; exact h1) (by rw [hg]; exact h2) (by rw [hg]; exact h3) (by rw [hg]; exact h4)]
          cases hf : signs.find? (fun x => hasPre x r) with
          | none => rw [hf] at h; cases h
          | some x =>
            rw [hf] at h
            cases h
            rw [find_cut hd hf]
/-- All that blanks take, cut off behind them, is blanks. -/
theorem blanks_cut : ∀ (n : Nat) (q : List UInt8), q.length ≤ n → blanks (q.take (blanks q)) = blanks q := by
  intro n
  induction n with
  | zero =>
    intro q h
    obtain rfl : q = [] := List.eq_nil_of_length_eq_zero (by omega)
    have h0 : blanks ([] : List UInt8) = 0 := blanks_stop rfl
    rw [h0]; exact h0
  | succ n ih =>
    intro q h
    by_cases hb : bstep q = 0
    · rw [blanks_stop hb, List.take_zero]; exact blanks_stop rfl
    · have hl := bstep_le q
      have hs := blanks_step hb
      have hcut : bstep (q.take (blanks q)) = bstep q := by
        generalize blanks q = d at hs
        have hd : bstep q ≤ d := by omega
        cases q with
        | nil => simp [bstep] at hb
        | cons c r =>
          cases d with
          | zero => omega
          | succ d =>
            rw [List.take_succ_cons]
            unfold bstep at hd hb ⊢
            by_cases hw : ws c = true
            · simp only [hw, if_true]
            · simp only [hw] at hd hb ⊢
              simp only [Bool.false_eq_true, if_false] at hd hb ⊢
              by_cases hp : hasPre [45, 45] (c :: r) = true
              · rw [if_pos hp] at hd hb ⊢
                have h2 := (pre_dd hp)
                rw [← List.take_succ_cons, if_pos (by rw [hasPre_cut (by simp; omega)]; exact hp), pre_cut _ _ hd]
              · rw [if_neg hp] at hb; exact absurd rfl hb
      have hr := ih (q.drop (bstep q)) (by simp; omega)
      rw [blanks_step (by rw [hcut]; exact hb), hcut]
      conv => lhs; rw [hs]
      rw [List.drop_take, Nat.add_sub_cancel_left, hr, ← hs]
/-- Of a source's tokens: where each stands, and that what is cut out there is that token again. -/
def apartAt (r : List UInt8) (a : Nat) (l : List Tk) (i : Nat) : Prop :=
  ∃ x y n, l[i]? = some x ∧ l[i + 1]? = some y ∧ a ≤ x.2.2.2 ∧ x.2.2.2 < y.2.2.2 ∧ y.2.2.2 ≤ a + r.length ∧ lexAll ((r.drop (x.2.2.2 - a)).take (y.2.2.2 - x.2.2.2)) = .ok [(x.1, x.2.1, x.2.2.1, 0), (6, [], 0, n)]
theorem lex_one {r : List UInt8} {k v n : Nat} {t : List UInt8} (h0 : 0 < r.length) (h : tok1 r = .ok (k, t, v, n)) (hl : r.length ≤ 2000) (hb : bstep r = 0) :
    lexAll (r.take (n + blanks (r.drop n))) = .ok [(k, t, v, 0), (6, [], 0, n + blanks (r.drop n))] := by
  have hn := tok1_len h0 h
  have hbl := blanks_le (r.drop n)
  simp only [List.length_drop] at hbl
  generalize hd : n + blanks (r.drop n) = d
  have ht := tok1_cut (d := d) h0 h (by omega)
  have hb0 : blanks (r.take d) = 0 := by
    refine blanks_stop ?_
    cases r with
    | nil => simp at h0
    | cons c r =>
      cases d with
      | zero => omega
      | succ d =>
        rw [List.take_succ_cons]
        unfold bstep at hb ⊢
        by_cases hw : ws c = true
        · simp [hw] at hb
        · simp only [hw] at hb ⊢
          simp only [Bool.false_eq_true, if_false] at hb ⊢
          by_cases hp : hasPre [45, 45] (c :: r) = true
          · rw [if_pos hp] at hb
            have := (pre_dd hp).2
            omega
          · rw [if_neg]
            intro e
            rw [← List.take_succ_cons] at e
            exact hp (hasPre_cut_le e)
  have hrest : blanks ((r.take d).drop n) = d - n := by
    rw [List.drop_take, show d - n = blanks (r.drop n) by omega, blanks_cut _ _ (Nat.le_refl _)]
  refine lexAll_ok (by simp; omega) ?_
  rw [toks_ok (by rw [hb0]; simp; omega) (by rw [hb0, List.drop_zero]; exact ht), hb0]
  simp only [Nat.zero_add, Nat.add_zero]
  rw [toks_end (by rw [hrest]; simp; omega), hrest]
  simp only [appE, List.cons_append, List.nil_append]
  rw [show n + (d - n) = d by omega]
theorem toks_apart : ∀ (n : Nat) (r : List UInt8) (a : Nat) (l : List Tk), r.length ≤ n → r.length ≤ 2000 → toks r a = .ok l →
    (∃ x, l[0]? = some x ∧ x.2.2.2 = a + blanks r) ∧ (∀ i, i + 1 < l.length → apartAt r a l i) ∧ l[l.length - 1]? = some (6, [], 0, a + r.length) ∧ 0 < l.length := by
  intro n
  induction n with
  | zero =>
    intro r a l h _ hl
    have hb := blanks_le r
    rw [toks_end (by omega)] at hl
    cases hl
    refine ⟨⟨_, rfl, rfl⟩, fun i hi => by simp at hi, ?_, by simp⟩
    simp; omega
  | succ n ih =>
    intro r a l h h2 hl
    have hbl := blanks_le r
    by_cases hb : r.length ≤ blanks r
    · rw [toks_end hb] at hl
      cases hl
      refine ⟨⟨_, rfl, rfl⟩, fun i hi => by simp at hi, ?_, by simp⟩
      simp; omega
    · cases ht : tok1 (r.drop (blanks r)) with
      | error e => rw [toks_err (by omega) ht] at hl; cases hl
      | ok p =>
        obtain ⟨k, x, v, m⟩ := p
        have hm := tok1_len (by simp; omega) ht
        simp only [List.length_drop] at hm
        rw [toks_ok (by omega) ht] at hl
        cases hr : toks (r.drop (blanks r + m)) (a + blanks r + m) with
        | error q => rw [hr] at hl; cases hl
        | ok l' =>
          rw [hr] at hl
          cases hl
          obtain ⟨⟨y, hy0, hy⟩, hall, hlast, hpos⟩ := ih _ _ _ (by simp; omega) (by simp; omega) hr
          refine ⟨⟨_, rfl, rfl⟩, fun i hi => ?_, ?_, by simp⟩
          · cases i with
            | zero =>
              have hone := lex_one (by simp; omega) ht (by simp; omega) (bstep_blanks r)
              rw [List.drop_drop] at hone
              have hbd := blanks_le (r.drop (blanks r + m))
              simp only [List.length_drop] at hbd
              refine ⟨(k, x, v, a + blanks r), y, m + blanks (r.drop (blanks r + m)), rfl, by simpa using hy0, by simp, by simp only [hy]; omega, by simp only [hy]; omega, ?_⟩
              simp only [hy]
              rw [show a + blanks r - a = blanks r by omega, show a + blanks r + m + blanks (r.drop (blanks r + m)) - (a + blanks r) = m + blanks (r.drop (blanks r + m)) by omega]
              exact hone
            | succ i =>
              obtain ⟨x', y', n', h3, h4, h5, h6, h7, h8⟩ := hall i (by simp at hi; omega)
              simp only [List.length_drop] at h7
              refine ⟨x', y', n', by simpa using h3, by simpa using h4, by omega, h6, by omega, ?_⟩
              rw [List.drop_drop] at h8
              rw [show x'.2.2.2 - a = blanks r + m + (x'.2.2.2 - (a + blanks r + m)) by omega]
              exact h8
          · simp only [List.cons_append, List.nil_append, List.length_cons, Nat.add_sub_cancel]
            have : l'.length = l'.length - 1 + 1 := by omega
            rw [this, List.getElem?_cons_succ, hlast]
            simp; omega
theorem lex_apart {s : List UInt8} {l : List Tk} (h : lexAll s = .ok l) : (∀ i, i + 1 < l.length → apartAt s 0 l i) ∧ l[l.length - 1]? = some (6, [], 0, s.length) ∧ 0 < l.length ∧ s.length ≤ 2000 := by
  unfold lexAll at h
  split at h
  · cases h
  · rename_i hs
    split at h
    · rename_i l' hl
      cases h
      have := toks_apart _ s 0 l (Nat.le_refl _) (by omega) hl
      exact ⟨this.2.1, by rw [this.2.2.1, Nat.zero_add], this.2.2.2, by omega⟩
    · cases h
end Go.Lex
