import Derived.Test.YtkbfngepdgdecaaL12
import Derived.Test.YtkbfngepdgdecaaL15
namespace Go.Lex
open Go.V Go.Proofs.Ytkbfngepdgdecaa
theorem pre_join {p : UInt8 → Bool} (hp : p 10 = false) (r t : List UInt8) : pre p (r ++ 10 :: t) = pre p r := by
  unfold pre
  induction r with
  | nil => simp [hp]
  | cons c r ih =>
    simp only [List.cons_append, List.takeWhile_cons]
    split
    · simp only [List.length_cons, ih]
    · rfl
theorem hasPre_cons (x : List UInt8) (a c : UInt8) (r : List UInt8) : hasPre (a :: x) (c :: r) = (decide (c = a) && hasPre x r) := by
  simp only [hasPre, List.length_cons, List.take_succ_cons, List.cons.injEq, Bool.decide_and]
theorem hasPre_join : ∀ (x r t : List UInt8), 10 ∉ x → hasPre x (r ++ 10 :: t) = hasPre x r
  | [], _, _, _ => rfl
  | a :: x, [], t, h => by
    rw [List.nil_append, hasPre_cons, decide_eq_false (fun e => h (by rw [e]; simp))]
    rfl
  | a :: x, c :: r, t, h => by
    rw [List.cons_append, hasPre_cons, hasPre_cons, hasPre_join x r t (fun e => h (by simp [e]))]
theorem bstep_join : ∀ (r t : List UInt8), r ≠ [] → bstep (r ++ 10 :: t) = bstep r
  | [], _, h => absurd rfl h
  | c :: r, t, _ => by
    show (if ws c then 1 else if hasPre [45, 45] (c :: (r ++ 10 :: t)) then pre (· != 10) (c :: (r ++ 10 :: t)) else 0) = _
    rw [← List.cons_append, hasPre_join _ _ _ (by decide), pre_join rfl]
    rfl
theorem blanks_join_lt : ∀ (n : Nat) (r t : List UInt8), r.length ≤ n → blanks r < r.length → blanks (r ++ 10 :: t) = blanks r := by
  intro n
  induction n with
  | zero => intro r t h h'; omega
  | succ n ih =>
    intro r t h h'
    have hne : r ≠ [] := fun e => by subst e; simp at h'
    have hj := bstep_join r t hne
    by_cases hb : bstep r = 0
    · rw [blanks_stop hb, blanks_stop (by rw [hj]; exact hb)]
    · have hl := bstep_le r
      rw [blanks_step hb] at h'
      rw [blanks_step hb, blanks_step (by rw [hj]; exact hb), hj, List.drop_append_of_le_length hl]
      rw [ih _ _ (by simp; omega) (by simp; omega)]
theorem blanks_join_eq : ∀ (n : Nat) (r t : List UInt8), r.length ≤ n → r.length ≤ blanks r → blanks (r ++ 10 :: t) = r.length + 1 + blanks t := by
  intro n
  induction n with
  | zero =>
    intro r t h _
    obtain rfl : r = [] := List.eq_nil_of_length_eq_zero (by omega)
    have hb : bstep (10 :: t) = 1 := rfl
    rw [List.nil_append, blanks_step (by rw [hb]; decide), hb]
    rfl
  | succ n ih =>
    intro r t h h'
    by_cases hne : r = []
    · subst hne
      have hb : bstep (10 :: t) = 1 := rfl
      rw [List.nil_append, blanks_step (by rw [hb]; decide), hb]
      rfl
    · have hj := bstep_join r t hne
      have hpos := List.length_pos_iff.2 hne
      by_cases hb : bstep r = 0
      · rw [blanks_stop hb] at h'; omega
      · have hl := bstep_le r
        rw [blanks_step hb] at h'
        rw [blanks_step (by rw [hj]; exact hb), hj, List.drop_append_of_le_length hl]
        rw [ih _ _ (by simp; omega) (by simp; omega)]
        simp; omega
theorem qd_join : ∀ (r t x : List UInt8) (n : Nat), qd r = some (x, n) → qd (r ++ 10 :: t) = some (x, n)
  | [], _, _, _, h => by cases h
  | [c], t, x, n, h => by
    simp only [qd] at h
    split at h
    · rename_i hc
      subst hc
      cases h
      rfl
    · cases h
  | c :: d :: r, t, x, n, h => by
    by_cases hc : c = 39
    · subst hc
      by_cases hd : d = 39
      · subst hd
        rw [qd_two] at h
        show qd (39 :: 39 :: (r ++ 10 :: t)) = _
        rw [qd_two]
        cases hq : qd r with
        | none => rw [hq] at h; cases h
        | some p => rw [hq] at h; rw [qd_join r t p.1 p.2 hq]; exact h
      · rw [qd_close (fun d' r' e => by injection e with e1 e2; rw [← e1]; exact hd)] at h
        show qd (39 :: d :: (r ++ 10 :: t)) = _
        rw [qd_close (fun d' r' e => by injection e with e1 e2; rw [← e1]; exact hd)]
        exact h
    · rw [qd_other hc] at h
      show qd (c :: (d :: r ++ 10 :: t)) = _
      rw [qd_other hc]
      cases hq : qd (d :: r) with
      | none => rw [hq] at h; cases h
      | some p => rw [hq] at h; rw [qd_join (d :: r) t p.1 p.2 hq]; exact h
theorem getD_join {r t : List UInt8} {n : Nat} (h : n < r.length) : (r ++ 10 :: t).getD n 0 = r.getD n 0 := by
  simp [List.getD_eq_getElem?_getD, List.getElem?_append_left h]
theorem glue_join (r t : List UInt8) (n : Nat) (h : n ≤ r.length) : glue (r ++ 10 :: t) n = glue r n := by
  unfold glue
  rcases Nat.lt_or_ge n r.length with h' | h'
  · rw [getD_join h', decide_eq_true h', decide_eq_true (by simp; omega)]
  · have e : (r ++ 10 :: t).getD n 0 = 10 := by
      obtain rfl : n = r.length := by omega
      simp [List.getD_eq_getElem?_getD]
    have h1 : (isSmall 10 || isGreat 10) = false := rfl
    rw [e, h1, Bool.and_false, decide_eq_false (by omega), Bool.false_and]
theorem wl_join (kd : Nat) (p : UInt8 → Bool) (hp : p 10 = false) (r t : List UInt8) : wl kd (r ++ 10 :: t) (pre p (r ++ 10 :: t)) = wl kd r (pre p r) := by
  have hl := pre_le p r
  rw [pre_join hp]
  unfold wl wordT
  rw [glue_join r t _ hl, List.take_append_of_le_length hl]
theorem find_congr {α : Type} (l : List α) (p q : α → Bool) (h : ∀ x ∈ l, p x = q x) : l.find? p = l.find? q := by
  induction l with
  | nil => rfl
  | cons a r ih => rw [List.find?_cons, List.find?_cons, h a (by simp), ih (fun x hx => h x (by simp [hx]))]
theorem tok1_join (r t : List UInt8) (h0 : 0 < r.length) (h : tok1 r ≠ .error 3) : tok1 (r ++ 10 :: t) = tok1 r := by
  have hg := getD_join (t := t) h0
  by_cases h1 : (r.getD 0 0).toNat = 39
  · rw [tok1_q h1] at h ⊢
    rw [tok1_q (by rw [hg]; exact h1)]
    unfold quotedT at h ⊢
    cases hq : qd (r.drop 1) with
    | none => rw [hq] at h; exact absurd rfl h
    | some p =>
      have := qd_join (r.drop 1) t p.1 p.2 hq
      rw [List.drop_append_of_le_length (by omega), this]
  · by_cases h2 : isFirst (r.getD 0 0) = true
    · rw [tok1_1 h2, tok1_1 (by rw [hg]; exact h2), wl_join _ _ rfl]
    · by_cases h3 : isGreat (r.getD 0 0) = true
      · rw [tok1_2 h3, tok1_2 (by rw [hg]; exact h3), wl_join _ _ rfl]
      · by_cases h4 : isDigit (r.getD 0 0) = true
        · rw [tok1_3 h4, tok1_3 (by rw [hg]; exact h4), wl_join _ _ rfl]
        · rw [tok1_s h1 h2 h3 h4, tok1_s (by rw [hg]; exact h1) (by rw [hg]; exact h2) (by rw [hg]; exact h3) (by rw [hg]; exact h4)]
          rw [find_congr signs (fun x => hasPre x (r ++ 10 :: t)) (fun x => hasPre x r) (fun x hx => hasPre_join x r t (by revert x; decide))]
def shiftE (c : Nat) : Except (Nat × Nat) (List Tk) → Except (Nat × Nat) (List Tk)
  | .ok l => .ok (l.map fun x => (x.1, x.2.1, x.2.2.1, x.2.2.2 + c))
  | .error (e, a) => .error (e, a + c)
theorem toks_shift : ∀ (n : Nat) (r : List UInt8) (a c : Nat), r.length ≤ n → toks r (a + c) = shiftE c (toks r a) := by
  intro n
  induction n with
  | zero =>
    intro r a c h
    rw [toks_end (by omega), toks_end (by omega)]
    simp [shiftE]; omega
  | succ n ih =>
    intro r a c h
    by_cases hb : r.length ≤ blanks r
    · rw [toks_end hb, toks_end hb]; simp [shiftE]; omega
    · cases ht : tok1 (r.drop (blanks r)) with
      | error e => rw [toks_err (by omega) ht, toks_err (by omega) ht]; simp [shiftE]; omega
      | ok p =>
        obtain ⟨k, t, v, m⟩ := p
        have hm := tok1_len (by simp; omega) ht
        rw [toks_ok (by omega) ht, toks_ok (by omega) ht, show a + c + blanks r + m = a + blanks r + m + c by omega, ih _ _ c (by simp; omega)]
        cases toks (r.drop (blanks r + m)) (a + blanks r + m) with
        | error q => rfl
        | ok l => simp [shiftE, appE]; omega
theorem toks_skip {R : List UInt8} {a c : Nat} (hc : c ≤ R.length) (h : blanks R = c + blanks (R.drop c)) : toks R a = toks (R.drop c) (a + c) := by
  by_cases hb : R.length ≤ blanks R
  · rw [toks_end hb, toks_end (by simp; omega), h, Nat.add_assoc]
  · have hd : R.drop (blanks R) = (R.drop c).drop (blanks (R.drop c)) := by rw [List.drop_drop, ← h]
    cases ht : tok1 (R.drop (blanks R)) with
    | error e =>
      rw [toks_err (by omega) ht, toks_err (by simp; omega) (by rw [← hd]; exact ht), h, Nat.add_assoc]
    | ok p =>
      obtain ⟨k, t, v, m⟩ := p
      have hA := toks_ok (r := R) (a := a) (by omega) ht
      have hB := toks_ok (r := R.drop c) (a := a + c) (k := k) (v := v) (n := m) (t := t) (by simp; omega) (by rw [← hd]; exact ht)
      rw [hA, hB, List.drop_drop, h, show a + (c + blanks (R.drop c)) = a + c + blanks (R.drop c) by omega, show c + blanks (R.drop c) + m = c + (blanks (R.drop c) + m) by omega]
theorem toks_join_end {r t : List UInt8} {a : Nat} (hb : r.length ≤ blanks r) : toks (r ++ 10 :: t) a = toks t (a + r.length + 1) := by
  have h1 := blanks_join_eq _ r t (Nat.le_refl _) hb
  have h2 : (r ++ 10 :: t).drop (r.length + 1) = t := by simp
  rw [toks_skip (c := r.length + 1) (by simp) (by rw [h2, h1]), h2, Nat.add_assoc]
/-- Two sources with a byte 10 between. -/
theorem toks_join_ok : ∀ (n : Nat) (r t : List UInt8) (a : Nat) (l : List Tk), r.length ≤ n → toks r a = .ok l → ∃ i, l = i ++ [(6, [], 0, a + r.length)] ∧ toks (r ++ 10 :: t) a = appE i (toks t (a + r.length + 1)) := by
  intro n
  induction n with
  | zero =>
    intro r t a l h hl
    have hb := blanks_le r
    rw [toks_end (by omega)] at hl
    cases hl
    exact ⟨[], by simp; omega, by rw [appE_nil, toks_join_end (by omega)]⟩
  | succ n ih =>
    intro r t a l h hl
    have hbl := blanks_le r
    by_cases hb : r.length ≤ blanks r
    · rw [toks_end hb] at hl
      cases hl
      exact ⟨[], by simp; omega, by rw [appE_nil, toks_join_end hb]⟩
    · cases ht : tok1 (r.drop (blanks r)) with
      | error e => rw [toks_err (by omega) ht] at hl; cases hl
      | ok p =>
        obtain ⟨k, x, v, m⟩ := p
        have hm := tok1_len (by simp; omega) ht
        simp only [List.length_drop] at hm
        rw [toks_ok (by omega) ht] at hl
        have hj := blanks_join_lt _ r t (Nat.le_refl _) (by omega)
        have htj := tok1_join (r.drop (blanks r)) t (by simp; omega) (by rw [ht]; intro e; cases e)
        cases hr : toks (r.drop (blanks r + m)) (a + blanks r + m) with
        | error q => rw [hr] at hl; cases hl
        | ok l' =>
          rw [hr] at hl
          cases hl
          obtain ⟨i, h1, h2⟩ := ih _ t _ _ (by simp; omega) hr
          refine ⟨(k, x, v, a + blanks r) :: i, ?_, ?_⟩
          · rw [h1]; simp; omega
          · rw [toks_ok (by rw [hj]; simp; omega) (by rw [hj, List.drop_append_of_le_length hbl, htj, ht]), hj, List.drop_append_of_le_length (by omega), h2, appE_appE]
            simp only [List.length_drop, List.cons_append, List.nil_append]
            congr 2; omega
theorem toks_join_err : ∀ (n : Nat) (r t : List UInt8) (a e b : Nat), r.length ≤ n → toks r a = .error (e, b) → e ≠ 3 → toks (r ++ 10 :: t) a = .error (e, b) := by
  intro n
  induction n with
  | zero =>
    intro r t a e b h hl
    rw [toks_end (by omega)] at hl
    cases hl
  | succ n ih =>
    intro r t a e b h hl he
    have hbl := blanks_le r
    by_cases hb : r.length ≤ blanks r
    · rw [toks_end hb] at hl
      cases hl
    · have hj := blanks_join_lt _ r t (Nat.le_refl _) (by omega)
      cases ht : tok1 (r.drop (blanks r)) with
      | error e' =>
        rw [toks_err (by omega) ht] at hl
        cases hl
        have htj := tok1_join (r.drop (blanks r)) t (by simp; omega) (by rw [ht]; intro e'; cases e'; exact he rfl)
        rw [toks_err (by rw [hj]; simp; omega) (by rw [hj, List.drop_append_of_le_length hbl, htj, ht]), hj]
      | ok p =>
        obtain ⟨k, x, v, m⟩ := p
        have hm := tok1_len (by simp; omega) ht
        simp only [List.length_drop] at hm
        rw [toks_ok (by omega) ht] at hl
        have htj := tok1_join (r.drop (blanks r)) t (by simp; omega) (by rw [ht]; intro e; cases e)
        cases hr : toks (r.drop (blanks r + m)) (a + blanks r + m) with
        | ok l' => rw [hr] at hl; cases hl
        | error q =>
          rw [hr] at hl
          cases hl
          rw [toks_ok (by rw [hj]; simp; omega) (by rw [hj, List.drop_append_of_le_length hbl, htj, ht]), hj, List.drop_append_of_le_length (by omega), ih _ t _ _ _ (by simp; omega) hr he]
          rfl
theorem sameL_shift (c : Nat) : ∀ (l : List Tk), sameL false (l.map fun x => (x.1, x.2.1, x.2.2.1, x.2.2.2 + c)) l = true
  | [] => rfl
  | x :: r => by
    show (tkEq false (x.1, x.2.1, x.2.2.1, x.2.2.2 + c) x && sameL false _ r) = true
    rw [sameL_shift c r]
    simp [tkEq]
theorem sameL_app (p : Bool) (i : List Tk) : ∀ (a b : List Tk), sameL p (i ++ a) (i ++ b) = sameL p a b := by
  induction i with
  | nil => intro a b; rfl
  | cons x i ih =>
    intro a b
    show (tkEq p x x && sameL p (i ++ a) (i ++ b)) = _
    rw [ih]
    simp [tkEq]
/-- What LexJoins asks. -/
theorem join_ok {s t : List UInt8} {l m : List Tk} (h : s.length + 1 + t.length ≤ 2000) (hl : lexAll s = .ok l) (hm : lexAll t = .ok m) :
    ∃ n, lexAll (s ++ 10 :: t) = .ok n ∧ 0 < l.length ∧ sameL false n (l.take (l.length - 1) ++ m) = true := by
  have h1 : toks s 0 = .ok l := by
    unfold lexAll at hl
    rw [if_neg (by omega)] at hl
    split at hl <;> first | (cases hl; assumption) | cases hl
  have h2 : toks t 0 = .ok m := by
    unfold lexAll at hm
    rw [if_neg (by omega)] at hm
    split at hm <;> first | (cases hm; assumption) | cases hm
  obtain ⟨i, e1, e2⟩ := toks_join_ok _ s t 0 l (Nat.le_refl _) h1
  have h3 := toks_shift _ t 0 (s.length + 1) (Nat.le_refl _)
  rw [h2] at h3
  rw [show 0 + s.length + 1 = 0 + (s.length + 1) by omega, h3] at e2
  refine ⟨_, lexAll_ok (by simp; omega) e2, by rw [e1]; simp, ?_⟩
  rw [e1]
  simp only [List.length_append, List.length_cons, List.length_nil, Nat.zero_add, Nat.add_sub_cancel, List.take_left]
  rw [sameL_app, sameL_shift]
theorem join_err1 {s t : List UInt8} {e : Nat} {a : Int} (h : s.length + 1 + t.length ≤ 2000) (hl : lexAll s = .error (e, a)) (he : e ≠ 3) : lexAll (s ++ 10 :: t) = .error (e, a) := by
  unfold lexAll at hl
  rw [if_neg (by omega)] at hl
  split at hl
  · cases hl
  · rename_i e' a' h1
    cases hl
    exact lexAll_err (by simp; omega) (toks_join_err _ s t 0 _ _ (Nat.le_refl _) h1 he)
theorem join_err2 {s t : List UInt8} {l : List Tk} {e : Nat} {a : Int} (h : s.length + 1 + t.length ≤ 2000) (hl : lexAll s = .ok l) (hm : lexAll t = .error (e, a)) : lexAll (s ++ 10 :: t) = .error (e, a + s.length + 1) := by
  have h1 : toks s 0 = .ok l := by
    unfold lexAll at hl
    rw [if_neg (by omega)] at hl
    split at hl <;> first | (cases hl; assumption) | cases hl
  unfold lexAll at hm
  rw [if_neg (by omega)] at hm
  split at hm
  · cases hm
  · rename_i e' a' h2
    cases hm
    obtain ⟨i, e1, e2⟩ := toks_join_ok _ s t 0 l (Nat.le_refl _) h1
    have h3 := toks_shift _ t 0 (s.length + 1) (Nat.le_refl _)
    rw [h2] at h3
    rw [show 0 + s.length + 1 = 0 + (s.length + 1) by omega, h3] at e2
    rw [lexAll_err (by simp; omega) e2]
    congr 2
end Go.Lex
