/-wraps2-/
import Derived.Test.YtkbfngepdgdecaaC28
import Derived.Test.YtkbfngepdgdecaaC32
set_option linter.unusedSimpArgs false
set_option linter.unusedVariables false
namespace Go.Cert
open Go.V
theorem be_inj : ∀ (k a b : Nat), a < 256 ^ k → b < 256 ^ k → be k a = be k b → a = b
  | 0, a, b, ha, hb, _ => by simp at ha hb; omega
  | k + 1, a, b, ha, hb, h => by
    rw [be, be] at h
    obtain ⟨h1, h2⟩ := List.append_inj h (by rw [be_len, be_len])
    have e := be_inj k _ _ (by rw [Nat.pow_succ] at ha; omega) (by rw [Nat.pow_succ] at hb; omega) h1
    have h3 : UInt8.ofNat a = UInt8.ofNat b := by simpa using h2
    have h4 := congrArg UInt8.toNat h3
    rw [UInt8.toNat_ofNat', UInt8.toNat_ofNat'] at h4
    omega
theorem hd_inj {q q' : Int} {l l' : List UInt8} (hq : ¬ bad q) (hq' : ¬ bad q') (hl : l.length = 128) (hl' : l'.length = 128) (h : hdB q l = hdB q' l') : q = q' ∧ l = l' := by
  have pl : ∀ (m : List UInt8) (x : Nat), m.length = 128 → x + 32 ≤ 128 → ((m.drop x).take 32).length = 32 := fun m x hm hx => by simp [hm]; omega
  have e1 := pl l 0 hl (by omega); have e2 := pl l 32 hl (by omega); have e3 := pl l 64 hl (by omega); have e4 := pl l 96 hl (by omega)
  have f1 := pl l' 0 hl' (by omega); have f2 := pl l' 32 hl' (by omega); have f3 := pl l' 64 hl' (by omega); have f4 := pl l' 96 hl' (by omega)
  rw [List.drop_zero] at e1 f1
  unfold hdB rowB sums at h
  simp only [List.map_cons, List.map_nil, List.flatten_cons, List.flatten_nil, be_len, e1, e2, e3, e4, f1, f2, f3, f4, List.append_nil, List.append_assoc, List.length_cons, List.length_nil] at h
  have h := List.append_cancel_left h
  have h := List.append_cancel_left h
  obtain ⟨g0, h⟩ := List.append_inj h (by rw [be_len, be_len])
  have h := List.append_cancel_left h
  obtain ⟨g1, h⟩ := List.append_inj h (by rw [e1, f1])
  have h := List.append_cancel_left h
  obtain ⟨g2, h⟩ := List.append_inj h (by rw [e2, f2])
  have h := List.append_cancel_left h
  obtain ⟨g3, h⟩ := List.append_inj h (by rw [e3, f3])
  have g4 := List.append_cancel_left h
  have hn := be_inj 8 _ _ (by unfold bad at hq; omega) (by unfold bad at hq'; omega) g0
  unfold bad at hq hq'
  exact ⟨by omega, (quarters hl hl').2 ⟨g1, g2, g3, g4⟩⟩
theorem cert_inj {q q' : Int} {l l' : List UInt8} (hq : ¬ bad q) (hq' : ¬ bad q') (hl : l.length = 128) (hl' : l'.length = 128) (h : certText q l = certText q' l') : q = q' ∧ l = l' := by
  unfold certText rowB at h
  simp only [List.map_cons, List.map_nil, List.flatten_cons, List.flatten_nil, List.append_nil, List.append_assoc, List.length_cons, List.length_nil] at h
  have h := List.append_cancel_left h
  have h := List.append_cancel_left h
  have h := List.append_cancel_left h
  obtain ⟨_, h⟩ := List.append_inj h (by rw [be_len, be_len])
  exact hd_inj hq hq' hl hl' h
end Go.Cert
namespace Go.Proofs.Ytkbfngepdgdecaa
open Go Go.V Go.Cert
theorem sgs_mem : ∀ (l : List Sgn) (w : Int) (t : List UInt8), (w, t) ∈ sgs l → ∃ s ∈ l, s.1 = w ∧ ¬ bad s.2.1 ∧ t = certText s.2.1 s.2.2 := by
  have go : ∀ (l : List Sgn) (ps : Ps) (w : Int) (t : List UInt8), (w, t) ∈ l.foldl (fun ps s => if bad s.2.1 then ps else addS ps s.1 (certText s.2.1 s.2.2)) ps → (w, t) ∈ ps ∨ ∃ s ∈ l, s.1 = w ∧ ¬ bad s.2.1 ∧ t = certText s.2.1 s.2.2 := by
    intro l
    induction l with
    | nil => intro ps w t h; exact .inl h
    | cons a r ih =>
      intro ps w t h
      rw [List.foldl_cons] at h
      rcases ih _ w t h with h | ⟨s, hs, h⟩
      · split at h
        · exact .inl h
        · rename_i hb
          unfold addS add at h
          split at h
          · split at h
            · exact .inl h
            · rcases List.mem_append.1 h with h | h
              · exact .inl h
              · have h1 : w = a.1 ∧ t = certText a.2.1 a.2.2 := by simpa using h
                exact .inr ⟨a, List.mem_cons_self .., h1.1.symm, hb, h1.2⟩
          · exact .inl h
      · exact .inr ⟨s, List.mem_cons_of_mem _ hs, h⟩
  intro l w t h
  rcases go l [] w t h with h | h
  · exact (List.not_mem_nil h).elim
  · exact h
/-- Did one sign two headers of one number, at these places? -/
def viol (sl : List Sgn) (i : Int) (k j : Nat) : Bool :=
  let a := sl.getD k (0, 0, []); let b := sl.getD j (0, 0, [])
  decide (a.1 = i) && (decide (b.1 = i) && (decide (a.2.1 = b.2.1) && !decide (a.2.1 = b.2.1 ∧ a.2.2 = b.2.2)))
def inner (sl : List Sgn) (i : Int) (k : Nat) : Nat → Bool
  | 0 => true
  | j + 1 => inner sl i k j && !viol sl i k j
def middle (sl : List Sgn) (i : Int) : Nat → Bool
  | 0 => true
  | k + 1 => middle sl i k && inner sl i k k
def hon (sl : List Sgn) (m : Nat) : Nat → Nat
  | 0 => 0
  | j + 1 => hon sl m j + if middle sl ((j : Int) + 1) m = true then 1 else 0
theorem hon_le (sl : List Sgn) (m : Nat) : ∀ j, hon sl m j ≤ j
  | 0 => Nat.le_refl _
  | j + 1 => by have := hon_le sl m j; rw [hon]; split <;> omega
theorem inner_no {sl : List Sgn} {i : Int} {k j : Nat} (hv : viol sl i k j = true) : ∀ x, j < x → inner sl i k x = false
  | 0, h => by omega
  | x + 1, h => by
    rw [inner]
    rcases Nat.lt_or_ge j x with h' | h'
    · rw [inner_no hv x h']; rfl
    · obtain rfl : x = j := by omega
      rw [hv]; simp
theorem middle_no {sl : List Sgn} {i : Int} {k j : Nat} (hj : j < k) (hv : viol sl i k j = true) : ∀ x, k < x → middle sl i x = false
  | 0, h => by omega
  | x + 1, h => by
    rw [middle]
    rcases Nat.lt_or_ge k x with h' | h'
    · rw [middle_no hj hv x h']; rfl
    · obtain rfl : x = k := by omega
      rw [inner_no hv x hj]; simp
/-- Three sets, each with more than two thirds: one that is in all. -/
theorem pigeon (a b : Nat) (sl : List Sgn) (m : Nat) : ∀ n, cnt n a + cnt n b + hon sl m n ≤ 2 * n ∨ ∃ i, i < n ∧ a.testBit i = true ∧ b.testBit i = true ∧ middle sl ((i : Int) + 1) m = true
  | 0 => .inl (by simp [cnt, hon])
  | n + 1 => by
    rcases pigeon a b sl m n with h | ⟨i, h1, h2⟩
    · by_cases h3 : a.testBit n = true ∧ b.testBit n = true ∧ middle sl ((n : Int) + 1) m = true
      · exact .inr ⟨n, by omega, h3⟩
      · left
        rw [cnt, cnt, hon, cnt_bit, cnt_bit]
        by_cases x1 : a.testBit n = true <;> by_cases x2 : b.testBit n = true <;> by_cases x3 : middle sl ((n : Int) + 1) m = true <;> simp only [x1, x2, x3, if_true, if_false] <;> first | omega | (exfalso; exact h3 ⟨x1, x2, x3⟩) | (simp; omega)
    · exact .inr ⟨i, by omega, h2⟩
theorem bq_mem {ps : Ps} {n q : Int} {l : List UInt8} {i : Nat} (h : (bq ps n q l).testBit i = true) : ((i : Int) + 1, certText q l) ∈ ps := by
  unfold bq at h
  rw [bits_test] at h
  simp only [Bool.and_eq_true, decide_eq_true_eq] at h
  simpa using h.2
theorem viol_of {sl : List Sgn} {i q : Int} {la lb : List UInt8} {k j : Nat} (hne : la ≠ lb) (hk : sl[k]? = some (i, q, la)) (hj : sl[j]? = some (i, q, lb)) : viol sl i k j = true := by
  unfold viol
  simp [List.getD_eq_getElem?_getD, hk, hj, hne]
/-- **One header of each number**, where enough signed one alone. -/
theorem one_law (sl : List Sgn) (hsl : ∀ s ∈ sl, s.2.2.length = 128) (f n q sa sb : Int) (la lb : List UInt8) (ha : la.length = 128) (hb : lb.length = 128) (hf : 1 ≤ f ∧ f ≤ 5) (hn : n = 3 * f + 1) (hne : la ≠ lb)
    (h1 : chk (bq (sgs (sl.take 40)) n q la) n q sa = 0) (h2 : chk (bq (sgs (sl.take 40)) n q lb) n q sb = 0) : (hon sl (min sl.length 40) n.toNat : Int) < n - f := by
  rw [chk_zero] at h1 h2
  obtain ⟨⟨hN, hq⟩, q1, l1, s1⟩ := h1
  obtain ⟨_, q2, l2, s2⟩ := h2
  unfold isQ at q1 q2
  obtain ⟨_, a1, a2, a3⟩ := of_decide_eq_true q1
  obtain ⟨_, b1, b2, b3⟩ := of_decide_eq_true q2
  rcases Int.lt_or_le (hon sl (min sl.length 40) n.toNat : Int) (n - f) with h | h
  · exact h
  exfalso
  rcases pigeon sa.toNat sb.toNat sl (min sl.length 40) n.toNat with hp | ⟨i, hi, t1, t2, t3⟩
  · omega
  have m1 := bq_mem ((sub_iff _ _).1 s1 i t1)
  have m2 := bq_mem ((sub_iff _ _).1 s2 i t2)
  obtain ⟨x, hx, x1, x2, x3⟩ := sgs_mem _ _ _ m1
  obtain ⟨y, hy, y1, y2, y3⟩ := sgs_mem _ _ _ m2
  obtain ⟨e1, e2⟩ := cert_inj hq x2 ha (hsl x (List.mem_of_mem_take hx)) x3
  obtain ⟨g1, g2⟩ := cert_inj hq y2 hb (hsl y (List.mem_of_mem_take hy)) y3
  obtain ⟨k, hk, hk2⟩ := List.mem_iff_getElem.1 hx
  obtain ⟨j, hj, hj2⟩ := List.mem_iff_getElem.1 hy
  have hk3 : sl[k]? = some ((i : Int) + 1, q, la) := by
    have : (sl.take 40)[k]? = some x := by rw [List.getElem?_eq_getElem hk, hk2]
    rw [List.getElem?_take] at this
    split at this
    · rw [this, e1, e2, ← x1]
    · cases this
  have hj3 : sl[j]? = some ((i : Int) + 1, q, lb) := by
    have : (sl.take 40)[j]? = some y := by rw [List.getElem?_eq_getElem hj, hj2]
    rw [List.getElem?_take] at this
    split at this
    · rw [this, g1, g2, ← y1]
    · cases this
  have hkl : k < min sl.length 40 := by simp at hk; omega
  have hjl : j < min sl.length 40 := by simp at hj; omega
  rcases Nat.lt_trichotomy j k with h' | h' | h'
  · rw [middle_no h' (viol_of hne hk3 hj3) _ hkl] at t3; cases t3
  · subst h'
    rw [hk3] at hj3
    have : la = lb := by simpa using hj3
    exact hne this
  · rw [middle_no h' (viol_of (Ne.symm hne) hj3 hk3) _ hjl] at t3; cases t3
end Go.Proofs.Ytkbfngepdgdecaa
