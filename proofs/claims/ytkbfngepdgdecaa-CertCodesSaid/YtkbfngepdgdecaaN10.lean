/- Part 10 of the proof: C32, C35, D7, D8, D9. -/
import Derived.Test.YtkbfngepdgdecaaN8
import Derived.Test.YtkbfngepdgdecaaN9

set_option linter.unusedSimpArgs false
set_option linter.unusedVariables false
namespace Go.Cert
open Go.V
theorem bits_test (K : Nat → Bool) (i : Nat) : ∀ k, (bitsOf K k).testBit i = (decide (i < k) && K (i + 1))
  | 0 => by simp [bitsOf]
  | k + 1 => by
    have ih := bits_test K i k
    rw [bitsOf]
    by_cases h : K (k + 1) = true
    · rw [if_pos h, ← or_bit (bitsOf_lt K k), Nat.testBit_or, ih, Nat.testBit_two_pow]
      by_cases e : k = i
      · subst e; simp [h]
      · have : (i < k + 1) ↔ (i < k) := by omega
        simp [e, this]
    · rw [if_neg h, Nat.add_zero, ih]
      by_cases e : i = k
      · subst e; simp [h]
      · have : (i < k + 1) ↔ (i < k) := by omega
        simp [this]
theorem sub_iff (s m : Nat) : s &&& m = s ↔ ∀ i, s.testBit i = true → m.testBit i = true := by
  constructor
  · intro h i hi
    rw [← h, Nat.testBit_and] at hi
    simp at hi
    exact hi.2
  · intro h
    refine Nat.eq_of_testBit_eq fun i => ?_
    rw [Nat.testBit_and]
    cases hs : s.testBit i with
    | false => rfl
    | true => rw [h i hs]; rfl
theorem cnt_bit (s n : Nat) : s / 2 ^ n % 2 = if s.testBit n = true then 1 else 0 := by
  rw [Nat.testBit_eq_decide_div_mod_eq]
  have := Nat.mod_two_eq_zero_or_one (s / 2 ^ n)
  by_cases h : s / 2 ^ n % 2 = 1
  · simp [h]
  · have h0 : s / 2 ^ n % 2 = 0 := by omega
    simp [h0]
theorem cnt_mono {s m : Nat} (h : ∀ i, s.testBit i = true → m.testBit i = true) : ∀ n, cnt n s ≤ cnt n m
  | 0 => Nat.le_refl _
  | n + 1 => by
    have ih := cnt_mono h n
    rw [cnt, cnt, cnt_bit, cnt_bit]
    by_cases hs : s.testBit n = true
    · rw [if_pos hs, if_pos (h n hs)]; omega
    · rw [if_neg hs]; split <;> omega
end Go.Cert
namespace Go.Proofs.Ytkbfngepdgdecaa
open Go Go.V Go.Cert
theorem isQ_mono {n s : Int} {m : Nat} (h : isQ n s = true) (hs : s.toNat &&& m = s.toNat) (hm : m ≤ 65535) : isQ n (m : Int) = true := by
  unfold isQ at h ⊢
  obtain ⟨h1, h2, h3, h4⟩ := of_decide_eq_true h
  refine decide_eq_true ⟨h1, by omega, by omega, ?_⟩
  have := cnt_mono ((sub_iff _ _).1 hs) n.toNat
  rw [Int.toNat_natCast]
  omega
theorem bq_lt (ps : Ps) (n q : Int) (l : List UInt8) : bq ps n q l < 65536 := bits16 _ _
theorem bq_lt' {n : Int} (hn : isN n) (ps : Ps) (q : Int) (l : List UInt8) : bq ps n q l < 2 ^ n.toNat := by
  have := bitsOf_lt (fun m => decide (((m : Int), certText q l) ∈ ps)) (min n.toNat 16)
  unfold bq
  rwa [min16 hn] at this ⊢
theorem bq_sub {ps ps' : Ps} (h : ∀ p ∈ ps, p ∈ ps') (n q : Int) (l : List UInt8) : ∀ i, (bq ps n q l).testBit i = true → (bq ps' n q l).testBit i = true := by
  intro i hi
  unfold bq at hi ⊢
  rw [bits_test] at hi ⊢
  simp only [Bool.and_eq_true, decide_eq_true_eq] at hi ⊢
  exact ⟨hi.1, h _ hi.2⟩
theorem chk_zero {m : Nat} {n q s : Int} : chk m n q s = 0 ↔ (isN n ∧ ¬ bad q) ∧ isQ n s = true ∧ s < 2 ^ n.toNat ∧ s.toNat &&& m = s.toNat := by
  unfold chk
  by_cases h : ¬ isN n ∨ bad q
  · rw [if_pos h]
    exact ⟨fun h => by simp at h, fun ⟨⟨h1, h2⟩, _⟩ => (h.elim (fun x => x h1) h2).elim⟩
  · rw [if_neg h]
    have h' : isN n ∧ ¬ bad q := ⟨Classical.not_not.1 fun x => h (.inl x), fun x => h (.inr x)⟩
    by_cases h2 : isQ n s = true ∧ s < 2 ^ n.toNat ∧ s.toNat &&& m = s.toNat
    · rw [if_pos h2]; exact ⟨fun _ => ⟨h', h2⟩, fun _ => rfl⟩
    · rw [if_neg h2]; exact ⟨fun h => by simp at h, fun h => absurd h.2 h2⟩
/-- More who sealed: what held holds. -/
theorem chk_more {ps ps' : Ps} (h : ∀ p ∈ ps, p ∈ ps') {n q s : Int} {l : List UInt8} (hc : chk (bq ps n q l) n q s = 0) : chk (bq ps' n q l) n q s = 0 := by
  rw [chk_zero] at hc ⊢
  obtain ⟨h1, h2, h3, h4⟩ := hc
  exact ⟨h1, h2, h3, (sub_iff _ _).2 fun i hi => bq_sub h n q l i ((sub_iff _ _).1 h4 i hi)⟩
/-- What is collected. -/
theorem col_zero {m : Nat} {n q : Int} : colE m n q = 0 ↔ (isN n ∧ ¬ bad q) ∧ isQ n m = true := by
  unfold colE
  by_cases h : ¬ isN n ∨ bad q
  · rw [if_pos h]
    exact ⟨fun h => by simp at h, fun ⟨⟨h1, h2⟩, _⟩ => (h.elim (fun x => x h1) h2).elim⟩
  · rw [if_neg h]
    have h' : isN n ∧ ¬ bad q := ⟨Classical.not_not.1 fun x => h (.inl x), fun x => h (.inr x)⟩
    by_cases h2 : isQ n m = true
    · rw [if_pos h2]; exact ⟨fun _ => ⟨h', h2⟩, fun _ => rfl⟩
    · rw [if_neg h2]; exact ⟨fun h => by simp at h, fun h => absurd h.2 h2⟩
theorem col_chk {ps : Ps} {n q s : Int} {l : List UInt8} (hc : chk (bq ps n q l) n q s = 0) : colE (bq ps n q l) n q = 0 := by
  rw [chk_zero] at hc
  obtain ⟨h1, h2, h3, h4⟩ := hc
  exact col_zero.2 ⟨h1, isQ_mono h2 h4 (by have := bq_lt ps n q l; omega)⟩
theorem col_self {ps : Ps} {n q : Int} {l : List UInt8} (hc : colE (bq ps n q l) n q = 0) : chk (bq ps n q l) n q (bq ps n q l) = 0 := by
  obtain ⟨⟨h1, h2⟩, h3⟩ := col_zero.1 hc
  rw [chk_self h1 h2 (bq_lt' h1 ps q l), if_pos h3]
end Go.Proofs.Ytkbfngepdgdecaa

set_option linter.unusedSimpArgs false
set_option linter.unusedVariables false
namespace Go.Cert
open Go.V
theorem be_inj : ∀ (k a b : Nat), a < 256 ^ k → b < 256 ^ k → be k a = be k b → a = b
  | 0, a, b, ha, hb, _ => by simp at ha hb; omega
  | k + 1, a, b, ha, hb, h => by
    rw [be, be] at h
    obtain ⟨h1, h2⟩ := List.append_inj h (by rw [be_len, be_len])
    have e := be_inj k _ _ (by rw [Nat.pow_succ] at ha; omega) (by rw [Nat.pow_succ] at hb; omega) h1
    have h3 : UInt8.ofNat a = UInt8.ofNat b := by simpa using h2
    have h4 := congrArg UInt8.toNat h3
    rw [UInt8.toNat_ofNat', UInt8.toNat_ofNat'] at h4
    omega
theorem hd_inj {q q' : Int} {l l' : List UInt8} (hq : ¬ bad q) (hq' : ¬ bad q') (hl : l.length = 128) (hl' : l'.length = 128) (h : hdB q l = hdB q' l') : q = q' ∧ l = l' := by
  have pl : ∀ (m : List UInt8) (x : Nat), m.length = 128 → x + 32 ≤ 128 → ((m.drop x).take 32).length = 32 := fun m x hm hx => by simp [hm]; omega
  have e1 := pl l 0 hl (by omega); have e2 := pl l 32 hl (by omega); have e3 := pl l 64 hl (by omega); have e4 := pl l 96 hl (by omega)
  have f1 := pl l' 0 hl' (by omega); have f2 := pl l' 32 hl' (by omega); have f3 := pl l' 64 hl' (by omega); have f4 := pl l' 96 hl' (by omega)
  rw [List.drop_zero] at e1 f1
  unfold hdB rowB sums at h
  simp only [List.map_cons, List.map_nil, List.flatten_cons, List.flatten_nil, be_len, e1, e2, e3, e4, f1, f2, f3, f4, List.append_nil, List.append_assoc, List.length_cons, List.length_nil] at h
  have h := List.append_cancel_left h
  have h := List.append_cancel_left h
  obtain ⟨g0, h⟩ := List.append_inj h (by rw [be_len, be_len])
  have h := List.append_cancel_left h
  obtain ⟨g1, h⟩ := List.append_inj h (by rw [e1, f1])
  have h := List.append_cancel_left h
  obtain ⟨g2, h⟩ := List.append_inj h (by rw [e2, f2])
  have h := List.append_cancel_left h
  obtain ⟨g3, h⟩ := List.append_inj h (by rw [e3, f3])
  have g4 := List.append_cancel_left h
  have hn := be_inj 8 _ _ (by unfold bad at hq; omega) (by unfold bad at hq'; omega) g0
  unfold bad at hq hq'
  exact ⟨by omega, (quarters hl hl').2 ⟨g1, g2, g3, g4⟩⟩
theorem cert_inj {q q' : Int} {l l' : List UInt8} (hq : ¬ bad q) (hq' : ¬ bad q') (hl : l.length = 128) (hl' : l'.length = 128) (h : certText q l = certText q' l') : q = q' ∧ l = l' := by
  unfold certText rowB at h
  simp only [List.map_cons, List.map_nil, List.flatten_cons, List.flatten_nil, List.append_nil, List.append_assoc, List.length_cons, List.length_nil] at h
  have h := List.append_cancel_left h
  have h := List.append_cancel_left h
  have h := List.append_cancel_left h
  obtain ⟨_, h⟩ := List.append_inj h (by rw [be_len, be_len])
  exact hd_inj hq hq' hl hl' h
end Go.Cert
namespace Go.Proofs.Ytkbfngepdgdecaa
open Go Go.V Go.Cert
theorem sgs_mem : ∀ (l : List Sgn) (w : Int) (t : List UInt8), (w, t) ∈ sgs l → ∃ s ∈ l, s.1 = w ∧ ¬ bad s.2.1 ∧ t = certText s.2.1 s.2.2 := by
  have go : ∀ (l : List Sgn) (ps : Ps) (w : Int) (t : List UInt8), (w, t) ∈ l.foldl (fun ps s => if bad s.2.1 then ps else addS ps s.1 (certText s.2.1 s.2.2)) ps → (w, t) ∈ ps ∨ ∃ s ∈ l, s.1 = w ∧ ¬ bad s.2.1 ∧ t = certText s.2.1 s.2.2 := by
    intro l
    induction l with
    | nil => intro ps w t h; exact .inl h
    | cons a r ih =>
      intro ps w t h
      rw [List.foldl_cons] at h
      rcases ih _ w t h with h | ⟨s, hs, h⟩
      · split at h
        · exact .inl h
        · rename_i hb
          unfold addS add at h
          split at h
          · split at h
            · exact .inl h
            · rcases List.mem_append.1 h with h | h
              · exact .inl h
              · have h1 : w = a.1 ∧ t = certText a.2.1 a.2.2 := by simpa using h
                exact .inr ⟨a, List.mem_cons_self .., h1.1.symm, hb, h1.2⟩
          · exact .inl h
      · exact .inr ⟨s, List.mem_cons_of_mem _ hs, h⟩
  intro l w t h
  rcases go l [] w t h with h | h
  · exact (List.not_mem_nil h).elim
  · exact h
/-- Did one sign two headers of one number, at these places? -/
def viol (sl : List Sgn) (i : Int) (k j : Nat) : Bool :=
  let a := sl.getD k (0, 0, []); let b := sl.getD j (0, 0, [])
  decide (a.1 = i) && (decide (b.1 = i) && (decide (a.2.1 = b.2.1) && !decide (a.2.1 = b.2.1 ∧ a.2.2 = b.2.2)))
def inner (sl : List Sgn) (i : Int) (k : Nat) : Nat → Bool
  | 0 => true
  | j + 1 => inner sl i k j && !viol sl i k j
def middle (sl : List Sgn) (i : Int) : Nat → Bool
  | 0 => true
  | k + 1 => middle sl i k && inner sl i k k
def hon (sl : List Sgn) (m : Nat) : Nat → Nat
  | 0 => 0
  | j + 1 => hon sl m j + if middle sl ((j : Int) + 1) m = true then 1 else 0
theorem hon_le (sl : List Sgn) (m : Nat) : ∀ j, hon sl m j ≤ j
  | 0 => Nat.le_refl _
  | j + 1 => by have := hon_le sl m j; rw [hon]; split <;> omega
theorem inner_no {sl : List Sgn} {i : Int} {k j : Nat} (hv : viol sl i k j = true) : ∀ x, j < x → inner sl i k x = false
  | 0, h => by omega
  | x + 1, h => by
    rw [inner]
    rcases Nat.lt_or_ge j x with h' | h'
    · rw [inner_no hv x h']; rfl
    · obtain rfl : x = j := by omega
      rw [hv]; simp
theorem middle_no {sl : List Sgn} {i : Int} {k j : Nat} (hj : j < k) (hv : viol sl i k j = true) : ∀ x, k < x → middle sl i x = false
  | 0, h => by omega
  | x + 1, h => by
    rw [middle]
    rcases Nat.lt_or_ge k x with h' | h'
    · rw [middle_no hj hv x h']; rfl
    · obtain rfl : x = k := by omega
      rw [inner_no hv x hj]; simp
/-- Three sets, each with more than two thirds: one that is in all. -/
theorem pigeon (a b : Nat) (sl : List Sgn) (m : Nat) : ∀ n, cnt n a + cnt n b + hon sl m n ≤ 2 * n ∨ ∃ i, i < n ∧ a.testBit i = true ∧ b.testBit i = true ∧ middle sl ((i : Int) + 1) m = true
  | 0 => .inl (by simp [cnt, hon])
  | n + 1 => by
    rcases pigeon a b sl m n with h | ⟨i, h1, h2⟩
    · by_cases h3 : a.testBit n = true ∧ b.testBit n = true ∧ middle sl ((n : Int) + 1) m = true
      · exact .inr ⟨n, by omega, h3⟩
      · left
        rw [cnt, cnt, hon, cnt_bit, cnt_bit]
        by_cases x1 : a.testBit n = true <;> by_cases x2 : b.testBit n = true <;> by_cases x3 : middle sl ((n : Int) + 1) m = true <;> simp only [x1, x2, x3, if_true, if_false] <;> first | omega | (exfalso; exact h3 ⟨x1, x2, x3⟩) | (simp; omega)
    · exact .inr ⟨i, by omega, h2⟩
theorem bq_mem {ps : Ps} {n q : Int} {l : List UInt8} {i : Nat} (h : (bq ps n q l).testBit i = true) : ((i : Int) + 1, certText q l) ∈ ps := by
  unfold bq at h
  rw [bits_test] at h
  simp only [Bool.and_eq_true, decide_eq_true_eq] at h
  simpa using h.2
theorem viol_of {sl : List Sgn} {i q : Int} {la lb : List UInt8} {k j : Nat} (hne : la ≠ lb) (hk : sl[k]? = some (i, q, la)) (hj : sl[j]? = some (i, q, lb)) : viol sl i k j = true := by
  unfold viol
  simp [List.getD_eq_getElem?_getD, hk, hj, hne]
/-- **One header of each number**, where enough signed one alone. -/
theorem one_law (sl : List Sgn) (hsl : ∀ s ∈ sl, s.2.2.length = 128) (f n q sa sb : Int) (la lb : List UInt8) (ha : la.length = 128) (hb : lb.length = 128) (hf : 1 ≤ f ∧ f ≤ 5) (hn : n = 3 * f + 1) (hne : la ≠ lb)
    (h1 : chk (bq (sgs (sl.take 40)) n q la) n q sa = 0) (h2 : chk (bq (sgs (sl.take 40)) n q lb) n q sb = 0) : (hon sl (min sl.length 40) n.toNat : Int) < n - f := by
  rw [chk_zero] at h1 h2
  obtain ⟨⟨hN, hq⟩, q1, l1, s1⟩ := h1
  obtain ⟨_, q2, l2, s2⟩ := h2
  unfold isQ at q1 q2
  obtain ⟨_, a1, a2, a3⟩ := of_decide_eq_true q1
  obtain ⟨_, b1, b2, b3⟩ := of_decide_eq_true q2
  rcases Int.lt_or_le (hon sl (min sl.length 40) n.toNat : Int) (n - f) with h | h
  · exact h
  exfalso
  rcases pigeon sa.toNat sb.toNat sl (min sl.length 40) n.toNat with hp | ⟨i, hi, t1, t2, t3⟩
  · omega
  have m1 := bq_mem ((sub_iff _ _).1 s1 i t1)
  have m2 := bq_mem ((sub_iff _ _).1 s2 i t2)
  obtain ⟨x, hx, x1, x2, x3⟩ := sgs_mem _ _ _ m1
  obtain ⟨y, hy, y1, y2, y3⟩ := sgs_mem _ _ _ m2
  obtain ⟨e1, e2⟩ := cert_inj hq x2 ha (hsl x (List.mem_of_mem_take hx)) x3
  obtain ⟨g1, g2⟩ := cert_inj hq y2 hb (hsl y (List.mem_of_mem_take hy)) y3
  obtain ⟨k, hk, hk2⟩ := List.mem_iff_getElem.1 hx
  obtain ⟨j, hj, hj2⟩ := List.mem_iff_getElem.1 hy
  have hk3 : sl[k]? = some ((i : Int) + 1, q, la) := by
    have : (sl.take 40)[k]? = some x := by rw [List.getElem?_eq_getElem hk, hk2]
    rw [List.getElem?_take] at this
    split at this
    · rw [this, e1, e2, ← x1]
    · cases this
  have hj3 : sl[j]? = some ((i : Int) + 1, q, lb) := by
    have : (sl.take 40)[j]? = some y := by rw [List.getElem?_eq_getElem hj, hj2]
    rw [List.getElem?_take] at this
    split at this
    · rw [this, g1, g2, ← y1]
    · cases this
  have hkl : k < min sl.length 40 := by simp at hk; omega
  have hjl : j < min sl.length 40 := by simp at hj; omega
  rcases Nat.lt_trichotomy j k with h' | h' | h'
  · rw [middle_no h' (viol_of hne hk3 hj3) _ hkl] at t3; cases t3
  · subst h'
    rw [hk3] at hj3
    have : la = lb := by simpa using hj3
    exact hne this
  · rw [middle_no h' (viol_of (Ne.symm hne) hj3 hk3) _ hjl] at t3; cases t3
end Go.Proofs.Ytkbfngepdgdecaa

set_option linter.unusedSimpArgs false
set_option linter.unusedVariables false
namespace Go.Proofs.Ytkbfngepdgdecaa
open Go Go.V Go.Cert
/-- A header out of bytes. -/
def headP (b : List UInt8) : Option (Int × List UInt8) := match rowP b with
  | some ([a, p1, p2, p3, p4], u) => if u = b.length ∧ a.length = 8 ∧ p1.length = 32 ∧ p2.length = 32 ∧ p3.length = 32 ∧ p4.length = 32 ∧ ¬ bad (i64 (nBE a)) then some (i64 (nBE a), p1 ++ (p2 ++ (p3 ++ p4))) else none
  | _ => none
def headX (b : List UInt8) : AV := match headP b with
  | some (v, L) => .tup [.agg (.i v :: aB L), .i 0]
  | none => .tup [.agg (.i 0 :: aB zs), .i 4]
theorem nx_false {n : Nat} {s : Rst} (h : (nx n s).1.2 = false) : ∃ p r, s = (p :: r, false) ∧ p.length = n ∧ (nx n s) = ((r, false), p) := by
  obtain ⟨bl, bd⟩ := s
  cases bd with
  | true => cases h
  | false =>
    cases bl with
    | nil => cases h
    | cons p r =>
      have hp : p.length = n := by simpa [nx] using h
      exact ⟨p, r, rfl, hp, by simp [nx, hp]⟩
theorem i64_back {a : List UInt8} (ha : a.length = 8) (hq : ¬ bad (i64 (nBE a))) : be 8 (i64 (nBE a)).toNat = a := by
  have hlt := nBE_lt a
  rw [ha] at hlt
  have hlt : nBE a < 18446744073709551616 := hlt
  have e : (i64 (nBE a)).toNat = nBE a := by
    obtain ⟨k, hk⟩ := wrap_mod (nBE a : Int)
    unfold bad at hq
    unfold i64 at *
    have h1 := IntWalk.i64_in
    have h0 : 0 ≤ IntKind.i64.wrap (nBE a : Int) ∧ IntKind.i64.wrap (nBE a : Int) ≤ 1099511627776 := by omega
    rw [hk] at h0 ⊢
    omega
  rw [e]
  exact be_nBE 8 a ha
theorem sums_of {p1 p2 p3 p4 : List UInt8} (l1 : p1.length = 32) (l2 : p2.length = 32) (l3 : p3.length = 32) (l4 : p4.length = 32) : sums (p1 ++ (p2 ++ (p3 ++ p4))) = [p1, p2, p3, p4] := by
  unfold sums
  have e1 : (p1 ++ (p2 ++ (p3 ++ p4))).drop 32 = p2 ++ (p3 ++ p4) := List.drop_left' l1
  have e2 : (p1 ++ (p2 ++ (p3 ++ p4))).drop 64 = p3 ++ p4 := by
    rw [show 64 = 32 + 32 from rfl, ← List.drop_drop, e1]; exact List.drop_left' l2
  have e3 : (p1 ++ (p2 ++ (p3 ++ p4))).drop 96 = p4 := by
    rw [show 96 = 64 + 32 from rfl, ← List.drop_drop, e2]; exact List.drop_left' l3
  rw [e1, e2, e3, List.take_left' l1, List.take_left' l2, List.take_left' l3, List.take_of_length_le (by omega)]
theorem headP_some {b : List UInt8} {v : Int} {L : List UInt8} (h : headP b = some (v, L)) : ¬ bad v ∧ L.length = 128 ∧ hdB v L = b := by
  unfold headP at h
  split at h
  · rename_i a p1 p2 p3 p4 u hr
    split at h
    · rename_i hc
      obtain ⟨hu, ha, l1, l2, l3, l4, hq⟩ := hc
      cases h
      subst hu
      refine ⟨hq, by simp [l1, l2, l3, l4], ?_⟩
      unfold hdB
      rw [i64_back ha hq, sums_of l1 l2 l3 l4]
      exact (rowP_back hr).1
    · cases h
  · cases h
/-- The program's way to a header. -/
theorem open_head (b : List UInt8) : let s0 := openB b 5; let a := nx 8 s0; let c1 := nx 32 a.1; let c2 := nx 32 c1.1; let c3 := nx 32 c2.1; let c4 := nx 32 c3.1
    (if c4.1.2 = false ∧ ¬ bad (numV a.2) ∧ hdB (numV a.2) (pad c1.2 ++ (pad c2.2 ++ (pad c3.2 ++ pad c4.2))) = b then AV.tup [.agg (.i (numV a.2) :: aB (pad c1.2 ++ (pad c2.2 ++ (pad c3.2 ++ pad c4.2)))), .i 0] else .tup [.agg (.i 0 :: aB zs), .i 4]) = headX b := by
  intro s0 a c1 c2 c3 c4
  by_cases h4 : c4.1.2 = false
  · obtain ⟨p4, r4, e4, l4, n4⟩ := nx_false h4
    have h3 : c3.1.2 = false := by rw [e4]
    obtain ⟨p3, r3, e3, l3, n3⟩ := nx_false h3
    have h2 : c2.1.2 = false := by rw [e3]
    obtain ⟨p2, r2, e2, l2, n2⟩ := nx_false h2
    have h1 : c1.1.2 = false := by rw [e2]
    obtain ⟨p1, r1, e1, l1, n1⟩ := nx_false h1
    have h0 : a.1.2 = false := by rw [e1]
    obtain ⟨p0, r0, e0, l0, n0⟩ := nx_false h0
    have f4 : c4.2 = p4 := by show (nx 32 c3.1).2 = p4; rw [n4]
    have f3 : c3.2 = p3 := by show (nx 32 c2.1).2 = p3; rw [n3]
    have f2 : c2.2 = p2 := by show (nx 32 c1.1).2 = p2; rw [n2]
    have f1 : c1.2 = p1 := by show (nx 32 a.1).2 = p1; rw [n1]
    have f0 : a.2 = p0 := by show (nx 8 s0).2 = p0; rw [n0]
    have q3 : (r3, false) = (p4 :: r4, false) := by rw [← e4]; show _ = (nx 32 c2.1).1; rw [n3]
    have q2 : (r2, false) = (p3 :: r3, false) := by rw [← e3]; show _ = (nx 32 c1.1).1; rw [n2]
    have q1 : (r1, false) = (p2 :: r2, false) := by rw [← e2]; show _ = (nx 32 a.1).1; rw [n1]
    have q0 : (r0, false) = (p1 :: r1, false) := by rw [← e1]; show _ = (nx 8 s0).1; rw [n0]
    have hs0 : s0 = (p0 :: p1 :: p2 :: p3 :: p4 :: r4, false) := by
      rw [e0, (Prod.mk.inj q0).1, (Prod.mk.inj q1).1, (Prod.mk.inj q2).1, (Prod.mk.inj q3).1]
    have hopen : ∃ u, rowP b = some ([p0, p1, p2, p3, p4], u) ∧ u = b.length := by
      have hs : openB b 5 = (p0 :: p1 :: p2 :: p3 :: p4 :: r4, false) := hs0
      unfold openB at hs
      cases hr : rowP b with
      | none => rw [hr] at hs; cases hs
      | some x =>
        obtain ⟨l, u⟩ := x
        rw [hr] at hs
        have hl : l = p0 :: p1 :: p2 :: p3 :: p4 :: r4 := (Prod.mk.inj hs).1
        have hd : ¬ (u ≠ b.length ∨ l.length ≠ 5) := of_decide_eq_false (Prod.mk.inj hs).2
        have hn : r4 = [] := by
          rw [hl] at hd
          have : (p0 :: p1 :: p2 :: p3 :: p4 :: r4).length = 5 := by omega
          exact List.eq_nil_of_length_eq_zero (by simpa using this)
        exact ⟨u, by rw [hl, hn], by omega⟩
    obtain ⟨u, hrow, hu⟩ := hopen
    have hnum : numV a.2 = i64 (nBE p0) := by
      rw [f0]; unfold numV; rw [if_neg (by omega), List.take_of_length_le (by omega)]
    rw [f1, f2, f3, f4, hnum, pad_32 l1, pad_32 l2, pad_32 l3, pad_32 l4]
    by_cases hq : bad (i64 (nBE p0))
    · have hh : headP b = none := by
        unfold headP
        rw [hrow]
        simp only
        rw [if_neg (fun h => h.2.2.2.2.2.2 hq)]
      rw [if_neg (fun h => h.2.1 hq), headX, hh]
    · have hh : headP b = some (i64 (nBE p0), p1 ++ (p2 ++ (p3 ++ p4))) := by
        unfold headP
        rw [hrow]
        simp only
        rw [if_pos ⟨hu, l0, l1, l2, l3, l4, hq⟩]
      rw [if_pos ⟨h4, hq, (headP_some hh).2.2⟩, headX, hh]
  · rw [if_neg (fun h => h4 h.1)]
    have hh : headP b = none := by
      cases hp : headP b with
      | none => rfl
      | some x =>
        exfalso
        apply h4
        unfold headP at hp
        split at hp
        · rename_i a0 p1 p2 p3 p4 u hr
          split at hp
          · rename_i hc
            obtain ⟨hu, ha, l1, l2, l3, l4, hq⟩ := hc
            have hs0 : s0 = ([a0, p1, p2, p3, p4], false) := by
              show openB b 5 = _
              unfold openB
              rw [hr]
              simp [hu]
            show (nx 32 (nx 32 (nx 32 (nx 32 (nx 8 s0).1).1).1).1).1.2 = false
            rw [hs0]
            simp [nx, ha, l1, l2, l3, l4]
          · cases hp
        · cases hp
    rw [headX, hh]
theorem openB_len (b : List UInt8) (n : Nat) : (openB b n).1.length ≤ 4096 ∧ ∀ p ∈ (openB b n).1, p.length ≤ 65536 := by
  unfold openB
  cases h : rowP b with
  | none => exact ⟨Nat.zero_le _, fun p hp => (List.not_mem_nil hp).elim⟩
  | some x =>
    obtain ⟨l, u⟩ := x
    unfold rowP at h
    split at h
    · cases h
    split at h
    · cases h
    rename_i h1 h2
    cases hb : blobsP (nBE (b.take 4)) (b.drop 4) with
    | none => rw [hb] at h; cases h
    | some y =>
      obtain ⟨m, w⟩ := y
      rw [hb] at h
      have e : m = l ∧ 4 + w = u := by simpa using h
      obtain ⟨rfl, e⟩ := e
      obtain ⟨g1, g2, g3, g4⟩ := blobsP_some _ _ _ _ hb
      exact ⟨by simp only; omega, g3⟩
theorem nx_len (n : Nat) (s : Rst) (h : s.1.length ≤ 4096 ∧ ∀ p ∈ s.1, p.length ≤ 65536) : ((nx n s).1.1.length ≤ 4096 ∧ ∀ p ∈ (nx n s).1.1, p.length ≤ 65536) ∧ (nx n s).2.length ≤ 65536 := by
  obtain ⟨bl, bd⟩ := s
  cases bd with
  | true => exact ⟨h, Nat.zero_le _⟩
  | false =>
    cases bl with
    | nil => exact ⟨h, Nat.zero_le _⟩
    | cons p r =>
      refine ⟨⟨?_, fun q hq => h.2 q (List.mem_cons_of_mem _ hq)⟩, h.2 p (List.mem_cons_self ..)⟩
      have := h.1
      simp only [List.length_cons] at this
      show r.length ≤ 4096
      omega
theorem t49 (k : Own) (b : List UInt8) (σ : Sg) (hb : b.length ≤ 1000000000000) : VCalls Try.prog 49 [.sl k (bytesL b)] σ (fun x σ' => x = headX b ∧ σ' = σ) := by
  have L0 := openB_len b 5
  have L1 := nx_len 8 _ L0
  have L2 := nx_len 32 _ L1.1
  have L3 := nx_len 32 _ L2.1
  have L4 := nx_len 32 _ L3.1
  have h := t49w k b σ hb (openB b 5) _ _ _ _ _ _ _ _ _ _ (pad_len _) (pad_len _) (pad_len _) (pad_len _)
    (fun σ => t85 k b 5 σ hb) (fun ρ S hS => t86 ρ (openB b 5) S hS (by have := L0.1; omega) (by have := L1.2; omega))
    (fun ρ S hS => t87 ρ _ S hS (by have := L1.1.1; omega)) (fun ρ S hS => t87 ρ _ S hS (by have := L2.1.1; omega)) (fun ρ S hS => t87 ρ _ S hS (by have := L3.1.1; omega)) (fun ρ S hS => t87 ρ _ S hS (by have := L4.1.1; omega))
  rw [open_head b] at h
  exact h
end Go.Proofs.Ytkbfngepdgdecaa

set_option linter.unusedSimpArgs false
set_option linter.unusedVariables false
namespace Go.Proofs.Ytkbfngepdgdecaa
open Go Go.V Go.Cert
theorem AVw2 {k : Own} {es : List (List AV)} {a : AV} : AVw (.tup [.sl k es, a]) (.tup [.sl .any es, a]) := (AVw.any _ _).tup2 (AVw.refl _)
theorem t53m (k : Own) (b : List UInt8) (σ : Sg) (hb : b.length ≤ 1000000000000) (h : rowP b = none) : VCalls Try.prog 53 [.sl k (bytesL b)] σ (fun x σ' => ∃ e, e ≠ 0 ∧ x = .tup [.sl .any [], .i 0, .i e] ∧ σ' = σ) :=
  (t53n k b σ hb h).lose fun x σ' hx => by
    obtain ⟨e, he, rfl, rfl⟩ := hx
    exact ⟨_, σ', AVw3, .refl _, e, he, rfl, rfl⟩
set_option maxHeartbeats 400000 in
set_option maxRecDepth 100000 in
theorem t91 (k : Own) (b : List UInt8) (n : Nat) (σ : Sg) (hb : b.length ≤ 1000000000000) : VCalls Try.prog 91 [.sl k (bytesL b), .i n] σ (fun x σ' => x = .tup [.sl .any (rowsA (anys (openB b n).1)), .b (!(openB b n).2)] ∧ σ' = σ) := by
  unfold openB
  cases h : rowP b with
  | none =>
    have h53 := fun σ => t53m k b σ hb h
    (refine vfun (fun _ => .no) mixed Try.func91 (by kernel_rfl) ?_; simp only [bodyOf, Try.f91, Option.getD_some])
    repeat' (first | with_reducible rfl | exact .inr trivial | with_reducible apply And.intro | with_reducible apply vqx_step | with_reducible apply vqm_step | with_reducible refine vkp_free (by decide +kernel) ?_ | with_reducible intro _ | ((first | (with_reducible first | refine .rs ?_ | refine .ds (by kernel_rfl) ?_ | refine .dg (by kernel_rfl) ?_ | refine .rg ?_ | refine .ite ?_ | refine .ret ?_ | refine .skip ?_ | refine .exit ?_ | refine .scope ?_ | refine .seq (.label ?_) | refine .block ?_ | refine .seq ?_)); (try simp only [vO, vQ, ↓vP, vE, vS, vB, vL, vF, vM, vN, vbs_full, Nat.reduceEqDiff, Nat.reduceAdd, Nat.reduceLeDiff, ne_eq, not_false_eq_true, Nat.reduceMul, Nat.reduceSub, Int.toNat_zero, Int.reduceToNat, Try.underlying3, info3, Try.underlying34, info34, Try.underlying5, info5, Try.underlying4, info4, Try.underlying35, info35, Try.underlying70, info70, vT])) | ((simp (disch := first | assumption | (apply Go.Cert.ne_of2; assumption; assumption) | (apply Go.Cert.ne_ob; assumption; assumption; (intro e; cases e; done)) | omega) only [w64, w8, tg_eq, Go.V.n1, Go.V.n2, Go.V.nn, Int.tdiv_eq_ediv_of_nonneg, Sg.set_same, Sg.set_ne, Sg.set_ne', Sg.del_ne, Sg.del_ne']); (try simp only [vO, vQ, ↓vP, vE, vS, vB, vL, vF, vM, vN, vbs_full, Nat.reduceEqDiff, Nat.reduceAdd, Nat.reduceLeDiff, ne_eq, not_false_eq_true, Nat.reduceMul, Nat.reduceSub, Int.toNat_zero, Int.reduceToNat, Try.underlying3, info3, Try.underlying34, info34, Try.underlying5, info5, Try.underlying4, info4, Try.underlying35, info35, Try.underlying70, info70, vT])) | ((((with_reducible refine (h53 _).mono ?_); rintro _ σ' ⟨e, he, rfl, rfl⟩)); (try simp only [vO, vQ, ↓vP, vE, vS, vB, vL, vF, vM, vN, vbs_full, Nat.reduceEqDiff, Nat.reduceAdd, Nat.reduceLeDiff, ne_eq, not_false_eq_true, Nat.reduceMul, Nat.reduceSub, Int.toNat_zero, Int.reduceToNat, Try.underlying3, info3, Try.underlying34, info34, Try.underlying5, info5, Try.underlying4, info4, Try.underlying35, info35, Try.underlying70, info70, vT])) | with_reducible refine vfresh_set ?_ | with_reducible refine vfresh_intro (fun _ _ => ?_) | with_reducible refine vif_intro (fun _ => ?_) (fun _ => ?_) | omega | ((with_reducible first | refine vop_at ?_ | refine vops_at ?_ | refine vquiet_at ?_ | refine vmix_at ?_ | refine Holds_at ?_); simp only [vO, vQ, ↓vP, vE, vS, vB, vL, vF, vM, vN, vbs_full, Nat.reduceEqDiff, Nat.reduceAdd, Nat.reduceLeDiff, ne_eq, not_false_eq_true, Nat.reduceMul, Nat.reduceSub, Int.toNat_zero, Int.reduceToNat, Try.underlying3, info3, Try.underlying34, info34, Try.underlying5, info5, Try.underlying4, info4, Try.underlying35, info35, Try.underlying70, info70, vT]))
    all_goals exact ⟨_, .refl _, rfl, rfl⟩
  | some x =>
    obtain ⟨l, u⟩ := x
    have h53 := fun σ => t53s k b l u σ hb h
    (refine vfun (fun _ => .no) mixed Try.func91 (by kernel_rfl) ?_; simp only [bodyOf, Try.f91, Option.getD_some])
    repeat' (first | with_reducible rfl | exact .inr trivial | with_reducible apply And.intro | with_reducible apply vqx_step | with_reducible apply vqm_step | with_reducible refine vkp_free (by decide +kernel) ?_ | with_reducible intro _ | ((first | (with_reducible first | refine .rs ?_ | refine .ds (by kernel_rfl) ?_ | refine .dg (by kernel_rfl) ?_ | refine .rg ?_ | refine .ite ?_ | refine .ret ?_ | refine .skip ?_ | refine .exit ?_ | refine .scope ?_ | refine .seq (.label ?_) | refine .block ?_ | refine .seq ?_)); (try simp only [vO, vQ, ↓vP, vE, vS, vB, vL, vF, vM, vN, vbs_full, Nat.reduceEqDiff, Nat.reduceAdd, Nat.reduceLeDiff, ne_eq, not_false_eq_true, Nat.reduceMul, Nat.reduceSub, Int.toNat_zero, Int.reduceToNat, Try.underlying3, info3, Try.underlying34, info34, Try.underlying5, info5, Try.underlying4, info4, Try.underlying35, info35, Try.underlying70, info70, rowsA_len, anys_len, vT])) | ((simp (disch := first | assumption | (apply Go.Cert.ne_of2; assumption; assumption) | (apply Go.Cert.ne_ob; assumption; assumption; (intro e; cases e; done)) | omega) only [w64, w8, tg_eq, Go.V.n1, Go.V.n2, Go.V.nn, Int.tdiv_eq_ediv_of_nonneg, Sg.set_same, Sg.set_ne, Sg.set_ne', Sg.del_ne, Sg.del_ne']); (try simp only [vO, vQ, ↓vP, vE, vS, vB, vL, vF, vM, vN, vbs_full, Nat.reduceEqDiff, Nat.reduceAdd, Nat.reduceLeDiff, ne_eq, not_false_eq_true, Nat.reduceMul, Nat.reduceSub, Int.toNat_zero, Int.reduceToNat, Try.underlying3, info3, Try.underlying34, info34, Try.underlying5, info5, Try.underlying4, info4, Try.underlying35, info35, Try.underlying70, info70, rowsA_len, anys_len, vT])) | ((((with_reducible refine (h53 _).mono ?_); rintro _ σ' ⟨rfl, rfl⟩)); (try simp only [vO, vQ, ↓vP, vE, vS, vB, vL, vF, vM, vN, vbs_full, Nat.reduceEqDiff, Nat.reduceAdd, Nat.reduceLeDiff, ne_eq, not_false_eq_true, Nat.reduceMul, Nat.reduceSub, Int.toNat_zero, Int.reduceToNat, Try.underlying3, info3, Try.underlying34, info34, Try.underlying5, info5, Try.underlying4, info4, Try.underlying35, info35, Try.underlying70, info70, rowsA_len, anys_len, vT])) | with_reducible refine vfresh_set ?_ | with_reducible refine vfresh_intro (fun _ _ => ?_) | with_reducible refine vif_intro (fun _ => ?_) (fun _ => ?_) | omega | ((with_reducible first | refine vop_at ?_ | refine vops_at ?_ | refine vquiet_at ?_ | refine vmix_at ?_ | refine Holds_at ?_); simp only [vO, vQ, ↓vP, vE, vS, vB, vL, vF, vM, vN, vbs_full, Nat.reduceEqDiff, Nat.reduceAdd, Nat.reduceLeDiff, ne_eq, not_false_eq_true, Nat.reduceMul, Nat.reduceSub, Int.toNat_zero, Int.reduceToNat, Try.underlying3, info3, Try.underlying34, info34, Try.underlying5, info5, Try.underlying4, info4, Try.underlying35, info35, Try.underlying70, info70, rowsA_len, anys_len, vT]))
    · rename_i hu
      have hd : (decide ((l.length : Int) = (n : Int))) = !decide (u ≠ b.length ∨ l.length ≠ n) := by
        by_cases h : l.length = n
        · rw [decide_eq_true (by omega), decide_eq_false (by omega)]; rfl
        · rw [decide_eq_false (by omega), decide_eq_true (by omega)]; rfl
      exact ⟨_, .refl _, by rw [hd], rfl⟩
    · rename_i hu
      have hd : decide (u ≠ b.length ∨ l.length ≠ n) = true := decide_eq_true (by omega)
      exact ⟨_, .refl _, by rw [hd]; rfl, rfl⟩
set_option maxHeartbeats 400000 in
set_option maxRecDepth 100000 in
theorem t92 (k : Own) (b : List UInt8) (σ : Sg) (hb : b.length ≤ 1000000000000) : VCalls Try.prog 92 [.sl k (bytesL b)] σ (fun x σ' => x = .tup [.i (numV b), .b (decide (b.length = 8))] ∧ σ' = σ) := by
  have h55 := fun σ => t55 k b σ hb
  unfold numV
  by_cases h8 : b.length < 8
  · rw [if_pos h8]
    rw [if_pos h8] at h55
    (refine vfun (fun _ => .no) mixed Try.func92 (by kernel_rfl) ?_; simp only [bodyOf, Try.f92, Option.getD_some])
    repeat' (first | with_reducible rfl | exact .inr trivial | with_reducible apply And.intro | with_reducible apply vqx_step | with_reducible apply vqm_step | with_reducible refine vkp_free (by decide +kernel) ?_ | with_reducible intro _ | ((first | (with_reducible first | refine .rs ?_ | refine .ds (by kernel_rfl) ?_ | refine .dg (by kernel_rfl) ?_ | refine .rg ?_ | refine .ite ?_ | refine .ret ?_ | refine .skip ?_ | refine .exit ?_ | refine .scope ?_ | refine .seq (.label ?_) | refine .block ?_ | refine .seq ?_)); (try simp only [vO, vQ, ↓vP, vE, vS, vB, vL, vF, vM, vN, vbs_full, Nat.reduceEqDiff, Nat.reduceAdd, Nat.reduceLeDiff, ne_eq, not_false_eq_true, Nat.reduceMul, Nat.reduceSub, Int.toNat_zero, Int.reduceToNat, Try.underlying3, info3, Try.underlying34, info34, Try.underlying5, info5, Try.underlying4, info4, Try.underlying35, info35, vT])) | ((simp (disch := first | assumption | (apply Go.Cert.ne_of2; assumption; assumption) | (apply Go.Cert.ne_ob; assumption; assumption; (intro e; cases e; done)) | omega) only [w64, w8, tg_eq, Go.V.n1, Go.V.n2, Go.V.nn, Int.tdiv_eq_ediv_of_nonneg, Sg.set_same, Sg.set_ne, Sg.set_ne', Sg.del_ne, Sg.del_ne']); (try simp only [vO, vQ, ↓vP, vE, vS, vB, vL, vF, vM, vN, vbs_full, Nat.reduceEqDiff, Nat.reduceAdd, Nat.reduceLeDiff, ne_eq, not_false_eq_true, Nat.reduceMul, Nat.reduceSub, Int.toNat_zero, Int.reduceToNat, Try.underlying3, info3, Try.underlying34, info34, Try.underlying5, info5, Try.underlying4, info4, Try.underlying35, info35, vT])) | ((((with_reducible refine (h55 _).mono ?_); rintro _ σ' ⟨rfl, rfl⟩)); (try simp only [vO, vQ, ↓vP, vE, vS, vB, vL, vF, vM, vN, vbs_full, Nat.reduceEqDiff, Nat.reduceAdd, Nat.reduceLeDiff, ne_eq, not_false_eq_true, Nat.reduceMul, Nat.reduceSub, Int.toNat_zero, Int.reduceToNat, Try.underlying3, info3, Try.underlying34, info34, Try.underlying5, info5, Try.underlying4, info4, Try.underlying35, info35, vT])) | with_reducible refine vfresh_set ?_ | with_reducible refine vfresh_intro (fun _ _ => ?_) | with_reducible refine vif_intro (fun _ => ?_) (fun _ => ?_) | omega | ((with_reducible first | refine vop_at ?_ | refine vops_at ?_ | refine vquiet_at ?_ | refine vmix_at ?_ | refine Holds_at ?_); simp only [vO, vQ, ↓vP, vE, vS, vB, vL, vF, vM, vN, vbs_full, Nat.reduceEqDiff, Nat.reduceAdd, Nat.reduceLeDiff, ne_eq, not_false_eq_true, Nat.reduceMul, Nat.reduceSub, Int.toNat_zero, Int.reduceToNat, Try.underlying3, info3, Try.underlying34, info34, Try.underlying5, info5, Try.underlying4, info4, Try.underlying35, info35, vT]))
    all_goals exact ⟨_, .refl _, by rw [decide_eq_false (by omega)], rfl⟩
  · rw [if_neg h8]
    rw [if_neg h8] at h55
    have hd : decide ((b.length : Int) = 8) = decide (b.length = 8) := by rw [decide_eq_decide]; omega
    (refine vfun (fun _ => .no) mixed Try.func92 (by kernel_rfl) ?_; simp only [bodyOf, Try.f92, Option.getD_some])
    repeat' (first | with_reducible rfl | exact .inr trivial | with_reducible apply And.intro | with_reducible apply vqx_step | with_reducible apply vqm_step | with_reducible refine vkp_free (by decide +kernel) ?_ | with_reducible intro _ | ((first | (with_reducible first | refine .rs ?_ | refine .ds (by kernel_rfl) ?_ | refine .dg (by kernel_rfl) ?_ | refine .rg ?_ | refine .ite ?_ | refine .ret ?_ | refine .skip ?_ | refine .exit ?_ | refine .scope ?_ | refine .seq (.label ?_) | refine .block ?_ | refine .seq ?_)); (try simp only [vO, vQ, ↓vP, vE, vS, vB, vL, vF, vM, vN, vbs_full, Nat.reduceEqDiff, Nat.reduceAdd, Nat.reduceLeDiff, ne_eq, not_false_eq_true, Nat.reduceMul, Nat.reduceSub, Int.toNat_zero, Int.reduceToNat, Try.underlying3, info3, Try.underlying34, info34, Try.underlying5, info5, Try.underlying4, info4, Try.underlying35, info35, vT])) | ((simp (disch := first | assumption | (apply Go.Cert.ne_of2; assumption; assumption) | (apply Go.Cert.ne_ob; assumption; assumption; (intro e; cases e; done)) | omega) only [w64, w8, tg_eq, Go.V.n1, Go.V.n2, Go.V.nn, Int.tdiv_eq_ediv_of_nonneg, Sg.set_same, Sg.set_ne, Sg.set_ne', Sg.del_ne, Sg.del_ne']); (try simp only [vO, vQ, ↓vP, vE, vS, vB, vL, vF, vM, vN, vbs_full, Nat.reduceEqDiff, Nat.reduceAdd, Nat.reduceLeDiff, ne_eq, not_false_eq_true, Nat.reduceMul, Nat.reduceSub, Int.toNat_zero, Int.reduceToNat, Try.underlying3, info3, Try.underlying34, info34, Try.underlying5, info5, Try.underlying4, info4, Try.underlying35, info35, vT])) | ((((with_reducible refine (h55 _).mono ?_); rintro _ σ' ⟨rfl, rfl⟩)); (try simp only [vO, vQ, ↓vP, vE, vS, vB, vL, vF, vM, vN, vbs_full, Nat.reduceEqDiff, Nat.reduceAdd, Nat.reduceLeDiff, ne_eq, not_false_eq_true, Nat.reduceMul, Nat.reduceSub, Int.toNat_zero, Int.reduceToNat, Try.underlying3, info3, Try.underlying34, info34, Try.underlying5, info5, Try.underlying4, info4, Try.underlying35, info35, vT])) | with_reducible refine vfresh_set ?_ | with_reducible refine vfresh_intro (fun _ _ => ?_) | with_reducible refine vif_intro (fun _ => ?_) (fun _ => ?_) | omega | ((with_reducible first | refine vop_at ?_ | refine vops_at ?_ | refine vquiet_at ?_ | refine vmix_at ?_ | refine Holds_at ?_); simp only [vO, vQ, ↓vP, vE, vS, vB, vL, vF, vM, vN, vbs_full, Nat.reduceEqDiff, Nat.reduceAdd, Nat.reduceLeDiff, ne_eq, not_false_eq_true, Nat.reduceMul, Nat.reduceSub, Int.toNat_zero, Int.reduceToNat, Try.underlying3, info3, Try.underlying34, info34, Try.underlying5, info5, Try.underlying4, info4, Try.underlying35, info35, vT]))
    all_goals exact ⟨_, .refl _, by rw [hd], rfl⟩
theorem pad_step (b : List UInt8) (j : Nat) (hj : j < 32) (hb : j < b.length) : splice (aB (b.take j ++ List.replicate (32 - j) 0)) j [AV.u8 b[j].toNat] = aB (b.take (j + 1) ++ List.replicate (32 - (j + 1)) 0) := by
  have hl : (b.take j).length = j := by simp; omega
  unfold splice
  rw [aB_take, List.take_left' hl, List.length_singleton, aB_drop, List.drop_append, hl, List.drop_of_length_le (by omega), List.nil_append, show j + 1 - j = 1 by omega, List.drop_replicate, show 32 - j - 1 = 32 - (j + 1) by omega, List.take_add_one, List.getElem?_eq_getElem hb, ← aB_app, ← aB_app]
  rfl
set_option maxHeartbeats 400000 in
set_option maxRecDepth 100000 in
theorem t93 (k : Own) (b : List UInt8) (σ : Sg) (hb : b.length ≤ 1000000000000) : VCalls Try.prog 93 [.sl k (bytesL b)] σ (fun x σ' => x = .tup [.agg (aB (pad b)), .b (decide (b.length = 32))] ∧ σ' = σ) := by
  obtain ⟨z24, h24, hz24⟩ := zero24
  have hd : decide ((b.length : Int) = 32) = decide (b.length = 32) := by rw [decide_eq_decide]; omega
  have hz : (aB (List.replicate 32 (0 : UInt8))).length = 32 := by rw [aB_len]; simp
  have hza : (aB (List.replicate 32 (0 : UInt8))).all AV.one = true := aB_all _
  have hz4 : List.drop 32 (aB (List.replicate 32 (0 : UInt8))) = [] := List.drop_of_length_le (by omega)
  (refine vfun (fun _ => .no) mixed Try.func93 (by kernel_rfl) ?_; simp only [bodyOf, Try.f93, Option.getD_some])
  repeat' (first | with_reducible rfl | exact .inr trivial | with_reducible apply And.intro | with_reducible apply vqx_step | with_reducible apply vqm_step | with_reducible refine vkp_free (by decide +kernel) ?_ | with_reducible intro _ | ((first | (with_reducible first | refine .rs ?_ | refine .ds (by kernel_rfl) ?_ | refine .dg (by kernel_rfl) ?_ | refine .rg ?_ | refine .ite ?_ | refine .ret ?_ | refine .skip ?_ | refine .exit ?_ | refine .scope ?_ | refine .seq (.label ?_) | refine .block ?_ | refine .seq ?_)); (try simp only [vO, vQ, ↓vP, vE, vS, vB, vL, vF, vM, vN, vbs_full, Nat.reduceEqDiff, Nat.reduceAdd, Nat.reduceLeDiff, ne_eq, not_false_eq_true, Nat.reduceMul, Nat.reduceSub, Int.toNat_zero, Int.reduceToNat, Try.underlying3, info3, Try.underlying34, info34, Try.underlying5, info5, Try.underlying4, info4, Try.underlying23, Try.underlying24, h24, hz24, hz, hza, vT])) | ((simp (disch := first | assumption | (apply Go.Cert.ne_of2; assumption; assumption) | (apply Go.Cert.ne_ob; assumption; assumption; (intro e; cases e; done)) | omega) only [w64, w8, tg_eq, Go.V.n1, Go.V.n2, Go.V.nn, Int.tdiv_eq_ediv_of_nonneg, Sg.set_same, Sg.set_ne, Sg.set_ne', Sg.del_ne, Sg.del_ne']); (try simp only [vO, vQ, ↓vP, vE, vS, vB, vL, vF, vM, vN, vbs_full, Nat.reduceEqDiff, Nat.reduceAdd, Nat.reduceLeDiff, ne_eq, not_false_eq_true, Nat.reduceMul, Nat.reduceSub, Int.toNat_zero, Int.reduceToNat, Try.underlying3, info3, Try.underlying34, info34, Try.underlying5, info5, Try.underlying4, info4, Try.underlying23, Try.underlying24, h24, hz24, hz, hza, vT])) | with_reducible refine vfresh_set ?_ | with_reducible refine vfresh_intro (fun _ _ => ?_) | with_reducible refine vif_intro (fun _ => ?_) (fun _ => ?_) | omega | ((with_reducible first | refine vop_at ?_ | refine vops_at ?_ | refine vquiet_at ?_ | refine vmix_at ?_ | refine Holds_at ?_); simp only [vO, vQ, ↓vP, vE, vS, vB, vL, vF, vM, vN, vbs_full, Nat.reduceEqDiff, Nat.reduceAdd, Nat.reduceLeDiff, ne_eq, not_false_eq_true, Nat.reduceMul, Nat.reduceSub, Int.toNat_zero, Int.reduceToNat, Try.underlying3, info3, Try.underlying34, info34, Try.underlying5, info5, Try.underlying4, info4, Try.underlying23, Try.underlying24, h24, hz24, hz, hza, vT]))
  rename_i β2 hβ2 β4 hβ4 hne
  refine VW.loop3 (0 : Nat) () () (fun j _ _ => j ≤ 32 ∧ j ≤ b.length) (fun j _ _ => [(0, .sl k (bytesL b)), (2, .ref β2 0), (4, .ref β4 0), (5, .i j)]) (fun j _ _ => (σ.set β2 (.cells 24 (aB (List.replicate 32 0)))).set β4 (.cells 24 (aB (b.take j ++ List.replicate (32 - j) 0)))) (fun j _ _ => 32 - j) ⟨Nat.zero_le _, Nat.zero_le _⟩ (.refl _) ?_ ?_
  · simp only [vO, vQ, ↓vP, vE, vS, vB, vL, vF, vM, vN, vbs_full, Nat.reduceEqDiff, Nat.reduceAdd, Nat.reduceLeDiff, ne_eq, not_false_eq_true, Nat.reduceMul, Nat.reduceSub, Int.toNat_zero, Int.reduceToNat, vT]
    rfl
  rintro j _ _ ⟨h1, h2⟩
  have hlen : (aB (b.take j ++ List.replicate (32 - j) 0)).length = 32 := by rw [aB_len]; simp; omega
  have hall := aB_all (b.take j ++ List.replicate (32 - j) 0)
  have htk : List.take 32 (aB (b.take j ++ List.replicate (32 - j) 0)) = aB (b.take j ++ List.replicate (32 - j) 0) := List.take_of_length_le (by omega)
  have hpd : ¬ (j < b.length ∧ j < 32) → b.take j ++ List.replicate (32 - j) 0 = pad b := fun h => by
    unfold pad
    rcases Nat.lt_or_ge j 32 with h' | h'
    · have e : j = b.length := by omega
      rw [e, List.take_length, List.take_of_length_le (by omega)]
    · have e : j = 32 := by omega
      rw [e]
      congr 2
      omega
  rcases Nat.lt_or_ge j b.length with hj | hj
  · have hg := bytesL_get b j hj
    repeat' (first | with_reducible rfl | exact .inr trivial | with_reducible apply And.intro | with_reducible apply vqx_step | with_reducible apply vqm_step | with_reducible refine vkp_free (by decide +kernel) ?_ | with_reducible intro _ | ((first | (with_reducible first | refine .rs ?_ | refine .ds (by kernel_rfl) ?_ | refine .dg (by kernel_rfl) ?_ | refine .rg ?_ | refine .ite ?_ | refine .ret ?_ | refine .skip ?_ | refine .exit ?_ | refine .scope ?_ | refine .seq (.label ?_) | refine .block ?_ | refine .seq ?_)); (try simp only [vO, vQ, ↓vP, vE, vS, vB, vL, vF, vM, vN, vbs_full, Nat.reduceEqDiff, Nat.reduceAdd, Nat.reduceLeDiff, ne_eq, not_false_eq_true, Nat.reduceMul, Nat.reduceSub, Int.toNat_zero, Int.reduceToNat, Try.underlying3, info3, Try.underlying34, info34, Try.underlying5, info5, Try.underlying4, info4, Try.underlying23, Try.underlying24, h24, hz24, hz, hza, hz4, hg, hlen, hall, htk, Nat.mul_one, nadd, nadd1, nadd2, nadd3, n1add, n2add, vT])) | ((simp (disch := first | assumption | (apply Go.Cert.ne_of2; assumption; assumption) | (apply Go.Cert.ne_ob; assumption; assumption; (intro e; cases e; done)) | omega) only [w64, w8, tg_eq, Go.V.n1, Go.V.n2, Go.V.nn, Int.tdiv_eq_ediv_of_nonneg, Sg.set_same, Sg.set_ne, Sg.set_ne', Sg.del_ne, Sg.del_ne']); (try simp only [vO, vQ, ↓vP, vE, vS, vB, vL, vF, vM, vN, vbs_full, Nat.reduceEqDiff, Nat.reduceAdd, Nat.reduceLeDiff, ne_eq, not_false_eq_true, Nat.reduceMul, Nat.reduceSub, Int.toNat_zero, Int.reduceToNat, Try.underlying3, info3, Try.underlying34, info34, Try.underlying5, info5, Try.underlying4, info4, Try.underlying23, Try.underlying24, h24, hz24, hz, hza, hz4, hg, hlen, hall, htk, Nat.mul_one, nadd, nadd1, nadd2, nadd3, n1add, n2add, vT])) | (((refine vlo_app (by first | assumption | ((simp (disch := first | assumption | (apply Go.Cert.ne_of2; assumption; assumption) | (apply Go.Cert.ne_ob; assumption; assumption; (intro e; cases e; done)) | omega) only [Sg.set_same, Sg.set_ne, Sg.set_ne', Sg.del_ne, Sg.del_ne']); first | done | rfl | assumption)) ?_)); (try simp only [vO, vQ, ↓vP, vE, vS, vB, vL, vF, vM, vN, vbs_full, Nat.reduceEqDiff, Nat.reduceAdd, Nat.reduceLeDiff, ne_eq, not_false_eq_true, Nat.reduceMul, Nat.reduceSub, Int.toNat_zero, Int.reduceToNat, Try.underlying3, info3, Try.underlying34, info34, Try.underlying5, info5, Try.underlying4, info4, Try.underlying23, Try.underlying24, h24, hz24, hz, hza, hz4, hg, hlen, hall, htk, Nat.mul_one, nadd, nadd1, nadd2, nadd3, n1add, n2add, vT])) | (((refine vst_app (by first | assumption | ((simp (disch := first | assumption | (apply Go.Cert.ne_of2; assumption; assumption) | (apply Go.Cert.ne_ob; assumption; assumption; (intro e; cases e; done)) | omega) only [Sg.set_same, Sg.set_ne, Sg.set_ne', Sg.del_ne, Sg.del_ne']); first | done | rfl | assumption)) ?_)); (try simp only [vO, vQ, ↓vP, vE, vS, vB, vL, vF, vM, vN, vbs_full, Nat.reduceEqDiff, Nat.reduceAdd, Nat.reduceLeDiff, ne_eq, not_false_eq_true, Nat.reduceMul, Nat.reduceSub, Int.toNat_zero, Int.reduceToNat, Try.underlying3, info3, Try.underlying34, info34, Try.underlying5, info5, Try.underlying4, info4, Try.underlying23, Try.underlying24, h24, hz24, hz, hza, hz4, hg, hlen, hall, htk, Nat.mul_one, nadd, nadd1, nadd2, nadd3, n1add, n2add, vT])) | with_reducible refine vfresh_set ?_ | with_reducible refine vfresh_intro (fun _ _ => ?_) | with_reducible refine vif_intro (fun _ => ?_) (fun _ => ?_) | omega | ((with_reducible first | refine vop_at ?_ | refine vops_at ?_ | refine vquiet_at ?_ | refine vmix_at ?_ | refine Holds_at ?_); simp only [vO, vQ, ↓vP, vE, vS, vB, vL, vF, vM, vN, vbs_full, Nat.reduceEqDiff, Nat.reduceAdd, Nat.reduceLeDiff, ne_eq, not_false_eq_true, Nat.reduceMul, Nat.reduceSub, Int.toNat_zero, Int.reduceToNat, Try.underlying3, info3, Try.underlying34, info34, Try.underlying5, info5, Try.underlying4, info4, Try.underlying23, Try.underlying24, h24, hz24, hz, hza, hz4, hg, hlen, hall, htk, Nat.mul_one, nadd, nadd1, nadd2, nadd3, n1add, n2add, vT]))
    · have hp := pad_step b j (by omega) hj
      rw [splice, List.length_singleton] at hp
      exact ⟨j + 1, (), (), ⟨⟨by omega, hj⟩, by omega⟩, by rw [← hp]; exact .refl _, rfl⟩
    · exact ⟨_, (by repeat (first | exact Sg.sub.refl _ | refine Sg.sub.set_both ?_ | refine Sg.sub.set_fresh ?_ (by first | assumption | exact Sg.set_none ‹_› ‹_›) | refine Sg.sub.del_fresh ?_ (by first | assumption | exact Sg.set_none ‹_› ‹_›))), by rw [hpd (by omega), hd], rfl⟩
  · repeat' (first | with_reducible rfl | exact .inr trivial | with_reducible apply And.intro | with_reducible apply vqx_step | with_reducible apply vqm_step | with_reducible refine vkp_free (by decide +kernel) ?_ | with_reducible intro _ | ((first | (with_reducible first | refine .rs ?_ | refine .ds (by kernel_rfl) ?_ | refine .dg (by kernel_rfl) ?_ | refine .rg ?_ | refine .ite ?_ | refine .ret ?_ | refine .skip ?_ | refine .exit ?_ | refine .scope ?_ | refine .seq (.label ?_) | refine .block ?_ | refine .seq ?_)); (try simp only [vO, vQ, ↓vP, vE, vS, vB, vL, vF, vM, vN, vbs_full, Nat.reduceEqDiff, Nat.reduceAdd, Nat.reduceLeDiff, ne_eq, not_false_eq_true, Nat.reduceMul, Nat.reduceSub, Int.toNat_zero, Int.reduceToNat, Try.underlying3, info3, Try.underlying34, info34, Try.underlying5, info5, Try.underlying4, info4, Try.underlying23, Try.underlying24, h24, hz24, hz, hza, hz4, hlen, hall, htk, nadd, nadd1, nadd2, nadd3, n1add, n2add, vT])) | ((simp (disch := first | assumption | (apply Go.Cert.ne_of2; assumption; assumption) | (apply Go.Cert.ne_ob; assumption; assumption; (intro e; cases e; done)) | omega) only [w64, w8, tg_eq, Go.V.n1, Go.V.n2, Go.V.nn, Int.tdiv_eq_ediv_of_nonneg, Sg.set_same, Sg.set_ne, Sg.set_ne', Sg.del_ne, Sg.del_ne']); (try simp only [vO, vQ, ↓vP, vE, vS, vB, vL, vF, vM, vN, vbs_full, Nat.reduceEqDiff, Nat.reduceAdd, Nat.reduceLeDiff, ne_eq, not_false_eq_true, Nat.reduceMul, Nat.reduceSub, Int.toNat_zero, Int.reduceToNat, Try.underlying3, info3, Try.underlying34, info34, Try.underlying5, info5, Try.underlying4, info4, Try.underlying23, Try.underlying24, h24, hz24, hz, hza, hz4, hlen, hall, htk, nadd, nadd1, nadd2, nadd3, n1add, n2add, vT])) | (((refine vlo_app (by first | assumption | ((simp (disch := first | assumption | (apply Go.Cert.ne_of2; assumption; assumption) | (apply Go.Cert.ne_ob; assumption; assumption; (intro e; cases e; done)) | omega) only [Sg.set_same, Sg.set_ne, Sg.set_ne', Sg.del_ne, Sg.del_ne']); first | done | rfl | assumption)) ?_)); (try simp only [vO, vQ, ↓vP, vE, vS, vB, vL, vF, vM, vN, vbs_full, Nat.reduceEqDiff, Nat.reduceAdd, Nat.reduceLeDiff, ne_eq, not_false_eq_true, Nat.reduceMul, Nat.reduceSub, Int.toNat_zero, Int.reduceToNat, Try.underlying3, info3, Try.underlying34, info34, Try.underlying5, info5, Try.underlying4, info4, Try.underlying23, Try.underlying24, h24, hz24, hz, hza, hz4, hlen, hall, htk, nadd, nadd1, nadd2, nadd3, n1add, n2add, vT])) | (((refine vst_app (by first | assumption | ((simp (disch := first | assumption | (apply Go.Cert.ne_of2; assumption; assumption) | (apply Go.Cert.ne_ob; assumption; assumption; (intro e; cases e; done)) | omega) only [Sg.set_same, Sg.set_ne, Sg.set_ne', Sg.del_ne, Sg.del_ne']); first | done | rfl | assumption)) ?_)); (try simp only [vO, vQ, ↓vP, vE, vS, vB, vL, vF, vM, vN, vbs_full, Nat.reduceEqDiff, Nat.reduceAdd, Nat.reduceLeDiff, ne_eq, not_false_eq_true, Nat.reduceMul, Nat.reduceSub, Int.toNat_zero, Int.reduceToNat, Try.underlying3, info3, Try.underlying34, info34, Try.underlying5, info5, Try.underlying4, info4, Try.underlying23, Try.underlying24, h24, hz24, hz, hza, hz4, hlen, hall, htk, nadd, nadd1, nadd2, nadd3, n1add, n2add, vT])) | with_reducible refine vfresh_set ?_ | with_reducible refine vfresh_intro (fun _ _ => ?_) | with_reducible refine vif_intro (fun _ => ?_) (fun _ => ?_) | omega | ((with_reducible first | refine vop_at ?_ | refine vops_at ?_ | refine vquiet_at ?_ | refine vmix_at ?_ | refine Holds_at ?_); simp only [vO, vQ, ↓vP, vE, vS, vB, vL, vF, vM, vN, vbs_full, Nat.reduceEqDiff, Nat.reduceAdd, Nat.reduceLeDiff, ne_eq, not_false_eq_true, Nat.reduceMul, Nat.reduceSub, Int.toNat_zero, Int.reduceToNat, Try.underlying3, info3, Try.underlying34, info34, Try.underlying5, info5, Try.underlying4, info4, Try.underlying23, Try.underlying24, h24, hz24, hz, hza, hz4, hlen, hall, htk, nadd, nadd1, nadd2, nadd3, n1add, n2add, vT]))
    · exact ⟨_, (by repeat (first | exact Sg.sub.refl _ | refine Sg.sub.set_both ?_ | refine Sg.sub.set_fresh ?_ (by first | assumption | exact Sg.set_none ‹_› ‹_›) | refine Sg.sub.del_fresh ?_ (by first | assumption | exact Sg.set_none ‹_› ‹_›))), by rw [hpd (by omega), hd], rfl⟩
theorem pad_tk (p : List UInt8) : (pad p).take 32 = pad p := List.take_of_length_le (by rw [pad_len]; omega)
theorem head_none {b : List UInt8} (h : (openB b 5).2 = true) : headP b = none := by
  unfold headP
  split
  · rename_i a p1 p2 p3 p4 u hr
    rw [if_neg]
    rintro ⟨hu, _⟩
    unfold openB at h
    rw [hr] at h
    simp [hu] at h
  · rfl
theorem open_some {b : List UInt8} (h : (openB b 5).2 = false) : ∃ a p1 p2 p3 p4, (openB b 5).1 = [a, p1, p2, p3, p4] ∧ rowP b = some ([a, p1, p2, p3, p4], b.length) := by
  unfold openB at h ⊢
  cases hr : rowP b with
  | none => rw [hr] at h; cases h
  | some x =>
    obtain ⟨l, u⟩ := x
    rw [hr] at h
    have hd : ¬ (u ≠ b.length ∨ l.length ≠ 5) := of_decide_eq_false h
    have hl : l.length = 5 := by omega
    match l, hl with
    | [a, p1, p2, p3, p4], _ => exact ⟨a, p1, p2, p3, p4, rfl, by rw [show u = b.length by omega]⟩
set_option maxHeartbeats 1000000 in
set_option maxRecDepth 100000 in
theorem t54 (k : Own) (b : List UInt8) (σ : Sg) (hb : b.length ≤ 1000000000000) : VCalls Try.prog 54 [.sl k (bytesL b)] σ (fun x σ' => x = headX b ∧ σ' = σ) := by
  obtain ⟨z26, h26, hz26⟩ := zero26
  obtain ⟨z24, h24, hz24⟩ := zero24
  have hzs := aR zs_len
  have hz : (aB (List.replicate 32 (0 : UInt8))).length = 32 := by rw [aB_len]; simp
  have hz4 : List.drop 32 (aB (List.replicate 32 (0 : UInt8))) = [] := List.drop_of_length_le (by omega)
  have h91 : ∀ σ, VCalls Try.prog 91 [.sl k (bytesL b), .i 5] σ _ := fun σ => t91 k b 5 σ hb
  have hln := (openB_len b 5).2
  cases ho : (openB b 5).2 with
  | true =>
    rw [headX, head_none ho]
    rw [ho] at h91
    (refine vfun (fun _ => .no) mixed Try.func54 (by kernel_rfl) ?_; simp only [bodyOf, Try.f54, Option.getD_some])
    repeat' (first | with_reducible rfl | exact .inr trivial | with_reducible apply And.intro | with_reducible apply vqx_step | with_reducible apply vqm_step | with_reducible refine vkp_free (by decide +kernel) ?_ | with_reducible intro _ | ((first | (with_reducible first | refine .rs ?_ | refine .ds (by kernel_rfl) ?_ | refine .dg (by kernel_rfl) ?_ | refine .rg ?_ | refine .ite ?_ | refine .ret ?_ | refine .skip ?_ | refine .exit ?_ | refine .scope ?_ | refine .seq (.label ?_) | refine .block ?_ | refine .seq ?_)); (try simp only [vO, vQ, ↓vP, vE, vS, vB, vL, vF, vM, vN, vbs_full, Nat.reduceEqDiff, Nat.reduceAdd, Nat.reduceLeDiff, ne_eq, not_false_eq_true, Nat.reduceMul, Nat.reduceSub, Int.toNat_zero, Int.reduceToNat, Try.underlying3, info3, Try.underlying4, info4, Try.underlying24, h24, hz24, Try.underlying25, Try.underlying26, h26, hz26, Try.underlying34, info34, Try.underlying35, info35, Try.underlying70, info70, hzs, Option.getD_some, vT])) | ((simp (disch := first | assumption | (apply Go.Cert.ne_of2; assumption; assumption) | (apply Go.Cert.ne_ob; assumption; assumption; (intro e; cases e; done)) | omega) only [w64, w8, tg_eq, Go.V.n1, Go.V.n2, Go.V.nn, Int.tdiv_eq_ediv_of_nonneg, Sg.set_same, Sg.set_ne, Sg.set_ne', Sg.del_ne, Sg.del_ne']); (try simp only [vO, vQ, ↓vP, vE, vS, vB, vL, vF, vM, vN, vbs_full, Nat.reduceEqDiff, Nat.reduceAdd, Nat.reduceLeDiff, ne_eq, not_false_eq_true, Nat.reduceMul, Nat.reduceSub, Int.toNat_zero, Int.reduceToNat, Try.underlying3, info3, Try.underlying4, info4, Try.underlying24, h24, hz24, Try.underlying25, Try.underlying26, h26, hz26, Try.underlying34, info34, Try.underlying35, info35, Try.underlying70, info70, hzs, Option.getD_some, vT])) | ((((with_reducible refine (h91 _).mono ?_); rintro _ σ' ⟨rfl, rfl⟩)); (try simp only [vO, vQ, ↓vP, vE, vS, vB, vL, vF, vM, vN, vbs_full, Nat.reduceEqDiff, Nat.reduceAdd, Nat.reduceLeDiff, ne_eq, not_false_eq_true, Nat.reduceMul, Nat.reduceSub, Int.toNat_zero, Int.reduceToNat, Try.underlying3, info3, Try.underlying4, info4, Try.underlying24, h24, hz24, Try.underlying25, Try.underlying26, h26, hz26, Try.underlying34, info34, Try.underlying35, info35, Try.underlying70, info70, hzs, Option.getD_some, vT])) | with_reducible refine vfresh_set ?_ | with_reducible refine vfresh_intro (fun _ _ => ?_) | with_reducible refine vif_intro (fun _ => ?_) (fun _ => ?_) | omega | ((with_reducible first | refine vop_at ?_ | refine vops_at ?_ | refine vquiet_at ?_ | refine vmix_at ?_ | refine Holds_at ?_); simp only [vO, vQ, ↓vP, vE, vS, vB, vL, vF, vM, vN, vbs_full, Nat.reduceEqDiff, Nat.reduceAdd, Nat.reduceLeDiff, ne_eq, not_false_eq_true, Nat.reduceMul, Nat.reduceSub, Int.toNat_zero, Int.reduceToNat, Try.underlying3, info3, Try.underlying4, info4, Try.underlying24, h24, hz24, Try.underlying25, Try.underlying26, h26, hz26, Try.underlying34, info34, Try.underlying35, info35, Try.underlying70, info70, hzs, Option.getD_some, vT]))
    all_goals exact ⟨_, (by repeat (first | exact Sg.sub.refl _ | refine Sg.sub.set_both ?_ | refine Sg.sub.set_fresh ?_ (by first | assumption | exact Sg.set_none ‹_› ‹_›) | refine Sg.sub.del_fresh ?_ (by first | assumption | exact Sg.set_none ‹_› ‹_›))), rfl⟩
  | false =>
    obtain ⟨a, p1, p2, p3, p4, hl, hr⟩ := open_some ho
    rw [hl] at hln h91
    rw [ho] at h91
    have hr5 : rowsA (anys [a, p1, p2, p3, p4]) = [[.sl .any (bytesL a)], [.sl .any (bytesL p1)], [.sl .any (bytesL p2)], [.sl .any (bytesL p3)], [.sl .any (bytesL p4)]] := rfl
    rw [hr5] at h91
    have b0 := hln a (by simp)
    have b1 := hln p1 (by simp)
    have b2 := hln p2 (by simp)
    have b3 := hln p3 (by simp)
    have b4 := hln p4 (by simp)
    have h92 := fun k σ => t92 k a σ (by omega)
    have g1 := fun k σ => t93 k p1 σ (by omega)
    have g2 := fun k σ => t93 k p2 σ (by omega)
    have g3 := fun k σ => t93 k p3 σ (by omega)
    have g4 := fun k σ => t93 k p4 σ (by omega)
    have hX : headX b = if a.length = 8 ∧ p1.length = 32 ∧ p2.length = 32 ∧ p3.length = 32 ∧ p4.length = 32 ∧ ¬ bad (i64 (nBE a)) then .tup [.agg (.i (i64 (nBE a)) :: aB (p1 ++ (p2 ++ (p3 ++ p4)))), .i 0] else .tup [.agg (.i 0 :: aB zs), .i 4] := by
      unfold headX headP
      rw [hr]
      simp only
      split <;> rename_i h <;> split at h <;> simp_all
    rw [hX]
    have hL := hdr_list (pad_len p1) (pad_len p2) (pad_len p3) (pad_len p4) zs_len
    have hm1 : min 32 128 = 32 := rfl
    have hm2 : min 64 128 = 64 := rfl
    have hm3 : min 96 128 = 96 := rfl
    have hm4 : min 128 128 = 128 := rfl
    have hm5 : (128 ≤ 128) = True := eq_true (Nat.le_refl _)
    have hall : ∀ l : List UInt8, (aB l).all AV.one = true := aB_all
    have hnv : a.length = 8 → numV a = i64 (nBE a) := fun h => by unfold numV; rw [if_neg (by omega), List.take_of_length_le (by omega)]
    (refine vfun (fun _ => .no) mixed Try.func54 (by kernel_rfl) ?_; simp only [bodyOf, Try.f54, Option.getD_some])
    repeat' (first | with_reducible rfl | exact .inr trivial | with_reducible apply And.intro | with_reducible apply vqx_step | with_reducible apply vqm_step | with_reducible refine vkp_free (by decide +kernel) ?_ | with_reducible intro _ | ((first | (with_reducible first | refine .rs ?_ | refine .ds (by kernel_rfl) ?_ | refine .dg (by kernel_rfl) ?_ | refine .rg ?_ | refine .ite ?_ | refine .ret ?_ | refine .skip ?_ | refine .exit ?_ | refine .scope ?_ | refine .seq (.label ?_) | refine .block ?_ | refine .seq ?_)); (try simp only [vO, vQ, ↓vP, vE, vS, vB, vL, vF, vM, vN, vbs_full, Nat.reduceEqDiff, Nat.reduceAdd, Nat.reduceLeDiff, ne_eq, not_false_eq_true, Nat.reduceMul, Nat.reduceSub, Int.toNat_zero, Int.reduceToNat, Try.underlying3, info3, Try.underlying4, info4, Try.underlying24, h24, hz24, Try.underlying25, Try.underlying26, h26, hz26, Try.underlying34, info34, Try.underlying35, info35, Try.underlying70, info70, hzs, hz, hz4, Option.getD_some, aB_drop, aB_take, aB_app, aB_len, pad_len, pad_tk, zs_len, hall, hL, hm1, hm2, hm3, hm4, hm5, if_true, Nat.reduceSub, List.length_append, List.length_take, List.length_drop, List.getD_cons_zero, List.getD_cons_succ, vT])) | ((simp (disch := first | assumption | (apply Go.Cert.ne_of2; assumption; assumption) | (apply Go.Cert.ne_ob; assumption; assumption; (intro e; cases e; done)) | omega) only [w64, w8, tg_eq, Go.V.n1, Go.V.n2, Go.V.nn, Int.tdiv_eq_ediv_of_nonneg, Sg.set_same, Sg.set_ne, Sg.set_ne', Sg.del_ne, Sg.del_ne']); (try simp only [vO, vQ, ↓vP, vE, vS, vB, vL, vF, vM, vN, vbs_full, Nat.reduceEqDiff, Nat.reduceAdd, Nat.reduceLeDiff, ne_eq, not_false_eq_true, Nat.reduceMul, Nat.reduceSub, Int.toNat_zero, Int.reduceToNat, Try.underlying3, info3, Try.underlying4, info4, Try.underlying24, h24, hz24, Try.underlying25, Try.underlying26, h26, hz26, Try.underlying34, info34, Try.underlying35, info35, Try.underlying70, info70, hzs, hz, hz4, Option.getD_some, aB_drop, aB_take, aB_app, aB_len, pad_len, pad_tk, zs_len, hall, hL, hm1, hm2, hm3, hm4, hm5, if_true, Nat.reduceSub, List.length_append, List.length_take, List.length_drop, List.getD_cons_zero, List.getD_cons_succ, vT])) | ((((with_reducible refine (h91 _).mono ?_); rintro _ σ' ⟨rfl, rfl⟩)); (try simp only [vO, vQ, ↓vP, vE, vS, vB, vL, vF, vM, vN, vbs_full, Nat.reduceEqDiff, Nat.reduceAdd, Nat.reduceLeDiff, ne_eq, not_false_eq_true, Nat.reduceMul, Nat.reduceSub, Int.toNat_zero, Int.reduceToNat, Try.underlying3, info3, Try.underlying4, info4, Try.underlying24, h24, hz24, Try.underlying25, Try.underlying26, h26, hz26, Try.underlying34, info34, Try.underlying35, info35, Try.underlying70, info70, hzs, hz, hz4, Option.getD_some, aB_drop, aB_take, aB_app, aB_len, pad_len, pad_tk, zs_len, hall, hL, hm1, hm2, hm3, hm4, hm5, if_true, Nat.reduceSub, List.length_append, List.length_take, List.length_drop, List.getD_cons_zero, List.getD_cons_succ, vT])) | ((((with_reducible refine (h92 _ _).mono ?_); rintro _ σ' ⟨rfl, rfl⟩)); (try simp only [vO, vQ, ↓vP, vE, vS, vB, vL, vF, vM, vN, vbs_full, Nat.reduceEqDiff, Nat.reduceAdd, Nat.reduceLeDiff, ne_eq, not_false_eq_true, Nat.reduceMul, Nat.reduceSub, Int.toNat_zero, Int.reduceToNat, Try.underlying3, info3, Try.underlying4, info4, Try.underlying24, h24, hz24, Try.underlying25, Try.underlying26, h26, hz26, Try.underlying34, info34, Try.underlying35, info35, Try.underlying70, info70, hzs, hz, hz4, Option.getD_some, aB_drop, aB_take, aB_app, aB_len, pad_len, pad_tk, zs_len, hall, hL, hm1, hm2, hm3, hm4, hm5, if_true, Nat.reduceSub, List.length_append, List.length_take, List.length_drop, List.getD_cons_zero, List.getD_cons_succ, vT])) | ((((with_reducible refine (g1 _ _).mono ?_); rintro _ σ' ⟨rfl, rfl⟩)); (try simp only [vO, vQ, ↓vP, vE, vS, vB, vL, vF, vM, vN, vbs_full, Nat.reduceEqDiff, Nat.reduceAdd, Nat.reduceLeDiff, ne_eq, not_false_eq_true, Nat.reduceMul, Nat.reduceSub, Int.toNat_zero, Int.reduceToNat, Try.underlying3, info3, Try.underlying4, info4, Try.underlying24, h24, hz24, Try.underlying25, Try.underlying26, h26, hz26, Try.underlying34, info34, Try.underlying35, info35, Try.underlying70, info70, hzs, hz, hz4, Option.getD_some, aB_drop, aB_take, aB_app, aB_len, pad_len, pad_tk, zs_len, hall, hL, hm1, hm2, hm3, hm4, hm5, if_true, Nat.reduceSub, List.length_append, List.length_take, List.length_drop, List.getD_cons_zero, List.getD_cons_succ, vT])) | ((((with_reducible refine (g2 _ _).mono ?_); rintro _ σ' ⟨rfl, rfl⟩)); (try simp only [vO, vQ, ↓vP, vE, vS, vB, vL, vF, vM, vN, vbs_full, Nat.reduceEqDiff, Nat.reduceAdd, Nat.reduceLeDiff, ne_eq, not_false_eq_true, Nat.reduceMul, Nat.reduceSub, Int.toNat_zero, Int.reduceToNat, Try.underlying3, info3, Try.underlying4, info4, Try.underlying24, h24, hz24, Try.underlying25, Try.underlying26, h26, hz26, Try.underlying34, info34, Try.underlying35, info35, Try.underlying70, info70, hzs, hz, hz4, Option.getD_some, aB_drop, aB_take, aB_app, aB_len, pad_len, pad_tk, zs_len, hall, hL, hm1, hm2, hm3, hm4, hm5, if_true, Nat.reduceSub, List.length_append, List.length_take, List.length_drop, List.getD_cons_zero, List.getD_cons_succ, vT])) | ((((with_reducible refine (g3 _ _).mono ?_); rintro _ σ' ⟨rfl, rfl⟩)); (try simp only [vO, vQ, ↓vP, vE, vS, vB, vL, vF, vM, vN, vbs_full, Nat.reduceEqDiff, Nat.reduceAdd, Nat.reduceLeDiff, ne_eq, not_false_eq_true, Nat.reduceMul, Nat.reduceSub, Int.toNat_zero, Int.reduceToNat, Try.underlying3, info3, Try.underlying4, info4, Try.underlying24, h24, hz24, Try.underlying25, Try.underlying26, h26, hz26, Try.underlying34, info34, Try.underlying35, info35, Try.underlying70, info70, hzs, hz, hz4, Option.getD_some, aB_drop, aB_take, aB_app, aB_len, pad_len, pad_tk, zs_len, hall, hL, hm1, hm2, hm3, hm4, hm5, if_true, Nat.reduceSub, List.length_append, List.length_take, List.length_drop, List.getD_cons_zero, List.getD_cons_succ, vT])) | ((((with_reducible refine (g4 _ _).mono ?_); rintro _ σ' ⟨rfl, rfl⟩)); (try simp only [vO, vQ, ↓vP, vE, vS, vB, vL, vF, vM, vN, vbs_full, Nat.reduceEqDiff, Nat.reduceAdd, Nat.reduceLeDiff, ne_eq, not_false_eq_true, Nat.reduceMul, Nat.reduceSub, Int.toNat_zero, Int.reduceToNat, Try.underlying3, info3, Try.underlying4, info4, Try.underlying24, h24, hz24, Try.underlying25, Try.underlying26, h26, hz26, Try.underlying34, info34, Try.underlying35, info35, Try.underlying70, info70, hzs, hz, hz4, Option.getD_some, aB_drop, aB_take, aB_app, aB_len, pad_len, pad_tk, zs_len, hall, hL, hm1, hm2, hm3, hm4, hm5, if_true, Nat.reduceSub, List.length_append, List.length_take, List.length_drop, List.getD_cons_zero, List.getD_cons_succ, vT])) | (((refine vlo_app (by first | assumption | ((simp (disch := first | assumption | (apply Go.Cert.ne_of2; assumption; assumption) | (apply Go.Cert.ne_ob; assumption; assumption; (intro e; cases e; done)) | omega) only [Sg.set_same, Sg.set_ne, Sg.set_ne', Sg.del_ne, Sg.del_ne']); first | done | rfl | assumption)) ?_)); (try simp only [vO, vQ, ↓vP, vE, vS, vB, vL, vF, vM, vN, vbs_full, Nat.reduceEqDiff, Nat.reduceAdd, Nat.reduceLeDiff, ne_eq, not_false_eq_true, Nat.reduceMul, Nat.reduceSub, Int.toNat_zero, Int.reduceToNat, Try.underlying3, info3, Try.underlying4, info4, Try.underlying24, h24, hz24, Try.underlying25, Try.underlying26, h26, hz26, Try.underlying34, info34, Try.underlying35, info35, Try.underlying70, info70, hzs, hz, hz4, Option.getD_some, aB_drop, aB_take, aB_app, aB_len, pad_len, pad_tk, zs_len, hall, hL, hm1, hm2, hm3, hm4, hm5, if_true, Nat.reduceSub, List.length_append, List.length_take, List.length_drop, List.getD_cons_zero, List.getD_cons_succ, vT])) | (((refine vst_app (by first | assumption | ((simp (disch := first | assumption | (apply Go.Cert.ne_of2; assumption; assumption) | (apply Go.Cert.ne_ob; assumption; assumption; (intro e; cases e; done)) | omega) only [Sg.set_same, Sg.set_ne, Sg.set_ne', Sg.del_ne, Sg.del_ne']); first | done | rfl | assumption)) ?_)); (try simp only [vO, vQ, ↓vP, vE, vS, vB, vL, vF, vM, vN, vbs_full, Nat.reduceEqDiff, Nat.reduceAdd, Nat.reduceLeDiff, ne_eq, not_false_eq_true, Nat.reduceMul, Nat.reduceSub, Int.toNat_zero, Int.reduceToNat, Try.underlying3, info3, Try.underlying4, info4, Try.underlying24, h24, hz24, Try.underlying25, Try.underlying26, h26, hz26, Try.underlying34, info34, Try.underlying35, info35, Try.underlying70, info70, hzs, hz, hz4, Option.getD_some, aB_drop, aB_take, aB_app, aB_len, pad_len, pad_tk, zs_len, hall, hL, hm1, hm2, hm3, hm4, hm5, if_true, Nat.reduceSub, List.length_append, List.length_take, List.length_drop, List.getD_cons_zero, List.getD_cons_succ, vT])) | with_reducible refine vfresh_set ?_ | with_reducible refine vfresh_intro (fun _ _ => ?_) | with_reducible refine vif_intro (fun _ => ?_) (fun _ => ?_) | omega | ((with_reducible first | refine vop_at ?_ | refine vops_at ?_ | refine vquiet_at ?_ | refine vmix_at ?_ | refine Holds_at ?_); simp only [vO, vQ, ↓vP, vE, vS, vB, vL, vF, vM, vN, vbs_full, Nat.reduceEqDiff, Nat.reduceAdd, Nat.reduceLeDiff, ne_eq, not_false_eq_true, Nat.reduceMul, Nat.reduceSub, Int.toNat_zero, Int.reduceToNat, Try.underlying3, info3, Try.underlying4, info4, Try.underlying24, h24, hz24, Try.underlying25, Try.underlying26, h26, hz26, Try.underlying34, info34, Try.underlying35, info35, Try.underlying70, info70, hzs, hz, hz4, Option.getD_some, aB_drop, aB_take, aB_app, aB_len, pad_len, pad_tk, zs_len, hall, hL, hm1, hm2, hm3, hm4, hm5, if_true, Nat.reduceSub, List.length_append, List.length_take, List.length_drop, List.getD_cons_zero, List.getD_cons_succ, vT]))
    any_goals (refine ⟨σ, (by repeat (first | exact Sg.sub.refl _ | refine Sg.sub.set_both ?_ | refine Sg.sub.set_fresh ?_ (by first | assumption | exact Sg.set_none ‹_› ‹_›) | refine Sg.sub.del_fresh ?_ (by first | assumption | exact Sg.set_none ‹_› ‹_›))), ?_, rfl⟩; rw [if_neg]; rintro ⟨h0, h1, h2, h3, h4, h5⟩; first | contradiction | (rw [← hnv h0] at h5; unfold bad at h5; omega))
    rename_i c0 c1 c2 c3 c4 n1 n2
    refine ⟨σ, (by repeat (first | exact Sg.sub.refl _ | refine Sg.sub.set_both ?_ | refine Sg.sub.set_fresh ?_ (by first | assumption | exact Sg.set_none ‹_› ‹_›) | refine Sg.sub.del_fresh ?_ (by first | assumption | exact Sg.set_none ‹_› ‹_›))), ?_, rfl⟩
    rw [if_pos ⟨c0, c1, c2, c3, c4, fun hb' => by rw [← hnv c0] at hb'; unfold bad at hb'; omega⟩, hnv c0, pad_32 c1, pad_32 c2, pad_32 c3, pad_32 c4]
end Go.Proofs.Ytkbfngepdgdecaa

set_option linter.unusedSimpArgs false
set_option linter.unusedVariables false
namespace Go.Proofs.Ytkbfngepdgdecaa
open Go Go.V Go.Cert
/-- A certificate in bytes. -/
def certB (q : Int) (l : List UInt8) (s : Int) : List UInt8 := rowB [hdB q l, be 8 s.toNat]
def okB (q s : Int) : Prop := ¬ bad q ∧ 0 ≤ s ∧ s < 65536
instance (q s : Int) : Decidable (okB q s) := by unfold okB; infer_instance
theorem pcB_len (q : Int) (l : List UInt8) (s : Int) : ∀ p ∈ [hdB q l, be 8 s.toNat], p.length ≤ 65536 := by
  intro p hp
  rcases List.mem_cons.1 hp with rfl | hp
  · have := hdB_len q l; omega
  · have : p = be 8 s.toNat := by simpa using hp
    rw [this, be_len]; omega
theorem certB_len (q : Int) (l : List UInt8) (s : Int) : (certB q l s).length ≤ 1000 := by
  have := hdB_len q l
  simp [certB, rowB_part, partB, be_len]
  omega
theorem rows2 (k1 k2 : Own) (a b : List UInt8) : ([[.sl k1 (bytesL a)], [.sl k2 (bytesL b)]] : List (List AV)) = rowsA [(k1, a), (k2, b)] := rfl
theorem lose_B' {f : FuncId} {args : List AV} {l : List UInt8} {σ : Sg} (h : VCalls Try.prog f args σ (fun x σ' => OwnB l σ x σ')) : VCalls Try.prog f args σ (fun x σ' => x = .sl .any (bytesL l) ∧ σ' = σ) :=
  h.lose fun x σ' hx => by
    obtain ⟨τ, hτ, rfl, rfl⟩ := hx
    exact ⟨_, σ, AVw.any _ _, Sg.sub_set hτ _, rfl, rfl⟩
set_option maxHeartbeats 400000 in
set_option maxRecDepth 100000 in
theorem t25 (q s : Int) (l : List UInt8) (σ : Sg) (hh : l.length = 128) : VCalls Try.prog 25 [cA q l s] σ (fun x σ' => (x = if okB q s then .tup [.sl .any (bytesL (certB q l s)), .i 0] else .tup [.sl .nil [], .i 1]) ∧ σ' = σ) := by
  obtain ⟨z26, h26, hz26⟩ := zero26
  obtain ⟨z28, h28, hz28⟩ := zero28
  have hl := aR hh
  have hc := cR hh s
  by_cases hq : bad q
  · have h33 := fun σ => t33a q l σ hh hq
    rw [if_neg (fun h => h.1 hq)]
    (refine vfun (fun _ => .ro) mixed Try.func25 (by kernel_rfl) ?_; simp only [bodyOf, Try.f25, Option.getD_some])
    repeat' (first | with_reducible rfl | exact .inr trivial | with_reducible apply And.intro | with_reducible apply vqx_step | with_reducible apply vqm_step | with_reducible refine vkp_free (by decide +kernel) ?_ | with_reducible intro _ | ((first | (with_reducible first | refine .rs ?_ | refine .ds (by kernel_rfl) ?_ | refine .dg (by kernel_rfl) ?_ | refine .rg ?_ | refine .ite ?_ | refine .ret ?_ | refine .skip ?_ | refine .exit ?_ | refine .scope ?_ | refine .seq (.label ?_) | refine .block ?_ | refine .seq ?_)); (try simp only [vO, vQ, ↓vP, vE, vS, vB, vL, vF, vM, vN, vbs_full, Nat.reduceEqDiff, Nat.reduceAdd, Nat.reduceLeDiff, ne_eq, not_false_eq_true, Nat.reduceMul, Nat.reduceSub, Int.toNat_zero, Int.reduceToNat, Try.underlying3, info3, Try.underlying26, h26, Try.underlying28, h28, Try.underlying34, info34, Try.underlying35, info35, hl, hc, vT])) | ((simp (disch := first | assumption | (apply Go.Cert.ne_of2; assumption; assumption) | (apply Go.Cert.ne_ob; assumption; assumption; (intro e; cases e; done)) | omega) only [w64, w8, tg_eq, Go.V.n1, Go.V.n2, Go.V.nn, Int.tdiv_eq_ediv_of_nonneg, Sg.set_same, Sg.set_ne, Sg.set_ne', Sg.del_ne, Sg.del_ne']); (try simp only [vO, vQ, ↓vP, vE, vS, vB, vL, vF, vM, vN, vbs_full, Nat.reduceEqDiff, Nat.reduceAdd, Nat.reduceLeDiff, ne_eq, not_false_eq_true, Nat.reduceMul, Nat.reduceSub, Int.toNat_zero, Int.reduceToNat, Try.underlying3, info3, Try.underlying26, h26, Try.underlying28, h28, Try.underlying34, info34, Try.underlying35, info35, hl, hc, vT])) | ((((with_reducible refine (h33 _).mono ?_); rintro _ S ⟨rfl, rfl⟩)); (try simp only [vO, vQ, ↓vP, vE, vS, vB, vL, vF, vM, vN, vbs_full, Nat.reduceEqDiff, Nat.reduceAdd, Nat.reduceLeDiff, ne_eq, not_false_eq_true, Nat.reduceMul, Nat.reduceSub, Int.toNat_zero, Int.reduceToNat, Try.underlying3, info3, Try.underlying26, h26, Try.underlying28, h28, Try.underlying34, info34, Try.underlying35, info35, hl, hc, vT])) | with_reducible refine vfresh_set ?_ | with_reducible refine vfresh_intro (fun _ _ => ?_) | with_reducible refine vif_intro (fun _ => ?_) (fun _ => ?_) | omega | ((with_reducible first | refine vop_at ?_ | refine vops_at ?_ | refine vquiet_at ?_ | refine vmix_at ?_ | refine Holds_at ?_); simp only [vO, vQ, ↓vP, vE, vS, vB, vL, vF, vM, vN, vbs_full, Nat.reduceEqDiff, Nat.reduceAdd, Nat.reduceLeDiff, ne_eq, not_false_eq_true, Nat.reduceMul, Nat.reduceSub, Int.toNat_zero, Int.reduceToNat, Try.underlying3, info3, Try.underlying26, h26, Try.underlying28, h28, Try.underlying34, info34, Try.underlying35, info35, hl, hc, vT]))
    all_goals exact ⟨_, .refl _, rfl⟩
  · have h33 := fun σ => lose_B (t33 q l σ hh hq)
    by_cases hs : 0 ≤ s ∧ s < 65536
    · rw [if_pos ⟨hq, hs⟩]
      have h47 : ∀ σ, VCalls Try.prog 47 [.i s] σ (fun x σ' => x = .sl .any (bytesL (be 8 s.toNat)) ∧ σ' = σ) := fun σ => by
        have := t47 s.toNat σ
        rw [Int.toNat_of_nonneg hs.1] at this
        exact lose_B' this
      have h34 : ∀ k σ, VCalls Try.prog 34 [.sl k [[.sl .any (bytesL (hdB q l))], [.sl .any (bytesL (be 8 s.toNat))]]] σ (fun x σ' => x = .tup [.sl .any (bytesL (certB q l s)), .i 0] ∧ σ' = σ) := fun k σ => lose_B (t34 k [(.any, hdB q l), (.any, be 8 s.toNat)] σ (by simp) (by have := pcB_len q l s; simpa using this))
      (refine vfun (fun _ => .ro) mixed Try.func25 (by kernel_rfl) ?_; simp only [bodyOf, Try.f25, Option.getD_some])
      repeat' (first | with_reducible rfl | exact .inr trivial | with_reducible apply And.intro | with_reducible apply vqx_step | with_reducible apply vqm_step | with_reducible refine vkp_free (by decide +kernel) ?_ | with_reducible intro _ | ((first | (with_reducible first | refine .rs ?_ | refine .ds (by kernel_rfl) ?_ | refine .dg (by kernel_rfl) ?_ | refine .rg ?_ | refine .ite ?_ | refine .ret ?_ | refine .skip ?_ | refine .exit ?_ | refine .scope ?_ | refine .seq (.label ?_) | refine .block ?_ | refine .seq ?_)); (try simp only [vO, vQ, ↓vP, vE, vS, vB, vL, vF, vM, vN, vbs_full, Nat.reduceEqDiff, Nat.reduceAdd, Nat.reduceLeDiff, ne_eq, not_false_eq_true, Nat.reduceMul, Nat.reduceSub, Int.toNat_zero, Int.reduceToNat, Try.underlying3, info3, Try.underlying26, h26, Try.underlying28, h28, Try.underlying34, info34, Try.underlying35, info35, Try.underlying70, info70, hl, hc, vown2_ro, vT])) | ((simp (disch := first | assumption | (apply Go.Cert.ne_of2; assumption; assumption) | (apply Go.Cert.ne_ob; assumption; assumption; (intro e; cases e; done)) | omega) only [w64, w8, tg_eq, Go.V.n1, Go.V.n2, Go.V.nn, Int.tdiv_eq_ediv_of_nonneg, Sg.set_same, Sg.set_ne, Sg.set_ne', Sg.del_ne, Sg.del_ne']); (try simp only [vO, vQ, ↓vP, vE, vS, vB, vL, vF, vM, vN, vbs_full, Nat.reduceEqDiff, Nat.reduceAdd, Nat.reduceLeDiff, ne_eq, not_false_eq_true, Nat.reduceMul, Nat.reduceSub, Int.toNat_zero, Int.reduceToNat, Try.underlying3, info3, Try.underlying26, h26, Try.underlying28, h28, Try.underlying34, info34, Try.underlying35, info35, Try.underlying70, info70, hl, hc, vown2_ro, vT])) | ((((with_reducible refine (h33 _).mono ?_); rintro _ S ⟨rfl, rfl⟩)); (try simp only [vO, vQ, ↓vP, vE, vS, vB, vL, vF, vM, vN, vbs_full, Nat.reduceEqDiff, Nat.reduceAdd, Nat.reduceLeDiff, ne_eq, not_false_eq_true, Nat.reduceMul, Nat.reduceSub, Int.toNat_zero, Int.reduceToNat, Try.underlying3, info3, Try.underlying26, h26, Try.underlying28, h28, Try.underlying34, info34, Try.underlying35, info35, Try.underlying70, info70, hl, hc, vown2_ro, vT])) | ((((with_reducible refine (h47 _).mono ?_); rintro _ S ⟨rfl, rfl⟩)); (try simp only [vO, vQ, ↓vP, vE, vS, vB, vL, vF, vM, vN, vbs_full, Nat.reduceEqDiff, Nat.reduceAdd, Nat.reduceLeDiff, ne_eq, not_false_eq_true, Nat.reduceMul, Nat.reduceSub, Int.toNat_zero, Int.reduceToNat, Try.underlying3, info3, Try.underlying26, h26, Try.underlying28, h28, Try.underlying34, info34, Try.underlying35, info35, Try.underlying70, info70, hl, hc, vown2_ro, vT])) | ((((with_reducible refine (h34 _ _).mono ?_); rintro _ S ⟨rfl, rfl⟩)); (try simp only [vO, vQ, ↓vP, vE, vS, vB, vL, vF, vM, vN, vbs_full, Nat.reduceEqDiff, Nat.reduceAdd, Nat.reduceLeDiff, ne_eq, not_false_eq_true, Nat.reduceMul, Nat.reduceSub, Int.toNat_zero, Int.reduceToNat, Try.underlying3, info3, Try.underlying26, h26, Try.underlying28, h28, Try.underlying34, info34, Try.underlying35, info35, Try.underlying70, info70, hl, hc, vown2_ro, vT])) | with_reducible refine vfresh_set ?_ | with_reducible refine vfresh_intro (fun _ _ => ?_) | with_reducible refine vif_intro (fun _ => ?_) (fun _ => ?_) | omega | ((with_reducible first | refine vop_at ?_ | refine vops_at ?_ | refine vquiet_at ?_ | refine vmix_at ?_ | refine Holds_at ?_); simp only [vO, vQ, ↓vP, vE, vS, vB, vL, vF, vM, vN, vbs_full, Nat.reduceEqDiff, Nat.reduceAdd, Nat.reduceLeDiff, ne_eq, not_false_eq_true, Nat.reduceMul, Nat.reduceSub, Int.toNat_zero, Int.reduceToNat, Try.underlying3, info3, Try.underlying26, h26, Try.underlying28, h28, Try.underlying34, info34, Try.underlying35, info35, Try.underlying70, info70, hl, hc, vown2_ro, vT]))
      all_goals exact ⟨_, .refl _, rfl⟩
    · rw [if_neg (fun h => hs h.2)]
      (refine vfun (fun _ => .ro) mixed Try.func25 (by kernel_rfl) ?_; simp only [bodyOf, Try.f25, Option.getD_some])
      repeat' (first | with_reducible rfl | exact .inr trivial | with_reducible apply And.intro | with_reducible apply vqx_step | with_reducible apply vqm_step | with_reducible refine vkp_free (by decide +kernel) ?_ | with_reducible intro _ | ((first | (with_reducible first | refine .rs ?_ | refine .ds (by kernel_rfl) ?_ | refine .dg (by kernel_rfl) ?_ | refine .rg ?_ | refine .ite ?_ | refine .ret ?_ | refine .skip ?_ | refine .exit ?_ | refine .scope ?_ | refine .seq (.label ?_) | refine .block ?_ | refine .seq ?_)); (try simp only [vO, vQ, ↓vP, vE, vS, vB, vL, vF, vM, vN, vbs_full, Nat.reduceEqDiff, Nat.reduceAdd, Nat.reduceLeDiff, ne_eq, not_false_eq_true, Nat.reduceMul, Nat.reduceSub, Int.toNat_zero, Int.reduceToNat, Try.underlying3, info3, Try.underlying26, h26, Try.underlying28, h28, Try.underlying34, info34, Try.underlying35, info35, Try.underlying70, info70, hl, hc, vT])) | ((simp (disch := first | assumption | (apply Go.Cert.ne_of2; assumption; assumption) | (apply Go.Cert.ne_ob; assumption; assumption; (intro e; cases e; done)) | omega) only [w64, w8, tg_eq, Go.V.n1, Go.V.n2, Go.V.nn, Int.tdiv_eq_ediv_of_nonneg, Sg.set_same, Sg.set_ne, Sg.set_ne', Sg.del_ne, Sg.del_ne']); (try simp only [vO, vQ, ↓vP, vE, vS, vB, vL, vF, vM, vN, vbs_full, Nat.reduceEqDiff, Nat.reduceAdd, Nat.reduceLeDiff, ne_eq, not_false_eq_true, Nat.reduceMul, Nat.reduceSub, Int.toNat_zero, Int.reduceToNat, Try.underlying3, info3, Try.underlying26, h26, Try.underlying28, h28, Try.underlying34, info34, Try.underlying35, info35, Try.underlying70, info70, hl, hc, vT])) | ((((with_reducible refine (h33 _).mono ?_); rintro _ S ⟨rfl, rfl⟩)); (try simp only [vO, vQ, ↓vP, vE, vS, vB, vL, vF, vM, vN, vbs_full, Nat.reduceEqDiff, Nat.reduceAdd, Nat.reduceLeDiff, ne_eq, not_false_eq_true, Nat.reduceMul, Nat.reduceSub, Int.toNat_zero, Int.reduceToNat, Try.underlying3, info3, Try.underlying26, h26, Try.underlying28, h28, Try.underlying34, info34, Try.underlying35, info35, Try.underlying70, info70, hl, hc, vT])) | with_reducible refine vfresh_set ?_ | with_reducible refine vfresh_intro (fun _ _ => ?_) | with_reducible refine vif_intro (fun _ => ?_) (fun _ => ?_) | omega | ((with_reducible first | refine vop_at ?_ | refine vops_at ?_ | refine vquiet_at ?_ | refine vmix_at ?_ | refine Holds_at ?_); simp only [vO, vQ, ↓vP, vE, vS, vB, vL, vF, vM, vN, vbs_full, Nat.reduceEqDiff, Nat.reduceAdd, Nat.reduceLeDiff, ne_eq, not_false_eq_true, Nat.reduceMul, Nat.reduceSub, Int.toNat_zero, Int.reduceToNat, Try.underlying3, info3, Try.underlying26, h26, Try.underlying28, h28, Try.underlying34, info34, Try.underlying35, info35, Try.underlying70, info70, hl, hc, vT]))
      all_goals first | exact ⟨_, .refl _, rfl⟩ | (exfalso; omega)
set_option maxHeartbeats 400000 in
set_option maxRecDepth 100000 in
theorem t28 (q s : Int) (l : List UInt8) (σ : Sg) (hh : l.length = 128) : VCalls Try.prog 28 [cA q l s] σ (fun x σ' => (x = if okB q s then .tup [.sl .any (bytesL (certB q l s)), .i 0] else .tup [.sl .nil [], .i 1]) ∧ σ' = σ) := by
  obtain ⟨z26, h26, hz26⟩ := zero26
  obtain ⟨z28, h28, hz28⟩ := zero28
  have hl := aR hh
  have hc := cR hh s
  by_cases hq : bad q
  · have h35 := fun σ => t35a q l σ hh hq
    rw [if_neg (fun h => h.1 hq)]
    (refine vfun (fun _ => .ro) mixed Try.func28 (by kernel_rfl) ?_; simp only [bodyOf, Try.f28, Option.getD_some])
    repeat' (first | with_reducible rfl | exact .inr trivial | with_reducible apply And.intro | with_reducible apply vqx_step | with_reducible apply vqm_step | with_reducible refine vkp_free (by decide +kernel) ?_ | with_reducible intro _ | ((first | (with_reducible first | refine .rs ?_ | refine .ds (by kernel_rfl) ?_ | refine .dg (by kernel_rfl) ?_ | refine .rg ?_ | refine .ite ?_ | refine .ret ?_ | refine .skip ?_ | refine .exit ?_ | refine .scope ?_ | refine .seq (.label ?_) | refine .block ?_ | refine .seq ?_)); (try simp only [vO, vQ, ↓vP, vE, vS, vB, vL, vF, vM, vN, vbs_full, Nat.reduceEqDiff, Nat.reduceAdd, Nat.reduceLeDiff, ne_eq, not_false_eq_true, Nat.reduceMul, Nat.reduceSub, Int.toNat_zero, Int.reduceToNat, Try.underlying3, info3, Try.underlying26, h26, Try.underlying28, h28, Try.underlying34, info34, Try.underlying35, info35, hl, hc, vT])) | ((simp (disch := first | assumption | (apply Go.Cert.ne_of2; assumption; assumption) | (apply Go.Cert.ne_ob; assumption; assumption; (intro e; cases e; done)) | omega) only [w64, w8, tg_eq, Go.V.n1, Go.V.n2, Go.V.nn, Int.tdiv_eq_ediv_of_nonneg, Sg.set_same, Sg.set_ne, Sg.set_ne', Sg.del_ne, Sg.del_ne']); (try simp only [vO, vQ, ↓vP, vE, vS, vB, vL, vF, vM, vN, vbs_full, Nat.reduceEqDiff, Nat.reduceAdd, Nat.reduceLeDiff, ne_eq, not_false_eq_true, Nat.reduceMul, Nat.reduceSub, Int.toNat_zero, Int.reduceToNat, Try.underlying3, info3, Try.underlying26, h26, Try.underlying28, h28, Try.underlying34, info34, Try.underlying35, info35, hl, hc, vT])) | ((((with_reducible refine (h35 _).mono ?_); rintro _ S ⟨rfl, rfl⟩)); (try simp only [vO, vQ, ↓vP, vE, vS, vB, vL, vF, vM, vN, vbs_full, Nat.reduceEqDiff, Nat.reduceAdd, Nat.reduceLeDiff, ne_eq, not_false_eq_true, Nat.reduceMul, Nat.reduceSub, Int.toNat_zero, Int.reduceToNat, Try.underlying3, info3, Try.underlying26, h26, Try.underlying28, h28, Try.underlying34, info34, Try.underlying35, info35, hl, hc, vT])) | with_reducible refine vfresh_set ?_ | with_reducible refine vfresh_intro (fun _ _ => ?_) | with_reducible refine vif_intro (fun _ => ?_) (fun _ => ?_) | omega | ((with_reducible first | refine vop_at ?_ | refine vops_at ?_ | refine vquiet_at ?_ | refine vmix_at ?_ | refine Holds_at ?_); simp only [vO, vQ, ↓vP, vE, vS, vB, vL, vF, vM, vN, vbs_full, Nat.reduceEqDiff, Nat.reduceAdd, Nat.reduceLeDiff, ne_eq, not_false_eq_true, Nat.reduceMul, Nat.reduceSub, Int.toNat_zero, Int.reduceToNat, Try.underlying3, info3, Try.underlying26, h26, Try.underlying28, h28, Try.underlying34, info34, Try.underlying35, info35, hl, hc, vT]))
    all_goals exact ⟨_, .refl _, rfl⟩
  · have h35 := fun σ => lose_B (t35 q l σ hh hq)
    by_cases hs : 0 ≤ s ∧ s < 65536
    · rw [if_pos ⟨hq, hs⟩]
      have h52 : ∀ σ, VCalls Try.prog 52 [.i s] σ (fun x σ' => x = .sl .any (bytesL (be 8 s.toNat)) ∧ σ' = σ) := fun σ => by
        have := t52 s.toNat σ (by omega)
        rwa [Int.toNat_of_nonneg hs.1] at this
      have h36 : ∀ k σ, VCalls Try.prog 36 [.sl k [[.sl .any (bytesL (hdB q l))], [.sl .any (bytesL (be 8 s.toNat))]]] σ (fun x σ' => x = .sl .any (bytesL (certB q l s)) ∧ σ' = σ) := fun k σ => lose_B' (t36 k [(.any, hdB q l), (.any, be 8 s.toNat)] σ (by simp) (by have := pcB_len q l s; simpa using this))
      (refine vfun (fun _ => .ro) mixed Try.func28 (by kernel_rfl) ?_; simp only [bodyOf, Try.f28, Option.getD_some])
      repeat' (first | with_reducible rfl | exact .inr trivial | with_reducible apply And.intro | with_reducible apply vqx_step | with_reducible apply vqm_step | with_reducible refine vkp_free (by decide +kernel) ?_ | with_reducible intro _ | ((first | (with_reducible first | refine .rs ?_ | refine .ds (by kernel_rfl) ?_ | refine .dg (by kernel_rfl) ?_ | refine .rg ?_ | refine .ite ?_ | refine .ret ?_ | refine .skip ?_ | refine .exit ?_ | refine .scope ?_ | refine .seq (.label ?_) | refine .block ?_ | refine .seq ?_)); (try simp only [vO, vQ, ↓vP, vE, vS, vB, vL, vF, vM, vN, vbs_full, Nat.reduceEqDiff, Nat.reduceAdd, Nat.reduceLeDiff, ne_eq, not_false_eq_true, Nat.reduceMul, Nat.reduceSub, Int.toNat_zero, Int.reduceToNat, Try.underlying3, info3, Try.underlying26, h26, Try.underlying28, h28, Try.underlying34, info34, Try.underlying35, info35, Try.underlying70, info70, hl, hc, vown2_ro, vT])) | ((simp (disch := first | assumption | (apply Go.Cert.ne_of2; assumption; assumption) | (apply Go.Cert.ne_ob; assumption; assumption; (intro e; cases e; done)) | omega) only [w64, w8, tg_eq, Go.V.n1, Go.V.n2, Go.V.nn, Int.tdiv_eq_ediv_of_nonneg, Sg.set_same, Sg.set_ne, Sg.set_ne', Sg.del_ne, Sg.del_ne']); (try simp only [vO, vQ, ↓vP, vE, vS, vB, vL, vF, vM, vN, vbs_full, Nat.reduceEqDiff, Nat.reduceAdd, Nat.reduceLeDiff, ne_eq, not_false_eq_true, Nat.reduceMul, Nat.reduceSub, Int.toNat_zero, Int.reduceToNat, Try.underlying3, info3, Try.underlying26, h26, Try.underlying28, h28, Try.underlying34, info34, Try.underlying35, info35, Try.underlying70, info70, hl, hc, vown2_ro, vT])) | ((((with_reducible refine (h35 _).mono ?_); rintro _ S ⟨rfl, rfl⟩)); (try simp only [vO, vQ, ↓vP, vE, vS, vB, vL, vF, vM, vN, vbs_full, Nat.reduceEqDiff, Nat.reduceAdd, Nat.reduceLeDiff, ne_eq, not_false_eq_true, Nat.reduceMul, Nat.reduceSub, Int.toNat_zero, Int.reduceToNat, Try.underlying3, info3, Try.underlying26, h26, Try.underlying28, h28, Try.underlying34, info34, Try.underlying35, info35, Try.underlying70, info70, hl, hc, vown2_ro, vT])) | ((((with_reducible refine (h52 _).mono ?_); rintro _ S ⟨rfl, rfl⟩)); (try simp only [vO, vQ, ↓vP, vE, vS, vB, vL, vF, vM, vN, vbs_full, Nat.reduceEqDiff, Nat.reduceAdd, Nat.reduceLeDiff, ne_eq, not_false_eq_true, Nat.reduceMul, Nat.reduceSub, Int.toNat_zero, Int.reduceToNat, Try.underlying3, info3, Try.underlying26, h26, Try.underlying28, h28, Try.underlying34, info34, Try.underlying35, info35, Try.underlying70, info70, hl, hc, vown2_ro, vT])) | ((((with_reducible refine (h36 _ _).mono ?_); rintro _ S ⟨rfl, rfl⟩)); (try simp only [vO, vQ, ↓vP, vE, vS, vB, vL, vF, vM, vN, vbs_full, Nat.reduceEqDiff, Nat.reduceAdd, Nat.reduceLeDiff, ne_eq, not_false_eq_true, Nat.reduceMul, Nat.reduceSub, Int.toNat_zero, Int.reduceToNat, Try.underlying3, info3, Try.underlying26, h26, Try.underlying28, h28, Try.underlying34, info34, Try.underlying35, info35, Try.underlying70, info70, hl, hc, vown2_ro, vT])) | with_reducible refine vfresh_set ?_ | with_reducible refine vfresh_intro (fun _ _ => ?_) | with_reducible refine vif_intro (fun _ => ?_) (fun _ => ?_) | omega | ((with_reducible first | refine vop_at ?_ | refine vops_at ?_ | refine vquiet_at ?_ | refine vmix_at ?_ | refine Holds_at ?_); simp only [vO, vQ, ↓vP, vE, vS, vB, vL, vF, vM, vN, vbs_full, Nat.reduceEqDiff, Nat.reduceAdd, Nat.reduceLeDiff, ne_eq, not_false_eq_true, Nat.reduceMul, Nat.reduceSub, Int.toNat_zero, Int.reduceToNat, Try.underlying3, info3, Try.underlying26, h26, Try.underlying28, h28, Try.underlying34, info34, Try.underlying35, info35, Try.underlying70, info70, hl, hc, vown2_ro, vT]))
      all_goals exact ⟨_, .refl _, rfl⟩
    · rw [if_neg (fun h => hs h.2)]
      (refine vfun (fun _ => .ro) mixed Try.func28 (by kernel_rfl) ?_; simp only [bodyOf, Try.f28, Option.getD_some])
      repeat' (first | with_reducible rfl | exact .inr trivial | with_reducible apply And.intro | with_reducible apply vqx_step | with_reducible apply vqm_step | with_reducible refine vkp_free (by decide +kernel) ?_ | with_reducible intro _ | ((first | (with_reducible first | refine .rs ?_ | refine .ds (by kernel_rfl) ?_ | refine .dg (by kernel_rfl) ?_ | refine .rg ?_ | refine .ite ?_ | refine .ret ?_ | refine .skip ?_ | refine .exit ?_ | refine .scope ?_ | refine .seq (.label ?_) | refine .block ?_ | refine .seq ?_)); (try simp only [vO, vQ, ↓vP, vE, vS, vB, vL, vF, vM, vN, vbs_full, Nat.reduceEqDiff, Nat.reduceAdd, Nat.reduceLeDiff, ne_eq, not_false_eq_true, Nat.reduceMul, Nat.reduceSub, Int.toNat_zero, Int.reduceToNat, Try.underlying3, info3, Try.underlying26, h26, Try.underlying28, h28, Try.underlying34, info34, Try.underlying35, info35, Try.underlying70, info70, hl, hc, vT])) | ((simp (disch := first | assumption | (apply Go.Cert.ne_of2; assumption; assumption) | (apply Go.Cert.ne_ob; assumption; assumption; (intro e; cases e; done)) | omega) only [w64, w8, tg_eq, Go.V.n1, Go.V.n2, Go.V.nn, Int.tdiv_eq_ediv_of_nonneg, Sg.set_same, Sg.set_ne, Sg.set_ne', Sg.del_ne, Sg.del_ne']); (try simp only [vO, vQ, ↓vP, vE, vS, vB, vL, vF, vM, vN, vbs_full, Nat.reduceEqDiff, Nat.reduceAdd, Nat.reduceLeDiff, ne_eq, not_false_eq_true, Nat.reduceMul, Nat.reduceSub, Int.toNat_zero, Int.reduceToNat, Try.underlying3, info3, Try.underlying26, h26, Try.underlying28, h28, Try.underlying34, info34, Try.underlying35, info35, Try.underlying70, info70, hl, hc, vT])) | ((((with_reducible refine (h35 _).mono ?_); rintro _ S ⟨rfl, rfl⟩)); (try simp only [vO, vQ, ↓vP, vE, vS, vB, vL, vF, vM, vN, vbs_full, Nat.reduceEqDiff, Nat.reduceAdd, Nat.reduceLeDiff, ne_eq, not_false_eq_true, Nat.reduceMul, Nat.reduceSub, Int.toNat_zero, Int.reduceToNat, Try.underlying3, info3, Try.underlying26, h26, Try.underlying28, h28, Try.underlying34, info34, Try.underlying35, info35, Try.underlying70, info70, hl, hc, vT])) | with_reducible refine vfresh_set ?_ | with_reducible refine vfresh_intro (fun _ _ => ?_) | with_reducible refine vif_intro (fun _ => ?_) (fun _ => ?_) | omega | ((with_reducible first | refine vop_at ?_ | refine vops_at ?_ | refine vquiet_at ?_ | refine vmix_at ?_ | refine Holds_at ?_); simp only [vO, vQ, ↓vP, vE, vS, vB, vL, vF, vM, vN, vbs_full, Nat.reduceEqDiff, Nat.reduceAdd, Nat.reduceLeDiff, ne_eq, not_false_eq_true, Nat.reduceMul, Nat.reduceSub, Int.toNat_zero, Int.reduceToNat, Try.underlying3, info3, Try.underlying26, h26, Try.underlying28, h28, Try.underlying34, info34, Try.underlying35, info35, Try.underlying70, info70, hl, hc, vT]))
      all_goals first | exact ⟨_, .refl _, rfl⟩ | (exfalso; omega)
end Go.Proofs.Ytkbfngepdgdecaa
