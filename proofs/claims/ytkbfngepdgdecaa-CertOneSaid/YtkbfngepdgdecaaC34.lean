import Derived.Test.YtkbfngepdgdecaaC27
import Derived.Test.YtkbfngepdgdecaaV18
set_option linter.unusedSimpArgs false
set_option linter.unusedVariables false
namespace Go.Proofs.Ytkbfngepdgdecaa
open Go Go.V Go.Cert Go.RowKit
/-- The types of the laws' arguments. -/
abbrev plainL : List TypeId := [3, 5, 9, 22, 23, 24, 25, 26, 27, 28, 34, 47]
theorem plainL_ok : plainSet Try.prog plainL = true := by kernel_rfl
theorem take_self {l : List AV} {n : Nat} (h : l.length = n) : l.take n = l := List.take_of_length_le (by omega)
theorem dec5s : ∀ (cs : List AV), (∀ i, i < cs.length → AT Try.prog 5 ((cs.drop i).take 1)) → ∃ l : List UInt8, cs = aB l
  | [], _ => ⟨[], rfl⟩
  | x :: r, h => by
    have h0 := h 0 (by simp)
    obtain ⟨n, hn, hw⟩ := AT.inv_int Try.underlying5 h0
    obtain ⟨l, rfl⟩ := dec5s r (fun i hi => by have := h (i + 1) (by simpa using hi); simpa using this)
    have hx : x = .val (.int .u8 n) := by simpa using hn
    simp only [Lit.wf, Bool.and_eq_true, decide_eq_true_eq] at hw
    have h1 : (0 : Int) ≤ n := hw.1
    have h2 : n ≤ 255 := hw.2
    refine ⟨UInt8.ofNat n.toNat :: l, ?_⟩
    have e : ((UInt8.ofNat n.toNat).toNat : Int) = n := by rw [UInt8.toNat_ofNat']; omega
    show x :: aB l = AV.u8 (UInt8.ofNat n.toNat).toNat :: aB l
    rw [e, hx]
theorem dec24 {cs : List AV} (h : AT Try.prog 24 cs) : ∃ l : List UInt8, cs = aB l ∧ l.length = 32 := by
  obtain ⟨hl, he⟩ := AT.inv_array Try.underlying24 h
  have hc : Try.prog.cellsOf 5 = 1 := by kernel_rfl
  have hc2 : Try.prog.cellsOf 24 = 32 := by kernel_rfl
  rw [hc2] at hl
  obtain ⟨l, rfl⟩ := dec5s cs (fun i hi => by have := he i (by omega); rwa [hc, Nat.mul_one] at this)
  exact ⟨l, rfl, by rw [aB_len] at hl; exact hl⟩
theorem dec3 {cs : List AV} (h : AT Try.prog 3 cs) : ∃ n : Int, cs = [.i n] ∧ -9223372036854775808 ≤ n ∧ n ≤ 9223372036854775807 := by
  obtain ⟨n, rfl, hw⟩ := AT.inv_int Try.underlying3 h
  exact ⟨n, rfl, wf_i64 hw⟩
theorem dec26 {cs : List AV} (h : AT Try.prog 26 cs) : ∃ (q : Int) (l : List UInt8), cs = .i q :: aB l ∧ l.length = 128 := by
  obtain ⟨hl, hf⟩ := AT.inv_struct Try.underlying26 h
  have c3 : Try.prog.cellsOf 3 = 1 := by kernel_rfl
  have c24 : Try.prog.cellsOf 24 = 32 := by kernel_rfl
  have c26 : Try.prog.cellsOf 26 = 129 := by kernel_rfl
  rw [c26] at hl
  simp only [List.forall_mem_cons, c3, c24] at hf
  obtain ⟨f0, f1, f2, f3, f4, _⟩ := hf
  obtain ⟨q, hq, _⟩ := dec3 f0
  obtain ⟨a, ha, la⟩ := dec24 f1
  obtain ⟨b, hb, lb⟩ := dec24 f2
  obtain ⟨c, hc, lc⟩ := dec24 f3
  obtain ⟨d, hd, ld⟩ := dec24 f4
  refine ⟨q, a ++ (b ++ (c ++ d)), ?_, by simp [la, lb, lc, ld]⟩
  have e1 : cs = cs.take 1 ++ cs.drop 1 := (List.take_append_drop 1 cs).symm
  have e2 : cs.drop 1 = (cs.drop 1).take 32 ++ cs.drop 33 := by have := (List.take_append_drop 32 (cs.drop 1)).symm; rwa [List.drop_drop] at this
  have e3 : cs.drop 33 = (cs.drop 33).take 32 ++ cs.drop 65 := by have := (List.take_append_drop 32 (cs.drop 33)).symm; rwa [List.drop_drop] at this
  have e4 : cs.drop 65 = (cs.drop 65).take 32 ++ cs.drop 97 := by have := (List.take_append_drop 32 (cs.drop 65)).symm; rwa [List.drop_drop] at this
  have e5 : cs.drop 97 = (cs.drop 97).take 32 := (take_self (by simp [hl])).symm
  rw [List.drop_zero] at hq
  rw [e1, hq, e2, ha, e3, hb, e4, hc, e5, hd]
  simp [aB]
theorem dec28 {cs : List AV} (h : AT Try.prog 28 cs) : ∃ (q s : Int) (l : List UInt8), cs = .i q :: (aB l ++ [.i s]) ∧ l.length = 128 := by
  obtain ⟨hl, hf⟩ := AT.inv_struct Try.underlying28 h
  have c3 : Try.prog.cellsOf 3 = 1 := by kernel_rfl
  have c26 : Try.prog.cellsOf 26 = 129 := by kernel_rfl
  have c28 : Try.prog.cellsOf 28 = 130 := by kernel_rfl
  rw [c28] at hl
  simp only [List.forall_mem_cons, c3, c26] at hf
  obtain ⟨f0, f1, _⟩ := hf
  obtain ⟨q, l, hq, hll⟩ := dec26 f0
  obtain ⟨s, hs, _⟩ := dec3 f1
  refine ⟨q, s, l, ?_, hll⟩
  have e1 : cs = cs.take 129 ++ cs.drop 129 := (List.take_append_drop 129 cs).symm
  have e2 : cs.drop 129 = (cs.drop 129).take 1 := (take_self (by simp [hl])).symm
  rw [List.drop_zero] at hq
  rw [e1, hq, e2, hs]
  rfl
theorem dec47 {cs : List AV} (h : AT Try.prog 47 cs) : ∃ s : Sgn, cs = sgnA s ∧ s.2.2.length = 128 := by
  obtain ⟨hl, hf⟩ := AT.inv_struct Try.underlying47 h
  have c3 : Try.prog.cellsOf 3 = 1 := by kernel_rfl
  have c26 : Try.prog.cellsOf 26 = 129 := by kernel_rfl
  have c47 : Try.prog.cellsOf 47 = 130 := by kernel_rfl
  rw [c47] at hl
  simp only [List.forall_mem_cons, c3, c26] at hf
  obtain ⟨f0, f1, _⟩ := hf
  obtain ⟨w, hw, _⟩ := dec3 f0
  obtain ⟨q, l, hq, hll⟩ := dec26 f1
  refine ⟨(w, q, l), ?_, hll⟩
  have e1 : cs = cs.take 1 ++ cs.drop 1 := (List.take_append_drop 1 cs).symm
  have e2 : cs.drop 1 = (cs.drop 1).take 129 := (take_self (by simp [hl])).symm
  rw [List.drop_zero] at hw
  rw [e1, hw, e2, hq]
  rfl
theorem dec_rows {es : List (List AV)} : (∀ x ∈ es, AT Try.prog 47 x) → ∃ sl : List Sgn, es = sgnsA sl ∧ ∀ s ∈ sl, s.2.2.length = 128 := by
  induction es with
  | nil => intro _; exact ⟨[], rfl, fun s hs => (List.not_mem_nil hs).elim⟩
  | cons x r ih =>
    intro h
    obtain ⟨s, rfl, h1⟩ := dec47 (h x (List.mem_cons_self ..))
    obtain ⟨sl, rfl, h2⟩ := ih fun y hy => h y (List.mem_cons_of_mem _ hy)
    refine ⟨s :: sl, rfl, fun z hz => ?_⟩
    rcases List.mem_cons.1 hz with rfl | hz
    · exact h1
    · exact h2 z hz
theorem dec22 {x : AV} (h : AT Try.prog 22 [x]) : ∃ (k : Own) (sl : List Sgn), x = .sl k (sgnsA sl) ∧ (∀ s ∈ sl, s.2.2.length = 128) ∧ sl.length ≤ 9223372036854775807 := by
  rcases AT.inv_slice Try.underlying22 h with h | ⟨es, h, hn, hes⟩
  · exact ⟨.nil, [], List.head_eq_of_cons_eq h, fun s hs => (List.not_mem_nil hs).elim, by simp⟩
  · obtain ⟨sl, rfl, h2⟩ := dec_rows hes
    refine ⟨.view, sl, by simpa using h, h2, ?_⟩
    rw [sgnsA_len] at hn
    exact hn
end Go.Proofs.Ytkbfngepdgdecaa
