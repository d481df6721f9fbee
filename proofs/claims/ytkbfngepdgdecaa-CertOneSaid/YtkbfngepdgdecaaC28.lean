/-wraps2-/
import Derived.Test.YtkbfngepdgdecaaC27
set_option linter.unusedSimpArgs false
set_option linter.unusedVariables false
namespace Go.Cert
open Go.V
theorem quarters {a b : List UInt8} (ha : a.length = 128) (hb : b.length = 128) : (a = b) ↔ (a.take 32 = b.take 32 ∧ (a.drop 32).take 32 = (b.drop 32).take 32 ∧ (a.drop 64).take 32 = (b.drop 64).take 32 ∧ (a.drop 96).take 32 = (b.drop 96).take 32) := by
  constructor
  · rintro rfl; exact ⟨rfl, rfl, rfl, rfl⟩
  · rintro ⟨h1, h2, h3, h4⟩
    have e : ∀ c : List UInt8, c.length = 128 → c = c.take 32 ++ ((c.drop 32).take 32 ++ ((c.drop 64).take 32 ++ (c.drop 96).take 32)) := fun c hc => by
      have h0 : (c.drop 96).take 32 = c.drop 96 := List.take_of_length_le (by simp [hc])
      have h1 : (c.drop 64).take 32 ++ c.drop 96 = c.drop 64 := by
        have := List.take_append_drop 32 (c.drop 64)
        rwa [List.drop_drop] at this
      have h2 : (c.drop 32).take 32 ++ c.drop 64 = c.drop 32 := by
        have := List.take_append_drop 32 (c.drop 32)
        rwa [List.drop_drop] at this
      rw [h0, h1, h2, List.take_append_drop]
    rw [e a ha, e b hb, h1, h2, h3, h4]
theorem veqIn_array {P : Program} {d : Nat} {t e : TypeId} {n : Nat} {xs ys : List AV} (hu : P.underlying t = some (.array n e)) (hi : (tInfo P e).isSome = true) : veqIn P (d + 1) t (.agg xs) (.agg ys) = veqIs P (veqIn P d e) e (P.cellsOf e) xs ys (List.range n) := by
  simp only [veqIn, hu, hi, if_true]
end Go.Cert
namespace Go.Proofs.Ytkbfngepdgdecaa
open Go Go.V Go.Cert
theorem partO_u8 (a : List UInt8) (i : Nat) (h : i < a.length) : partO Try.prog 5 ((aB a).drop i) = some (AV.u8 a[i].toNat) := by
  rw [aB_drop, List.drop_eq_getElem_cons h]
  exact partO_one info5 Try.underlying5 rfl
theorem veqIs_u8 {a b : List UInt8} {n : Nat} (ha : a.length = n) (hb : b.length = n) (d : Nat) : ∀ l : List Nat, (∀ i ∈ l, i < n) → veqIs Try.prog (veqIn Try.prog (d + 1) 5) 5 1 (aB a) (aB b) l = some (decide (∀ i ∈ l, a[i]? = b[i]?))
  | [], _ => by simp [veqIs]
  | i :: l, h => by
    have hi := h i (List.mem_cons_self ..)
    have ih := veqIs_u8 ha hb d l (fun j hj => h j (List.mem_cons_of_mem _ hj))
    rw [veqIs, Nat.mul_one, partO_u8 a i (by omega), partO_u8 b i (by omega)]
    simp only [veqIn_int Try.underlying5, ih]
    rw [← Bool.decide_and]
    refine congrArg some (decide_eq_decide.2 ?_)
    have e : ((a[i]'(by omega)).toNat : Int) = ((b[i]'(by omega)).toNat : Int) ↔ a[i]? = b[i]? := by
      rw [List.getElem?_eq_getElem (by omega), List.getElem?_eq_getElem (by omega)]
      constructor
      · intro h
        exact congrArg some (UInt8.toNat_inj.1 (Int.ofNat.inj h))
      · intro h
        rw [Option.some.inj h]
    rw [e]
    simp
theorem eq24 {a b : List UInt8} (ha : a.length = 32) (hb : b.length = 32) (d : Nat) : veqIn Try.prog (d + 2) 24 (.agg (aB a)) (.agg (aB b)) = some (decide (a = b)) := by
  obtain ⟨z, h24⟩ := sz24
  have hc : Try.prog.cellsOf 5 = 1 := by kernel_rfl
  rw [veqIn_array (d := d + 1) Try.underlying24 (by rw [info5]; rfl), hc]
  have := veqIs_u8 ha hb d (List.range 32) (fun i hi => by simpa using hi)
  refine this.trans (congrArg some (decide_eq_decide.2 ?_))
  constructor
  · intro h
    refine List.ext_getElem? fun i => ?_
    rcases Nat.lt_or_ge i 32 with hi | hi
    · exact h i (by simpa using hi)
    · rw [List.getElem?_eq_none (by omega), List.getElem?_eq_none (by omega)]
  · rintro rfl i _
    rfl
theorem partO_24 (l : List UInt8) (h : 32 ≤ l.length) : partO Try.prog 24 (aB l) = some (.agg (aB (l.take 32))) := by
  obtain ⟨z, h24⟩ := sz24
  simp only [partO, h24, Try.underlying24]
  rw [if_pos (by rfl), if_pos (by rw [aB_len]; exact h), aB_take]
set_option maxRecDepth 100000 in
theorem eq26 {q q' : Int} {a b : List UInt8} (ha : a.length = 128) (hb : b.length = 128) (d : Nat) : veqIn Try.prog (d + 4) 26 (.agg (.i q :: aB a)) (.agg (.i q' :: aB b)) = some (decide (q = q' ∧ a = b)) := by
  have hd : ∀ (l : List UInt8) (k : Nat), (AV.i q :: aB l).drop (k + 1) = aB (l.drop k) ∧ (AV.i q' :: aB l).drop (k + 1) = aB (l.drop k) := fun l k => ⟨by rw [List.drop_succ_cons, aB_drop], by rw [List.drop_succ_cons, aB_drop]⟩
  rw [veqIn_struct (d := d + 3) Try.underlying26 (by kernel_rfl)]
  have h24 : ∀ (k : Nat), k + 32 ≤ 128 → veqIn Try.prog (d + 3) 24 (.agg (aB ((a.drop k).take 32))) (.agg (aB ((b.drop k).take 32))) = some (decide ((a.drop k).take 32 = (b.drop k).take 32)) := fun k hk => eq24 (d := d + 1) (by simp [ha]; omega) (by simp [hb]; omega)
  have p24 : ∀ (l : List UInt8) (k : Nat), k + 32 ≤ l.length → partO Try.prog 24 (aB (l.drop k)) = some (.agg (aB ((l.drop k).take 32))) := fun l k hk => partO_24 _ (by simp; omega)
  refine (veqFs_cons (x := .i q) (y := .i q') (by decide) (partO_one info3 Try.underlying3 rfl) (partO_one info3 Try.underlying3 rfl) (veqIn_int Try.underlying3)
    (veqFs_cons (x := .agg (aB ((a.drop 0).take 32))) (y := .agg (aB ((b.drop 0).take 32))) (by decide) (by rw [(hd a 0).1]; exact p24 a 0 (by omega)) (by rw [(hd b 0).2]; exact p24 b 0 (by omega)) (h24 0 (by omega))
    (veqFs_cons (x := .agg (aB ((a.drop 32).take 32))) (y := .agg (aB ((b.drop 32).take 32))) (by decide) (by rw [(hd a 32).1]; exact p24 a 32 (by omega)) (by rw [(hd b 32).2]; exact p24 b 32 (by omega)) (h24 32 (by omega))
    (veqFs_cons (x := .agg (aB ((a.drop 64).take 32))) (y := .agg (aB ((b.drop 64).take 32))) (by decide) (by rw [(hd a 64).1]; exact p24 a 64 (by omega)) (by rw [(hd b 64).2]; exact p24 b 64 (by omega)) (h24 64 (by omega))
    (veqFs_cons (x := .agg (aB ((a.drop 96).take 32))) (y := .agg (aB ((b.drop 96).take 32))) (by decide) (by rw [(hd a 96).1]; exact p24 a 96 (by omega)) (by rw [(hd b 96).2]; exact p24 b 96 (by omega)) (h24 96 (by omega)) rfl))))).trans ?_
  rw [Bool.and_true, ← Bool.decide_and, ← Bool.decide_and, ← Bool.decide_and, ← Bool.decide_and]
  refine congrArg some (decide_eq_decide.2 ?_)
  rw [quarters ha hb, List.drop_zero, List.drop_zero]
set_option maxRecDepth 100000 in
theorem eq28 {q q' s s' : Int} {a b : List UInt8} (ha : a.length = 128) (hb : b.length = 128) (d : Nat) : veqIn Try.prog (d + 6) 28 (.agg (.i q :: (aB a ++ [.i s]))) (.agg (.i q' :: (aB b ++ [.i s']))) = some (decide (q = q' ∧ a = b ∧ s = s')) := by
  obtain ⟨z26, h26⟩ := sz26
  have p26 : ∀ (q s : Int) (l : List UInt8), l.length = 128 → partO Try.prog 26 (.i q :: (aB l ++ [.i s])) = some (.agg (.i q :: aB l)) := fun q s l hl => by
    obtain ⟨h1, _, _, _, h5, _⟩ := cR hl s
    simp only [partO, h26, Try.underlying26]
    rw [if_pos (by rfl), if_pos (by rw [List.length_cons, h1]; omega), List.take_succ_cons, h5]
  have d129 : ∀ (q s : Int) (l : List UInt8), l.length = 128 → (AV.i q :: (aB l ++ [AV.i s])).drop 129 = [.i s] := fun q s l hl => by
    obtain ⟨_, _, _, _, _, h6⟩ := cR hl s
    rw [List.drop_succ_cons, h6]
  rw [veqIn_struct (d := d + 5) Try.underlying28 (by kernel_rfl)]
  refine (veqFs_cons (x := .agg (.i q :: aB a)) (y := .agg (.i q' :: aB b)) (by decide) (p26 q s a ha) (p26 q' s' b hb) (eq26 (d := d + 1) ha hb)
    (veqFs_cons (x := .i s) (y := .i s') (by decide) (by rw [d129 q s a ha]; exact partO_one info3 Try.underlying3 rfl) (by rw [d129 q' s' b hb]; exact partO_one info3 Try.underlying3 rfl) (veqIn_int Try.underlying3) rfl)).trans ?_
  rw [Bool.and_true, ← Bool.decide_and]
  exact congrArg some (decide_eq_decide.2 (by rw [and_assoc]))
set_option maxRecDepth 100000 in
theorem eqT28 {q q' s s' : Int} {a b : List UInt8} (ha : a.length = 128) (hb : b.length = 128) (t : TypeDesc) : veqT Try.prog 28 t (.agg (.i q :: (aB a ++ [.i s]))) (.agg (.i q' :: (aB b ++ [.i s']))) = some (decide (q = q' ∧ a = b ∧ s = s')) := by
  rw [veqT_agg (by kernel_rfl)]
  exact eq28 (d := 9994) ha hb
set_option maxRecDepth 100000 in
theorem eqT26 {q q' : Int} {a b : List UInt8} (ha : a.length = 128) (hb : b.length = 128) (t : TypeDesc) : veqT Try.prog 26 t (.agg (.i q :: aB a)) (.agg (.i q' :: aB b)) = some (decide (q = q' ∧ a = b)) := by
  rw [veqT_agg (by kernel_rfl)]
  exact eq26 (d := 9996) ha hb
end Go.Proofs.Ytkbfngepdgdecaa
