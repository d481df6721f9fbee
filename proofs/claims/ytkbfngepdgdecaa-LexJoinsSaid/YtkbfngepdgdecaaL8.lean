import Derived.Test.YtkbfngepdgdecaaL7
set_option linter.unusedSimpArgs false
namespace Go.Lex
open Go.V Go.Proofs.Ytkbfngepdgdecaa
/-- What stands behind an opening quote: the text, and how many bytes with the closing quote. -/
def qd : List UInt8 → Option (List UInt8 × Nat)
  | [] => none
  | [c] => if c = 39 then some ([], 1) else none
  | c :: d :: r => if c = 39 then (if d = 39 then (qd r).map (fun p => (39 :: p.1, 2 + p.2)) else some ([], 1)) else (qd (d :: r)).map (fun p => (c :: p.1, 1 + p.2))
def qa (acc : List UInt8) (m : Nat) (o : Option (List UInt8 × Nat)) : Option (List UInt8 × Nat) := o.map (fun p => (acc ++ p.1, m + p.2))
theorem qa_qa (a b : List UInt8) (m n : Nat) (o : Option (List UInt8 × Nat)) : qa a m (qa b n o) = qa (a ++ b) (m + n) o := by
  cases o with
  | none => rfl
  | some p => simp [qa, Nat.add_assoc]
theorem qa_zero (o : Option (List UInt8 × Nat)) : qa [] 0 o = o := by
  cases o with
  | none => rfl
  | some p => simp [qa]
theorem qa_none (a : List UInt8) (m : Nat) : qa a m none = none := rfl
theorem qd_other {c : UInt8} {r : List UInt8} (h : c ≠ 39) : qd (c :: r) = qa [c] 1 (qd r) := by
  cases r with
  | nil => simp [qd, h, qa]
  | cons d r => simp [qd, h, qa]
theorem qd_two (r : List UInt8) : qd (39 :: 39 :: r) = qa [39] 2 (qd r) := by simp [qd, qa]
theorem qd_close {r : List UInt8} (h : ∀ d r', r = d :: r' → d ≠ 39) : qd (39 :: r) = some ([], 1) := by
  cases r with
  | nil => rfl
  | cons d r => simp [qd, h d r rfl]
theorem qd_upTo (m : List UInt8) : qd m = qa (m.take (upTo 39 m)) (upTo 39 m) (qd (m.drop (upTo 39 m))) := by
  induction m with
  | nil => rfl
  | cons c r ih =>
    by_cases h : c = 39
    · subst h
      have : upTo 39 (39 :: r) = 0 := by simp [upTo]
      rw [this]; simp [qa_zero]
    · have : upTo 39 (c :: r) = upTo 39 r + 1 := by simp [upTo, h]
      rw [this, qd_other h, List.take_succ_cons, List.drop_succ_cons]
      conv => lhs; rw [ih]
      rw [qa_qa, Nat.add_comm 1]
      rfl
theorem upTo_le (c : UInt8) (m : List UInt8) : upTo c m ≤ m.length := (List.takeWhile_prefix _).length_le
theorem upTo_at (c : UInt8) (m : List UInt8) (h : upTo c m < m.length) : m.getD (upTo c m) 0 = c := by
  induction m with
  | nil => simp at h
  | cons d r ih =>
    by_cases e : d = c
    · subst e
      have : upTo d (d :: r) = 0 := by simp [upTo]
      rw [this]; rfl
    · have h1 : upTo c (d :: r) = upTo c r + 1 := by simp [upTo, e]
      rw [h1] at h ⊢
      have := ih (by simpa using h)
      simpa using this
theorem eq39 (c : UInt8) : c = 39 ↔ c.toNat = 39 := ⟨fun h => by rw [h]; rfl, fun h => UInt8.toNat_inj.1 h⟩
theorem qd_at {l : List UInt8} {k : Nat} (h : k < l.length) (hc : (l.getD k 0).toNat ≠ 39) : qd (l.drop k) = qa [l.getD k 0] 1 (qd (l.drop (k + 1))) := by
  rw [List.drop_eq_getElem_cons h, ← getD_lt h]
  exact qd_other (fun e => hc ((eq39 _).1 e))
theorem qd_at2 {l : List UInt8} {k : Nat} (h : k + 1 < l.length) (hc : (l.getD k 0).toNat = 39) (hd : (l.getD (k + 1) 0).toNat = 39) : qd (l.drop k) = qa [39] 2 (qd (l.drop (k + 2))) := by
  rw [List.drop_eq_getElem_cons (by omega), ← getD_lt (by omega), List.drop_eq_getElem_cons h, ← getD_lt h, (eq39 _).2 hc, (eq39 _).2 hd]
  exact qd_two _
theorem qd_at1 {l : List UInt8} {k : Nat} (h : k < l.length) (hc : (l.getD k 0).toNat = 39) (hd : k + 1 < l.length → (l.getD (k + 1) 0).toNat ≠ 39) : qd (l.drop k) = some ([], 1) := by
  rw [List.drop_eq_getElem_cons h, ← getD_lt h, (eq39 _).2 hc]
  refine qd_close (fun d r' e => ?_)
  have hlt : k + 1 < l.length := by
    have := congrArg List.length e
    simp at this
    omega
  rw [List.drop_eq_getElem_cons hlt, ← getD_lt hlt] at e
  injection e with e1 e2
  subst e1
  exact fun e => hd hlt ((eq39 _).1 e)
theorem qd_end {l : List UInt8} {k : Nat} (h : l.length ≤ k) : qd (l.drop k) = none := by rw [List.drop_of_length_le h]; rfl
/-- A text in quotes. -/
def quotedT (r : List UInt8) : Except Nat (Nat × List UInt8 × Nat × Nat) :=
  match qd (r.drop 1) with
  | none => .error 3
  | some (t, n) => if 40 < t.length then .error 2 else .ok (4, t, 0, 1 + n)
theorem quotedT_none {r : List UInt8} (h : qd (r.drop 1) = none) : quotedT r = .error 3 := by unfold quotedT; rw [h]
theorem quotedT_long {r t : List UInt8} {n : Nat} (h : qd (r.drop 1) = some (t, n)) (h' : 40 < t.length) : quotedT r = .error 2 := by unfold quotedT; rw [h]; exact if_pos h'
theorem quotedT_ok {r t : List UInt8} {n : Nat} (h : qd (r.drop 1) = some (t, n)) (h' : ¬ 40 < t.length) : quotedT r = .ok (4, t, 0, 1 + n) := by unfold quotedT; rw [h]; exact if_neg h'
theorem bytes_snoc (l : List UInt8) (b : UInt8) : bytesL l ++ [[AV.u8 b.toNat]] = bytesL (l ++ [b]) := by simp [bytesL]
theorem pre39 {l : List UInt8} {k : Nat} : hasPre [39] (l.drop k) = true ↔ k < l.length ∧ (l.getD k 0).toNat = 39 := by
  by_cases h : k < l.length
  · rw [List.drop_eq_getElem_cons h, ← getD_lt h]
    have h1 : ∀ (c : UInt8) (m : List UInt8), (List.take 1 (c :: m) = [39]) ↔ c.toNat = 39 := fun c m => by simp [eq39]
    simp only [hasPre, List.length_cons, List.length_nil, Nat.zero_add, decide_eq_true_eq, h1, h, true_and]
  · rw [List.drop_of_length_le (by omega)]
    simp [hasPre]; omega
end Go.Lex
namespace Go.Proofs.Ytkbfngepdgdecaa
open Go Go.V Go.Lex
theorem Bld.get {β : Nat} {acc : List UInt8} {σ S : Sg} (hb : Bld β acc σ S) {x : Nat} {o : Ob} (h : σ x = some o) : S x = some o := by
  obtain ⟨h0, ⟨rfl, rfl⟩ | ⟨τ, hτ, hτ0, rfl⟩⟩ := hb
  all_goals
    have e1 : x ≠ β := fun e => by rw [e, h0] at h; cases h
    simp only [Sg.set, if_neg e1]
  · exact h
  · rw [if_neg (fun e => by rw [e, hτ0] at h; cases h)]; exact h
theorem Bld.sub {β : Nat} {acc : List UInt8} {σ S : Sg} (hb : Bld β acc σ S) : σ.sub S := fun _ _ h => hb.get h
theorem Bld.sub' {β x : Nat} {acc : List UInt8} {σ S : Sg} {o : Ob} (hb : Bld β acc (σ.set x o) S) (hx : σ x = none) : σ.sub S := fun _ _ h => hb.sub _ _ (Sg.sub_set hx o _ _ h)
theorem t101q (β : Nat) (acc : List UInt8) (σ S : Sg) (hb : Bld β acc σ S) (hl : acc.length < 2 ^ 40) : VCalls Try.prog 101 [.ref β 0, .u8 39] S (fun x σ' => x = .val .nilIface ∧ Bld β (acc ++ [39]) σ σ') := t101 β acc 39 σ S hb hl
theorem t99q (l : List UInt8) (σ : Sg) : VCalls Try.prog 99 [.s (bs l), .u8 39] σ (fun x σ' => x = .i (if upTo 39 l < l.length then (upTo 39 l : Nat) else -1) ∧ σ' = σ) := t99 l 39 σ
set_option maxHeartbeats 1000000 in
set_option maxRecDepth 100000 in
theorem t71 (r : List UInt8) (σ : Sg) (hl : r.length < 2 ^ 30) (h0 : 0 < r.length) : VCalls Try.prog 71 [.s (bs r)] σ (fun x σ' => QOut (quotedT r) 0 x ∧ σ' = σ) := by
  (refine vfun (fun _ => .no) mixed Try.func71 (by kernel_rfl) ?_; simp only [bodyOf, Try.f71, Option.getD_some])
  repeat' (first | with_reducible rfl | exact .inr trivial | with_reducible apply And.intro | with_reducible apply vqx_step | with_reducible apply vqm_step | with_reducible refine vkp_free (by decide +kernel) ?_ | with_reducible intro _ | ((first | (with_reducible first | refine .rs ?_ | refine .ds (by kernel_rfl) ?_ | refine .dg (by kernel_rfl) ?_ | refine .rg ?_ | refine .ite ?_ | refine .ret ?_ | refine .skip ?_ | refine .exit ?_ | refine .scope ?_ | refine .seq (.label ?_) | refine .block ?_ | refine .seq ?_)); (try simp only [vO, vQ, ↓vP, vE, vS, vB, vL, vF, vM, vN, vbs_full, Nat.reduceEqDiff, Nat.reduceAdd, Nat.reduceLeDiff, ne_eq, not_false_eq_true, Nat.reduceMul, Nat.reduceSub, Int.toNat_zero, Int.reduceToNat, Try.underlying9, Try.underlying5, Try.underlying3, Try.underlying35, Try.underlying59, info9, info59, info3, info35, info140, Try.underlying140, vT])) | ((simp (disch := first | assumption | omega) only [w64, w8, tg_eq, n1, n2, nn, Int.tdiv_eq_ediv_of_nonneg, Sg.set_same, Sg.set_ne, Sg.set_ne', Sg.del_ne, Sg.del_ne']); (try simp only [vO, vQ, ↓vP, vE, vS, vB, vL, vF, vM, vN, vbs_full, Nat.reduceEqDiff, Nat.reduceAdd, Nat.reduceLeDiff, ne_eq, not_false_eq_true, Nat.reduceMul, Nat.reduceSub, Int.toNat_zero, Int.reduceToNat, Try.underlying9, Try.underlying5, Try.underlying3, Try.underlying35, Try.underlying59, info9, info59, info3, info35, info140, Try.underlying140, vT])) | with_reducible refine vfresh_set ?_ | with_reducible refine vfresh_intro (fun _ _ => ?_) | with_reducible refine vif_intro (fun _ => ?_) (fun _ => ?_) | omega | ((with_reducible first | refine vop_at ?_ | refine vops_at ?_ | refine vquiet_at ?_ | refine vmix_at ?_ | refine Holds_at ?_); simp only [vO, vQ, ↓vP, vE, vS, vB, vL, vF, vM, vN, vbs_full, Nat.reduceEqDiff, Nat.reduceAdd, Nat.reduceLeDiff, ne_eq, not_false_eq_true, Nat.reduceMul, Nat.reduceSub, Int.toNat_zero, Int.reduceToNat, Try.underlying9, Try.underlying5, Try.underlying3, Try.underlying35, Try.underlying59, info9, info59, info3, info35, info140, Try.underlying140, vT]))
  rename_i x hx b hb hne
  refine VW.loop3 (1 : Nat) ([] : List UInt8) _ (fun k acc S => 1 ≤ k ∧ k ≤ r.length ∧ acc.length ≤ k ∧ qd (r.drop 1) = qa acc (k - 1) (qd (r.drop k)) ∧ Bld b acc (σ.set x (.cells 59 [.i 0, .s (bs []), .i 0, .i 0])) S) (fun k _ S => [(0, .s (bs r)), (2, .ref x 0), (5, .ref b 0), (6, .i k)]) (fun _ _ S => S) (fun k _ _ => r.length - k) ⟨by omega, by omega, by simp, by rw [qa_zero], ⟨by rw [Sg.set_other _ _ hne]; exact hb, .inl ⟨rfl, rfl⟩⟩⟩ (.refl _) ?_ (fun k acc S ⟨h1, h2, h3, h4, hB⟩ => have hS : S x = some (.cells 59 [.i 0, .s (bs []), .i 0, .i 0]) := hB.get (Sg.set_same _ _ _); ?_)
  · simp only [vO, vQ, ↓vP, vE, vS, vB, vL, vF, vM, vN, vbs_full, Nat.reduceEqDiff, Nat.reduceAdd, Nat.reduceLeDiff, ne_eq, not_false_eq_true, Nat.reduceMul, Nat.reduceSub, Int.toNat_zero, Int.reduceToNat, vT]
    trivial
  have hu := qd_upTo (r.drop k)
  have hul := upTo_le 39 (r.drop k)
  have hua := upTo_at 39 (r.drop k)
  have ht : VCalls Try.prog 99 [.s (bs (r.drop k)), .u8 39] S (fun x σ' => x = .i (if upTo 39 (r.drop k) < r.length - k then (upTo 39 (r.drop k) : Nat) else -1) ∧ σ' = S) := by
    have := t99q (r.drop k) S
    rw [List.length_drop] at this
    exact this
  simp only [List.length_drop, List.drop_drop, List.getD_eq_getElem?_getD, List.getElem?_drop] at hu hul hua
  rw [hu, qa_qa] at h4
  generalize upTo 39 (r.drop k) = m at *
  have tp : ∀ (l : List UInt8), VCalls Try.prog 68 [.s (bs l), .s (bs [39])] S (fun x σ' => x = .b (hasPre [39] l) ∧ σ' = S) := fun l => t68 l [39] S
  rcases Nat.lt_or_ge m (r.length - k) with hm | hm
  · simp only [if_pos hm] at ht
    have hc : ∀ m', (r.drop k).take m = (r.take (k + m)).drop k ∧ (m' = k + (m + 1) → k + m + 1 = m') := fun m' => ⟨by rw [List.drop_take]; congr 1; omega, by omega⟩
    have hat : (r.getD (k + m) 0).toNat = 39 := by rw [List.getD_eq_getElem?_getD, hua hm]; rfl
    have hlen : (acc ++ (r.take (k + m)).drop k).length ≤ k + m := by simp; omega
    rw [(hc 0).1] at h4
    clear hc hu
    repeat' (first | with_reducible rfl | exact .inr trivial | with_reducible apply And.intro | with_reducible apply vqx_step | with_reducible apply vqm_step | with_reducible refine vkp_free (by decide +kernel) ?_ | with_reducible intro _ | ((first | (with_reducible first | refine .rs ?_ | refine .ds (by kernel_rfl) ?_ | refine .dg (by kernel_rfl) ?_ | refine .rg ?_ | refine .ite ?_ | refine .ret ?_ | refine .skip ?_ | refine .exit ?_ | refine .scope ?_ | refine .seq (.label ?_) | refine .block ?_ | refine .seq ?_)); (try simp only [vO, vQ, ↓vP, vE, vS, vB, vL, vF, vM, vN, vbs_full, Nat.reduceEqDiff, Nat.reduceAdd, Nat.reduceLeDiff, ne_eq, not_false_eq_true, Nat.reduceMul, Nat.reduceSub, Int.toNat_zero, Int.reduceToNat, Try.underlying9, Try.underlying5, Try.underlying3, Try.underlying35, Try.underlying59, info9, info59, info3, info35, info140, Try.underlying140, hS, nadd, nadd1, nadd2, nadd3, n1add, n2add, vT])) | ((simp (disch := first | assumption | omega) only [w64, w8, tg_eq, n1, n2, nn, Int.tdiv_eq_ediv_of_nonneg, Sg.set_same, Sg.set_ne, Sg.set_ne', Sg.del_ne, Sg.del_ne']); (try simp only [vO, vQ, ↓vP, vE, vS, vB, vL, vF, vM, vN, vbs_full, Nat.reduceEqDiff, Nat.reduceAdd, Nat.reduceLeDiff, ne_eq, not_false_eq_true, Nat.reduceMul, Nat.reduceSub, Int.toNat_zero, Int.reduceToNat, Try.underlying9, Try.underlying5, Try.underlying3, Try.underlying35, Try.underlying59, info9, info59, info3, info35, info140, Try.underlying140, hS, nadd, nadd1, nadd2, nadd3, n1add, n2add, vT])) | ((with_reducible refine ht.use ?_); (try simp only [vO, vQ, ↓vP, vE, vS, vB, vL, vF, vM, vN, vbs_full, Nat.reduceEqDiff, Nat.reduceAdd, Nat.reduceLeDiff, ne_eq, not_false_eq_true, Nat.reduceMul, Nat.reduceSub, Int.toNat_zero, Int.reduceToNat, Try.underlying9, Try.underlying5, Try.underlying3, Try.underlying35, Try.underlying59, info9, info59, info3, info35, info140, Try.underlying140, hS, nadd, nadd1, nadd2, nadd3, n1add, n2add, vT])) | ((with_reducible refine (t68 _ _ _).use ?_); (try simp only [vO, vQ, ↓vP, vE, vS, vB, vL, vF, vM, vN, vbs_full, Nat.reduceEqDiff, Nat.reduceAdd, Nat.reduceLeDiff, ne_eq, not_false_eq_true, Nat.reduceMul, Nat.reduceSub, Int.toNat_zero, Int.reduceToNat, Try.underlying9, Try.underlying5, Try.underlying3, Try.underlying35, Try.underlying59, info9, info59, info3, info35, info140, Try.underlying140, hS, nadd, nadd1, nadd2, nadd3, n1add, n2add, vT])) | ((with_reducible refine (t102 _ _ _ _ hB).use ?_); (try simp only [vO, vQ, ↓vP, vE, vS, vB, vL, vF, vM, vN, vbs_full, Nat.reduceEqDiff, Nat.reduceAdd, Nat.reduceLeDiff, ne_eq, not_false_eq_true, Nat.reduceMul, Nat.reduceSub, Int.toNat_zero, Int.reduceToNat, Try.underlying9, Try.underlying5, Try.underlying3, Try.underlying35, Try.underlying59, info9, info59, info3, info35, info140, Try.underlying140, hS, nadd, nadd1, nadd2, nadd3, n1add, n2add, vT])) | ((with_reducible refine (t103 _ _ _ _ hB (by first | assumption | omega)).use ?_); (try simp only [vO, vQ, ↓vP, vE, vS, vB, vL, vF, vM, vN, vbs_full, Nat.reduceEqDiff, Nat.reduceAdd, Nat.reduceLeDiff, ne_eq, not_false_eq_true, Nat.reduceMul, Nat.reduceSub, Int.toNat_zero, Int.reduceToNat, Try.underlying9, Try.underlying5, Try.underlying3, Try.underlying35, Try.underlying59, info9, info59, info3, info35, info140, Try.underlying140, hS, nadd, nadd1, nadd2, nadd3, n1add, n2add, vT])) | ((((with_reducible refine (t100 _ _ _ _ _ hB (by simp; omega)).mono ?_); rintro y S' ⟨rfl, hB⟩; have hS := hB.get (Sg.set_same _ _ _))); (try simp only [vO, vQ, ↓vP, vE, vS, vB, vL, vF, vM, vN, vbs_full, Nat.reduceEqDiff, Nat.reduceAdd, Nat.reduceLeDiff, ne_eq, not_false_eq_true, Nat.reduceMul, Nat.reduceSub, Int.toNat_zero, Int.reduceToNat, Try.underlying9, Try.underlying5, Try.underlying3, Try.underlying35, Try.underlying59, info9, info59, info3, info35, info140, Try.underlying140, hS, nadd, nadd1, nadd2, nadd3, n1add, n2add, vT])) | ((((with_reducible refine (t101q _ _ _ _ hB (by omega)).mono ?_); rintro y S' ⟨rfl, hB⟩; have hS := hB.get (Sg.set_same _ _ _))); (try simp only [vO, vQ, ↓vP, vE, vS, vB, vL, vF, vM, vN, vbs_full, Nat.reduceEqDiff, Nat.reduceAdd, Nat.reduceLeDiff, ne_eq, not_false_eq_true, Nat.reduceMul, Nat.reduceSub, Int.toNat_zero, Int.reduceToNat, Try.underlying9, Try.underlying5, Try.underlying3, Try.underlying35, Try.underlying59, info9, info59, info3, info35, info140, Try.underlying140, hS, nadd, nadd1, nadd2, nadd3, n1add, n2add, vT])) | with_reducible refine vfresh_set ?_ | with_reducible refine vfresh_intro (fun _ _ => ?_) | with_reducible refine vif_intro (fun _ => ?_) (fun _ => ?_) | omega | ((with_reducible first | refine vop_at ?_ | refine vops_at ?_ | refine vquiet_at ?_ | refine vmix_at ?_ | refine Holds_at ?_); simp only [vO, vQ, ↓vP, vE, vS, vB, vL, vF, vM, vN, vbs_full, Nat.reduceEqDiff, Nat.reduceAdd, Nat.reduceLeDiff, ne_eq, not_false_eq_true, Nat.reduceMul, Nat.reduceSub, Int.toNat_zero, Int.reduceToNat, Try.underlying9, Try.underlying5, Try.underlying3, Try.underlying35, Try.underlying59, info9, info59, info3, info35, info140, Try.underlying140, hS, nadd, nadd1, nadd2, nadd3, n1add, n2add, vT]))
    all_goals first
      | (have hp := pre39.1 ‹_›
         have h5 := qd_at2 (l := r) (k := k + m) (by omega) hat (by rw [show k + m + 1 = k + (m + 1) from rfl]; exact hp.2)
         rw [h5, qa_qa] at h4
         exact ⟨k + (m + 1) + 1, _, S', ⟨⟨by omega, by omega, by simp at hlen ⊢; omega, by rw [h4, show k - 1 + m + 2 = k + (m + 1) + 1 - 1 by omega, show k + m + 2 = k + (m + 1) + 1 by omega], hB⟩, by omega⟩, .refl _, rfl⟩)
      | (have h5 := qd_at1 (l := r) (k := k + m) (by omega) hat (fun h6 h7 => absurd (pre39.2 ⟨h6, h7⟩) (by assumption))
         rw [h5] at h4
         have h6 : qd (r.drop 1) = some (acc ++ (r.take (k + m)).drop k, k - 1 + m + 1) := by rw [h4]; simp [qa]
         first
           | exact ⟨σ, (by repeat (first | exact Sg.sub.refl _ | exact hB.sub' hx | refine Sg.sub.set_both ?_ | refine Sg.sub.set_fresh ?_ (by first | assumption | exact Sg.set_none ‹_› ‹_›) | refine Sg.sub.del_fresh ?_ (by first | assumption | exact Sg.set_none ‹_› ‹_›))), .err 2 0 0 0 0 (quotedT_long h6 (by omega)) (by decide) rfl rfl rfl rfl rfl, rfl⟩
           | exact ⟨σ, (by repeat (first | exact Sg.sub.refl _ | exact hB.sub' hx | refine Sg.sub.set_both ?_ | refine Sg.sub.set_fresh ?_ (by first | assumption | exact Sg.set_none ‹_› ‹_›) | refine Sg.sub.del_fresh ?_ (by first | assumption | exact Sg.set_none ‹_› ‹_›))), .ok 4 0 _ (quotedT_ok h6 (by omega)) rfl rfl (by omega) rfl, rfl⟩)
      | trace_state
  · simp only [if_neg (Nat.not_lt.2 hm)] at ht
    repeat' (first | with_reducible rfl | exact .inr trivial | with_reducible apply And.intro | with_reducible apply vqx_step | with_reducible apply vqm_step | with_reducible refine vkp_free (by decide +kernel) ?_ | with_reducible intro _ | ((first | (with_reducible first | refine .rs ?_ | refine .ds (by kernel_rfl) ?_ | refine .dg (by kernel_rfl) ?_ | refine .rg ?_ | refine .ite ?_ | refine .ret ?_ | refine .skip ?_ | refine .exit ?_ | refine .scope ?_ | refine .seq (.label ?_) | refine .block ?_ | refine .seq ?_)); (try simp only [vO, vQ, ↓vP, vE, vS, vB, vL, vF, vM, vN, vbs_full, Nat.reduceEqDiff, Nat.reduceAdd, Nat.reduceLeDiff, ne_eq, not_false_eq_true, Nat.reduceMul, Nat.reduceSub, Int.toNat_zero, Int.reduceToNat, Try.underlying9, Try.underlying5, Try.underlying3, Try.underlying35, Try.underlying59, info9, info59, info3, info35, info140, Try.underlying140, hS, vT])) | ((simp (disch := first | assumption | omega) only [w64, w8, tg_eq, n1, n2, nn, Int.tdiv_eq_ediv_of_nonneg, Sg.set_same, Sg.set_ne, Sg.set_ne', Sg.del_ne, Sg.del_ne']); (try simp only [vO, vQ, ↓vP, vE, vS, vB, vL, vF, vM, vN, vbs_full, Nat.reduceEqDiff, Nat.reduceAdd, Nat.reduceLeDiff, ne_eq, not_false_eq_true, Nat.reduceMul, Nat.reduceSub, Int.toNat_zero, Int.reduceToNat, Try.underlying9, Try.underlying5, Try.underlying3, Try.underlying35, Try.underlying59, info9, info59, info3, info35, info140, Try.underlying140, hS, vT])) | ((with_reducible refine ht.use ?_); (try simp only [vO, vQ, ↓vP, vE, vS, vB, vL, vF, vM, vN, vbs_full, Nat.reduceEqDiff, Nat.reduceAdd, Nat.reduceLeDiff, ne_eq, not_false_eq_true, Nat.reduceMul, Nat.reduceSub, Int.toNat_zero, Int.reduceToNat, Try.underlying9, Try.underlying5, Try.underlying3, Try.underlying35, Try.underlying59, info9, info59, info3, info35, info140, Try.underlying140, hS, vT])) | with_reducible refine vfresh_set ?_ | with_reducible refine vfresh_intro (fun _ _ => ?_) | with_reducible refine vif_intro (fun _ => ?_) (fun _ => ?_) | omega | ((with_reducible first | refine vop_at ?_ | refine vops_at ?_ | refine vquiet_at ?_ | refine vmix_at ?_ | refine Holds_at ?_); simp only [vO, vQ, ↓vP, vE, vS, vB, vL, vF, vM, vN, vbs_full, Nat.reduceEqDiff, Nat.reduceAdd, Nat.reduceLeDiff, ne_eq, not_false_eq_true, Nat.reduceMul, Nat.reduceSub, Int.toNat_zero, Int.reduceToNat, Try.underlying9, Try.underlying5, Try.underlying3, Try.underlying35, Try.underlying59, info9, info59, info3, info35, info140, Try.underlying140, hS, vT]))
    have h5 := qd_end (l := r) (k := k + m) (by omega)
    rw [h5, qa_none] at h4
    all_goals exact ⟨σ, (by repeat (first | exact Sg.sub.refl _ | exact hB.sub' hx | refine Sg.sub.set_both ?_ | refine Sg.sub.set_fresh ?_ (by first | assumption | exact Sg.set_none ‹_› ‹_›) | refine Sg.sub.del_fresh ?_ (by first | assumption | exact Sg.set_none ‹_› ‹_›))), .err 3 0 0 0 0 (quotedT_none h4) (by decide) rfl rfl rfl rfl rfl, rfl⟩
end Go.Proofs.Ytkbfngepdgdecaa
