import Derived.Test.YtkbfngepdgdecaaC19
set_option linter.unusedSimpArgs false
set_option linter.unusedVariables false
namespace Go.Proofs.Ytkbfngepdgdecaa
open Go Go.V Go.Cert
theorem andnot (a b : BitVec 64) : (a &&& ~~~b = 0#64) ↔ (a &&& b = a) := by
  constructor
  · intro h
    apply BitVec.eq_of_getElem_eq
    intro i hi
    have h3 : (a &&& ~~~b)[i] = (0#64)[i] := by rw [h]
    rw [BitVec.getElem_and, BitVec.getElem_not] at h3
    rw [BitVec.getElem_and]
    clear h
    cases h1 : a[i] <;> cases h2 : b[i] <;> simp_all
  · intro h
    apply BitVec.eq_of_getElem_eq
    intro i hi
    have h3 : (a &&& b)[i] = a[i] := by rw [h]
    rw [BitVec.getElem_and] at h3
    rw [BitVec.getElem_and, BitVec.getElem_not]
    clear h
    cases h1 : a[i] <;> cases h2 : b[i] <;> simp_all
theorem i64_zero (x : BitVec 64) (h : x.toNat < 9223372036854775808) : (IntKind.i64.wrap (x.toNat : Int) = 0) = (x = 0#64) := by
  rw [i64_nat h]
  exact propext ⟨fun h => BitVec.eq_of_toNat_eq (by simp; omega), fun h => by subst h; rfl⟩
theorem andnot_s {s : Int} {m : Nat} (h : 0 ≤ s ∧ s ≤ 65535) (hm : m < 65536) : (IntKind.i64.wrap ↑(BitVec.ofInt IntKind.i64.bits s &&& ~~~BitVec.ofInt IntKind.i64.bits (m : Int)).toNat = 0) = (s.toNat &&& m = s.toNat) := by
  obtain ⟨s, rfl⟩ := Int.eq_ofNat_of_zero_le h.1
  show (IntKind.i64.wrap ↑(BitVec.ofInt 64 (s : Int) &&& ~~~BitVec.ofInt 64 (m : Int)).toNat = 0) = (s &&& m = s)
  have hs : (BitVec.ofInt 64 (s : Int)).toNat = s := by rw [BitVec.ofInt_natCast, BitVec.toNat_ofNat, Nat.mod_eq_of_lt (by omega)]
  have hlt : (BitVec.ofInt 64 (s : Int) &&& ~~~BitVec.ofInt 64 (m : Int)).toNat < 9223372036854775808 := by
    rw [BitVec.toNat_and, hs]
    exact Nat.lt_of_le_of_lt Nat.and_le_left (by omega)
  rw [i64_zero _ hlt, andnot]
  refine propext ⟨fun h => ?_, fun h => BitVec.eq_of_toNat_eq ?_⟩
  · have := congrArg BitVec.toNat h
    rwa [and_nat (by omega) (by omega), hs] at this
  · rw [and_nat (by omega) (by omega), hs, h]
set_option maxHeartbeats 1000000 in
set_option maxRecDepth 100000 in
theorem t16 (ρ m1 m2 : Nat) (V : AV) (ps : Ps) (n q s : Int) (l : List UInt8) (σ : Sg) (hh : l.length = 128) (hρ : σ ρ = some (.cells 94 [.map m1, V, .map m2])) (hm : σ m1 = some (.map (knownM ps))) : VCalls Try.prog 16 [.ref ρ 0, .i n, .agg (.i q :: (aB l ++ [.i s]))] σ (fun x σ' => x = .i (chk (bitsOf (fun m => decide (((m : Int), certText q l) ∈ ps)) (min n.toNat 16)) n q s) ∧ σ' = σ) := by
  obtain ⟨z26, h26⟩ := sz26
  obtain ⟨z28, h28⟩ := sz28
  have ht : (aB l ++ [AV.i s]).take 128 = aB l := by rw [List.take_left' (by rw [aB_len, hh])]
  have hd : (aB l ++ [AV.i s]).drop 128 = [AV.i s] := by rw [List.drop_left' (by rw [aB_len, hh])]
  have hlen : (aB l ++ [AV.i s]).length = 129 := by rw [List.length_append, aB_len, hh]; rfl
  by_cases hb : isN n ∧ ¬ bad q
  · have h37 := t37 ρ m1 m2 V ps n q l σ hh hb.2 hb.1 hρ hm
    (refine vfun (fun _ => .ro) mixed Try.func16 (by kernel_rfl) ?_; simp only [bodyOf, Try.f16, Option.getD_some])
    repeat' (first | with_reducible rfl | exact .inr trivial | with_reducible apply And.intro | with_reducible apply vqx_step | with_reducible apply vqm_step | with_reducible refine vkp_free (by decide +kernel) ?_ | with_reducible intro _ | ((first | (with_reducible first | refine .rs ?_ | refine .ds (by kernel_rfl) ?_ | refine .dg (by kernel_rfl) ?_ | refine .rg ?_ | refine .ite ?_ | refine .ret ?_ | refine .skip ?_ | refine .exit ?_ | refine .scope ?_ | refine .seq (.label ?_) | refine .block ?_ | refine .seq ?_)); (try simp only [vO, vQ, ↓vP, vE, vS, vB, vL, vF, vM, vN, vbs_full, Nat.reduceEqDiff, Nat.reduceAdd, Nat.reduceLeDiff, ne_eq, not_false_eq_true, Nat.reduceMul, Nat.reduceSub, Int.toNat_zero, Int.reduceToNat, Try.underlying3, info3, Try.underlying26, Try.underlying27, Try.underlying28, Try.underlying34, Try.underlying35, info34, info35, h26, h28, ht, hd, hlen, vT])) | ((simp (disch := first | assumption | omega) only [w64, w8, tg_eq, n1, n2, nn, Int.tdiv_eq_ediv_of_nonneg, Sg.set_same, Sg.set_ne, Sg.set_ne', Sg.del_ne, Sg.del_ne']); (try simp only [vO, vQ, ↓vP, vE, vS, vB, vL, vF, vM, vN, vbs_full, Nat.reduceEqDiff, Nat.reduceAdd, Nat.reduceLeDiff, ne_eq, not_false_eq_true, Nat.reduceMul, Nat.reduceSub, Int.toNat_zero, Int.reduceToNat, Try.underlying3, info3, Try.underlying26, Try.underlying27, Try.underlying28, Try.underlying34, Try.underlying35, info34, info35, h26, h28, ht, hd, hlen, vT])) | ((((with_reducible refine h37.mono ?_); rintro _ σ' ⟨rfl, rfl⟩)); (try simp only [vO, vQ, ↓vP, vE, vS, vB, vL, vF, vM, vN, vbs_full, Nat.reduceEqDiff, Nat.reduceAdd, Nat.reduceLeDiff, ne_eq, not_false_eq_true, Nat.reduceMul, Nat.reduceSub, Int.toNat_zero, Int.reduceToNat, Try.underlying3, info3, Try.underlying26, Try.underlying27, Try.underlying28, Try.underlying34, Try.underlying35, info34, info35, h26, h28, ht, hd, hlen, vT])) | ((((with_reducible refine (t38 _ _ _).mono ?_); rintro _ σ' ⟨rfl, rfl⟩)); (try simp only [vO, vQ, ↓vP, vE, vS, vB, vL, vF, vM, vN, vbs_full, Nat.reduceEqDiff, Nat.reduceAdd, Nat.reduceLeDiff, ne_eq, not_false_eq_true, Nat.reduceMul, Nat.reduceSub, Int.toNat_zero, Int.reduceToNat, Try.underlying3, info3, Try.underlying26, Try.underlying27, Try.underlying28, Try.underlying34, Try.underlying35, info34, info35, h26, h28, ht, hd, hlen, vT])) | with_reducible refine vfresh_set ?_ | with_reducible refine vfresh_intro (fun _ _ => ?_) | with_reducible refine vif_intro (fun _ => ?_) (fun _ => ?_) | omega | ((with_reducible first | refine vop_at ?_ | refine vops_at ?_ | refine vquiet_at ?_ | refine vmix_at ?_ | refine Holds_at ?_); simp only [vO, vQ, ↓vP, vE, vS, vB, vL, vF, vM, vN, vbs_full, Nat.reduceEqDiff, Nat.reduceAdd, Nat.reduceLeDiff, ne_eq, not_false_eq_true, Nat.reduceMul, Nat.reduceSub, Int.toNat_zero, Int.reduceToNat, Try.underlying3, info3, Try.underlying26, Try.underlying27, Try.underlying28, Try.underlying34, Try.underlying35, info34, info35, h26, h28, ht, hd, hlen, vT]))
    all_goals have hmin : min n.toNat 16 = n.toNat := by have := hb.1.2.1; omega
    all_goals rw [hmin]
    · have h3 := ‹IntKind.i64.wrap _ = 0›
      rw [andnot_s (isQ_of ‹_›).2 (hmin ▸ bits16 _ _)] at h3
      have hlt : s < 2 ^ n.toNat := by
        have h4 := bitsOf_lt (fun m => decide (((m : Int), certText q l) ∈ ps)) n.toNat
        have h5 : s.toNat ≤ bitsOf (fun m => decide (((m : Int), certText q l) ∈ ps)) n.toNat := by rw [← h3]; exact Nat.and_le_right
        have h6 := (isQ_of ‹_›).2.1
        rw [pow_cast]
        omega
      exact ⟨_, .refl _, by rw [chk_good hb.1 hb.2, if_pos ⟨‹_›, hlt, h3⟩], rfl⟩
    · have h3 := ‹¬ IntKind.i64.wrap _ = 0›
      rw [andnot_s (isQ_of ‹_›).2 (hmin ▸ bits16 _ _)] at h3
      exact ⟨_, .refl _, by rw [chk_good hb.1 hb.2, if_neg (fun h => h3 h.2.2)], rfl⟩
    · exact absurd ‹isQ n s = true› ‹_›
    · exact ⟨_, .refl _, by rw [chk_good hb.1 hb.2, if_neg (fun h => ‹¬ isQ n s = true› h.1)], rfl⟩
  · have h37 : VCalls Try.prog 37 [.ref ρ 0, .i n, .agg (.i q :: aB l)] σ (fun x σ' => x = .tup [.i 0, .i 1] ∧ σ' = σ) := by
      by_cases hq : bad q
      · exact t37a ρ n q l σ hh hq
      · exact t37n ρ n q l σ hh hq (fun h => hb ⟨h, hq⟩)
    have hc : ¬ isN n ∨ bad q := by
      by_cases hq : bad q
      · exact .inr hq
      · exact .inl (fun h => hb ⟨h, hq⟩)
    (refine vfun (fun _ => .ro) mixed Try.func16 (by kernel_rfl) ?_; simp only [bodyOf, Try.f16, Option.getD_some])
    repeat' (first | with_reducible rfl | exact .inr trivial | with_reducible apply And.intro | with_reducible apply vqx_step | with_reducible apply vqm_step | with_reducible refine vkp_free (by decide +kernel) ?_ | with_reducible intro _ | ((first | (with_reducible first | refine .rs ?_ | refine .ds (by kernel_rfl) ?_ | refine .dg (by kernel_rfl) ?_ | refine .rg ?_ | refine .ite ?_ | refine .ret ?_ | refine .skip ?_ | refine .exit ?_ | refine .scope ?_ | refine .seq (.label ?_) | refine .block ?_ | refine .seq ?_)); (try simp only [vO, vQ, ↓vP, vE, vS, vB, vL, vF, vM, vN, vbs_full, Nat.reduceEqDiff, Nat.reduceAdd, Nat.reduceLeDiff, ne_eq, not_false_eq_true, Nat.reduceMul, Nat.reduceSub, Int.toNat_zero, Int.reduceToNat, Try.underlying3, info3, Try.underlying26, Try.underlying27, Try.underlying28, Try.underlying34, Try.underlying35, info34, info35, h26, h28, ht, hd, hlen, vT])) | ((simp (disch := first | assumption | omega) only [w64, w8, tg_eq, n1, n2, nn, Int.tdiv_eq_ediv_of_nonneg, Sg.set_same, Sg.set_ne, Sg.set_ne', Sg.del_ne, Sg.del_ne']); (try simp only [vO, vQ, ↓vP, vE, vS, vB, vL, vF, vM, vN, vbs_full, Nat.reduceEqDiff, Nat.reduceAdd, Nat.reduceLeDiff, ne_eq, not_false_eq_true, Nat.reduceMul, Nat.reduceSub, Int.toNat_zero, Int.reduceToNat, Try.underlying3, info3, Try.underlying26, Try.underlying27, Try.underlying28, Try.underlying34, Try.underlying35, info34, info35, h26, h28, ht, hd, hlen, vT])) | ((((with_reducible refine h37.mono ?_); rintro _ σ' ⟨rfl, rfl⟩)); (try simp only [vO, vQ, ↓vP, vE, vS, vB, vL, vF, vM, vN, vbs_full, Nat.reduceEqDiff, Nat.reduceAdd, Nat.reduceLeDiff, ne_eq, not_false_eq_true, Nat.reduceMul, Nat.reduceSub, Int.toNat_zero, Int.reduceToNat, Try.underlying3, info3, Try.underlying26, Try.underlying27, Try.underlying28, Try.underlying34, Try.underlying35, info34, info35, h26, h28, ht, hd, hlen, vT])) | with_reducible refine vfresh_set ?_ | with_reducible refine vfresh_intro (fun _ _ => ?_) | with_reducible refine vif_intro (fun _ => ?_) (fun _ => ?_) | omega | ((with_reducible first | refine vop_at ?_ | refine vops_at ?_ | refine vquiet_at ?_ | refine vmix_at ?_ | refine Holds_at ?_); simp only [vO, vQ, ↓vP, vE, vS, vB, vL, vF, vM, vN, vbs_full, Nat.reduceEqDiff, Nat.reduceAdd, Nat.reduceLeDiff, ne_eq, not_false_eq_true, Nat.reduceMul, Nat.reduceSub, Int.toNat_zero, Int.reduceToNat, Try.underlying3, info3, Try.underlying26, Try.underlying27, Try.underlying28, Try.underlying34, Try.underlying35, info34, info35, h26, h28, ht, hd, hlen, vT]))
    all_goals exact ⟨_, .refl _, by rw [chk, if_pos hc], rfl⟩
end Go.Proofs.Ytkbfngepdgdecaa
