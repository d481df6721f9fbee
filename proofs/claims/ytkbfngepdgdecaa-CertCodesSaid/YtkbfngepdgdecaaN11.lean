/- Part 11 of the proof: D10, V20, D11, C30, V14. -/
import Derived.Test.YtkbfngepdgdecaaN10
import Derived.Test.YtkbfngepdgdecaaN4
import Derived.Test.YtkbfngepdgdecaaN9
import Derived.Test.YtkbfngepdgdecaaN8
import Derived.Test.YtkbfngepdgdecaaN3

set_option linter.unusedSimpArgs false
set_option linter.unusedVariables false
namespace Go.Proofs.Ytkbfngepdgdecaa
open Go Go.V Go.Cert
/-- A certificate out of bytes. -/
def certP (b : List UInt8) : Option (Int × List UInt8 × Int) := match rowP b with
  | some ([h, s], u) => if u = b.length ∧ s.length = 8 then match headP h with
    | some (v, L) => if okB v (i64 (nBE s)) then some (v, L, i64 (nBE s)) else none
    | none => none
    else none
  | _ => none
def certX (b : List UInt8) : AV := match certP b with
  | some (v, L, s) => .tup [cA v L s, .i 0]
  | none => .tup [cA 0 zs 0, .i 4]
theorem i64_back2 {a : List UInt8} (ha : a.length = 8) (h0 : 0 ≤ i64 (nBE a) ∧ i64 (nBE a) < 65536) : be 8 (i64 (nBE a)).toNat = a := i64_back ha (by unfold bad; omega)
theorem certP_some {b : List UInt8} {v s : Int} {L : List UInt8} (h : certP b = some (v, L, s)) : okB v s ∧ L.length = 128 ∧ certB v L s = b := by
  unfold certP at h
  split at h
  · rename_i hd sb u hr
    split at h
    · rename_i hc
      split at h
      · rename_i v' L' hh
        split at h
        · rename_i hok
          cases h
          obtain ⟨g1, g2, g3⟩ := headP_some hh
          refine ⟨hok, g2, ?_⟩
          unfold certB
          rw [g3, i64_back2 hc.2 hok.2]
          rw [hc.1] at hr
          exact (rowP_back hr).1
        · cases h
      · cases h
    · cases h
  · cases h
theorem headP_of {v : Int} {L : List UInt8} (hq : ¬ bad v) (hL : L.length = 128) : headP (hdB v L) = some (v, L) := by
  have hp : ∀ (x : Nat), x + 32 ≤ 128 → ((L.drop x).take 32).length = 32 := fun x hx => by simp [hL]; omega
  have e0 := hp 0 (by omega)
  rw [List.drop_zero] at e0
  have e1 := hp 32 (by omega)
  have e2 := hp 64 (by omega)
  have e3 := hp 96 (by omega)
  have hr : rowP (hdB v L) = some (be 8 v.toNat :: sums L, (hdB v L).length) := rowP_of _ (by simp [sums]) (by
    intro p hp
    rcases List.mem_cons.1 hp with rfl | hp
    · rw [be_len]; omega
    · unfold sums at hp
      simp only [List.mem_cons, List.not_mem_nil, or_false] at hp
      rcases hp with rfl | rfl | rfl | rfl <;> omega)
  have hv : i64 (nBE (be 8 v.toNat)) = v := by
    unfold bad at hq
    rw [nBE_be 8 _ (by omega), i64_small (by omega)]
    omega
  unfold headP
  rw [hr]
  unfold sums
  simp only
  rw [if_pos ⟨trivial, be_len _ _, e0, e1, e2, e3, by rw [hv]; exact hq⟩, hv]
  refine congrArg some (Prod.ext rfl ?_)
  have h0 : (L.drop 96).take 32 = L.drop 96 := List.take_of_length_le (by simp [hL])
  have h1 : (L.drop 64).take 32 ++ L.drop 96 = L.drop 64 := by
    have := List.take_append_drop 32 (L.drop 64)
    rwa [List.drop_drop] at this
  have h2 : (L.drop 32).take 32 ++ L.drop 64 = L.drop 32 := by
    have := List.take_append_drop 32 (L.drop 32)
    rwa [List.drop_drop] at this
  simp only
  rw [h0, h1, h2, List.take_append_drop]
theorem certP_of {v s : Int} {L : List UInt8} (hok : okB v s) (hL : L.length = 128) : certP (certB v L s) = some (v, L, s) := by
  have hr : rowP (certB v L s) = some ([hdB v L, be 8 s.toNat], (certB v L s).length) := rowP_of _ (by simp) (pcB_len v L s)
  have hs : i64 (nBE (be 8 s.toNat)) = s := by
    have := hok.2
    rw [nBE_be 8 _ (by omega), i64_small (by omega)]
    omega
  unfold certP
  rw [hr]
  simp only
  rw [if_pos ⟨trivial, be_len _ _⟩, headP_of hok.1 hL]
  simp only
  rw [hs, if_pos hok]
/-- What the program asks: the bytes again. -/
theorem certX_again {b h s : List UInt8} (hr : rowP b = some ([h, s], b.length)) : certX b = match headP h with
    | some (v, L) => if okB v (numV s) ∧ certB v L (numV s) = b then .tup [cA v L (numV s), .i 0] else .tup [cA 0 zs 0, .i 4]
    | none => .tup [cA 0 zs 0, .i 4] := by
  cases hh : headP h with
  | none =>
    have : certP b = none := by
      unfold certP
      rw [hr]
      simp only [hh]
      split <;> rfl
    rw [certX, this]
  | some x =>
    obtain ⟨v, L⟩ := x
    simp only
    obtain ⟨g1, g2, g3⟩ := headP_some hh
    by_cases h8 : s.length = 8
    · have hn : numV s = i64 (nBE s) := by unfold numV; rw [if_neg (by omega), List.take_of_length_le (by omega)]
      rw [hn]
      by_cases hok : okB v (i64 (nBE s))
      · have hp : certP b = some (v, L, i64 (nBE s)) := by
          unfold certP
          rw [hr]
          simp only [hh]
          rw [if_pos ⟨trivial, h8⟩, if_pos hok]
        rw [if_pos ⟨hok, (certP_some hp).2.2⟩, certX, hp]
      · have hp : certP b = none := by
          unfold certP
          rw [hr]
          simp only [hh]
          rw [if_pos ⟨trivial, h8⟩, if_neg hok]
        rw [if_neg (fun x => hok x.1), certX, hp]
    · have hp : certP b = none := by
        unfold certP
        rw [hr]
        simp only [hh]
        rw [if_neg (fun x => h8 x.2)]
      rw [certX, hp, if_neg]
      rintro ⟨_, e⟩
      apply h8
      have hr2 : rowP (certB v L (numV s)) = some ([hdB v L, be 8 (numV s).toNat], (certB v L (numV s)).length) := rowP_of _ (by simp) (pcB_len v L _)
      rw [e, hr] at hr2
      have : s = be 8 (numV s).toNat := by
        have := Option.some.inj hr2
        simp at this
        exact this.2
      rw [this, be_len]
theorem certX_none {b : List UInt8} (h : ∀ x y, rowP b ≠ some ([x, y], b.length)) : certX b = .tup [cA 0 zs 0, .i 4] := by
  have : certP b = none := by
    unfold certP
    split
    · rename_i hd sb u hr
      rw [if_neg]
      rintro ⟨hu, _⟩
      rw [hu] at hr
      exact h _ _ hr
    · rfl
  rw [certX, this]
set_option maxHeartbeats 1000000 in
set_option maxRecDepth 100000 in
theorem t26 (k : Own) (b : List UInt8) (σ : Sg) (hb : b.length ≤ 1000000000000) : VCalls Try.prog 26 [.sl k (bytesL b)] σ (fun x σ' => x = certX b ∧ σ' = σ) := by
  obtain ⟨z26, h26, hz26⟩ := zero26
  obtain ⟨z28, h28, hz28⟩ := zero28
  have hz := cR zs_len
  have hzs := aR zs_len
  cases hr : rowP b with
  | none =>
    have h48 := fun σ => t48m k b σ hb hr
    rw [certX_none (fun x y h => by rw [hr] at h; cases h)]
    (refine vfun (fun _ => .no) mixed Try.func26 (by kernel_rfl) ?_; simp only [bodyOf, Try.f26, Option.getD_some])
    repeat' (first | with_reducible rfl | exact .inr trivial | with_reducible apply And.intro | with_reducible apply vqx_step | with_reducible apply vqm_step | with_reducible refine vkp_free (by decide +kernel) ?_ | with_reducible intro _ | ((first | (with_reducible first | refine .rs ?_ | refine .ds (by kernel_rfl) ?_ | refine .dg (by kernel_rfl) ?_ | refine .rg ?_ | refine .ite ?_ | refine .ret ?_ | refine .skip ?_ | refine .exit ?_ | refine .scope ?_ | refine .seq (.label ?_) | refine .block ?_ | refine .seq ?_)); (try simp only [vO, vQ, ↓vP, vE, vS, vB, vL, vF, vM, vN, vbs_full, Nat.reduceEqDiff, Nat.reduceAdd, Nat.reduceLeDiff, ne_eq, not_false_eq_true, Nat.reduceMul, Nat.reduceSub, Int.toNat_zero, Int.reduceToNat, Try.underlying3, info3, Try.underlying26, h26, hz26, Try.underlying28, h28, hz28, Try.underlying34, info34, Try.underlying35, info35, Try.underlying70, info70, hz, hzs, Option.getD_some, vT])) | ((simp (disch := first | assumption | (apply Go.Cert.ne_of2; assumption; assumption) | (apply Go.Cert.ne_ob; assumption; assumption; (intro e; cases e; done)) | omega) only [w64, w8, tg_eq, Go.V.n1, Go.V.n2, Go.V.nn, Int.tdiv_eq_ediv_of_nonneg, Sg.set_same, Sg.set_ne, Sg.set_ne', Sg.del_ne, Sg.del_ne']); (try simp only [vO, vQ, ↓vP, vE, vS, vB, vL, vF, vM, vN, vbs_full, Nat.reduceEqDiff, Nat.reduceAdd, Nat.reduceLeDiff, ne_eq, not_false_eq_true, Nat.reduceMul, Nat.reduceSub, Int.toNat_zero, Int.reduceToNat, Try.underlying3, info3, Try.underlying26, h26, hz26, Try.underlying28, h28, hz28, Try.underlying34, info34, Try.underlying35, info35, Try.underlying70, info70, hz, hzs, Option.getD_some, vT])) | ((((with_reducible refine (h48 _).mono ?_); rintro _ S ⟨e, he, rfl, rfl⟩)); (try simp only [vO, vQ, ↓vP, vE, vS, vB, vL, vF, vM, vN, vbs_full, Nat.reduceEqDiff, Nat.reduceAdd, Nat.reduceLeDiff, ne_eq, not_false_eq_true, Nat.reduceMul, Nat.reduceSub, Int.toNat_zero, Int.reduceToNat, Try.underlying3, info3, Try.underlying26, h26, hz26, Try.underlying28, h28, hz28, Try.underlying34, info34, Try.underlying35, info35, Try.underlying70, info70, hz, hzs, Option.getD_some, vT])) | (((refine vlo_app (by first | assumption | ((simp (disch := first | assumption | (apply Go.Cert.ne_of2; assumption; assumption) | (apply Go.Cert.ne_ob; assumption; assumption; (intro e; cases e; done)) | omega) only [Sg.set_same, Sg.set_ne, Sg.set_ne', Sg.del_ne, Sg.del_ne']); first | done | rfl | assumption)) ?_)); (try simp only [vO, vQ, ↓vP, vE, vS, vB, vL, vF, vM, vN, vbs_full, Nat.reduceEqDiff, Nat.reduceAdd, Nat.reduceLeDiff, ne_eq, not_false_eq_true, Nat.reduceMul, Nat.reduceSub, Int.toNat_zero, Int.reduceToNat, Try.underlying3, info3, Try.underlying26, h26, hz26, Try.underlying28, h28, hz28, Try.underlying34, info34, Try.underlying35, info35, Try.underlying70, info70, hz, hzs, Option.getD_some, vT])) | (((refine vst_app (by first | assumption | ((simp (disch := first | assumption | (apply Go.Cert.ne_of2; assumption; assumption) | (apply Go.Cert.ne_ob; assumption; assumption; (intro e; cases e; done)) | omega) only [Sg.set_same, Sg.set_ne, Sg.set_ne', Sg.del_ne, Sg.del_ne']); first | done | rfl | assumption)) ?_)); (try simp only [vO, vQ, ↓vP, vE, vS, vB, vL, vF, vM, vN, vbs_full, Nat.reduceEqDiff, Nat.reduceAdd, Nat.reduceLeDiff, ne_eq, not_false_eq_true, Nat.reduceMul, Nat.reduceSub, Int.toNat_zero, Int.reduceToNat, Try.underlying3, info3, Try.underlying26, h26, hz26, Try.underlying28, h28, hz28, Try.underlying34, info34, Try.underlying35, info35, Try.underlying70, info70, hz, hzs, Option.getD_some, vT])) | with_reducible refine vfresh_set ?_ | with_reducible refine vfresh_intro (fun _ _ => ?_) | with_reducible refine vif_intro (fun _ => ?_) (fun _ => ?_) | omega | ((with_reducible first | refine vop_at ?_ | refine vops_at ?_ | refine vquiet_at ?_ | refine vmix_at ?_ | refine Holds_at ?_); simp only [vO, vQ, ↓vP, vE, vS, vB, vL, vF, vM, vN, vbs_full, Nat.reduceEqDiff, Nat.reduceAdd, Nat.reduceLeDiff, ne_eq, not_false_eq_true, Nat.reduceMul, Nat.reduceSub, Int.toNat_zero, Int.reduceToNat, Try.underlying3, info3, Try.underlying26, h26, hz26, Try.underlying28, h28, hz28, Try.underlying34, info34, Try.underlying35, info35, Try.underlying70, info70, hz, hzs, Option.getD_some, vT]))
    all_goals exact ⟨_, (by repeat (first | exact Sg.sub.refl _ | refine Sg.sub.set_both ?_ | refine Sg.sub.set_fresh ?_ (by first | assumption | exact Sg.set_none ‹_› ‹_›) | refine Sg.sub.del_fresh ?_ (by first | assumption | exact Sg.set_none ‹_› ‹_›))), rfl⟩
  | some w =>
    obtain ⟨l, u⟩ := w
    have h48 := fun σ => t48s k b l u σ hb hr
    by_cases hu : u = b.length ∧ l.length = 2
    · obtain ⟨hu, hl2⟩ := hu
      subst hu
      match l, hl2 with
      | [h, s], _ =>
        have hln := (rowP_back hr).2.2
        have lh := hln h (by simp)
        have ls := hln s (by simp)
        have h49 := fun k σ => t49 k h σ (by omega)
        have h50 := fun k σ => t50 k s σ (by omega)
        have hr5 : rowsA (anys [h, s]) = [[.sl .any (bytesL h)], [.sl .any (bytesL s)]] := rfl
        rw [hr5] at h48
        have hn : ∀ (R : AV), (if s.length < 8 then AV.tup [.i 0, .i 0, .i 3] else .tup [.i (i64 (nBE (s.take 8))), .i 8, .i 0]) = R → ∃ x y, R = .tup [.i (numV s), .i x, .i y] := fun R hR => by
          subst hR
          unfold numV
          split
          · exact ⟨_, _, rfl⟩
          · exact ⟨_, _, rfl⟩
        obtain ⟨x50, y50, hxy⟩ := hn _ rfl
        rw [hxy] at h50
        rw [certX_again hr]
        cases hh : headP h with
        | none =>
          rw [headX, hh] at h49
          (refine vfun (fun _ => .no) mixed Try.func26 (by kernel_rfl) ?_; simp only [bodyOf, Try.f26, Option.getD_some])
          repeat' (first | with_reducible rfl | exact .inr trivial | with_reducible apply And.intro | with_reducible apply vqx_step | with_reducible apply vqm_step | with_reducible refine vkp_free (by decide +kernel) ?_ | with_reducible intro _ | ((first | (with_reducible first | refine .rs ?_ | refine .ds (by kernel_rfl) ?_ | refine .dg (by kernel_rfl) ?_ | refine .rg ?_ | refine .ite ?_ | refine .ret ?_ | refine .skip ?_ | refine .exit ?_ | refine .scope ?_ | refine .seq (.label ?_) | refine .block ?_ | refine .seq ?_)); (try simp only [vO, vQ, ↓vP, vE, vS, vB, vL, vF, vM, vN, vbs_full, Nat.reduceEqDiff, Nat.reduceAdd, Nat.reduceLeDiff, ne_eq, not_false_eq_true, Nat.reduceMul, Nat.reduceSub, Int.toNat_zero, Int.reduceToNat, Try.underlying3, info3, Try.underlying26, h26, hz26, Try.underlying28, h28, hz28, Try.underlying34, info34, Try.underlying35, info35, Try.underlying70, info70, hz, hzs, Option.getD_some, List.getD_cons_zero, List.getD_cons_succ, vT])) | ((simp (disch := first | assumption | (apply Go.Cert.ne_of2; assumption; assumption) | (apply Go.Cert.ne_ob; assumption; assumption; (intro e; cases e; done)) | omega) only [w64, w8, tg_eq, Go.V.n1, Go.V.n2, Go.V.nn, Int.tdiv_eq_ediv_of_nonneg, Sg.set_same, Sg.set_ne, Sg.set_ne', Sg.del_ne, Sg.del_ne']); (try simp only [vO, vQ, ↓vP, vE, vS, vB, vL, vF, vM, vN, vbs_full, Nat.reduceEqDiff, Nat.reduceAdd, Nat.reduceLeDiff, ne_eq, not_false_eq_true, Nat.reduceMul, Nat.reduceSub, Int.toNat_zero, Int.reduceToNat, Try.underlying3, info3, Try.underlying26, h26, hz26, Try.underlying28, h28, hz28, Try.underlying34, info34, Try.underlying35, info35, Try.underlying70, info70, hz, hzs, Option.getD_some, List.getD_cons_zero, List.getD_cons_succ, vT])) | ((((with_reducible refine (h48 _).mono ?_); rintro _ S ⟨rfl, rfl⟩)); (try simp only [vO, vQ, ↓vP, vE, vS, vB, vL, vF, vM, vN, vbs_full, Nat.reduceEqDiff, Nat.reduceAdd, Nat.reduceLeDiff, ne_eq, not_false_eq_true, Nat.reduceMul, Nat.reduceSub, Int.toNat_zero, Int.reduceToNat, Try.underlying3, info3, Try.underlying26, h26, hz26, Try.underlying28, h28, hz28, Try.underlying34, info34, Try.underlying35, info35, Try.underlying70, info70, hz, hzs, Option.getD_some, List.getD_cons_zero, List.getD_cons_succ, vT])) | ((((with_reducible refine (h49 _ _).mono ?_); rintro _ S ⟨rfl, rfl⟩)); (try simp only [vO, vQ, ↓vP, vE, vS, vB, vL, vF, vM, vN, vbs_full, Nat.reduceEqDiff, Nat.reduceAdd, Nat.reduceLeDiff, ne_eq, not_false_eq_true, Nat.reduceMul, Nat.reduceSub, Int.toNat_zero, Int.reduceToNat, Try.underlying3, info3, Try.underlying26, h26, hz26, Try.underlying28, h28, hz28, Try.underlying34, info34, Try.underlying35, info35, Try.underlying70, info70, hz, hzs, Option.getD_some, List.getD_cons_zero, List.getD_cons_succ, vT])) | (((refine vlo_app (by first | assumption | ((simp (disch := first | assumption | (apply Go.Cert.ne_of2; assumption; assumption) | (apply Go.Cert.ne_ob; assumption; assumption; (intro e; cases e; done)) | omega) only [Sg.set_same, Sg.set_ne, Sg.set_ne', Sg.del_ne, Sg.del_ne']); first | done | rfl | assumption)) ?_)); (try simp only [vO, vQ, ↓vP, vE, vS, vB, vL, vF, vM, vN, vbs_full, Nat.reduceEqDiff, Nat.reduceAdd, Nat.reduceLeDiff, ne_eq, not_false_eq_true, Nat.reduceMul, Nat.reduceSub, Int.toNat_zero, Int.reduceToNat, Try.underlying3, info3, Try.underlying26, h26, hz26, Try.underlying28, h28, hz28, Try.underlying34, info34, Try.underlying35, info35, Try.underlying70, info70, hz, hzs, Option.getD_some, List.getD_cons_zero, List.getD_cons_succ, vT])) | (((refine vst_app (by first | assumption | ((simp (disch := first | assumption | (apply Go.Cert.ne_of2; assumption; assumption) | (apply Go.Cert.ne_ob; assumption; assumption; (intro e; cases e; done)) | omega) only [Sg.set_same, Sg.set_ne, Sg.set_ne', Sg.del_ne, Sg.del_ne']); first | done | rfl | assumption)) ?_)); (try simp only [vO, vQ, ↓vP, vE, vS, vB, vL, vF, vM, vN, vbs_full, Nat.reduceEqDiff, Nat.reduceAdd, Nat.reduceLeDiff, ne_eq, not_false_eq_true, Nat.reduceMul, Nat.reduceSub, Int.toNat_zero, Int.reduceToNat, Try.underlying3, info3, Try.underlying26, h26, hz26, Try.underlying28, h28, hz28, Try.underlying34, info34, Try.underlying35, info35, Try.underlying70, info70, hz, hzs, Option.getD_some, List.getD_cons_zero, List.getD_cons_succ, vT])) | with_reducible refine vfresh_set ?_ | with_reducible refine vfresh_intro (fun _ _ => ?_) | with_reducible refine vif_intro (fun _ => ?_) (fun _ => ?_) | omega | ((with_reducible first | refine vop_at ?_ | refine vops_at ?_ | refine vquiet_at ?_ | refine vmix_at ?_ | refine Holds_at ?_); simp only [vO, vQ, ↓vP, vE, vS, vB, vL, vF, vM, vN, vbs_full, Nat.reduceEqDiff, Nat.reduceAdd, Nat.reduceLeDiff, ne_eq, not_false_eq_true, Nat.reduceMul, Nat.reduceSub, Int.toNat_zero, Int.reduceToNat, Try.underlying3, info3, Try.underlying26, h26, hz26, Try.underlying28, h28, hz28, Try.underlying34, info34, Try.underlying35, info35, Try.underlying70, info70, hz, hzs, Option.getD_some, List.getD_cons_zero, List.getD_cons_succ, vT]))
          all_goals exact ⟨σ, (by repeat (first | exact Sg.sub.refl _ | refine Sg.sub.set_both ?_ | refine Sg.sub.set_fresh ?_ (by first | assumption | exact Sg.set_none ‹_› ‹_›) | refine Sg.sub.del_fresh ?_ (by first | assumption | exact Sg.set_none ‹_› ‹_›))), rfl⟩
        | some x =>
          obtain ⟨v, L⟩ := x
          obtain ⟨g1, g2, g3⟩ := headP_some hh
          rw [headX, hh] at h49
          have hL := aR g2
          have hc := fun s => cR g2 s
          have h25 := fun σ => t25 v (numV s) L σ g2
          simp only
          by_cases hok : okB v (numV s)
          · rw [if_pos hok] at h25
            (refine vfun (fun _ => .no) mixed Try.func26 (by kernel_rfl) ?_; simp only [bodyOf, Try.f26, Option.getD_some])
            repeat' (first | with_reducible rfl | exact .inr trivial | with_reducible apply And.intro | with_reducible apply vqx_step | with_reducible apply vqm_step | with_reducible refine vkp_free (by decide +kernel) ?_ | with_reducible intro _ | ((first | (with_reducible first | refine .rs ?_ | refine .ds (by kernel_rfl) ?_ | refine .dg (by kernel_rfl) ?_ | refine .rg ?_ | refine .ite ?_ | refine .ret ?_ | refine .skip ?_ | refine .exit ?_ | refine .scope ?_ | refine .seq (.label ?_) | refine .block ?_ | refine .seq ?_)); (try simp only [vO, vQ, ↓vP, vE, vS, vB, vL, vF, vM, vN, vbs_full, Nat.reduceEqDiff, Nat.reduceAdd, Nat.reduceLeDiff, ne_eq, not_false_eq_true, Nat.reduceMul, Nat.reduceSub, Int.toNat_zero, Int.reduceToNat, Try.underlying3, info3, Try.underlying26, h26, hz26, Try.underlying28, h28, hz28, Try.underlying34, info34, Try.underlying35, info35, Try.underlying70, info70, hz, hzs, hL, hc, Option.getD_some, List.getD_cons_zero, List.getD_cons_succ, vT])) | ((simp (disch := first | assumption | (apply Go.Cert.ne_of2; assumption; assumption) | (apply Go.Cert.ne_ob; assumption; assumption; (intro e; cases e; done)) | omega) only [w64, w8, tg_eq, Go.V.n1, Go.V.n2, Go.V.nn, Int.tdiv_eq_ediv_of_nonneg, Sg.set_same, Sg.set_ne, Sg.set_ne', Sg.del_ne, Sg.del_ne']); (try simp only [vO, vQ, ↓vP, vE, vS, vB, vL, vF, vM, vN, vbs_full, Nat.reduceEqDiff, Nat.reduceAdd, Nat.reduceLeDiff, ne_eq, not_false_eq_true, Nat.reduceMul, Nat.reduceSub, Int.toNat_zero, Int.reduceToNat, Try.underlying3, info3, Try.underlying26, h26, hz26, Try.underlying28, h28, hz28, Try.underlying34, info34, Try.underlying35, info35, Try.underlying70, info70, hz, hzs, hL, hc, Option.getD_some, List.getD_cons_zero, List.getD_cons_succ, vT])) | ((((with_reducible refine (h48 _).mono ?_); rintro _ S ⟨rfl, rfl⟩)); (try simp only [vO, vQ, ↓vP, vE, vS, vB, vL, vF, vM, vN, vbs_full, Nat.reduceEqDiff, Nat.reduceAdd, Nat.reduceLeDiff, ne_eq, not_false_eq_true, Nat.reduceMul, Nat.reduceSub, Int.toNat_zero, Int.reduceToNat, Try.underlying3, info3, Try.underlying26, h26, hz26, Try.underlying28, h28, hz28, Try.underlying34, info34, Try.underlying35, info35, Try.underlying70, info70, hz, hzs, hL, hc, Option.getD_some, List.getD_cons_zero, List.getD_cons_succ, vT])) | ((((with_reducible refine (h49 _ _).mono ?_); rintro _ S ⟨rfl, rfl⟩)); (try simp only [vO, vQ, ↓vP, vE, vS, vB, vL, vF, vM, vN, vbs_full, Nat.reduceEqDiff, Nat.reduceAdd, Nat.reduceLeDiff, ne_eq, not_false_eq_true, Nat.reduceMul, Nat.reduceSub, Int.toNat_zero, Int.reduceToNat, Try.underlying3, info3, Try.underlying26, h26, hz26, Try.underlying28, h28, hz28, Try.underlying34, info34, Try.underlying35, info35, Try.underlying70, info70, hz, hzs, hL, hc, Option.getD_some, List.getD_cons_zero, List.getD_cons_succ, vT])) | ((((with_reducible refine (h50 _ _).mono ?_); rintro _ S ⟨rfl, rfl⟩)); (try simp only [vO, vQ, ↓vP, vE, vS, vB, vL, vF, vM, vN, vbs_full, Nat.reduceEqDiff, Nat.reduceAdd, Nat.reduceLeDiff, ne_eq, not_false_eq_true, Nat.reduceMul, Nat.reduceSub, Int.toNat_zero, Int.reduceToNat, Try.underlying3, info3, Try.underlying26, h26, hz26, Try.underlying28, h28, hz28, Try.underlying34, info34, Try.underlying35, info35, Try.underlying70, info70, hz, hzs, hL, hc, Option.getD_some, List.getD_cons_zero, List.getD_cons_succ, vT])) | ((((with_reducible refine (h25 _).mono ?_); rintro _ S ⟨rfl, rfl⟩)); (try simp only [vO, vQ, ↓vP, vE, vS, vB, vL, vF, vM, vN, vbs_full, Nat.reduceEqDiff, Nat.reduceAdd, Nat.reduceLeDiff, ne_eq, not_false_eq_true, Nat.reduceMul, Nat.reduceSub, Int.toNat_zero, Int.reduceToNat, Try.underlying3, info3, Try.underlying26, h26, hz26, Try.underlying28, h28, hz28, Try.underlying34, info34, Try.underlying35, info35, Try.underlying70, info70, hz, hzs, hL, hc, Option.getD_some, List.getD_cons_zero, List.getD_cons_succ, vT])) | ((((with_reducible refine (t51 _ _ _ b _).mono ?_); rintro _ S ⟨rfl, rfl⟩)); (try simp only [vO, vQ, ↓vP, vE, vS, vB, vL, vF, vM, vN, vbs_full, Nat.reduceEqDiff, Nat.reduceAdd, Nat.reduceLeDiff, ne_eq, not_false_eq_true, Nat.reduceMul, Nat.reduceSub, Int.toNat_zero, Int.reduceToNat, Try.underlying3, info3, Try.underlying26, h26, hz26, Try.underlying28, h28, hz28, Try.underlying34, info34, Try.underlying35, info35, Try.underlying70, info70, hz, hzs, hL, hc, Option.getD_some, List.getD_cons_zero, List.getD_cons_succ, vT])) | (((refine vlo_app (by first | assumption | ((simp (disch := first | assumption | (apply Go.Cert.ne_of2; assumption; assumption) | (apply Go.Cert.ne_ob; assumption; assumption; (intro e; cases e; done)) | omega) only [Sg.set_same, Sg.set_ne, Sg.set_ne', Sg.del_ne, Sg.del_ne']); first | done | rfl | assumption)) ?_)); (try simp only [vO, vQ, ↓vP, vE, vS, vB, vL, vF, vM, vN, vbs_full, Nat.reduceEqDiff, Nat.reduceAdd, Nat.reduceLeDiff, ne_eq, not_false_eq_true, Nat.reduceMul, Nat.reduceSub, Int.toNat_zero, Int.reduceToNat, Try.underlying3, info3, Try.underlying26, h26, hz26, Try.underlying28, h28, hz28, Try.underlying34, info34, Try.underlying35, info35, Try.underlying70, info70, hz, hzs, hL, hc, Option.getD_some, List.getD_cons_zero, List.getD_cons_succ, vT])) | (((refine vst_app (by first | assumption | ((simp (disch := first | assumption | (apply Go.Cert.ne_of2; assumption; assumption) | (apply Go.Cert.ne_ob; assumption; assumption; (intro e; cases e; done)) | omega) only [Sg.set_same, Sg.set_ne, Sg.set_ne', Sg.del_ne, Sg.del_ne']); first | done | rfl | assumption)) ?_)); (try simp only [vO, vQ, ↓vP, vE, vS, vB, vL, vF, vM, vN, vbs_full, Nat.reduceEqDiff, Nat.reduceAdd, Nat.reduceLeDiff, ne_eq, not_false_eq_true, Nat.reduceMul, Nat.reduceSub, Int.toNat_zero, Int.reduceToNat, Try.underlying3, info3, Try.underlying26, h26, hz26, Try.underlying28, h28, hz28, Try.underlying34, info34, Try.underlying35, info35, Try.underlying70, info70, hz, hzs, hL, hc, Option.getD_some, List.getD_cons_zero, List.getD_cons_succ, vT])) | with_reducible refine vfresh_set ?_ | with_reducible refine vfresh_intro (fun _ _ => ?_) | with_reducible refine vif_intro (fun _ => ?_) (fun _ => ?_) | omega | ((with_reducible first | refine vop_at ?_ | refine vops_at ?_ | refine vquiet_at ?_ | refine vmix_at ?_ | refine Holds_at ?_); simp only [vO, vQ, ↓vP, vE, vS, vB, vL, vF, vM, vN, vbs_full, Nat.reduceEqDiff, Nat.reduceAdd, Nat.reduceLeDiff, ne_eq, not_false_eq_true, Nat.reduceMul, Nat.reduceSub, Int.toNat_zero, Int.reduceToNat, Try.underlying3, info3, Try.underlying26, h26, hz26, Try.underlying28, h28, hz28, Try.underlying34, info34, Try.underlying35, info35, Try.underlying70, info70, hz, hzs, hL, hc, Option.getD_some, List.getD_cons_zero, List.getD_cons_succ, vT]))
            · rename_i h1
              exact ⟨σ, (by repeat (first | exact Sg.sub.refl _ | refine Sg.sub.set_both ?_ | refine Sg.sub.set_fresh ?_ (by first | assumption | exact Sg.set_none ‹_› ‹_›) | refine Sg.sub.del_fresh ?_ (by first | assumption | exact Sg.set_none ‹_› ‹_›))), by rw [if_pos ⟨hok, h1⟩], rfl⟩
            · rename_i h1
              exact ⟨σ, (by repeat (first | exact Sg.sub.refl _ | refine Sg.sub.set_both ?_ | refine Sg.sub.set_fresh ?_ (by first | assumption | exact Sg.set_none ‹_› ‹_›) | refine Sg.sub.del_fresh ?_ (by first | assumption | exact Sg.set_none ‹_› ‹_›))), by rw [if_neg (fun x => h1 x.2)], rfl⟩
          · rw [if_neg hok] at h25
            rw [if_neg (fun x => hok x.1)]
            (refine vfun (fun _ => .no) mixed Try.func26 (by kernel_rfl) ?_; simp only [bodyOf, Try.f26, Option.getD_some])
            repeat' (first | with_reducible rfl | exact .inr trivial | with_reducible apply And.intro | with_reducible apply vqx_step | with_reducible apply vqm_step | with_reducible refine vkp_free (by decide +kernel) ?_ | with_reducible intro _ | ((first | (with_reducible first | refine .rs ?_ | refine .ds (by kernel_rfl) ?_ | refine .dg (by kernel_rfl) ?_ | refine .rg ?_ | refine .ite ?_ | refine .ret ?_ | refine .skip ?_ | refine .exit ?_ | refine .scope ?_ | refine .seq (.label ?_) | refine .block ?_ | refine .seq ?_)); (try simp only [vO, vQ, ↓vP, vE, vS, vB, vL, vF, vM, vN, vbs_full, Nat.reduceEqDiff, Nat.reduceAdd, Nat.reduceLeDiff, ne_eq, not_false_eq_true, Nat.reduceMul, Nat.reduceSub, Int.toNat_zero, Int.reduceToNat, Try.underlying3, info3, Try.underlying26, h26, hz26, Try.underlying28, h28, hz28, Try.underlying34, info34, Try.underlying35, info35, Try.underlying70, info70, hz, hzs, hL, hc, Option.getD_some, List.getD_cons_zero, List.getD_cons_succ, vT])) | ((simp (disch := first | assumption | (apply Go.Cert.ne_of2; assumption; assumption) | (apply Go.Cert.ne_ob; assumption; assumption; (intro e; cases e; done)) | omega) only [w64, w8, tg_eq, Go.V.n1, Go.V.n2, Go.V.nn, Int.tdiv_eq_ediv_of_nonneg, Sg.set_same, Sg.set_ne, Sg.set_ne', Sg.del_ne, Sg.del_ne']); (try simp only [vO, vQ, ↓vP, vE, vS, vB, vL, vF, vM, vN, vbs_full, Nat.reduceEqDiff, Nat.reduceAdd, Nat.reduceLeDiff, ne_eq, not_false_eq_true, Nat.reduceMul, Nat.reduceSub, Int.toNat_zero, Int.reduceToNat, Try.underlying3, info3, Try.underlying26, h26, hz26, Try.underlying28, h28, hz28, Try.underlying34, info34, Try.underlying35, info35, Try.underlying70, info70, hz, hzs, hL, hc, Option.getD_some, List.getD_cons_zero, List.getD_cons_succ, vT])) | ((((with_reducible refine (h48 _).mono ?_); rintro _ S ⟨rfl, rfl⟩)); (try simp only [vO, vQ, ↓vP, vE, vS, vB, vL, vF, vM, vN, vbs_full, Nat.reduceEqDiff, Nat.reduceAdd, Nat.reduceLeDiff, ne_eq, not_false_eq_true, Nat.reduceMul, Nat.reduceSub, Int.toNat_zero, Int.reduceToNat, Try.underlying3, info3, Try.underlying26, h26, hz26, Try.underlying28, h28, hz28, Try.underlying34, info34, Try.underlying35, info35, Try.underlying70, info70, hz, hzs, hL, hc, Option.getD_some, List.getD_cons_zero, List.getD_cons_succ, vT])) | ((((with_reducible refine (h49 _ _).mono ?_); rintro _ S ⟨rfl, rfl⟩)); (try simp only [vO, vQ, ↓vP, vE, vS, vB, vL, vF, vM, vN, vbs_full, Nat.reduceEqDiff, Nat.reduceAdd, Nat.reduceLeDiff, ne_eq, not_false_eq_true, Nat.reduceMul, Nat.reduceSub, Int.toNat_zero, Int.reduceToNat, Try.underlying3, info3, Try.underlying26, h26, hz26, Try.underlying28, h28, hz28, Try.underlying34, info34, Try.underlying35, info35, Try.underlying70, info70, hz, hzs, hL, hc, Option.getD_some, List.getD_cons_zero, List.getD_cons_succ, vT])) | ((((with_reducible refine (h50 _ _).mono ?_); rintro _ S ⟨rfl, rfl⟩)); (try simp only [vO, vQ, ↓vP, vE, vS, vB, vL, vF, vM, vN, vbs_full, Nat.reduceEqDiff, Nat.reduceAdd, Nat.reduceLeDiff, ne_eq, not_false_eq_true, Nat.reduceMul, Nat.reduceSub, Int.toNat_zero, Int.reduceToNat, Try.underlying3, info3, Try.underlying26, h26, hz26, Try.underlying28, h28, hz28, Try.underlying34, info34, Try.underlying35, info35, Try.underlying70, info70, hz, hzs, hL, hc, Option.getD_some, List.getD_cons_zero, List.getD_cons_succ, vT])) | ((((with_reducible refine (h25 _).mono ?_); rintro _ S ⟨rfl, rfl⟩)); (try simp only [vO, vQ, ↓vP, vE, vS, vB, vL, vF, vM, vN, vbs_full, Nat.reduceEqDiff, Nat.reduceAdd, Nat.reduceLeDiff, ne_eq, not_false_eq_true, Nat.reduceMul, Nat.reduceSub, Int.toNat_zero, Int.reduceToNat, Try.underlying3, info3, Try.underlying26, h26, hz26, Try.underlying28, h28, hz28, Try.underlying34, info34, Try.underlying35, info35, Try.underlying70, info70, hz, hzs, hL, hc, Option.getD_some, List.getD_cons_zero, List.getD_cons_succ, vT])) | ((((with_reducible refine (t51 _ _ _ b _).mono ?_); rintro _ S ⟨rfl, rfl⟩)); (try simp only [vO, vQ, ↓vP, vE, vS, vB, vL, vF, vM, vN, vbs_full, Nat.reduceEqDiff, Nat.reduceAdd, Nat.reduceLeDiff, ne_eq, not_false_eq_true, Nat.reduceMul, Nat.reduceSub, Int.toNat_zero, Int.reduceToNat, Try.underlying3, info3, Try.underlying26, h26, hz26, Try.underlying28, h28, hz28, Try.underlying34, info34, Try.underlying35, info35, Try.underlying70, info70, hz, hzs, hL, hc, Option.getD_some, List.getD_cons_zero, List.getD_cons_succ, vT])) | (((refine vlo_app (by first | assumption | ((simp (disch := first | assumption | (apply Go.Cert.ne_of2; assumption; assumption) | (apply Go.Cert.ne_ob; assumption; assumption; (intro e; cases e; done)) | omega) only [Sg.set_same, Sg.set_ne, Sg.set_ne', Sg.del_ne, Sg.del_ne']); first | done | rfl | assumption)) ?_)); (try simp only [vO, vQ, ↓vP, vE, vS, vB, vL, vF, vM, vN, vbs_full, Nat.reduceEqDiff, Nat.reduceAdd, Nat.reduceLeDiff, ne_eq, not_false_eq_true, Nat.reduceMul, Nat.reduceSub, Int.toNat_zero, Int.reduceToNat, Try.underlying3, info3, Try.underlying26, h26, hz26, Try.underlying28, h28, hz28, Try.underlying34, info34, Try.underlying35, info35, Try.underlying70, info70, hz, hzs, hL, hc, Option.getD_some, List.getD_cons_zero, List.getD_cons_succ, vT])) | (((refine vst_app (by first | assumption | ((simp (disch := first | assumption | (apply Go.Cert.ne_of2; assumption; assumption) | (apply Go.Cert.ne_ob; assumption; assumption; (intro e; cases e; done)) | omega) only [Sg.set_same, Sg.set_ne, Sg.set_ne', Sg.del_ne, Sg.del_ne']); first | done | rfl | assumption)) ?_)); (try simp only [vO, vQ, ↓vP, vE, vS, vB, vL, vF, vM, vN, vbs_full, Nat.reduceEqDiff, Nat.reduceAdd, Nat.reduceLeDiff, ne_eq, not_false_eq_true, Nat.reduceMul, Nat.reduceSub, Int.toNat_zero, Int.reduceToNat, Try.underlying3, info3, Try.underlying26, h26, hz26, Try.underlying28, h28, hz28, Try.underlying34, info34, Try.underlying35, info35, Try.underlying70, info70, hz, hzs, hL, hc, Option.getD_some, List.getD_cons_zero, List.getD_cons_succ, vT])) | with_reducible refine vfresh_set ?_ | with_reducible refine vfresh_intro (fun _ _ => ?_) | with_reducible refine vif_intro (fun _ => ?_) (fun _ => ?_) | omega | ((with_reducible first | refine vop_at ?_ | refine vops_at ?_ | refine vquiet_at ?_ | refine vmix_at ?_ | refine Holds_at ?_); simp only [vO, vQ, ↓vP, vE, vS, vB, vL, vF, vM, vN, vbs_full, Nat.reduceEqDiff, Nat.reduceAdd, Nat.reduceLeDiff, ne_eq, not_false_eq_true, Nat.reduceMul, Nat.reduceSub, Int.toNat_zero, Int.reduceToNat, Try.underlying3, info3, Try.underlying26, h26, hz26, Try.underlying28, h28, hz28, Try.underlying34, info34, Try.underlying35, info35, Try.underlying70, info70, hz, hzs, hL, hc, Option.getD_some, List.getD_cons_zero, List.getD_cons_succ, vT]))
            all_goals exact ⟨σ, (by repeat (first | exact Sg.sub.refl _ | refine Sg.sub.set_both ?_ | refine Sg.sub.set_fresh ?_ (by first | assumption | exact Sg.set_none ‹_› ‹_›) | refine Sg.sub.del_fresh ?_ (by first | assumption | exact Sg.set_none ‹_› ‹_›))), rfl⟩
    · rw [certX_none (fun x y h => by
        rw [hr] at h
        have e := Option.some.inj h
        have e1 := (Prod.mk.inj e).1
        have e2 := (Prod.mk.inj e).2
        exact hu ⟨e2, by rw [e1]; rfl⟩)]
      (refine vfun (fun _ => .no) mixed Try.func26 (by kernel_rfl) ?_; simp only [bodyOf, Try.f26, Option.getD_some])
      repeat' (first | with_reducible rfl | exact .inr trivial | with_reducible apply And.intro | with_reducible apply vqx_step | with_reducible apply vqm_step | with_reducible refine vkp_free (by decide +kernel) ?_ | with_reducible intro _ | ((first | (with_reducible first | refine .rs ?_ | refine .ds (by kernel_rfl) ?_ | refine .dg (by kernel_rfl) ?_ | refine .rg ?_ | refine .ite ?_ | refine .ret ?_ | refine .skip ?_ | refine .exit ?_ | refine .scope ?_ | refine .seq (.label ?_) | refine .block ?_ | refine .seq ?_)); (try simp only [vO, vQ, ↓vP, vE, vS, vB, vL, vF, vM, vN, vbs_full, Nat.reduceEqDiff, Nat.reduceAdd, Nat.reduceLeDiff, ne_eq, not_false_eq_true, Nat.reduceMul, Nat.reduceSub, Int.toNat_zero, Int.reduceToNat, Try.underlying3, info3, Try.underlying26, h26, hz26, Try.underlying28, h28, hz28, Try.underlying34, info34, Try.underlying35, info35, Try.underlying70, info70, hz, hzs, Option.getD_some, rowsA_len, anys_len, vT])) | ((simp (disch := first | assumption | (apply Go.Cert.ne_of2; assumption; assumption) | (apply Go.Cert.ne_ob; assumption; assumption; (intro e; cases e; done)) | omega) only [w64, w8, tg_eq, Go.V.n1, Go.V.n2, Go.V.nn, Int.tdiv_eq_ediv_of_nonneg, Sg.set_same, Sg.set_ne, Sg.set_ne', Sg.del_ne, Sg.del_ne']); (try simp only [vO, vQ, ↓vP, vE, vS, vB, vL, vF, vM, vN, vbs_full, Nat.reduceEqDiff, Nat.reduceAdd, Nat.reduceLeDiff, ne_eq, not_false_eq_true, Nat.reduceMul, Nat.reduceSub, Int.toNat_zero, Int.reduceToNat, Try.underlying3, info3, Try.underlying26, h26, hz26, Try.underlying28, h28, hz28, Try.underlying34, info34, Try.underlying35, info35, Try.underlying70, info70, hz, hzs, Option.getD_some, rowsA_len, anys_len, vT])) | ((((with_reducible refine (h48 _).mono ?_); rintro _ S ⟨rfl, rfl⟩)); (try simp only [vO, vQ, ↓vP, vE, vS, vB, vL, vF, vM, vN, vbs_full, Nat.reduceEqDiff, Nat.reduceAdd, Nat.reduceLeDiff, ne_eq, not_false_eq_true, Nat.reduceMul, Nat.reduceSub, Int.toNat_zero, Int.reduceToNat, Try.underlying3, info3, Try.underlying26, h26, hz26, Try.underlying28, h28, hz28, Try.underlying34, info34, Try.underlying35, info35, Try.underlying70, info70, hz, hzs, Option.getD_some, rowsA_len, anys_len, vT])) | (((refine vlo_app (by first | assumption | ((simp (disch := first | assumption | (apply Go.Cert.ne_of2; assumption; assumption) | (apply Go.Cert.ne_ob; assumption; assumption; (intro e; cases e; done)) | omega) only [Sg.set_same, Sg.set_ne, Sg.set_ne', Sg.del_ne, Sg.del_ne']); first | done | rfl | assumption)) ?_)); (try simp only [vO, vQ, ↓vP, vE, vS, vB, vL, vF, vM, vN, vbs_full, Nat.reduceEqDiff, Nat.reduceAdd, Nat.reduceLeDiff, ne_eq, not_false_eq_true, Nat.reduceMul, Nat.reduceSub, Int.toNat_zero, Int.reduceToNat, Try.underlying3, info3, Try.underlying26, h26, hz26, Try.underlying28, h28, hz28, Try.underlying34, info34, Try.underlying35, info35, Try.underlying70, info70, hz, hzs, Option.getD_some, rowsA_len, anys_len, vT])) | (((refine vst_app (by first | assumption | ((simp (disch := first | assumption | (apply Go.Cert.ne_of2; assumption; assumption) | (apply Go.Cert.ne_ob; assumption; assumption; (intro e; cases e; done)) | omega) only [Sg.set_same, Sg.set_ne, Sg.set_ne', Sg.del_ne, Sg.del_ne']); first | done | rfl | assumption)) ?_)); (try simp only [vO, vQ, ↓vP, vE, vS, vB, vL, vF, vM, vN, vbs_full, Nat.reduceEqDiff, Nat.reduceAdd, Nat.reduceLeDiff, ne_eq, not_false_eq_true, Nat.reduceMul, Nat.reduceSub, Int.toNat_zero, Int.reduceToNat, Try.underlying3, info3, Try.underlying26, h26, hz26, Try.underlying28, h28, hz28, Try.underlying34, info34, Try.underlying35, info35, Try.underlying70, info70, hz, hzs, Option.getD_some, rowsA_len, anys_len, vT])) | with_reducible refine vfresh_set ?_ | with_reducible refine vfresh_intro (fun _ _ => ?_) | with_reducible refine vif_intro (fun _ => ?_) (fun _ => ?_) | omega | ((with_reducible first | refine vop_at ?_ | refine vops_at ?_ | refine vquiet_at ?_ | refine vmix_at ?_ | refine Holds_at ?_); simp only [vO, vQ, ↓vP, vE, vS, vB, vL, vF, vM, vN, vbs_full, Nat.reduceEqDiff, Nat.reduceAdd, Nat.reduceLeDiff, ne_eq, not_false_eq_true, Nat.reduceMul, Nat.reduceSub, Int.toNat_zero, Int.reduceToNat, Try.underlying3, info3, Try.underlying26, h26, hz26, Try.underlying28, h28, hz28, Try.underlying34, info34, Try.underlying35, info35, Try.underlying70, info70, hz, hzs, Option.getD_some, rowsA_len, anys_len, vT]))
      all_goals first | exact ⟨_, (by repeat (first | exact Sg.sub.refl _ | refine Sg.sub.set_both ?_ | refine Sg.sub.set_fresh ?_ (by first | assumption | exact Sg.set_none ‹_› ‹_›) | refine Sg.sub.del_fresh ?_ (by first | assumption | exact Sg.set_none ‹_› ‹_›))), rfl⟩ | (exfalso; omega)
theorem certX_len {b h s : List UInt8} (hr : rowP b = some ([h, s], b.length)) (h8 : s.length = 8) : certX b = match headP h with
    | some (v, L) => if okB v (i64 (nBE s)) then .tup [cA v L (i64 (nBE s)), .i 0] else .tup [cA 0 zs 0, .i 4]
    | none => .tup [cA 0 zs 0, .i 4] := by
  unfold certX certP
  rw [hr]
  simp only
  rw [if_pos ⟨trivial, h8⟩]
  cases headP h with
  | none => rfl
  | some x =>
    obtain ⟨v, L⟩ := x
    simp only
    split <;> rename_i h0 <;> split at h0 <;> simp_all
theorem certX_short {b h s : List UInt8} {u : Nat} (hr : rowP b = some ([h, s], u)) (h8 : ¬ (u = b.length ∧ s.length = 8)) : certX b = .tup [cA 0 zs 0, .i 4] := by
  unfold certX certP
  rw [hr]
  simp only
  rw [if_neg h8]
set_option maxHeartbeats 1000000 in
set_option maxRecDepth 100000 in
theorem t29 (k : Own) (b : List UInt8) (σ : Sg) (hb : b.length ≤ 1000000000000) : VCalls Try.prog 29 [.sl k (bytesL b)] σ (fun x σ' => x = certX b ∧ σ' = σ) := by
  obtain ⟨z26, h26, hz26⟩ := zero26
  obtain ⟨z28, h28, hz28⟩ := zero28
  have hz := cR zs_len
  have hzs := aR zs_len
  cases hr : rowP b with
  | none =>
    have h53 := fun σ => t53m k b σ hb hr
    rw [certX_none (fun x y h => by rw [hr] at h; cases h)]
    (refine vfun (fun _ => .no) mixed Try.func29 (by kernel_rfl) ?_; simp only [bodyOf, Try.f29, Option.getD_some])
    repeat' (first | with_reducible rfl | exact .inr trivial | with_reducible apply And.intro | with_reducible apply vqx_step | with_reducible apply vqm_step | with_reducible refine vkp_free (by decide +kernel) ?_ | with_reducible intro _ | ((first | (with_reducible first | refine .rs ?_ | refine .ds (by kernel_rfl) ?_ | refine .dg (by kernel_rfl) ?_ | refine .rg ?_ | refine .ite ?_ | refine .ret ?_ | refine .skip ?_ | refine .exit ?_ | refine .scope ?_ | refine .seq (.label ?_) | refine .block ?_ | refine .seq ?_)); (try simp only [vO, vQ, ↓vP, vE, vS, vB, vL, vF, vM, vN, vbs_full, Nat.reduceEqDiff, Nat.reduceAdd, Nat.reduceLeDiff, ne_eq, not_false_eq_true, Nat.reduceMul, Nat.reduceSub, Int.toNat_zero, Int.reduceToNat, Try.underlying3, info3, Try.underlying26, h26, hz26, Try.underlying28, h28, hz28, Try.underlying34, info34, Try.underlying35, info35, Try.underlying70, info70, hz, hzs, Option.getD_some, vT])) | ((simp (disch := first | assumption | (apply Go.Cert.ne_of2; assumption; assumption) | (apply Go.Cert.ne_ob; assumption; assumption; (intro e; cases e; done)) | omega) only [w64, w8, tg_eq, Go.V.n1, Go.V.n2, Go.V.nn, Int.tdiv_eq_ediv_of_nonneg, Sg.set_same, Sg.set_ne, Sg.set_ne', Sg.del_ne, Sg.del_ne']); (try simp only [vO, vQ, ↓vP, vE, vS, vB, vL, vF, vM, vN, vbs_full, Nat.reduceEqDiff, Nat.reduceAdd, Nat.reduceLeDiff, ne_eq, not_false_eq_true, Nat.reduceMul, Nat.reduceSub, Int.toNat_zero, Int.reduceToNat, Try.underlying3, info3, Try.underlying26, h26, hz26, Try.underlying28, h28, hz28, Try.underlying34, info34, Try.underlying35, info35, Try.underlying70, info70, hz, hzs, Option.getD_some, vT])) | ((((with_reducible refine (h53 _).mono ?_); rintro _ S ⟨e, he, rfl, rfl⟩)); (try simp only [vO, vQ, ↓vP, vE, vS, vB, vL, vF, vM, vN, vbs_full, Nat.reduceEqDiff, Nat.reduceAdd, Nat.reduceLeDiff, ne_eq, not_false_eq_true, Nat.reduceMul, Nat.reduceSub, Int.toNat_zero, Int.reduceToNat, Try.underlying3, info3, Try.underlying26, h26, hz26, Try.underlying28, h28, hz28, Try.underlying34, info34, Try.underlying35, info35, Try.underlying70, info70, hz, hzs, Option.getD_some, vT])) | (((refine vlo_app (by first | assumption | ((simp (disch := first | assumption | (apply Go.Cert.ne_of2; assumption; assumption) | (apply Go.Cert.ne_ob; assumption; assumption; (intro e; cases e; done)) | omega) only [Sg.set_same, Sg.set_ne, Sg.set_ne', Sg.del_ne, Sg.del_ne']); first | done | rfl | assumption)) ?_)); (try simp only [vO, vQ, ↓vP, vE, vS, vB, vL, vF, vM, vN, vbs_full, Nat.reduceEqDiff, Nat.reduceAdd, Nat.reduceLeDiff, ne_eq, not_false_eq_true, Nat.reduceMul, Nat.reduceSub, Int.toNat_zero, Int.reduceToNat, Try.underlying3, info3, Try.underlying26, h26, hz26, Try.underlying28, h28, hz28, Try.underlying34, info34, Try.underlying35, info35, Try.underlying70, info70, hz, hzs, Option.getD_some, vT])) | (((refine vst_app (by first | assumption | ((simp (disch := first | assumption | (apply Go.Cert.ne_of2; assumption; assumption) | (apply Go.Cert.ne_ob; assumption; assumption; (intro e; cases e; done)) | omega) only [Sg.set_same, Sg.set_ne, Sg.set_ne', Sg.del_ne, Sg.del_ne']); first | done | rfl | assumption)) ?_)); (try simp only [vO, vQ, ↓vP, vE, vS, vB, vL, vF, vM, vN, vbs_full, Nat.reduceEqDiff, Nat.reduceAdd, Nat.reduceLeDiff, ne_eq, not_false_eq_true, Nat.reduceMul, Nat.reduceSub, Int.toNat_zero, Int.reduceToNat, Try.underlying3, info3, Try.underlying26, h26, hz26, Try.underlying28, h28, hz28, Try.underlying34, info34, Try.underlying35, info35, Try.underlying70, info70, hz, hzs, Option.getD_some, vT])) | with_reducible refine vfresh_set ?_ | with_reducible refine vfresh_intro (fun _ _ => ?_) | with_reducible refine vif_intro (fun _ => ?_) (fun _ => ?_) | omega | ((with_reducible first | refine vop_at ?_ | refine vops_at ?_ | refine vquiet_at ?_ | refine vmix_at ?_ | refine Holds_at ?_); simp only [vO, vQ, ↓vP, vE, vS, vB, vL, vF, vM, vN, vbs_full, Nat.reduceEqDiff, Nat.reduceAdd, Nat.reduceLeDiff, ne_eq, not_false_eq_true, Nat.reduceMul, Nat.reduceSub, Int.toNat_zero, Int.reduceToNat, Try.underlying3, info3, Try.underlying26, h26, hz26, Try.underlying28, h28, hz28, Try.underlying34, info34, Try.underlying35, info35, Try.underlying70, info70, hz, hzs, Option.getD_some, vT]))
    all_goals exact ⟨_, (by repeat (first | exact Sg.sub.refl _ | refine Sg.sub.set_both ?_ | refine Sg.sub.set_fresh ?_ (by first | assumption | exact Sg.set_none ‹_› ‹_›) | refine Sg.sub.del_fresh ?_ (by first | assumption | exact Sg.set_none ‹_› ‹_›))), rfl⟩
  | some w =>
    obtain ⟨l, u⟩ := w
    have h53 := fun σ => t53s k b l u σ hb hr
    by_cases hl2 : l.length = 2
    · match l, hl2 with
      | [h, s], _ =>
        have hr5 : rowsA (anys [h, s]) = [[.sl .any (bytesL h)], [.sl .any (bytesL s)]] := rfl
        rw [hr5] at h53
        by_cases hu : u = b.length ∧ s.length = 8
        · obtain ⟨hu, h8⟩ := hu
          subst hu
          have hln := (rowP_back hr).2.2
          have lh := hln h (by simp)
          have ls := hln s (by simp)
          have h54 := fun k σ => t54 k h σ (by omega)
          have h55 := fun k σ => t55 k s σ (by omega)
          rw [if_neg (by omega), List.take_of_length_le (by omega)] at h55
          rw [certX_len hr h8]
          cases hh : headP h with
          | none =>
            rw [headX, hh] at h54
            have h28' := fun σ => t28 0 (i64 (nBE s)) zs σ zs_len
            by_cases hok : okB 0 (i64 (nBE s))
            · rw [if_pos hok] at h28'
              (refine vfun (fun _ => .no) mixed Try.func29 (by kernel_rfl) ?_; simp only [bodyOf, Try.f29, Option.getD_some])
              repeat' (first | with_reducible rfl | exact .inr trivial | with_reducible apply And.intro | with_reducible apply vqx_step | with_reducible apply vqm_step | with_reducible refine vkp_free (by decide +kernel) ?_ | with_reducible intro _ | ((first | (with_reducible first | refine .rs ?_ | refine .ds (by kernel_rfl) ?_ | refine .dg (by kernel_rfl) ?_ | refine .rg ?_ | refine .ite ?_ | refine .ret ?_ | refine .skip ?_ | refine .exit ?_ | refine .scope ?_ | refine .seq (.label ?_) | refine .block ?_ | refine .seq ?_)); (try simp only [vO, vQ, ↓vP, vE, vS, vB, vL, vF, vM, vN, vbs_full, Nat.reduceEqDiff, Nat.reduceAdd, Nat.reduceLeDiff, ne_eq, not_false_eq_true, Nat.reduceMul, Nat.reduceSub, Int.toNat_zero, Int.reduceToNat, Try.underlying3, info3, Try.underlying26, h26, hz26, Try.underlying28, h28, hz28, Try.underlying34, info34, Try.underlying35, info35, Try.underlying70, info70, hz, hzs, Option.getD_some, List.getD_cons_zero, List.getD_cons_succ, vT])) | ((simp (disch := first | assumption | (apply Go.Cert.ne_of2; assumption; assumption) | (apply Go.Cert.ne_ob; assumption; assumption; (intro e; cases e; done)) | omega) only [w64, w8, tg_eq, Go.V.n1, Go.V.n2, Go.V.nn, Int.tdiv_eq_ediv_of_nonneg, Sg.set_same, Sg.set_ne, Sg.set_ne', Sg.del_ne, Sg.del_ne']); (try simp only [vO, vQ, ↓vP, vE, vS, vB, vL, vF, vM, vN, vbs_full, Nat.reduceEqDiff, Nat.reduceAdd, Nat.reduceLeDiff, ne_eq, not_false_eq_true, Nat.reduceMul, Nat.reduceSub, Int.toNat_zero, Int.reduceToNat, Try.underlying3, info3, Try.underlying26, h26, hz26, Try.underlying28, h28, hz28, Try.underlying34, info34, Try.underlying35, info35, Try.underlying70, info70, hz, hzs, Option.getD_some, List.getD_cons_zero, List.getD_cons_succ, vT])) | ((((with_reducible refine (h53 _).mono ?_); rintro _ S ⟨rfl, rfl⟩)); (try simp only [vO, vQ, ↓vP, vE, vS, vB, vL, vF, vM, vN, vbs_full, Nat.reduceEqDiff, Nat.reduceAdd, Nat.reduceLeDiff, ne_eq, not_false_eq_true, Nat.reduceMul, Nat.reduceSub, Int.toNat_zero, Int.reduceToNat, Try.underlying3, info3, Try.underlying26, h26, hz26, Try.underlying28, h28, hz28, Try.underlying34, info34, Try.underlying35, info35, Try.underlying70, info70, hz, hzs, Option.getD_some, List.getD_cons_zero, List.getD_cons_succ, vT])) | ((((with_reducible refine (h54 _ _).mono ?_); rintro _ S ⟨rfl, rfl⟩)); (try simp only [vO, vQ, ↓vP, vE, vS, vB, vL, vF, vM, vN, vbs_full, Nat.reduceEqDiff, Nat.reduceAdd, Nat.reduceLeDiff, ne_eq, not_false_eq_true, Nat.reduceMul, Nat.reduceSub, Int.toNat_zero, Int.reduceToNat, Try.underlying3, info3, Try.underlying26, h26, hz26, Try.underlying28, h28, hz28, Try.underlying34, info34, Try.underlying35, info35, Try.underlying70, info70, hz, hzs, Option.getD_some, List.getD_cons_zero, List.getD_cons_succ, vT])) | ((((with_reducible refine (h55 _ _).mono ?_); rintro _ S ⟨rfl, rfl⟩)); (try simp only [vO, vQ, ↓vP, vE, vS, vB, vL, vF, vM, vN, vbs_full, Nat.reduceEqDiff, Nat.reduceAdd, Nat.reduceLeDiff, ne_eq, not_false_eq_true, Nat.reduceMul, Nat.reduceSub, Int.toNat_zero, Int.reduceToNat, Try.underlying3, info3, Try.underlying26, h26, hz26, Try.underlying28, h28, hz28, Try.underlying34, info34, Try.underlying35, info35, Try.underlying70, info70, hz, hzs, Option.getD_some, List.getD_cons_zero, List.getD_cons_succ, vT])) | ((((with_reducible refine (h28' _).mono ?_); rintro _ S ⟨rfl, rfl⟩)); (try simp only [vO, vQ, ↓vP, vE, vS, vB, vL, vF, vM, vN, vbs_full, Nat.reduceEqDiff, Nat.reduceAdd, Nat.reduceLeDiff, ne_eq, not_false_eq_true, Nat.reduceMul, Nat.reduceSub, Int.toNat_zero, Int.reduceToNat, Try.underlying3, info3, Try.underlying26, h26, hz26, Try.underlying28, h28, hz28, Try.underlying34, info34, Try.underlying35, info35, Try.underlying70, info70, hz, hzs, Option.getD_some, List.getD_cons_zero, List.getD_cons_succ, vT])) | (((refine vlo_app (by first | assumption | ((simp (disch := first | assumption | (apply Go.Cert.ne_of2; assumption; assumption) | (apply Go.Cert.ne_ob; assumption; assumption; (intro e; cases e; done)) | omega) only [Sg.set_same, Sg.set_ne, Sg.set_ne', Sg.del_ne, Sg.del_ne']); first | done | rfl | assumption)) ?_)); (try simp only [vO, vQ, ↓vP, vE, vS, vB, vL, vF, vM, vN, vbs_full, Nat.reduceEqDiff, Nat.reduceAdd, Nat.reduceLeDiff, ne_eq, not_false_eq_true, Nat.reduceMul, Nat.reduceSub, Int.toNat_zero, Int.reduceToNat, Try.underlying3, info3, Try.underlying26, h26, hz26, Try.underlying28, h28, hz28, Try.underlying34, info34, Try.underlying35, info35, Try.underlying70, info70, hz, hzs, Option.getD_some, List.getD_cons_zero, List.getD_cons_succ, vT])) | (((refine vst_app (by first | assumption | ((simp (disch := first | assumption | (apply Go.Cert.ne_of2; assumption; assumption) | (apply Go.Cert.ne_ob; assumption; assumption; (intro e; cases e; done)) | omega) only [Sg.set_same, Sg.set_ne, Sg.set_ne', Sg.del_ne, Sg.del_ne']); first | done | rfl | assumption)) ?_)); (try simp only [vO, vQ, ↓vP, vE, vS, vB, vL, vF, vM, vN, vbs_full, Nat.reduceEqDiff, Nat.reduceAdd, Nat.reduceLeDiff, ne_eq, not_false_eq_true, Nat.reduceMul, Nat.reduceSub, Int.toNat_zero, Int.reduceToNat, Try.underlying3, info3, Try.underlying26, h26, hz26, Try.underlying28, h28, hz28, Try.underlying34, info34, Try.underlying35, info35, Try.underlying70, info70, hz, hzs, Option.getD_some, List.getD_cons_zero, List.getD_cons_succ, vT])) | with_reducible refine vfresh_set ?_ | with_reducible refine vfresh_intro (fun _ _ => ?_) | with_reducible refine vif_intro (fun _ => ?_) (fun _ => ?_) | omega | ((with_reducible first | refine vop_at ?_ | refine vops_at ?_ | refine vquiet_at ?_ | refine vmix_at ?_ | refine Holds_at ?_); simp only [vO, vQ, ↓vP, vE, vS, vB, vL, vF, vM, vN, vbs_full, Nat.reduceEqDiff, Nat.reduceAdd, Nat.reduceLeDiff, ne_eq, not_false_eq_true, Nat.reduceMul, Nat.reduceSub, Int.toNat_zero, Int.reduceToNat, Try.underlying3, info3, Try.underlying26, h26, hz26, Try.underlying28, h28, hz28, Try.underlying34, info34, Try.underlying35, info35, Try.underlying70, info70, hz, hzs, Option.getD_some, List.getD_cons_zero, List.getD_cons_succ, vT]))
              all_goals first | exact ⟨σ, (by repeat (first | exact Sg.sub.refl _ | refine Sg.sub.set_both ?_ | refine Sg.sub.set_fresh ?_ (by first | assumption | exact Sg.set_none ‹_› ‹_›) | refine Sg.sub.del_fresh ?_ (by first | assumption | exact Sg.set_none ‹_› ‹_›))), rfl⟩ | (exfalso; omega)
            · rw [if_neg hok] at h28'
              (refine vfun (fun _ => .no) mixed Try.func29 (by kernel_rfl) ?_; simp only [bodyOf, Try.f29, Option.getD_some])
              repeat' (first | with_reducible rfl | exact .inr trivial | with_reducible apply And.intro | with_reducible apply vqx_step | with_reducible apply vqm_step | with_reducible refine vkp_free (by decide +kernel) ?_ | with_reducible intro _ | ((first | (with_reducible first | refine .rs ?_ | refine .ds (by kernel_rfl) ?_ | refine .dg (by kernel_rfl) ?_ | refine .rg ?_ | refine .ite ?_ | refine .ret ?_ | refine .skip ?_ | refine .exit ?_ | refine .scope ?_ | refine .seq (.label ?_) | refine .block ?_ | refine .seq ?_)); (try simp only [vO, vQ, ↓vP, vE, vS, vB, vL, vF, vM, vN, vbs_full, Nat.reduceEqDiff, Nat.reduceAdd, Nat.reduceLeDiff, ne_eq, not_false_eq_true, Nat.reduceMul, Nat.reduceSub, Int.toNat_zero, Int.reduceToNat, Try.underlying3, info3, Try.underlying26, h26, hz26, Try.underlying28, h28, hz28, Try.underlying34, info34, Try.underlying35, info35, Try.underlying70, info70, hz, hzs, Option.getD_some, List.getD_cons_zero, List.getD_cons_succ, vT])) | ((simp (disch := first | assumption | (apply Go.Cert.ne_of2; assumption; assumption) | (apply Go.Cert.ne_ob; assumption; assumption; (intro e; cases e; done)) | omega) only [w64, w8, tg_eq, Go.V.n1, Go.V.n2, Go.V.nn, Int.tdiv_eq_ediv_of_nonneg, Sg.set_same, Sg.set_ne, Sg.set_ne', Sg.del_ne, Sg.del_ne']); (try simp only [vO, vQ, ↓vP, vE, vS, vB, vL, vF, vM, vN, vbs_full, Nat.reduceEqDiff, Nat.reduceAdd, Nat.reduceLeDiff, ne_eq, not_false_eq_true, Nat.reduceMul, Nat.reduceSub, Int.toNat_zero, Int.reduceToNat, Try.underlying3, info3, Try.underlying26, h26, hz26, Try.underlying28, h28, hz28, Try.underlying34, info34, Try.underlying35, info35, Try.underlying70, info70, hz, hzs, Option.getD_some, List.getD_cons_zero, List.getD_cons_succ, vT])) | ((((with_reducible refine (h53 _).mono ?_); rintro _ S ⟨rfl, rfl⟩)); (try simp only [vO, vQ, ↓vP, vE, vS, vB, vL, vF, vM, vN, vbs_full, Nat.reduceEqDiff, Nat.reduceAdd, Nat.reduceLeDiff, ne_eq, not_false_eq_true, Nat.reduceMul, Nat.reduceSub, Int.toNat_zero, Int.reduceToNat, Try.underlying3, info3, Try.underlying26, h26, hz26, Try.underlying28, h28, hz28, Try.underlying34, info34, Try.underlying35, info35, Try.underlying70, info70, hz, hzs, Option.getD_some, List.getD_cons_zero, List.getD_cons_succ, vT])) | ((((with_reducible refine (h54 _ _).mono ?_); rintro _ S ⟨rfl, rfl⟩)); (try simp only [vO, vQ, ↓vP, vE, vS, vB, vL, vF, vM, vN, vbs_full, Nat.reduceEqDiff, Nat.reduceAdd, Nat.reduceLeDiff, ne_eq, not_false_eq_true, Nat.reduceMul, Nat.reduceSub, Int.toNat_zero, Int.reduceToNat, Try.underlying3, info3, Try.underlying26, h26, hz26, Try.underlying28, h28, hz28, Try.underlying34, info34, Try.underlying35, info35, Try.underlying70, info70, hz, hzs, Option.getD_some, List.getD_cons_zero, List.getD_cons_succ, vT])) | ((((with_reducible refine (h55 _ _).mono ?_); rintro _ S ⟨rfl, rfl⟩)); (try simp only [vO, vQ, ↓vP, vE, vS, vB, vL, vF, vM, vN, vbs_full, Nat.reduceEqDiff, Nat.reduceAdd, Nat.reduceLeDiff, ne_eq, not_false_eq_true, Nat.reduceMul, Nat.reduceSub, Int.toNat_zero, Int.reduceToNat, Try.underlying3, info3, Try.underlying26, h26, hz26, Try.underlying28, h28, hz28, Try.underlying34, info34, Try.underlying35, info35, Try.underlying70, info70, hz, hzs, Option.getD_some, List.getD_cons_zero, List.getD_cons_succ, vT])) | ((((with_reducible refine (h28' _).mono ?_); rintro _ S ⟨rfl, rfl⟩)); (try simp only [vO, vQ, ↓vP, vE, vS, vB, vL, vF, vM, vN, vbs_full, Nat.reduceEqDiff, Nat.reduceAdd, Nat.reduceLeDiff, ne_eq, not_false_eq_true, Nat.reduceMul, Nat.reduceSub, Int.toNat_zero, Int.reduceToNat, Try.underlying3, info3, Try.underlying26, h26, hz26, Try.underlying28, h28, hz28, Try.underlying34, info34, Try.underlying35, info35, Try.underlying70, info70, hz, hzs, Option.getD_some, List.getD_cons_zero, List.getD_cons_succ, vT])) | (((refine vlo_app (by first | assumption | ((simp (disch := first | assumption | (apply Go.Cert.ne_of2; assumption; assumption) | (apply Go.Cert.ne_ob; assumption; assumption; (intro e; cases e; done)) | omega) only [Sg.set_same, Sg.set_ne, Sg.set_ne', Sg.del_ne, Sg.del_ne']); first | done | rfl | assumption)) ?_)); (try simp only [vO, vQ, ↓vP, vE, vS, vB, vL, vF, vM, vN, vbs_full, Nat.reduceEqDiff, Nat.reduceAdd, Nat.reduceLeDiff, ne_eq, not_false_eq_true, Nat.reduceMul, Nat.reduceSub, Int.toNat_zero, Int.reduceToNat, Try.underlying3, info3, Try.underlying26, h26, hz26, Try.underlying28, h28, hz28, Try.underlying34, info34, Try.underlying35, info35, Try.underlying70, info70, hz, hzs, Option.getD_some, List.getD_cons_zero, List.getD_cons_succ, vT])) | (((refine vst_app (by first | assumption | ((simp (disch := first | assumption | (apply Go.Cert.ne_of2; assumption; assumption) | (apply Go.Cert.ne_ob; assumption; assumption; (intro e; cases e; done)) | omega) only [Sg.set_same, Sg.set_ne, Sg.set_ne', Sg.del_ne, Sg.del_ne']); first | done | rfl | assumption)) ?_)); (try simp only [vO, vQ, ↓vP, vE, vS, vB, vL, vF, vM, vN, vbs_full, Nat.reduceEqDiff, Nat.reduceAdd, Nat.reduceLeDiff, ne_eq, not_false_eq_true, Nat.reduceMul, Nat.reduceSub, Int.toNat_zero, Int.reduceToNat, Try.underlying3, info3, Try.underlying26, h26, hz26, Try.underlying28, h28, hz28, Try.underlying34, info34, Try.underlying35, info35, Try.underlying70, info70, hz, hzs, Option.getD_some, List.getD_cons_zero, List.getD_cons_succ, vT])) | with_reducible refine vfresh_set ?_ | with_reducible refine vfresh_intro (fun _ _ => ?_) | with_reducible refine vif_intro (fun _ => ?_) (fun _ => ?_) | omega | ((with_reducible first | refine vop_at ?_ | refine vops_at ?_ | refine vquiet_at ?_ | refine vmix_at ?_ | refine Holds_at ?_); simp only [vO, vQ, ↓vP, vE, vS, vB, vL, vF, vM, vN, vbs_full, Nat.reduceEqDiff, Nat.reduceAdd, Nat.reduceLeDiff, ne_eq, not_false_eq_true, Nat.reduceMul, Nat.reduceSub, Int.toNat_zero, Int.reduceToNat, Try.underlying3, info3, Try.underlying26, h26, hz26, Try.underlying28, h28, hz28, Try.underlying34, info34, Try.underlying35, info35, Try.underlying70, info70, hz, hzs, Option.getD_some, List.getD_cons_zero, List.getD_cons_succ, vT]))
              all_goals first | exact ⟨σ, (by repeat (first | exact Sg.sub.refl _ | refine Sg.sub.set_both ?_ | refine Sg.sub.set_fresh ?_ (by first | assumption | exact Sg.set_none ‹_› ‹_›) | refine Sg.sub.del_fresh ?_ (by first | assumption | exact Sg.set_none ‹_› ‹_›))), rfl⟩ | (exfalso; omega)
          | some x =>
            obtain ⟨v, L⟩ := x
            obtain ⟨g1, g2, g3⟩ := headP_some hh
            rw [headX, hh] at h54
            have hL := aR g2
            have hc := fun s => cR g2 s
            have h28' := fun σ => t28 v (i64 (nBE s)) L σ g2
            simp only
            by_cases hok : okB v (i64 (nBE s))
            · rw [if_pos hok] at h28' ⊢
              (refine vfun (fun _ => .no) mixed Try.func29 (by kernel_rfl) ?_; simp only [bodyOf, Try.f29, Option.getD_some])
              repeat' (first | with_reducible rfl | exact .inr trivial | with_reducible apply And.intro | with_reducible apply vqx_step | with_reducible apply vqm_step | with_reducible refine vkp_free (by decide +kernel) ?_ | with_reducible intro _ | ((first | (with_reducible first | refine .rs ?_ | refine .ds (by kernel_rfl) ?_ | refine .dg (by kernel_rfl) ?_ | refine .rg ?_ | refine .ite ?_ | refine .ret ?_ | refine .skip ?_ | refine .exit ?_ | refine .scope ?_ | refine .seq (.label ?_) | refine .block ?_ | refine .seq ?_)); (try simp only [vO, vQ, ↓vP, vE, vS, vB, vL, vF, vM, vN, vbs_full, Nat.reduceEqDiff, Nat.reduceAdd, Nat.reduceLeDiff, ne_eq, not_false_eq_true, Nat.reduceMul, Nat.reduceSub, Int.toNat_zero, Int.reduceToNat, Try.underlying3, info3, Try.underlying26, h26, hz26, Try.underlying28, h28, hz28, Try.underlying34, info34, Try.underlying35, info35, Try.underlying70, info70, hz, hzs, hL, hc, Option.getD_some, List.getD_cons_zero, List.getD_cons_succ, vT])) | ((simp (disch := first | assumption | (apply Go.Cert.ne_of2; assumption; assumption) | (apply Go.Cert.ne_ob; assumption; assumption; (intro e; cases e; done)) | omega) only [w64, w8, tg_eq, Go.V.n1, Go.V.n2, Go.V.nn, Int.tdiv_eq_ediv_of_nonneg, Sg.set_same, Sg.set_ne, Sg.set_ne', Sg.del_ne, Sg.del_ne']); (try simp only [vO, vQ, ↓vP, vE, vS, vB, vL, vF, vM, vN, vbs_full, Nat.reduceEqDiff, Nat.reduceAdd, Nat.reduceLeDiff, ne_eq, not_false_eq_true, Nat.reduceMul, Nat.reduceSub, Int.toNat_zero, Int.reduceToNat, Try.underlying3, info3, Try.underlying26, h26, hz26, Try.underlying28, h28, hz28, Try.underlying34, info34, Try.underlying35, info35, Try.underlying70, info70, hz, hzs, hL, hc, Option.getD_some, List.getD_cons_zero, List.getD_cons_succ, vT])) | ((((with_reducible refine (h53 _).mono ?_); rintro _ S ⟨rfl, rfl⟩)); (try simp only [vO, vQ, ↓vP, vE, vS, vB, vL, vF, vM, vN, vbs_full, Nat.reduceEqDiff, Nat.reduceAdd, Nat.reduceLeDiff, ne_eq, not_false_eq_true, Nat.reduceMul, Nat.reduceSub, Int.toNat_zero, Int.reduceToNat, Try.underlying3, info3, Try.underlying26, h26, hz26, Try.underlying28, h28, hz28, Try.underlying34, info34, Try.underlying35, info35, Try.underlying70, info70, hz, hzs, hL, hc, Option.getD_some, List.getD_cons_zero, List.getD_cons_succ, vT])) | ((((with_reducible refine (h54 _ _).mono ?_); rintro _ S ⟨rfl, rfl⟩)); (try simp only [vO, vQ, ↓vP, vE, vS, vB, vL, vF, vM, vN, vbs_full, Nat.reduceEqDiff, Nat.reduceAdd, Nat.reduceLeDiff, ne_eq, not_false_eq_true, Nat.reduceMul, Nat.reduceSub, Int.toNat_zero, Int.reduceToNat, Try.underlying3, info3, Try.underlying26, h26, hz26, Try.underlying28, h28, hz28, Try.underlying34, info34, Try.underlying35, info35, Try.underlying70, info70, hz, hzs, hL, hc, Option.getD_some, List.getD_cons_zero, List.getD_cons_succ, vT])) | ((((with_reducible refine (h55 _ _).mono ?_); rintro _ S ⟨rfl, rfl⟩)); (try simp only [vO, vQ, ↓vP, vE, vS, vB, vL, vF, vM, vN, vbs_full, Nat.reduceEqDiff, Nat.reduceAdd, Nat.reduceLeDiff, ne_eq, not_false_eq_true, Nat.reduceMul, Nat.reduceSub, Int.toNat_zero, Int.reduceToNat, Try.underlying3, info3, Try.underlying26, h26, hz26, Try.underlying28, h28, hz28, Try.underlying34, info34, Try.underlying35, info35, Try.underlying70, info70, hz, hzs, hL, hc, Option.getD_some, List.getD_cons_zero, List.getD_cons_succ, vT])) | ((((with_reducible refine (h28' _).mono ?_); rintro _ S ⟨rfl, rfl⟩)); (try simp only [vO, vQ, ↓vP, vE, vS, vB, vL, vF, vM, vN, vbs_full, Nat.reduceEqDiff, Nat.reduceAdd, Nat.reduceLeDiff, ne_eq, not_false_eq_true, Nat.reduceMul, Nat.reduceSub, Int.toNat_zero, Int.reduceToNat, Try.underlying3, info3, Try.underlying26, h26, hz26, Try.underlying28, h28, hz28, Try.underlying34, info34, Try.underlying35, info35, Try.underlying70, info70, hz, hzs, hL, hc, Option.getD_some, List.getD_cons_zero, List.getD_cons_succ, vT])) | (((refine vlo_app (by first | assumption | ((simp (disch := first | assumption | (apply Go.Cert.ne_of2; assumption; assumption) | (apply Go.Cert.ne_ob; assumption; assumption; (intro e; cases e; done)) | omega) only [Sg.set_same, Sg.set_ne, Sg.set_ne', Sg.del_ne, Sg.del_ne']); first | done | rfl | assumption)) ?_)); (try simp only [vO, vQ, ↓vP, vE, vS, vB, vL, vF, vM, vN, vbs_full, Nat.reduceEqDiff, Nat.reduceAdd, Nat.reduceLeDiff, ne_eq, not_false_eq_true, Nat.reduceMul, Nat.reduceSub, Int.toNat_zero, Int.reduceToNat, Try.underlying3, info3, Try.underlying26, h26, hz26, Try.underlying28, h28, hz28, Try.underlying34, info34, Try.underlying35, info35, Try.underlying70, info70, hz, hzs, hL, hc, Option.getD_some, List.getD_cons_zero, List.getD_cons_succ, vT])) | (((refine vst_app (by first | assumption | ((simp (disch := first | assumption | (apply Go.Cert.ne_of2; assumption; assumption) | (apply Go.Cert.ne_ob; assumption; assumption; (intro e; cases e; done)) | omega) only [Sg.set_same, Sg.set_ne, Sg.set_ne', Sg.del_ne, Sg.del_ne']); first | done | rfl | assumption)) ?_)); (try simp only [vO, vQ, ↓vP, vE, vS, vB, vL, vF, vM, vN, vbs_full, Nat.reduceEqDiff, Nat.reduceAdd, Nat.reduceLeDiff, ne_eq, not_false_eq_true, Nat.reduceMul, Nat.reduceSub, Int.toNat_zero, Int.reduceToNat, Try.underlying3, info3, Try.underlying26, h26, hz26, Try.underlying28, h28, hz28, Try.underlying34, info34, Try.underlying35, info35, Try.underlying70, info70, hz, hzs, hL, hc, Option.getD_some, List.getD_cons_zero, List.getD_cons_succ, vT])) | with_reducible refine vfresh_set ?_ | with_reducible refine vfresh_intro (fun _ _ => ?_) | with_reducible refine vif_intro (fun _ => ?_) (fun _ => ?_) | omega | ((with_reducible first | refine vop_at ?_ | refine vops_at ?_ | refine vquiet_at ?_ | refine vmix_at ?_ | refine Holds_at ?_); simp only [vO, vQ, ↓vP, vE, vS, vB, vL, vF, vM, vN, vbs_full, Nat.reduceEqDiff, Nat.reduceAdd, Nat.reduceLeDiff, ne_eq, not_false_eq_true, Nat.reduceMul, Nat.reduceSub, Int.toNat_zero, Int.reduceToNat, Try.underlying3, info3, Try.underlying26, h26, hz26, Try.underlying28, h28, hz28, Try.underlying34, info34, Try.underlying35, info35, Try.underlying70, info70, hz, hzs, hL, hc, Option.getD_some, List.getD_cons_zero, List.getD_cons_succ, vT]))
              all_goals first | exact ⟨σ, (by repeat (first | exact Sg.sub.refl _ | refine Sg.sub.set_both ?_ | refine Sg.sub.set_fresh ?_ (by first | assumption | exact Sg.set_none ‹_› ‹_›) | refine Sg.sub.del_fresh ?_ (by first | assumption | exact Sg.set_none ‹_› ‹_›))), rfl, rfl⟩ | exact ⟨σ, (by repeat (first | exact Sg.sub.refl _ | refine Sg.sub.set_both ?_ | refine Sg.sub.set_fresh ?_ (by first | assumption | exact Sg.set_none ‹_› ‹_›) | refine Sg.sub.del_fresh ?_ (by first | assumption | exact Sg.set_none ‹_› ‹_›))), rfl⟩ | (exfalso; omega)
            · rw [if_neg hok] at h28' ⊢
              (refine vfun (fun _ => .no) mixed Try.func29 (by kernel_rfl) ?_; simp only [bodyOf, Try.f29, Option.getD_some])
              repeat' (first | with_reducible rfl | exact .inr trivial | with_reducible apply And.intro | with_reducible apply vqx_step | with_reducible apply vqm_step | with_reducible refine vkp_free (by decide +kernel) ?_ | with_reducible intro _ | ((first | (with_reducible first | refine .rs ?_ | refine .ds (by kernel_rfl) ?_ | refine .dg (by kernel_rfl) ?_ | refine .rg ?_ | refine .ite ?_ | refine .ret ?_ | refine .skip ?_ | refine .exit ?_ | refine .scope ?_ | refine .seq (.label ?_) | refine .block ?_ | refine .seq ?_)); (try simp only [vO, vQ, ↓vP, vE, vS, vB, vL, vF, vM, vN, vbs_full, Nat.reduceEqDiff, Nat.reduceAdd, Nat.reduceLeDiff, ne_eq, not_false_eq_true, Nat.reduceMul, Nat.reduceSub, Int.toNat_zero, Int.reduceToNat, Try.underlying3, info3, Try.underlying26, h26, hz26, Try.underlying28, h28, hz28, Try.underlying34, info34, Try.underlying35, info35, Try.underlying70, info70, hz, hzs, hL, hc, Option.getD_some, List.getD_cons_zero, List.getD_cons_succ, vT])) | ((simp (disch := first | assumption | (apply Go.Cert.ne_of2; assumption; assumption) | (apply Go.Cert.ne_ob; assumption; assumption; (intro e; cases e; done)) | omega) only [w64, w8, tg_eq, Go.V.n1, Go.V.n2, Go.V.nn, Int.tdiv_eq_ediv_of_nonneg, Sg.set_same, Sg.set_ne, Sg.set_ne', Sg.del_ne, Sg.del_ne']); (try simp only [vO, vQ, ↓vP, vE, vS, vB, vL, vF, vM, vN, vbs_full, Nat.reduceEqDiff, Nat.reduceAdd, Nat.reduceLeDiff, ne_eq, not_false_eq_true, Nat.reduceMul, Nat.reduceSub, Int.toNat_zero, Int.reduceToNat, Try.underlying3, info3, Try.underlying26, h26, hz26, Try.underlying28, h28, hz28, Try.underlying34, info34, Try.underlying35, info35, Try.underlying70, info70, hz, hzs, hL, hc, Option.getD_some, List.getD_cons_zero, List.getD_cons_succ, vT])) | ((((with_reducible refine (h53 _).mono ?_); rintro _ S ⟨rfl, rfl⟩)); (try simp only [vO, vQ, ↓vP, vE, vS, vB, vL, vF, vM, vN, vbs_full, Nat.reduceEqDiff, Nat.reduceAdd, Nat.reduceLeDiff, ne_eq, not_false_eq_true, Nat.reduceMul, Nat.reduceSub, Int.toNat_zero, Int.reduceToNat, Try.underlying3, info3, Try.underlying26, h26, hz26, Try.underlying28, h28, hz28, Try.underlying34, info34, Try.underlying35, info35, Try.underlying70, info70, hz, hzs, hL, hc, Option.getD_some, List.getD_cons_zero, List.getD_cons_succ, vT])) | ((((with_reducible refine (h54 _ _).mono ?_); rintro _ S ⟨rfl, rfl⟩)); (try simp only [vO, vQ, ↓vP, vE, vS, vB, vL, vF, vM, vN, vbs_full, Nat.reduceEqDiff, Nat.reduceAdd, Nat.reduceLeDiff, ne_eq, not_false_eq_true, Nat.reduceMul, Nat.reduceSub, Int.toNat_zero, Int.reduceToNat, Try.underlying3, info3, Try.underlying26, h26, hz26, Try.underlying28, h28, hz28, Try.underlying34, info34, Try.underlying35, info35, Try.underlying70, info70, hz, hzs, hL, hc, Option.getD_some, List.getD_cons_zero, List.getD_cons_succ, vT])) | ((((with_reducible refine (h55 _ _).mono ?_); rintro _ S ⟨rfl, rfl⟩)); (try simp only [vO, vQ, ↓vP, vE, vS, vB, vL, vF, vM, vN, vbs_full, Nat.reduceEqDiff, Nat.reduceAdd, Nat.reduceLeDiff, ne_eq, not_false_eq_true, Nat.reduceMul, Nat.reduceSub, Int.toNat_zero, Int.reduceToNat, Try.underlying3, info3, Try.underlying26, h26, hz26, Try.underlying28, h28, hz28, Try.underlying34, info34, Try.underlying35, info35, Try.underlying70, info70, hz, hzs, hL, hc, Option.getD_some, List.getD_cons_zero, List.getD_cons_succ, vT])) | ((((with_reducible refine (h28' _).mono ?_); rintro _ S ⟨rfl, rfl⟩)); (try simp only [vO, vQ, ↓vP, vE, vS, vB, vL, vF, vM, vN, vbs_full, Nat.reduceEqDiff, Nat.reduceAdd, Nat.reduceLeDiff, ne_eq, not_false_eq_true, Nat.reduceMul, Nat.reduceSub, Int.toNat_zero, Int.reduceToNat, Try.underlying3, info3, Try.underlying26, h26, hz26, Try.underlying28, h28, hz28, Try.underlying34, info34, Try.underlying35, info35, Try.underlying70, info70, hz, hzs, hL, hc, Option.getD_some, List.getD_cons_zero, List.getD_cons_succ, vT])) | (((refine vlo_app (by first | assumption | ((simp (disch := first | assumption | (apply Go.Cert.ne_of2; assumption; assumption) | (apply Go.Cert.ne_ob; assumption; assumption; (intro e; cases e; done)) | omega) only [Sg.set_same, Sg.set_ne, Sg.set_ne', Sg.del_ne, Sg.del_ne']); first | done | rfl | assumption)) ?_)); (try simp only [vO, vQ, ↓vP, vE, vS, vB, vL, vF, vM, vN, vbs_full, Nat.reduceEqDiff, Nat.reduceAdd, Nat.reduceLeDiff, ne_eq, not_false_eq_true, Nat.reduceMul, Nat.reduceSub, Int.toNat_zero, Int.reduceToNat, Try.underlying3, info3, Try.underlying26, h26, hz26, Try.underlying28, h28, hz28, Try.underlying34, info34, Try.underlying35, info35, Try.underlying70, info70, hz, hzs, hL, hc, Option.getD_some, List.getD_cons_zero, List.getD_cons_succ, vT])) | (((refine vst_app (by first | assumption | ((simp (disch := first | assumption | (apply Go.Cert.ne_of2; assumption; assumption) | (apply Go.Cert.ne_ob; assumption; assumption; (intro e; cases e; done)) | omega) only [Sg.set_same, Sg.set_ne, Sg.set_ne', Sg.del_ne, Sg.del_ne']); first | done | rfl | assumption)) ?_)); (try simp only [vO, vQ, ↓vP, vE, vS, vB, vL, vF, vM, vN, vbs_full, Nat.reduceEqDiff, Nat.reduceAdd, Nat.reduceLeDiff, ne_eq, not_false_eq_true, Nat.reduceMul, Nat.reduceSub, Int.toNat_zero, Int.reduceToNat, Try.underlying3, info3, Try.underlying26, h26, hz26, Try.underlying28, h28, hz28, Try.underlying34, info34, Try.underlying35, info35, Try.underlying70, info70, hz, hzs, hL, hc, Option.getD_some, List.getD_cons_zero, List.getD_cons_succ, vT])) | with_reducible refine vfresh_set ?_ | with_reducible refine vfresh_intro (fun _ _ => ?_) | with_reducible refine vif_intro (fun _ => ?_) (fun _ => ?_) | omega | ((with_reducible first | refine vop_at ?_ | refine vops_at ?_ | refine vquiet_at ?_ | refine vmix_at ?_ | refine Holds_at ?_); simp only [vO, vQ, ↓vP, vE, vS, vB, vL, vF, vM, vN, vbs_full, Nat.reduceEqDiff, Nat.reduceAdd, Nat.reduceLeDiff, ne_eq, not_false_eq_true, Nat.reduceMul, Nat.reduceSub, Int.toNat_zero, Int.reduceToNat, Try.underlying3, info3, Try.underlying26, h26, hz26, Try.underlying28, h28, hz28, Try.underlying34, info34, Try.underlying35, info35, Try.underlying70, info70, hz, hzs, hL, hc, Option.getD_some, List.getD_cons_zero, List.getD_cons_succ, vT]))
              all_goals first | exact ⟨σ, (by repeat (first | exact Sg.sub.refl _ | refine Sg.sub.set_both ?_ | refine Sg.sub.set_fresh ?_ (by first | assumption | exact Sg.set_none ‹_› ‹_›) | refine Sg.sub.del_fresh ?_ (by first | assumption | exact Sg.set_none ‹_› ‹_›))), rfl⟩ | (exfalso; omega)
        · rw [certX_short hr hu]
          (refine vfun (fun _ => .no) mixed Try.func29 (by kernel_rfl) ?_; simp only [bodyOf, Try.f29, Option.getD_some])
          repeat' (first | with_reducible rfl | exact .inr trivial | with_reducible apply And.intro | with_reducible apply vqx_step | with_reducible apply vqm_step | with_reducible refine vkp_free (by decide +kernel) ?_ | with_reducible intro _ | ((first | (with_reducible first | refine .rs ?_ | refine .ds (by kernel_rfl) ?_ | refine .dg (by kernel_rfl) ?_ | refine .rg ?_ | refine .ite ?_ | refine .ret ?_ | refine .skip ?_ | refine .exit ?_ | refine .scope ?_ | refine .seq (.label ?_) | refine .block ?_ | refine .seq ?_)); (try simp only [vO, vQ, ↓vP, vE, vS, vB, vL, vF, vM, vN, vbs_full, Nat.reduceEqDiff, Nat.reduceAdd, Nat.reduceLeDiff, ne_eq, not_false_eq_true, Nat.reduceMul, Nat.reduceSub, Int.toNat_zero, Int.reduceToNat, Try.underlying3, info3, Try.underlying26, h26, hz26, Try.underlying28, h28, hz28, Try.underlying34, info34, Try.underlying35, info35, Try.underlying70, info70, hz, hzs, Option.getD_some, List.getD_cons_zero, List.getD_cons_succ, vT])) | ((simp (disch := first | assumption | (apply Go.Cert.ne_of2; assumption; assumption) | (apply Go.Cert.ne_ob; assumption; assumption; (intro e; cases e; done)) | omega) only [w64, w8, tg_eq, Go.V.n1, Go.V.n2, Go.V.nn, Int.tdiv_eq_ediv_of_nonneg, Sg.set_same, Sg.set_ne, Sg.set_ne', Sg.del_ne, Sg.del_ne']); (try simp only [vO, vQ, ↓vP, vE, vS, vB, vL, vF, vM, vN, vbs_full, Nat.reduceEqDiff, Nat.reduceAdd, Nat.reduceLeDiff, ne_eq, not_false_eq_true, Nat.reduceMul, Nat.reduceSub, Int.toNat_zero, Int.reduceToNat, Try.underlying3, info3, Try.underlying26, h26, hz26, Try.underlying28, h28, hz28, Try.underlying34, info34, Try.underlying35, info35, Try.underlying70, info70, hz, hzs, Option.getD_some, List.getD_cons_zero, List.getD_cons_succ, vT])) | ((((with_reducible refine (h53 _).mono ?_); rintro _ S ⟨rfl, rfl⟩)); (try simp only [vO, vQ, ↓vP, vE, vS, vB, vL, vF, vM, vN, vbs_full, Nat.reduceEqDiff, Nat.reduceAdd, Nat.reduceLeDiff, ne_eq, not_false_eq_true, Nat.reduceMul, Nat.reduceSub, Int.toNat_zero, Int.reduceToNat, Try.underlying3, info3, Try.underlying26, h26, hz26, Try.underlying28, h28, hz28, Try.underlying34, info34, Try.underlying35, info35, Try.underlying70, info70, hz, hzs, Option.getD_some, List.getD_cons_zero, List.getD_cons_succ, vT])) | (((refine vlo_app (by first | assumption | ((simp (disch := first | assumption | (apply Go.Cert.ne_of2; assumption; assumption) | (apply Go.Cert.ne_ob; assumption; assumption; (intro e; cases e; done)) | omega) only [Sg.set_same, Sg.set_ne, Sg.set_ne', Sg.del_ne, Sg.del_ne']); first | done | rfl | assumption)) ?_)); (try simp only [vO, vQ, ↓vP, vE, vS, vB, vL, vF, vM, vN, vbs_full, Nat.reduceEqDiff, Nat.reduceAdd, Nat.reduceLeDiff, ne_eq, not_false_eq_true, Nat.reduceMul, Nat.reduceSub, Int.toNat_zero, Int.reduceToNat, Try.underlying3, info3, Try.underlying26, h26, hz26, Try.underlying28, h28, hz28, Try.underlying34, info34, Try.underlying35, info35, Try.underlying70, info70, hz, hzs, Option.getD_some, List.getD_cons_zero, List.getD_cons_succ, vT])) | (((refine vst_app (by first | assumption | ((simp (disch := first | assumption | (apply Go.Cert.ne_of2; assumption; assumption) | (apply Go.Cert.ne_ob; assumption; assumption; (intro e; cases e; done)) | omega) only [Sg.set_same, Sg.set_ne, Sg.set_ne', Sg.del_ne, Sg.del_ne']); first | done | rfl | assumption)) ?_)); (try simp only [vO, vQ, ↓vP, vE, vS, vB, vL, vF, vM, vN, vbs_full, Nat.reduceEqDiff, Nat.reduceAdd, Nat.reduceLeDiff, ne_eq, not_false_eq_true, Nat.reduceMul, Nat.reduceSub, Int.toNat_zero, Int.reduceToNat, Try.underlying3, info3, Try.underlying26, h26, hz26, Try.underlying28, h28, hz28, Try.underlying34, info34, Try.underlying35, info35, Try.underlying70, info70, hz, hzs, Option.getD_some, List.getD_cons_zero, List.getD_cons_succ, vT])) | with_reducible refine vfresh_set ?_ | with_reducible refine vfresh_intro (fun _ _ => ?_) | with_reducible refine vif_intro (fun _ => ?_) (fun _ => ?_) | omega | ((with_reducible first | refine vop_at ?_ | refine vops_at ?_ | refine vquiet_at ?_ | refine vmix_at ?_ | refine Holds_at ?_); simp only [vO, vQ, ↓vP, vE, vS, vB, vL, vF, vM, vN, vbs_full, Nat.reduceEqDiff, Nat.reduceAdd, Nat.reduceLeDiff, ne_eq, not_false_eq_true, Nat.reduceMul, Nat.reduceSub, Int.toNat_zero, Int.reduceToNat, Try.underlying3, info3, Try.underlying26, h26, hz26, Try.underlying28, h28, hz28, Try.underlying34, info34, Try.underlying35, info35, Try.underlying70, info70, hz, hzs, Option.getD_some, List.getD_cons_zero, List.getD_cons_succ, vT]))
          all_goals first | exact ⟨_, (by repeat (first | exact Sg.sub.refl _ | refine Sg.sub.set_both ?_ | refine Sg.sub.set_fresh ?_ (by first | assumption | exact Sg.set_none ‹_› ‹_›) | refine Sg.sub.del_fresh ?_ (by first | assumption | exact Sg.set_none ‹_› ‹_›))), rfl⟩ | (exfalso; omega)
    · rw [certX_none (fun x y h => by
        rw [hr] at h
        have e := Option.some.inj h
        exact hl2 (by rw [(Prod.mk.inj e).1]; rfl))]
      (refine vfun (fun _ => .no) mixed Try.func29 (by kernel_rfl) ?_; simp only [bodyOf, Try.f29, Option.getD_some])
      repeat' (first | with_reducible rfl | exact .inr trivial | with_reducible apply And.intro | with_reducible apply vqx_step | with_reducible apply vqm_step | with_reducible refine vkp_free (by decide +kernel) ?_ | with_reducible intro _ | ((first | (with_reducible first | refine .rs ?_ | refine .ds (by kernel_rfl) ?_ | refine .dg (by kernel_rfl) ?_ | refine .rg ?_ | refine .ite ?_ | refine .ret ?_ | refine .skip ?_ | refine .exit ?_ | refine .scope ?_ | refine .seq (.label ?_) | refine .block ?_ | refine .seq ?_)); (try simp only [vO, vQ, ↓vP, vE, vS, vB, vL, vF, vM, vN, vbs_full, Nat.reduceEqDiff, Nat.reduceAdd, Nat.reduceLeDiff, ne_eq, not_false_eq_true, Nat.reduceMul, Nat.reduceSub, Int.toNat_zero, Int.reduceToNat, Try.underlying3, info3, Try.underlying26, h26, hz26, Try.underlying28, h28, hz28, Try.underlying34, info34, Try.underlying35, info35, Try.underlying70, info70, hz, hzs, Option.getD_some, rowsA_len, anys_len, vT])) | ((simp (disch := first | assumption | (apply Go.Cert.ne_of2; assumption; assumption) | (apply Go.Cert.ne_ob; assumption; assumption; (intro e; cases e; done)) | omega) only [w64, w8, tg_eq, Go.V.n1, Go.V.n2, Go.V.nn, Int.tdiv_eq_ediv_of_nonneg, Sg.set_same, Sg.set_ne, Sg.set_ne', Sg.del_ne, Sg.del_ne']); (try simp only [vO, vQ, ↓vP, vE, vS, vB, vL, vF, vM, vN, vbs_full, Nat.reduceEqDiff, Nat.reduceAdd, Nat.reduceLeDiff, ne_eq, not_false_eq_true, Nat.reduceMul, Nat.reduceSub, Int.toNat_zero, Int.reduceToNat, Try.underlying3, info3, Try.underlying26, h26, hz26, Try.underlying28, h28, hz28, Try.underlying34, info34, Try.underlying35, info35, Try.underlying70, info70, hz, hzs, Option.getD_some, rowsA_len, anys_len, vT])) | ((((with_reducible refine (h53 _).mono ?_); rintro _ S ⟨rfl, rfl⟩)); (try simp only [vO, vQ, ↓vP, vE, vS, vB, vL, vF, vM, vN, vbs_full, Nat.reduceEqDiff, Nat.reduceAdd, Nat.reduceLeDiff, ne_eq, not_false_eq_true, Nat.reduceMul, Nat.reduceSub, Int.toNat_zero, Int.reduceToNat, Try.underlying3, info3, Try.underlying26, h26, hz26, Try.underlying28, h28, hz28, Try.underlying34, info34, Try.underlying35, info35, Try.underlying70, info70, hz, hzs, Option.getD_some, rowsA_len, anys_len, vT])) | (((refine vlo_app (by first | assumption | ((simp (disch := first | assumption | (apply Go.Cert.ne_of2; assumption; assumption) | (apply Go.Cert.ne_ob; assumption; assumption; (intro e; cases e; done)) | omega) only [Sg.set_same, Sg.set_ne, Sg.set_ne', Sg.del_ne, Sg.del_ne']); first | done | rfl | assumption)) ?_)); (try simp only [vO, vQ, ↓vP, vE, vS, vB, vL, vF, vM, vN, vbs_full, Nat.reduceEqDiff, Nat.reduceAdd, Nat.reduceLeDiff, ne_eq, not_false_eq_true, Nat.reduceMul, Nat.reduceSub, Int.toNat_zero, Int.reduceToNat, Try.underlying3, info3, Try.underlying26, h26, hz26, Try.underlying28, h28, hz28, Try.underlying34, info34, Try.underlying35, info35, Try.underlying70, info70, hz, hzs, Option.getD_some, rowsA_len, anys_len, vT])) | (((refine vst_app (by first | assumption | ((simp (disch := first | assumption | (apply Go.Cert.ne_of2; assumption; assumption) | (apply Go.Cert.ne_ob; assumption; assumption; (intro e; cases e; done)) | omega) only [Sg.set_same, Sg.set_ne, Sg.set_ne', Sg.del_ne, Sg.del_ne']); first | done | rfl | assumption)) ?_)); (try simp only [vO, vQ, ↓vP, vE, vS, vB, vL, vF, vM, vN, vbs_full, Nat.reduceEqDiff, Nat.reduceAdd, Nat.reduceLeDiff, ne_eq, not_false_eq_true, Nat.reduceMul, Nat.reduceSub, Int.toNat_zero, Int.reduceToNat, Try.underlying3, info3, Try.underlying26, h26, hz26, Try.underlying28, h28, hz28, Try.underlying34, info34, Try.underlying35, info35, Try.underlying70, info70, hz, hzs, Option.getD_some, rowsA_len, anys_len, vT])) | with_reducible refine vfresh_set ?_ | with_reducible refine vfresh_intro (fun _ _ => ?_) | with_reducible refine vif_intro (fun _ => ?_) (fun _ => ?_) | omega | ((with_reducible first | refine vop_at ?_ | refine vops_at ?_ | refine vquiet_at ?_ | refine vmix_at ?_ | refine Holds_at ?_); simp only [vO, vQ, ↓vP, vE, vS, vB, vL, vF, vM, vN, vbs_full, Nat.reduceEqDiff, Nat.reduceAdd, Nat.reduceLeDiff, ne_eq, not_false_eq_true, Nat.reduceMul, Nat.reduceSub, Int.toNat_zero, Int.reduceToNat, Try.underlying3, info3, Try.underlying26, h26, hz26, Try.underlying28, h28, hz28, Try.underlying34, info34, Try.underlying35, info35, Try.underlying70, info70, hz, hzs, Option.getD_some, rowsA_len, anys_len, vT]))
      all_goals first | exact ⟨_, (by repeat (first | exact Sg.sub.refl _ | refine Sg.sub.set_both ?_ | refine Sg.sub.set_fresh ?_ (by first | assumption | exact Sg.set_none ‹_› ‹_›) | refine Sg.sub.del_fresh ?_ (by first | assumption | exact Sg.set_none ‹_› ‹_›))), rfl⟩ | (exfalso; omega)
end Go.Proofs.Ytkbfngepdgdecaa

/- The head of an array that was written, and from now on is only read. -/
set_option linter.unusedVariables false
namespace Go.V
open Go.RowKit
variable {P : Program}
/-- The head of an object that is not written from now on: a slice of which the cell behind is known. -/
theorem VCalls.stillC {f : FuncId} {args : List AV} {σ : Sg} {R : AV → Sg → Prop}
    (hc : VCalls P f args σ (fun x σ' => ∃ (β n m : Nat) (u : Value) (t : TypeId) (cs : List AV), n + 1 ≤ m ∧ x = .mc β n m 1 ∧ σ' β = some (.cells t cs) ∧ n + 1 ≤ cs.length ∧ cs[n]? = some (.val u) ∧ R (.lsl u (chunks 1 n cs)) (σ'.del β))) : VCalls P f args σ R := by
  have post : ∀ {κ : K} {v : Value} {w : World}, Post κ (fun x σ' => ∃ (β n m : Nat) (u : Value) (t : TypeId) (cs : List AV), n + 1 ≤ m ∧ x = .mc β n m 1 ∧ σ' β = some (.cells t cs) ∧ n + 1 ≤ cs.length ∧ cs[n]? = some (.val u) ∧ R (.lsl u (chunks 1 n cs)) (σ'.del β)) v w → Post κ R v w := by
    intro κ v w hp
    obtain ⟨κ', x, σ', rfl, hle, hst, hrel, β, n, m, u, t, cs, hnm, rfl, hβ, hn1, hcu, hR⟩ := hp
    have hsz : 0 < 1 := by omega
    have hn : n * 1 ≤ cs.length := by omega
    cases hrel with
    | mc _ _ _ _ b hi hμ hnc hh =>
      obtain ⟨b', lo, hi', h1, h2, h3, h4, arr, fz, h5, h6, h7⟩ := hst.ob β _ hβ
      rw [hμ] at h1
      cases h1
      obtain ⟨hle2, hst2⟩ := hst.still hβ hμ
      have hle3 : ∀ i j, i < n → j < 1 → i * 1 + j < arr.size := fun i j hi hj => by
        have : (i + 1) * 1 ≤ n * 1 := Nat.mul_le_mul_right _ (by omega)
        rw [Nat.succ_mul] at this
        have hsz' := h7.1
        omega
      refine ⟨{ κ' with M := fun b' x => κ'.M b' x ∧ ¬ (b' = b ∧ x < hi) }, .lsl u (chunks 1 n cs), σ'.del β, rfl, hle.trans hle2, hst2, ?_, hR⟩
      have hin : ∀ (i : Nat) (e : List AV), (chunks 1 n cs)[i]? = some e → i < n ∧ e = (cs.drop (i * 1)).take 1 := fun i e he => by
        rcases Nat.lt_or_ge i n with h' | h'
        · rw [chunks_get 1 n cs i h'] at he
          cases he
          exact ⟨h', rfl⟩
        · rw [List.getElem?_eq_none (by rw [chunks_length]; exact h')] at he; cases he
      have hz : ∀ (i : Nat) (e : List AV), (chunks 1 n cs)[i]? = some e → e.length = 1 := fun i e he => by
        obtain ⟨hi, rfl⟩ := hin i e he
        have : (i + 1) * 1 ≤ n * 1 := Nat.mul_le_mul_right _ (by omega)
        rw [Nat.succ_mul] at this
        simp; omega
      have hr : ∀ i j, i < n → j < 1 → K.reads { κ' with M := fun b' x => κ'.M b' x ∧ ¬ (b' = b ∧ x < hi) } b (0 + i * 1 + j) (arr.getD (i * 1 + j) undef) := fun i j hi' hj => by
        have := hle3 i j hi' hj
        rw [Nat.mul_one] at this
        refine ⟨?_, fun hm => hm.2 ⟨rfl, ?_⟩⟩
        · rw [Nat.zero_add]
          show κ'.w.cell? _ = _
          rw [cell_of_heap h5]
          simp [this]
        · have hsz' := h7.1
          omega
      have hx : ∀ (i j : Nat) (e : List AV) (x : AV), (chunks 1 n cs)[i]? = some e → e[j]? = some x → Rel { κ' with M := fun b' x => κ'.M b' x ∧ ¬ (b' = b ∧ x < hi) } x (arr.getD (i * 1 + j) undef) := fun i j e x he hx => by
        have hl := hz i e he
        obtain ⟨hi', rfl⟩ := hin i e he
        have hj : j < 1 := by
          rcases Nat.lt_or_ge j 1 with h' | h'
          · exact h'
          · rw [List.getElem?_eq_none (by omega)] at hx; cases hx
        rw [List.getElem?_take, if_pos hj, List.getElem?_drop] at hx
        have := hle3 i j hi' hj
        rw [Nat.mul_one] at this
        exact (h7.2 _ _ _ hx (by simp [this])).mono hle2
      have hu : K.reads { κ' with M := fun b' x => κ'.M b' x ∧ ¬ (b' = b ∧ x < hi) } b (0 + n) u := by
        have hsz' := h7.1
        have hlt : n < arr.size := by omega
        have h8 := h7.2 n (.val u) (arr.getD n undef) hcu (by simp [hlt])
        generalize hg : arr.getD n undef = q at h8
        cases h8
        refine ⟨?_, fun hm => hm.2 ⟨rfl, by omega⟩⟩
        rw [Nat.zero_add]
        show κ'.w.cell? _ = _
        rw [cell_of_heap h5]
        simpa [hlt] using hg
      exact .lsl u _ ⟨b, 0, none⟩ n m (fun i j => arr.getD (i * 1 + j) undef) (chunks_length _ _ _).symm hnm rfl hz hr hu hx
  refine ⟨fun κ vs hst hr => ?_⟩
  have hd := hc.go κ vs hst hr
  revert hd
  generalize (callFunc f vs).run P κ.w = r
  intro hd
  cases r with
  | halt x w => exact hd.elim
  | ok nx w =>
    cases nx <;> simp only [Done] at hd ⊢
    case value v => exact post hd
    case skip => exact post hd
    case enter f args =>
      refine hd.mono (fun e w' he => ?_)
      cases e with
      | returned v => exact post he
      | panicked c => exact he.elim
      | outgrown => exact he.elim
    case row r args => exact hd.mono (fun v w' he => post he)
end Go.V

set_option linter.unusedSimpArgs false
set_option linter.unusedVariables false
namespace Go.V
theorem vcopy_mc {P : Program} {t e ty : TypeId} {β n m s b : Nat} {k : Own} {ys : List (List AV)} {σ : Sg} {z : Option Value} {cs : List AV} {R : AV → Sg → Prop} (hu : P.underlying t = some (.slice e)) (hi : tInfo P e = some (z, s, b)) (hσ : σ β = some (.cells ty cs)) (h0 : 0 < s) (ha : allLen ys s) (hc : n * s ≤ cs.length) (ho : (ys.all fun y => y.all AV.one) = true)
    (hR : R (.i (Nat.min ys.length n)) (σ.set β (.cells ty (splice cs 0 ((ys.take n).flatten))))) : vcopy P t (.mc β n m s) (.sl k ys) σ R := by
  unfold vcopy
  simp only [hu, elems, hi, hσ]
  exact ⟨⟨trivial, h0, ha, hc, ho⟩, hR⟩
theorem vcv_lsl {P : Program} {q : Bool} {e : TypeId} {v : Value} {es : List (List AV)} {b : ByteArray} {σ : Sg} {R : AV → Sg → Prop} (hu : P.underlying e = some (.int .u8)) (hb : bytesAV b = es) (hR : R (.s b) σ) : vcv P q (some (.slice e)) (some .string) (.lsl v es) σ R := by
  unfold vcv
  simp only [hu]
  exact ⟨b, hb.symm, hR⟩
theorem vsl_lsl {P : Program} {e : TypeId} {v : Value} {es : List (List AV)} {k : IntKind} {h : Int} {σ : Sg} {z : Option Value} {b : Nat} {R : AV → Prop} (hi : tInfo P e = some (z, 1, b)) (hh : h = (es.length : Int) + 1) (hR : R (.sl .view (es ++ [[.val v]]))) : vsl P (some (.slice e)) (.lsl v es) none (some (.val (.int k h))) none σ R := by
  unfold vsl
  simp only [hi, optInt]
  exact ⟨⟨trivial, hh⟩, hR⟩
theorem vsl_mc {P : Program} {e : TypeId} {β n m s h : Nat} {k : IntKind} {i : Int} {σ : Sg} {z : Option Value} {b : Nat} {R : AV → Prop} (hi : tInfo P e = some (z, s, b)) (he : i = (h : Int)) (hm : h ≤ m) (hR : R (.ms β 0 h s)) : vsl P (some (.slice e)) (.mc β n m s) none (some (.val (.int k i))) none σ R := by
  subst he
  unfold vsl
  simp only [hi, optInt]
  exact ⟨⟨trivial, by omega, by omega⟩, hR⟩
end Go.V
namespace Go.Proofs.Ytkbfngepdgdecaa
open Go Go.V Go.Cert
abbrev lent (b : List UInt8) : AV := .lsl (.int .u8 77) (bytesL b)
theorem lent_get (b : List UInt8) : (bytesL b ++ [[AV.val (.int .u8 77)]]).getD b.length [] = [AV.val (.int .u8 77)] := by
  rw [List.getD_eq_getElem?_getD, List.getElem?_append_right (by rw [bytesL_len]; omega), bytesL_len, Nat.sub_self]
  rfl
theorem lent_len (b : List UInt8) : (bytesL b ++ [[AV.val (.int .u8 77)]]).length = b.length + 1 := by simp [bytesL_len]
set_option maxHeartbeats 400000 in
set_option maxRecDepth 100000 in
theorem t27 (b : List UInt8) (σ : Sg) (hb : b.length ≤ 1000000000000) : VCalls Try.prog 27 [lent b, .sl .any (bytesL b)] σ (fun x σ' => x = .b true ∧ σ' = σ) := by
  have hg := lent_get b
  have hn := lent_len b
  (refine vfun (fun _ => .no) mixed Try.func27 (by kernel_rfl) ?_; simp only [bodyOf, Try.f27, Option.getD_some])
  repeat' (first | with_reducible rfl | exact .inr trivial | with_reducible apply And.intro | with_reducible apply vqx_step | with_reducible apply vqm_step | with_reducible refine vkp_free (by decide +kernel) ?_ | with_reducible intro _ | ((first | (with_reducible first | refine .rs ?_ | refine .ds (by kernel_rfl) ?_ | refine .dg (by kernel_rfl) ?_ | refine .rg ?_ | refine .ite ?_ | refine .ret ?_ | refine .skip ?_ | refine .exit ?_ | refine .scope ?_ | refine .seq (.label ?_) | refine .block ?_ | refine .seq ?_)); (try simp only [vO, vQ, ↓vP, vE, vS, vB, vL, vF, vM, vN, vbs_full, Nat.reduceEqDiff, Nat.reduceAdd, Nat.reduceLeDiff, ne_eq, not_false_eq_true, Nat.reduceMul, Nat.reduceSub, Int.toNat_zero, Int.reduceToNat, Try.underlying3, info3, Try.underlying34, info34, Try.underlying5, info5, Try.underlying4, info4, Try.underlying9, info9, lent, bytesL_len, hg, hn, vT])) | ((simp (disch := first | assumption | (apply Go.Cert.ne_of2; assumption; assumption) | (apply Go.Cert.ne_ob; assumption; assumption; (intro e; cases e; done)) | omega) only [w64, w8, tg_eq, Go.V.n1, Go.V.n2, Go.V.nn, Int.tdiv_eq_ediv_of_nonneg, Sg.set_same, Sg.set_ne, Sg.set_ne', Sg.del_ne, Sg.del_ne']); (try simp only [vO, vQ, ↓vP, vE, vS, vB, vL, vF, vM, vN, vbs_full, Nat.reduceEqDiff, Nat.reduceAdd, Nat.reduceLeDiff, ne_eq, not_false_eq_true, Nat.reduceMul, Nat.reduceSub, Int.toNat_zero, Int.reduceToNat, Try.underlying3, info3, Try.underlying34, info34, Try.underlying5, info5, Try.underlying4, info4, Try.underlying9, info9, lent, bytesL_len, hg, hn, vT])) | ((with_reducible refine ⟨bs b, (bs_bytesAV b).symm, ?_⟩); (try simp only [vO, vQ, ↓vP, vE, vS, vB, vL, vF, vM, vN, vbs_full, Nat.reduceEqDiff, Nat.reduceAdd, Nat.reduceLeDiff, ne_eq, not_false_eq_true, Nat.reduceMul, Nat.reduceSub, Int.toNat_zero, Int.reduceToNat, Try.underlying3, info3, Try.underlying34, info34, Try.underlying5, info5, Try.underlying4, info4, Try.underlying9, info9, lent, bytesL_len, hg, hn, vT])) | ((with_reducible refine vcv_lsl Try.underlying5 (bs_bytesAV b) ?_); (try simp only [vO, vQ, ↓vP, vE, vS, vB, vL, vF, vM, vN, vbs_full, Nat.reduceEqDiff, Nat.reduceAdd, Nat.reduceLeDiff, ne_eq, not_false_eq_true, Nat.reduceMul, Nat.reduceSub, Int.toNat_zero, Int.reduceToNat, Try.underlying3, info3, Try.underlying34, info34, Try.underlying5, info5, Try.underlying4, info4, Try.underlying9, info9, lent, bytesL_len, hg, hn, vT])) | ((with_reducible refine vsl_lsl info5 (by rw [bytesL_len]) ?_); (try simp only [vO, vQ, ↓vP, vE, vS, vB, vL, vF, vM, vN, vbs_full, Nat.reduceEqDiff, Nat.reduceAdd, Nat.reduceLeDiff, ne_eq, not_false_eq_true, Nat.reduceMul, Nat.reduceSub, Int.toNat_zero, Int.reduceToNat, Try.underlying3, info3, Try.underlying34, info34, Try.underlying5, info5, Try.underlying4, info4, Try.underlying9, info9, lent, bytesL_len, hg, hn, vT])) | with_reducible refine vfresh_set ?_ | with_reducible refine vfresh_intro (fun _ _ => ?_) | with_reducible refine vif_intro (fun _ => ?_) (fun _ => ?_) | omega | ((with_reducible first | refine vop_at ?_ | refine vops_at ?_ | refine vquiet_at ?_ | refine vmix_at ?_ | refine Holds_at ?_); simp only [vO, vQ, ↓vP, vE, vS, vB, vL, vF, vM, vN, vbs_full, Nat.reduceEqDiff, Nat.reduceAdd, Nat.reduceLeDiff, ne_eq, not_false_eq_true, Nat.reduceMul, Nat.reduceSub, Int.toNat_zero, Int.reduceToNat, Try.underlying3, info3, Try.underlying34, info34, Try.underlying5, info5, Try.underlying4, info4, Try.underlying9, info9, lent, bytesL_len, hg, hn, vT]))
  exact ⟨σ, .refl _, by simp, rfl⟩
theorem vmk24 {n : Nat} {l m : Int} {σ : Sg} {R : AV → Sg → Prop} (hl : l = (n : Int)) (hm : m = (n : Int) + 1) (hn : n ≤ 1000000000000) (h : vfresh σ fun β => R (.mc β n (n + 1) 1) (σ.set β (.cells 5 (aB (List.replicate (n + 1) 0))))) : vmakeSlice Try.prog .cap 34 (.i l) (.i m) σ R := by
  subst hl hm
  unfold vmakeSlice
  simp only [Try.underlying34, info5]
  refine ⟨⟨by omega, by omega, by omega, by omega, by decide, by omega⟩, ?_⟩
  have e : ∀ m : Nat, (List.replicate m (zeroCellsOf (.int .u8 0))).flatten = aB (List.replicate m 0) := fun m => by
    unfold aB
    rw [List.map_replicate]
    induction m with
    | zero => rfl
    | succ m ih => rw [List.replicate_succ, List.flatten_cons, ih, List.replicate_succ]; rfl
  have e1 : ((n : Int) + 1).toNat = n + 1 := by omega
  have e2 : ((n : Int)).toNat = n := by omega
  simp only [e1, e2, e]
  exact h
theorem lent_cells (b : List UInt8) : List.take (b.length * 1) (aB b ++ aB (List.drop b.length (List.replicate (b.length + 1) 0))) ++ [AV.val (Value.int IntKind.u8 77)] ++ List.drop (b.length * 1 + 1) (aB b ++ aB (List.drop b.length (List.replicate (b.length + 1) 0))) = aB (b ++ [77]) := by
  rw [Nat.mul_one, List.take_left' (aB_len b), List.drop_of_length_le (by simp [aB_len]), List.append_nil]
  unfold aB
  rw [List.map_append]
  rfl
theorem lent_chunks (b : List UInt8) : chunks 1 b.length (aB (b ++ [77])) = bytesL b := by
  rw [aB_chunks b.length (b ++ [77]) (by simp)]
  rw [List.take_left' rfl]
set_option maxHeartbeats 400000 in
set_option maxRecDepth 100000 in
theorem t24 (b : List UInt8) (σ : Sg) (hb : b.length ≤ 1000000000) : VCalls Try.prog 24 [.sl .any (bytesL b)] σ (fun x σ' => x = lent b ∧ σ' = σ) := by
  apply VCalls.stillC
  (refine vfun (fun _ => .cap) mixed Try.func24 (by kernel_rfl) ?_; simp only [bodyOf, Try.f24, Option.getD_some])
  repeat' (first | with_reducible rfl | exact .inr trivial | with_reducible apply And.intro | with_reducible apply vqx_step | with_reducible apply vqm_step | with_reducible refine vkp_free (by decide +kernel) ?_ | with_reducible intro _ | ((first | (with_reducible first | refine .rs ?_ | refine .ds (by kernel_rfl) ?_ | refine .dg (by kernel_rfl) ?_ | refine .rg ?_ | refine .ite ?_ | refine .ret ?_ | refine .skip ?_ | refine .exit ?_ | refine .scope ?_ | refine .seq (.label ?_) | refine .block ?_ | refine .seq ?_)); (try simp only [vO, vQ, ↓vP, vE, vS, vB, vL, vF, vM, vN, vbs_full, Nat.reduceEqDiff, Nat.reduceAdd, Nat.reduceLeDiff, ne_eq, not_false_eq_true, Nat.reduceMul, Nat.reduceSub, Int.toNat_zero, Int.reduceToNat, Try.underlying3, info3, Try.underlying34, info34, Try.underlying5, info5, Try.underlying4, info4, Try.underlying9, info9, bytesL_len, bytesL_flat, bytesL_take, aB_len, aB_drop, List.take_length, vT])) | ((simp (disch := first | assumption | (apply Go.Cert.ne_of2; assumption; assumption) | (apply Go.Cert.ne_ob; assumption; assumption; (intro e; cases e; done)) | omega) only [w64, w8, tg_eq, Go.V.n1, Go.V.n2, Go.V.nn, Int.tdiv_eq_ediv_of_nonneg, Sg.set_same, Sg.set_ne, Sg.set_ne', Sg.del_ne, Sg.del_ne']); (try simp only [vO, vQ, ↓vP, vE, vS, vB, vL, vF, vM, vN, vbs_full, Nat.reduceEqDiff, Nat.reduceAdd, Nat.reduceLeDiff, ne_eq, not_false_eq_true, Nat.reduceMul, Nat.reduceSub, Int.toNat_zero, Int.reduceToNat, Try.underlying3, info3, Try.underlying34, info34, Try.underlying5, info5, Try.underlying4, info4, Try.underlying9, info9, bytesL_len, bytesL_flat, bytesL_take, aB_len, aB_drop, List.take_length, vT])) | ((with_reducible refine vmk24 rfl rfl (by omega) ?_); (try simp only [vO, vQ, ↓vP, vE, vS, vB, vL, vF, vM, vN, vbs_full, Nat.reduceEqDiff, Nat.reduceAdd, Nat.reduceLeDiff, ne_eq, not_false_eq_true, Nat.reduceMul, Nat.reduceSub, Int.toNat_zero, Int.reduceToNat, Try.underlying3, info3, Try.underlying34, info34, Try.underlying5, info5, Try.underlying4, info4, Try.underlying9, info9, bytesL_len, bytesL_flat, bytesL_take, aB_len, aB_drop, List.take_length, vT])) | ((with_reducible refine vbuiltin_copy rfl ?_); (try simp only [vO, vQ, ↓vP, vE, vS, vB, vL, vF, vM, vN, vbs_full, Nat.reduceEqDiff, Nat.reduceAdd, Nat.reduceLeDiff, ne_eq, not_false_eq_true, Nat.reduceMul, Nat.reduceSub, Int.toNat_zero, Int.reduceToNat, Try.underlying3, info3, Try.underlying34, info34, Try.underlying5, info5, Try.underlying4, info4, Try.underlying9, info9, bytesL_len, bytesL_flat, bytesL_take, aB_len, aB_drop, List.take_length, vT])) | (((refine vcopy_mc Try.underlying34 info5 (by first | assumption | ((simp (disch := first | assumption | (apply Go.Cert.ne_of2; assumption; assumption) | (apply Go.Cert.ne_ob; assumption; assumption; (intro e; cases e; done)) | omega) only [Sg.set_same, Sg.set_ne, Sg.set_ne', Sg.del_ne, Sg.del_ne']); first | done | rfl | assumption)) (by decide) (by rw [bytesL_all]; trivial) (by simp [aB_len]) (bytesL_allone _) ?_)); (try simp only [vO, vQ, ↓vP, vE, vS, vB, vL, vF, vM, vN, vbs_full, Nat.reduceEqDiff, Nat.reduceAdd, Nat.reduceLeDiff, ne_eq, not_false_eq_true, Nat.reduceMul, Nat.reduceSub, Int.toNat_zero, Int.reduceToNat, Try.underlying3, info3, Try.underlying34, info34, Try.underlying5, info5, Try.underlying4, info4, Try.underlying9, info9, bytesL_len, bytesL_flat, bytesL_take, aB_len, aB_drop, List.take_length, vT])) | ((with_reducible refine vsl_mc (h := b.length + 1) info5 (by omega) (by omega) ?_); (try simp only [vO, vQ, ↓vP, vE, vS, vB, vL, vF, vM, vN, vbs_full, Nat.reduceEqDiff, Nat.reduceAdd, Nat.reduceLeDiff, ne_eq, not_false_eq_true, Nat.reduceMul, Nat.reduceSub, Int.toNat_zero, Int.reduceToNat, Try.underlying3, info3, Try.underlying34, info34, Try.underlying5, info5, Try.underlying4, info4, Try.underlying9, info9, bytesL_len, bytesL_flat, bytesL_take, aB_len, aB_drop, List.take_length, vT])) | with_reducible refine vfresh_set ?_ | with_reducible refine vfresh_intro (fun _ _ => ?_) | with_reducible refine vif_intro (fun _ => ?_) (fun _ => ?_) | omega | ((with_reducible first | refine vop_at ?_ | refine vops_at ?_ | refine vquiet_at ?_ | refine vmix_at ?_ | refine Holds_at ?_); simp only [vO, vQ, ↓vP, vE, vS, vB, vL, vF, vM, vN, vbs_full, Nat.reduceEqDiff, Nat.reduceAdd, Nat.reduceLeDiff, ne_eq, not_false_eq_true, Nat.reduceMul, Nat.reduceSub, Int.toNat_zero, Int.reduceToNat, Try.underlying3, info3, Try.underlying34, info34, Try.underlying5, info5, Try.underlying4, info4, Try.underlying9, info9, bytesL_len, bytesL_flat, bytesL_take, aB_len, aB_drop, List.take_length, vT]))
  · exact ⟨_, _, rfl⟩
  · simp [aB_len]
  · rename_i β hβ
    rw [lent_cells]
    refine ⟨_, .refl _, β, b.length, b.length + 1, .int .u8 77, 5, aB (b ++ [77]), by omega, rfl, Sg.set_same _ _ _, by simp [aB_len], ?_, by rw [lent_chunks], Sg.del_set hβ _⟩
    unfold aB
    simp
end Go.Proofs.Ytkbfngepdgdecaa

set_option linter.unusedSimpArgs false
set_option linter.unusedVariables false
namespace Go.Proofs.Ytkbfngepdgdecaa
open Go Go.V Go.Cert
set_option maxHeartbeats 1000000 in
set_option maxRecDepth 100000 in
theorem t10 (σ : Sg) : VCalls Try.prog 10 [] σ (fun x σ' => x = .b true ∧ σ' = σ) := by
  obtain ⟨z26, h26, hz26⟩ := zero26
  obtain ⟨z28, h28, hz28⟩ := zero28
  obtain ⟨z47, h47⟩ := sz47
  have hz47 : ofValue z47 = .agg (.i 0 :: .i 0 :: aB zs) := by
    have := info47.symm.trans h47
    cases this
    rfl
  have hz := cR zs_len
  obtain ⟨z24, h24⟩ := sz24
  have hl := aR zs_len
  have he : ∀ t, veqT Try.prog 28 t (cA 1 zs 7) (cA 1 zs 7) = some true := fun t => by rw [eqT28 zs_len zs_len]; rfl
  have h11 : ∀ σ, VCalls Try.prog 11 [.sl .full [.i 1 :: .i 1 :: aB zs, .i 2 :: .i 1 :: aB zs, .i 3 :: .i 1 :: aB zs]] σ (fun x σ' => ∃ ρ1 ρ2 o1 o2, x = .tup [.ref ρ1 0, .ref ρ2 0] ∧ Both σ σ' ρ1 ρ2 o1 o2 (sgs (sm3.take 40)) (sgs (sm3.take 40))) := fun σ => t11 .full sm3 σ (by decide +kernel) (by decide)
  (refine vfun (fun _ => .no) mixed Try.func10 (by kernel_rfl) ?_; simp only [bodyOf, Try.f10, Option.getD_some])
  repeat' (first | with_reducible rfl | exact .inr trivial | with_reducible apply And.intro | with_reducible apply vqx_step | with_reducible apply vqm_step | with_reducible refine vkp_free (by decide +kernel) ?_ | with_reducible intro _ | ((first | (with_reducible first | refine .rs ?_ | refine .ds (by kernel_rfl) ?_ | refine .dg (by kernel_rfl) ?_ | refine .rg ?_ | refine .ite ?_ | refine .ret ?_ | refine .skip ?_ | refine .exit ?_ | refine .scope ?_ | refine .seq (.label ?_) | refine .block ?_ | refine .seq ?_)); (try simp only [vO, vQ, ↓vP, vE, vS, vB, vL, vF, vM, vN, vbs_full, Nat.reduceEqDiff, Nat.reduceAdd, Nat.reduceLeDiff, ne_eq, not_false_eq_true, Nat.reduceMul, Nat.reduceSub, Int.toNat_zero, Int.reduceToNat, Try.underlying3, info3, Try.underlying22, info22, Try.underlying26, h26, Try.underlying24, h24, Try.underlying28, h28, Try.underlying30, Try.underlying31, Try.underlying34, info34, Try.underlying35, info35, Try.underlying47, h47, hz26, hz28, hz47, hl, hz, Option.getD_some, he, vT])) | ((simp (disch := first | assumption | (apply Go.Cert.ne_of2; assumption; assumption) | (apply Go.Cert.ne_ob; assumption; assumption; (intro e; cases e; done)) | omega) only [w64, w8, tg_eq, Go.V.n1, Go.V.n2, Go.V.nn, Int.tdiv_eq_ediv_of_nonneg, Sg.set_same, Sg.set_ne, Sg.set_ne', Sg.del_ne, Sg.del_ne']); (try simp only [vO, vQ, ↓vP, vE, vS, vB, vL, vF, vM, vN, vbs_full, Nat.reduceEqDiff, Nat.reduceAdd, Nat.reduceLeDiff, ne_eq, not_false_eq_true, Nat.reduceMul, Nat.reduceSub, Int.toNat_zero, Int.reduceToNat, Try.underlying3, info3, Try.underlying22, info22, Try.underlying26, h26, Try.underlying24, h24, Try.underlying28, h28, Try.underlying30, Try.underlying31, Try.underlying34, info34, Try.underlying35, info35, Try.underlying47, h47, hz26, hz28, hz47, hl, hz, Option.getD_some, he, vT])) | ((((with_reducible refine (h11 _).mono ?_); rintro _ S ⟨ρ1, ρ2, o1, o2, rfl, hB⟩; have hβ1 := hB.sb _ _ (Sg.set_same _ _ _))); (try simp only [vO, vQ, ↓vP, vE, vS, vB, vL, vF, vM, vN, vbs_full, Nat.reduceEqDiff, Nat.reduceAdd, Nat.reduceLeDiff, ne_eq, not_false_eq_true, Nat.reduceMul, Nat.reduceSub, Int.toNat_zero, Int.reduceToNat, Try.underlying3, info3, Try.underlying22, info22, Try.underlying26, h26, Try.underlying24, h24, Try.underlying28, h28, Try.underlying30, Try.underlying31, Try.underlying34, info34, Try.underlying35, info35, Try.underlying47, h47, hz26, hz28, hz47, hl, hz, Option.getD_some, he, vT])) | (((refine vlo_app (by first | assumption | ((simp (disch := first | assumption | (apply Go.Cert.ne_of2; assumption; assumption) | (apply Go.Cert.ne_ob; assumption; assumption; (intro e; cases e; done)) | omega) only [Sg.set_same, Sg.set_ne, Sg.set_ne', Sg.del_ne, Sg.del_ne']); first | done | rfl | assumption)) ?_)); (try simp only [vO, vQ, ↓vP, vE, vS, vB, vL, vF, vM, vN, vbs_full, Nat.reduceEqDiff, Nat.reduceAdd, Nat.reduceLeDiff, ne_eq, not_false_eq_true, Nat.reduceMul, Nat.reduceSub, Int.toNat_zero, Int.reduceToNat, Try.underlying3, info3, Try.underlying22, info22, Try.underlying26, h26, Try.underlying24, h24, Try.underlying28, h28, Try.underlying30, Try.underlying31, Try.underlying34, info34, Try.underlying35, info35, Try.underlying47, h47, hz26, hz28, hz47, hl, hz, Option.getD_some, he, vT])) | (((refine vst_app (by first | assumption | ((simp (disch := first | assumption | (apply Go.Cert.ne_of2; assumption; assumption) | (apply Go.Cert.ne_ob; assumption; assumption; (intro e; cases e; done)) | omega) only [Sg.set_same, Sg.set_ne, Sg.set_ne', Sg.del_ne, Sg.del_ne']); first | done | rfl | assumption)) ?_)); (try simp only [vO, vQ, ↓vP, vE, vS, vB, vL, vF, vM, vN, vbs_full, Nat.reduceEqDiff, Nat.reduceAdd, Nat.reduceLeDiff, ne_eq, not_false_eq_true, Nat.reduceMul, Nat.reduceSub, Int.toNat_zero, Int.reduceToNat, Try.underlying3, info3, Try.underlying22, info22, Try.underlying26, h26, Try.underlying24, h24, Try.underlying28, h28, Try.underlying30, Try.underlying31, Try.underlying34, info34, Try.underlying35, info35, Try.underlying47, h47, hz26, hz28, hz47, hl, hz, Option.getD_some, he, vT])) | ((((with_reducible refine (k14 hB.a).mono ?_); rintro _ S1 ⟨rfl, rfl⟩)); (try simp only [vO, vQ, ↓vP, vE, vS, vB, vL, vF, vM, vN, vbs_full, Nat.reduceEqDiff, Nat.reduceAdd, Nat.reduceLeDiff, ne_eq, not_false_eq_true, Nat.reduceMul, Nat.reduceSub, Int.toNat_zero, Int.reduceToNat, Try.underlying3, info3, Try.underlying22, info22, Try.underlying26, h26, Try.underlying24, h24, Try.underlying28, h28, Try.underlying30, Try.underlying31, Try.underlying34, info34, Try.underlying35, info35, Try.underlying47, h47, hz26, hz28, hz47, hl, hz, Option.getD_some, he, vT])) | ((((with_reducible refine (k14' (hB.tok (by assumption) _).a).mono ?_); rintro _ S1 ⟨rfl, rfl⟩)); (try simp only [vO, vQ, ↓vP, vE, vS, vB, vL, vF, vM, vN, vbs_full, Nat.reduceEqDiff, Nat.reduceAdd, Nat.reduceLeDiff, ne_eq, not_false_eq_true, Nat.reduceMul, Nat.reduceSub, Int.toNat_zero, Int.reduceToNat, Try.underlying3, info3, Try.underlying22, info22, Try.underlying26, h26, Try.underlying24, h24, Try.underlying28, h28, Try.underlying30, Try.underlying31, Try.underlying34, info34, Try.underlying35, info35, Try.underlying47, h47, hz26, hz28, hz47, hl, hz, Option.getD_some, he, vT])) | ((((with_reducible refine (k16 ((hB.tok (by assumption) _).tok (Sg.set_none (by assumption) (by assumption)) _).a).mono ?_); rintro _ S1 ⟨rfl, rfl⟩)); (try simp only [vO, vQ, ↓vP, vE, vS, vB, vL, vF, vM, vN, vbs_full, Nat.reduceEqDiff, Nat.reduceAdd, Nat.reduceLeDiff, ne_eq, not_false_eq_true, Nat.reduceMul, Nat.reduceSub, Int.toNat_zero, Int.reduceToNat, Try.underlying3, info3, Try.underlying22, info22, Try.underlying26, h26, Try.underlying24, h24, Try.underlying28, h28, Try.underlying30, Try.underlying31, Try.underlying34, info34, Try.underlying35, info35, Try.underlying47, h47, hz26, hz28, hz47, hl, hz, Option.getD_some, he, vT])) | ((((with_reducible refine (k16' ((hB.tok (by assumption) _).tok (Sg.set_none (by assumption) (by assumption)) _).a).mono ?_); rintro _ S1 ⟨rfl, rfl⟩)); (try simp only [vO, vQ, ↓vP, vE, vS, vB, vL, vF, vM, vN, vbs_full, Nat.reduceEqDiff, Nat.reduceAdd, Nat.reduceLeDiff, ne_eq, not_false_eq_true, Nat.reduceMul, Nat.reduceSub, Int.toNat_zero, Int.reduceToNat, Try.underlying3, info3, Try.underlying22, info22, Try.underlying26, h26, Try.underlying24, h24, Try.underlying28, h28, Try.underlying30, Try.underlying31, Try.underlying34, info34, Try.underlying35, info35, Try.underlying47, h47, hz26, hz28, hz47, hl, hz, Option.getD_some, he, vT])) | with_reducible refine vfresh_set ?_ | with_reducible refine vfresh_intro (fun _ _ => ?_) | with_reducible refine vif_intro (fun _ => ?_) (fun _ => ?_) | omega | ((with_reducible first | refine vop_at ?_ | refine vops_at ?_ | refine vquiet_at ?_ | refine vmix_at ?_ | refine Holds_at ?_); simp only [vO, vQ, ↓vP, vE, vS, vB, vL, vF, vM, vN, vbs_full, Nat.reduceEqDiff, Nat.reduceAdd, Nat.reduceLeDiff, ne_eq, not_false_eq_true, Nat.reduceMul, Nat.reduceSub, Int.toNat_zero, Int.reduceToNat, Try.underlying3, info3, Try.underlying22, info22, Try.underlying26, h26, Try.underlying24, h24, Try.underlying28, h28, Try.underlying30, Try.underlying31, Try.underlying34, info34, Try.underlying35, info35, Try.underlying47, h47, hz26, hz28, hz47, hl, hz, Option.getD_some, he, vT]))
  rename_i β1 h0 x hx y hy hne
  have hs : σ.sub _ := (Sg.sub_set h0 _).trans hB.sb
  exact ⟨σ, hs.trans ((Sg.sub_set hx _).trans (Sg.sub_set (Sg.set_none hy hne) _)), by rw [decide_true], rfl⟩
end Go.Proofs.Ytkbfngepdgdecaa

/- From a call's triple to the call as the rows have it. -/
namespace Go.V
open Go.RowKit
variable {P : Program}
/-- The ghost state at the start: nothing may be written, nothing has a name. -/
def K0 (w : World) : K := ⟨w, fun _ _ => False, fun _ => none, w.heap.size⟩
def S0 : Sg := fun _ => none
theorem st0 (w : World) : St (K0 w) S0 where
  ob _ _ h := by cases h
  apart _ _ _ _ _ _ _ _ _ _ h := by cases h
  fin := ⟨0, fun _ _ => rfl⟩
  mlt _ _ h := h.elim
  bas := Nat.le_refl _
theorem VCalls.calls {f : FuncId} {fn : Func} {args : List AV} {vs : Array Value} {w : World} (hf : P.funcs[f]? = some fn) (hb : (fn.body.isSome && !(fn.name == "runtime.NumGoroutine")) = true)
    (h : VCalls P f args S0 (fun x _ => x = .b true)) (hr : RelArgs (K0 w) args vs) : Calls P f vs w fun e w' => e = .returned (.bool true) ∧ Below w.heap.size w w' := by
  simp only [Bool.and_eq_true] at hb
  obtain ⟨h1, h2⟩ := hb
  obtain ⟨c, hc⟩ : ∃ c, fn.body = some c := by
    cases hh : fn.body with
    | none => rw [hh] at h1; cases h1
    | some c => exact ⟨c, rfl⟩
  have hrun : (callFunc f vs).run P w = .ok (.enter f vs) w := by
    have h3 : fn.name ≠ "runtime.NumGoroutine" := by simpa using h2
    simp [callFunc, program, Sem.run, Bind.bind, Sem.bind, hf, h3, hc]
  have hd := h.go (K0 w) vs (st0 w) hr
  rw [show (K0 w).w = w from rfl, hrun] at hd
  have hcalls : Calls P f vs w (PostE (K0 w) (fun x _ => x = .b true)) := hd
  refine hcalls.mono fun e w' hp => ?_
  cases e with
  | returned v =>
    obtain ⟨κ', x, σ', rfl, hle, hst, hrel, rfl⟩ := hp
    refine ⟨?_, ⟨hle.os, hle.tape, hle.output, hle.size, fun k hk => hle.block k hk⟩⟩
    cases hrel
    rfl
  | _ => exact hp.elim
theorem rel_args1 {κ : K} {v : Value} : RelArgs κ [.val v] #[v] := ⟨rfl, fun i x u h1 h2 => by
  cases i with
  | zero => simp at h1 h2; subst h1; subst h2; exact .val _
  | succ i => simp at h1⟩
theorem rel_args2 {κ : K} {v v' : Value} : RelArgs κ [.val v, .val v'] #[v, v'] := ⟨rfl, fun i x u h1 h2 => by
  match i with
  | 0 => simp at h1 h2; subst h1; subst h2; exact .val _
  | 1 => simp at h1 h2; subst h1; subst h2; exact .val _
  | i + 2 => simp at h1⟩
end Go.V
