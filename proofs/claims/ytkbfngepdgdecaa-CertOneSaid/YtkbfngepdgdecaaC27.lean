/-wraps2-/
import Derived.Test.YtkbfngepdgdecaaC26
set_option linter.unusedSimpArgs false
set_option linter.unusedVariables false
namespace Go.Proofs.Ytkbfngepdgdecaa
open Go Go.V Go.Cert
theorem RegA.alive {σ : Sg} {ρ : Nat} {own : List Nat} {ps : Ps} (h : RegA σ ρ own ps) {β : Nat} (hβ : β ∈ own) : σ β ≠ none := by
  obtain ⟨m1, m2, pv, tv, ts, h⟩ := h
  rw [h.own_eq] at hβ
  rcases List.mem_cons.1 hβ with rfl | hβ
  · rw [h.at0]; simp
  rcases List.mem_cons.1 hβ with rfl | hβ
  · rw [h.at1]; simp
  rcases List.mem_cons.1 hβ with rfl | hβ
  · rw [h.at2]; simp
  rcases List.mem_append.1 hβ with hβ | hβ
  · rw [(h.atv β (by simpa using hβ)).1]; simp
  · rw [h.ats β hβ]; simp
theorem RegA.keep {σ σ' : Sg} {ρ : Nat} {own : List Nat} {ps : Ps} (h : RegA σ ρ own ps) (hk : ∀ β ∈ own, σ' β = σ β) : RegA σ' ρ own ps := by
  obtain ⟨m1, m2, pv, tv, ts, h⟩ := h
  have ho := h.own_eq
  refine ⟨m1, m2, pv, tv, ts, ho, ?_, ?_, ?_, h.ne, fun τ hτ => ⟨?_, (h.atv τ hτ).2⟩, fun τ hτ => ?_, h.nd, h.pl⟩
  · rw [hk _ (by rw [ho]; simp), h.at0]
  · rw [hk _ (by rw [ho]; simp), h.at1]
  · rw [hk _ (by rw [ho]; simp), h.at2]
  · rw [hk _ (by rw [ho]; simp [hτ]), (h.atv τ hτ).1]
  · rw [hk _ (by rw [ho]; simp [hτ]), h.ats τ hτ]
theorem RegC.alive {σ : Sg} {ρ : Nat} {own : List Nat} {ps : Ps} (h : RegC σ ρ own ps) {β : Nat} (hβ : β ∈ own) : σ β ≠ none := by
  obtain ⟨tv, h⟩ := h
  rw [h.own_eq] at hβ
  rcases List.mem_cons.1 hβ with rfl | hβ
  · rw [h.at0]; simp
  · rw [h.atv β (by simpa using hβ)]; simp
theorem RegC.keep {σ σ' : Sg} {ρ : Nat} {own : List Nat} {ps : Ps} (h : RegC σ ρ own ps) (hk : ∀ β ∈ own, σ' β = σ β) : RegC σ' ρ own ps := by
  obtain ⟨tv, h⟩ := h
  have ho := h.own_eq
  refine ⟨tv, ho, ?_, fun τ hτ => ?_, h.emp⟩
  · rw [hk _ (by rw [ho]; simp), h.at0]
  · rw [hk _ (by rw [ho]; simp [hτ]), h.atv τ hτ]
/-- Both registries, side by side. -/
structure Both (σ0 S : Sg) (ρ1 ρ2 : Nat) (o1 o2 : List Nat) (p1 p2 : Ps) : Prop where
  a : RegA S ρ1 o1 p1
  c : RegC S ρ2 o2 p2
  dj : ∀ β ∈ o1, β ∉ o2
  nw : ∀ β, β ∈ o1 ∨ β ∈ o2 → σ0 β = none
  sb : σ0.sub S
theorem Both.tok {σ0 S : Sg} {ρ1 ρ2 τ : Nat} {o1 o2 : List Nat} {p1 p2 : Ps} (h : Both σ0 S ρ1 ρ2 o1 o2 p1 p2) (hτ : S τ = none) (o : Ob) : Both σ0 (S.set τ o) ρ1 ρ2 o1 o2 p1 p2 :=
  ⟨h.a.keep fun β hβ => Sg.set_other _ _ (fun e => h.a.alive hβ (by rw [e, hτ])), h.c.keep fun β hβ => Sg.set_other _ _ (fun e => h.c.alive hβ (by rw [e, hτ])), h.dj, h.nw, fun β v hv => (by
    have h1 := h.sb β v hv
    rw [Sg.set_other _ _ (ne_of h1 hτ), h1])⟩
theorem sub_only {σ0 S S1 : Sg} {o o' : List Nat} (hs : σ0.sub S) (ho : Only o o' S S1) (hn : ∀ β ∈ o, σ0 β = none) : σ0.sub S1 := fun β v h => by
  have h1 := hs β v h
  rw [ho.1 β (fun hm => by rw [hn β hm] at h; cases h) (by rw [h1]; simp), h1]
theorem Both.stepA {σ0 S S1 : Sg} {ρ1 ρ2 : Nat} {o1 o2 o1' : List Nat} {p1 p2 p1' : Ps} (h : Both σ0 S ρ1 ρ2 o1 o2 p1 p2) (ha : RegA S1 ρ1 o1' p1') (ho : Only o1 o1' S S1) : Both σ0 S1 ρ1 ρ2 o1' o2 p1' p2 where
  a := ha
  c := h.c.keep fun β hβ => ho.1 β (fun hm => h.dj β hm hβ) (h.c.alive hβ)
  dj β hβ hm := (ho.2 β hβ).elim (fun e => h.dj β e hm) (fun e => h.c.alive hm e)
  nw β hβ := hβ.elim (fun hβ => (ho.2 β hβ).elim (fun e => h.nw β (.inl e)) (fun e => by
    cases hz : σ0 β with
    | none => rfl
    | some v => rw [h.sb β v hz] at e; cases e)) (fun hβ => h.nw β (.inr hβ))
  sb := sub_only h.sb ho (fun β hβ => h.nw β (.inl hβ))
theorem Both.stepC {σ0 S S1 : Sg} {ρ1 ρ2 : Nat} {o1 o2 o2' : List Nat} {p1 p2 p2' : Ps} (h : Both σ0 S ρ1 ρ2 o1 o2 p1 p2) (hc : RegC S1 ρ2 o2' p2') (ho : Only o2 o2' S S1) : Both σ0 S1 ρ1 ρ2 o1 o2' p1 p2' where
  c := hc
  a := h.a.keep fun β hβ => ho.1 β (fun hm => h.dj β hβ hm) (h.a.alive hβ)
  dj β hβ hm := (ho.2 β hm).elim (fun e => h.dj β hβ e) (fun e => h.a.alive hβ e)
  nw β hβ := hβ.elim (fun hβ => h.nw β (.inl hβ)) (fun hβ => (ho.2 β hβ).elim (fun e => h.nw β (.inr e)) (fun e => by
    cases hz : σ0 β with
    | none => rfl
    | some v => rw [h.sb β v hz] at e; cases e))
  sb := sub_only h.sb ho (fun β hβ => h.nw β (.inr hβ))
/-- Who signs which header. -/
abbrev Sgn := Int × Int × List UInt8
def sgnA (s : Sgn) : List AV := .i s.1 :: .i s.2.1 :: aB s.2.2
def sgnsA (l : List Sgn) : List (List AV) := l.map sgnA
def sgs (l : List Sgn) : Ps := l.foldl (fun ps s => if bad s.2.1 then ps else addS ps s.1 (certText s.2.1 s.2.2)) []
theorem sgnsA_len (l : List Sgn) : (sgnsA l).length = l.length := by simp [sgnsA]
theorem sgnsA_get (l : List Sgn) (j : Nat) (h : j < l.length) : (sgnsA l).getD j [] = .i l[j].1 :: .i l[j].2.1 :: aB l[j].2.2 := by
  simp [sgnsA, List.getD_eq_getElem?_getD, List.getElem?_eq_getElem h, sgnA]
theorem sgs_step (l : List Sgn) (j : Nat) (h : j < l.length) : sgs (l.take (j + 1)) = if bad l[j].2.1 then sgs (l.take j) else addS (sgs (l.take j)) l[j].1 (certText l[j].2.1 l[j].2.2) := by
  unfold sgs
  rw [List.take_add_one, List.getElem?_eq_getElem h, List.foldl_append]
  rfl
theorem sgs_len (l : List Sgn) : (sgs l).length ≤ l.length := by
  have : ∀ (l : List Sgn) (ps : Ps), (l.foldl (fun ps s => if bad s.2.1 then ps else addS ps s.1 (certText s.2.1 s.2.2)) ps).length ≤ ps.length + l.length := by
    intro l
    induction l with
    | nil => intro ps; simp
    | cons a r ih =>
      intro ps
      have h1 := ih (if bad a.2.1 then ps else addS ps a.1 (certText a.2.1 a.2.2))
      have h2 : (if bad a.2.1 then ps else addS ps a.1 (certText a.2.1 a.2.2)).length ≤ ps.length + 1 := by
        split
        · omega
        · exact addS_len _ _ _
      simp only [List.foldl_cons, List.length_cons]
      omega
  have := this l []
  simpa [sgs] using this
theorem sz47 : ∃ z, tInfo Try.prog 47 = some (some z, 130, 144) := ⟨_, info47⟩
theorem regA_new {σ : Sg} {ρ m1 m2 : Nat} (h0 : σ ρ = none) (h1 : σ m1 = none) (h2 : σ m2 = none) (h3 : m2 ≠ m1) (h4 : ρ ≠ m1) (h5 : ρ ≠ m2) : RegA (((σ.set m1 (.map [])).set m2 (.map [])).set ρ (.cells 94 [.map m1, .sl .nil [], .map m2])) ρ [ρ, m1, m2] [] :=
  ⟨m1, m2, [], none, [], { own_eq := rfl, at0 := Sg.set_same _ _ _, at1 := by rw [Sg.set_other _ _ (Ne.symm h4), Sg.set_other _ _ (Ne.symm h3), Sg.set_same]; rfl, at2 := by rw [Sg.set_other _ _ (Ne.symm h5), Sg.set_same]; rfl, ne := Ne.symm h3, atv := fun τ e => (nomatch e), ats := fun τ e => (List.not_mem_nil e).elim, nd := List.nodup_nil, pl := ⟨Nat.le_refl _, fun w τ l e => (nomatch e)⟩ }⟩
set_option maxHeartbeats 1000000 in
set_option maxRecDepth 100000 in
theorem t11 (k : Own) (sl : List Sgn) (σ : Sg) (hsl : ∀ s ∈ sl, s.2.2.length = 128) (hln : sl.length ≤ 9223372036854775807) : VCalls Try.prog 11 [.sl k (sgnsA sl)] σ (fun x σ' => ∃ ρ1 ρ2 o1 o2, x = .tup [.ref ρ1 0, .ref ρ2 0] ∧ Both σ σ' ρ1 ρ2 o1 o2 (sgs (sl.take 40)) (sgs (sl.take 40))) := by
  obtain ⟨z47, h47⟩ := sz47
  obtain ⟨z26, h26⟩ := sz26
  (refine vfun (fun _ => .no) mixed Try.func11 (by kernel_rfl) ?_; simp only [bodyOf, Try.f11, Option.getD_some])
  repeat' (first | with_reducible rfl | exact .inr trivial | with_reducible apply And.intro | with_reducible apply vqx_step | with_reducible apply vqm_step | with_reducible refine vkp_free (by decide +kernel) ?_ | with_reducible intro _ | ((first | (with_reducible first | refine .rs ?_ | refine .ds (by kernel_rfl) ?_ | refine .dg (by kernel_rfl) ?_ | refine .rg ?_ | refine .ite ?_ | refine .ret ?_ | refine .skip ?_ | refine .exit ?_ | refine .scope ?_ | refine .seq (.label ?_) | refine .block ?_ | refine .seq ?_)); (try simp only [vO, vQ, ↓vP, vE, vS, vB, vL, vF, vM, vN, vbs_full, Nat.reduceEqDiff, Nat.reduceAdd, Nat.reduceLeDiff, ne_eq, not_false_eq_true, Nat.reduceMul, Nat.reduceSub, Int.toNat_zero, Int.reduceToNat, Try.underlying3, info3, Try.underlying22, info22, Try.underlying30, Try.underlying31, Try.underlying34, info34, Try.underlying35, info35, vT])) | ((simp (disch := first | assumption | (apply Go.Cert.ne_of2; assumption; assumption) | (apply Go.Cert.ne_ob; assumption; assumption; (intro e; cases e; done)) | omega) only [w64, w8, tg_eq, Go.V.n1, Go.V.n2, Go.V.nn, Int.tdiv_eq_ediv_of_nonneg, Sg.set_same, Sg.set_ne, Sg.set_ne', Sg.del_ne, Sg.del_ne']); (try simp only [vO, vQ, ↓vP, vE, vS, vB, vL, vF, vM, vN, vbs_full, Nat.reduceEqDiff, Nat.reduceAdd, Nat.reduceLeDiff, ne_eq, not_false_eq_true, Nat.reduceMul, Nat.reduceSub, Int.toNat_zero, Int.reduceToNat, Try.underlying3, info3, Try.underlying22, info22, Try.underlying30, Try.underlying31, Try.underlying34, info34, Try.underlying35, info35, vT])) | ((((with_reducible refine (t30 _).mono ?_); rintro _ S ⟨ρ1, m1, m2, q0, q1, q2, q3, q4, q5, rfl, rfl⟩)); (try simp only [vO, vQ, ↓vP, vE, vS, vB, vL, vF, vM, vN, vbs_full, Nat.reduceEqDiff, Nat.reduceAdd, Nat.reduceLeDiff, ne_eq, not_false_eq_true, Nat.reduceMul, Nat.reduceSub, Int.toNat_zero, Int.reduceToNat, Try.underlying3, info3, Try.underlying22, info22, Try.underlying30, Try.underlying31, Try.underlying34, info34, Try.underlying35, info35, vT])) | ((((with_reducible refine (t31 _).mono ?_); rintro _ S ⟨ρ2, q6, rfl, rfl⟩)); (try simp only [vO, vQ, ↓vP, vE, vS, vB, vL, vF, vM, vN, vbs_full, Nat.reduceEqDiff, Nat.reduceAdd, Nat.reduceLeDiff, ne_eq, not_false_eq_true, Nat.reduceMul, Nat.reduceSub, Int.toNat_zero, Int.reduceToNat, Try.underlying3, info3, Try.underlying22, info22, Try.underlying30, Try.underlying31, Try.underlying34, info34, Try.underlying35, info35, vT])) | with_reducible refine vfresh_set ?_ | with_reducible refine vfresh_intro (fun _ _ => ?_) | with_reducible refine vif_intro (fun _ => ?_) (fun _ => ?_) | omega | ((with_reducible first | refine vop_at ?_ | refine vops_at ?_ | refine vquiet_at ?_ | refine vmix_at ?_ | refine Holds_at ?_); simp only [vO, vQ, ↓vP, vE, vS, vB, vL, vF, vM, vN, vbs_full, Nat.reduceEqDiff, Nat.reduceAdd, Nat.reduceLeDiff, ne_eq, not_false_eq_true, Nat.reduceMul, Nat.reduceSub, Int.toNat_zero, Int.reduceToNat, Try.underlying3, info3, Try.underlying22, info22, Try.underlying30, Try.underlying31, Try.underlying34, info34, Try.underlying35, info35, vT]))
  refine VW.loop3 (0 : Nat) ((((σ.set m1 (.map [])).set m2 (.map [])).set ρ1 (.cells 94 [.map m1, .sl .nil [], .map m2])).set ρ2 (.cells 97 [.sl .nil []])) ([ρ1, m1, m2], [ρ2]) (fun j S o => j ≤ 40 ∧ j ≤ sl.length ∧ Both σ S ρ1 ρ2 o.1 o.2 (sgs (sl.take j)) (sgs (sl.take j))) (fun j _ _ => [(0, .sl k (sgnsA sl)), (4, .ref ρ1 0), (5, .ref ρ2 0), (6, .i j)]) (fun _ S _ => S) (fun j _ _ => sl.length - j) ⟨Nat.zero_le _, Nat.zero_le _, ?_⟩ (.refl _) ?_ ?_
  · have hA := regA_new q0 q1 q2 q3 q4 q5
    have hb : σ ρ2 = none ∧ ρ2 ≠ ρ1 ∧ ρ2 ≠ m1 ∧ ρ2 ≠ m2 := by
      have h := q6
      unfold Sg.set at h
      by_cases e1 : ρ2 = ρ1
      · rw [if_pos e1] at h; cases h
      rw [if_neg e1] at h
      by_cases e2 : ρ2 = m2
      · rw [if_pos e2] at h; cases h
      rw [if_neg e2] at h
      by_cases e3 : ρ2 = m1
      · rw [if_pos e3] at h; cases h
      rw [if_neg e3] at h
      exact ⟨h, e1, e3, e2⟩
    refine ⟨hA.keep fun β hβ => Sg.set_other _ _ (fun e => hA.alive hβ (by rw [e]; exact q6)), ⟨none, rfl, Sg.set_same _ _ _, (fun τ e => nomatch e), fun _ => rfl⟩, ?_, ?_, ?_⟩
    · intro β hβ hm
      have e : β = ρ2 := by simpa using hm
      subst e
      have : β = ρ1 ∨ β = m1 ∨ β = m2 := by simpa using hβ
      rcases this with e | e | e
      · exact hb.2.1 e
      · exact hb.2.2.1 e
      · exact hb.2.2.2 e
    · intro β hβ
      rcases hβ with hβ | hβ
      · have : β = ρ1 ∨ β = m1 ∨ β = m2 := by simpa using hβ
        rcases this with rfl | rfl | rfl <;> assumption
      · have e : β = ρ2 := by simpa using hβ
        rw [e]; exact hb.1
    · exact Sg.sub.set_fresh (Sg.sub.set_fresh (Sg.sub.set_fresh (Sg.sub.set_fresh (.refl _) q1) q2) q0) hb.1
  · simp only [vO, vQ, ↓vP, vE, vS, vB, vL, vF, vM, vN, vbs_full, Nat.reduceEqDiff, Nat.reduceAdd, Nat.reduceLeDiff, ne_eq, not_false_eq_true, Nat.reduceMul, Nat.reduceSub, Int.toNat_zero, Int.reduceToNat, vT]
    rfl
  rintro j S ⟨o1, o2⟩ ⟨h1, h2, hB⟩
  have hlen : (sgs (sl.take j)).length ≤ 2 ^ 32 := Nat.le_trans (sgs_len _) (by simp; omega)
  rcases Nat.lt_or_ge j sl.length with hj | hj
  · have hg := sgnsA_get sl j hj
    have hh := hsl _ (List.getElem_mem hj)
    have hst := sgs_step sl j hj
    have hl := aR hh
    generalize sl[j].1 = w at *
    generalize sl[j].2.1 = q at *
    generalize sl[j].2.2 = l at *
    by_cases hq : bad q
    · have h13 := fun σ => t13a q l σ hh hq
      repeat' (first | with_reducible rfl | exact .inr trivial | with_reducible apply And.intro | with_reducible apply vqx_step | with_reducible apply vqm_step | with_reducible refine vkp_free (by decide +kernel) ?_ | with_reducible intro _ | ((first | (with_reducible first | refine .rs ?_ | refine .ds (by kernel_rfl) ?_ | refine .dg (by kernel_rfl) ?_ | refine .rg ?_ | refine .ite ?_ | refine .ret ?_ | refine .skip ?_ | refine .exit ?_ | refine .scope ?_ | refine .seq (.label ?_) | refine .block ?_ | refine .seq ?_)); (try simp only [vO, vQ, ↓vP, vE, vS, vB, vL, vF, vM, vN, vbs_full, Nat.reduceEqDiff, Nat.reduceAdd, Nat.reduceLeDiff, ne_eq, not_false_eq_true, Nat.reduceMul, Nat.reduceSub, Int.toNat_zero, Int.reduceToNat, Try.underlying3, info3, Try.underlying22, info22, Try.underlying26, h26, Try.underlying30, Try.underlying31, Try.underlying34, info34, Try.underlying35, info35, Try.underlying47, h47, hg, hl, sgnsA_len, nadd, nadd1, nadd2, nadd3, n1add, n2add, vT])) | ((simp (disch := first | assumption | (apply Go.Cert.ne_of2; assumption; assumption) | (apply Go.Cert.ne_ob; assumption; assumption; (intro e; cases e; done)) | omega) only [w64, w8, tg_eq, Go.V.n1, Go.V.n2, Go.V.nn, Int.tdiv_eq_ediv_of_nonneg, Sg.set_same, Sg.set_ne, Sg.set_ne', Sg.del_ne, Sg.del_ne']); (try simp only [vO, vQ, ↓vP, vE, vS, vB, vL, vF, vM, vN, vbs_full, Nat.reduceEqDiff, Nat.reduceAdd, Nat.reduceLeDiff, ne_eq, not_false_eq_true, Nat.reduceMul, Nat.reduceSub, Int.toNat_zero, Int.reduceToNat, Try.underlying3, info3, Try.underlying22, info22, Try.underlying26, h26, Try.underlying30, Try.underlying31, Try.underlying34, info34, Try.underlying35, info35, Try.underlying47, h47, hg, hl, sgnsA_len, nadd, nadd1, nadd2, nadd3, n1add, n2add, vT])) | ((((with_reducible refine (h13 _).mono ?_); rintro _ σ' ⟨rfl, rfl⟩)); (try simp only [vO, vQ, ↓vP, vE, vS, vB, vL, vF, vM, vN, vbs_full, Nat.reduceEqDiff, Nat.reduceAdd, Nat.reduceLeDiff, ne_eq, not_false_eq_true, Nat.reduceMul, Nat.reduceSub, Int.toNat_zero, Int.reduceToNat, Try.underlying3, info3, Try.underlying22, info22, Try.underlying26, h26, Try.underlying30, Try.underlying31, Try.underlying34, info34, Try.underlying35, info35, Try.underlying47, h47, hg, hl, sgnsA_len, nadd, nadd1, nadd2, nadd3, n1add, n2add, vT])) | with_reducible refine vfresh_set ?_ | with_reducible refine vfresh_intro (fun _ _ => ?_) | with_reducible refine vif_intro (fun _ => ?_) (fun _ => ?_) | omega | ((with_reducible first | refine vop_at ?_ | refine vops_at ?_ | refine vquiet_at ?_ | refine vmix_at ?_ | refine Holds_at ?_); simp only [vO, vQ, ↓vP, vE, vS, vB, vL, vF, vM, vN, vbs_full, Nat.reduceEqDiff, Nat.reduceAdd, Nat.reduceLeDiff, ne_eq, not_false_eq_true, Nat.reduceMul, Nat.reduceSub, Int.toNat_zero, Int.reduceToNat, Try.underlying3, info3, Try.underlying22, info22, Try.underlying26, h26, Try.underlying30, Try.underlying31, Try.underlying34, info34, Try.underlying35, info35, Try.underlying47, h47, hg, hl, sgnsA_len, nadd, nadd1, nadd2, nadd3, n1add, n2add, vT]))
      · exact ⟨j + 1, σ', (o1, o2), ⟨⟨by omega, by omega, by rw [hst, if_pos hq]; exact hB⟩, by omega⟩, .refl _, rfl⟩
      · exact ⟨S, .refl _, ρ1, ρ2, o1, o2, rfl, by rw [show (40 : Nat) = j by omega]; exact hB⟩
    · have h13 := fun σ => t13 q l σ hh hq
      have e1 := hst.trans (if_neg hq)
      repeat' (first | with_reducible rfl | exact .inr trivial | with_reducible apply And.intro | with_reducible apply vqx_step | with_reducible apply vqm_step | with_reducible refine vkp_free (by decide +kernel) ?_ | with_reducible intro _ | ((first | (with_reducible first | refine .rs ?_ | refine .ds (by kernel_rfl) ?_ | refine .dg (by kernel_rfl) ?_ | refine .rg ?_ | refine .ite ?_ | refine .ret ?_ | refine .skip ?_ | refine .exit ?_ | refine .scope ?_ | refine .seq (.label ?_) | refine .block ?_ | refine .seq ?_)); (try simp only [vO, vQ, ↓vP, vE, vS, vB, vL, vF, vM, vN, vbs_full, Nat.reduceEqDiff, Nat.reduceAdd, Nat.reduceLeDiff, ne_eq, not_false_eq_true, Nat.reduceMul, Nat.reduceSub, Int.toNat_zero, Int.reduceToNat, Try.underlying3, info3, Try.underlying22, info22, Try.underlying26, h26, Try.underlying30, Try.underlying31, Try.underlying34, info34, Try.underlying35, info35, Try.underlying47, h47, hg, hl, sgnsA_len, nadd, nadd1, nadd2, nadd3, n1add, n2add, vT])) | ((simp (disch := first | assumption | (apply Go.Cert.ne_of2; assumption; assumption) | (apply Go.Cert.ne_ob; assumption; assumption; (intro e; cases e; done)) | omega) only [w64, w8, tg_eq, Go.V.n1, Go.V.n2, Go.V.nn, Int.tdiv_eq_ediv_of_nonneg, Sg.set_same, Sg.set_ne, Sg.set_ne', Sg.del_ne, Sg.del_ne']); (try simp only [vO, vQ, ↓vP, vE, vS, vB, vL, vF, vM, vN, vbs_full, Nat.reduceEqDiff, Nat.reduceAdd, Nat.reduceLeDiff, ne_eq, not_false_eq_true, Nat.reduceMul, Nat.reduceSub, Int.toNat_zero, Int.reduceToNat, Try.underlying3, info3, Try.underlying22, info22, Try.underlying26, h26, Try.underlying30, Try.underlying31, Try.underlying34, info34, Try.underlying35, info35, Try.underlying47, h47, hg, hl, sgnsA_len, nadd, nadd1, nadd2, nadd3, n1add, n2add, vT])) | ((((with_reducible refine (h13 _).mono ?_); rintro _ σ' ⟨y, rfl, τ, hτ, rfl, rfl⟩; have hB1 := hB.tok hτ (.tok (some 5)))); (try simp only [vO, vQ, ↓vP, vE, vS, vB, vL, vF, vM, vN, vbs_full, Nat.reduceEqDiff, Nat.reduceAdd, Nat.reduceLeDiff, ne_eq, not_false_eq_true, Nat.reduceMul, Nat.reduceSub, Int.toNat_zero, Int.reduceToNat, Try.underlying3, info3, Try.underlying22, info22, Try.underlying26, h26, Try.underlying30, Try.underlying31, Try.underlying34, info34, Try.underlying35, info35, Try.underlying47, h47, hg, hl, sgnsA_len, nadd, nadd1, nadd2, nadd3, n1add, n2add, vT])) | ((((with_reducible refine (t19 ρ1 o1 _ _ w _ _ hB1.a hlen).mono ?_); rintro _ S1 ⟨o1', hA2, hO1⟩; have hB2 := hB1.stepA hA2 hO1)); (try simp only [vO, vQ, ↓vP, vE, vS, vB, vL, vF, vM, vN, vbs_full, Nat.reduceEqDiff, Nat.reduceAdd, Nat.reduceLeDiff, ne_eq, not_false_eq_true, Nat.reduceMul, Nat.reduceSub, Int.toNat_zero, Int.reduceToNat, Try.underlying3, info3, Try.underlying22, info22, Try.underlying26, h26, Try.underlying30, Try.underlying31, Try.underlying34, info34, Try.underlying35, info35, Try.underlying47, h47, hg, hl, sgnsA_len, nadd, nadd1, nadd2, nadd3, n1add, n2add, vT])) | ((((with_reducible refine (t32c ρ2 o2 _ _ w _ _ hB2.c hlen).mono ?_); rintro _ S2 ⟨o2', hC2, hO2⟩; have hB3 := hB2.stepC hC2 hO2)); (try simp only [vO, vQ, ↓vP, vE, vS, vB, vL, vF, vM, vN, vbs_full, Nat.reduceEqDiff, Nat.reduceAdd, Nat.reduceLeDiff, ne_eq, not_false_eq_true, Nat.reduceMul, Nat.reduceSub, Int.toNat_zero, Int.reduceToNat, Try.underlying3, info3, Try.underlying22, info22, Try.underlying26, h26, Try.underlying30, Try.underlying31, Try.underlying34, info34, Try.underlying35, info35, Try.underlying47, h47, hg, hl, sgnsA_len, nadd, nadd1, nadd2, nadd3, n1add, n2add, vT])) | with_reducible refine vfresh_set ?_ | with_reducible refine vfresh_intro (fun _ _ => ?_) | with_reducible refine vif_intro (fun _ => ?_) (fun _ => ?_) | omega | ((with_reducible first | refine vop_at ?_ | refine vops_at ?_ | refine vquiet_at ?_ | refine vmix_at ?_ | refine Holds_at ?_); simp only [vO, vQ, ↓vP, vE, vS, vB, vL, vF, vM, vN, vbs_full, Nat.reduceEqDiff, Nat.reduceAdd, Nat.reduceLeDiff, ne_eq, not_false_eq_true, Nat.reduceMul, Nat.reduceSub, Int.toNat_zero, Int.reduceToNat, Try.underlying3, info3, Try.underlying22, info22, Try.underlying26, h26, Try.underlying30, Try.underlying31, Try.underlying34, info34, Try.underlying35, info35, Try.underlying47, h47, hg, hl, sgnsA_len, nadd, nadd1, nadd2, nadd3, n1add, n2add, vT]))
      · exact ⟨j + 1, S2, (o1', o2'), ⟨⟨by omega, by omega, by rw [e1]; exact hB3⟩, by omega⟩, .refl _, rfl⟩
      · exact ⟨S, .refl _, ρ1, ρ2, o1, o2, rfl, by rw [show (40 : Nat) = j by omega]; exact hB⟩
  · rw [List.take_of_length_le hj] at hB
    have e40 : sl.take 40 = sl := List.take_of_length_le (by omega)
    repeat' (first | with_reducible rfl | exact .inr trivial | with_reducible apply And.intro | with_reducible apply vqx_step | with_reducible apply vqm_step | with_reducible refine vkp_free (by decide +kernel) ?_ | with_reducible intro _ | ((first | (with_reducible first | refine .rs ?_ | refine .ds (by kernel_rfl) ?_ | refine .dg (by kernel_rfl) ?_ | refine .rg ?_ | refine .ite ?_ | refine .ret ?_ | refine .skip ?_ | refine .exit ?_ | refine .scope ?_ | refine .seq (.label ?_) | refine .block ?_ | refine .seq ?_)); (try simp only [vO, vQ, ↓vP, vE, vS, vB, vL, vF, vM, vN, vbs_full, Nat.reduceEqDiff, Nat.reduceAdd, Nat.reduceLeDiff, ne_eq, not_false_eq_true, Nat.reduceMul, Nat.reduceSub, Int.toNat_zero, Int.reduceToNat, Try.underlying3, info3, Try.underlying22, info22, Try.underlying26, h26, Try.underlying30, Try.underlying31, Try.underlying34, info34, Try.underlying35, info35, Try.underlying47, h47, sgnsA_len, nadd, nadd1, nadd2, nadd3, n1add, n2add, vT])) | ((simp (disch := first | assumption | (apply Go.Cert.ne_of2; assumption; assumption) | (apply Go.Cert.ne_ob; assumption; assumption; (intro e; cases e; done)) | omega) only [w64, w8, tg_eq, Go.V.n1, Go.V.n2, Go.V.nn, Int.tdiv_eq_ediv_of_nonneg, Sg.set_same, Sg.set_ne, Sg.set_ne', Sg.del_ne, Sg.del_ne']); (try simp only [vO, vQ, ↓vP, vE, vS, vB, vL, vF, vM, vN, vbs_full, Nat.reduceEqDiff, Nat.reduceAdd, Nat.reduceLeDiff, ne_eq, not_false_eq_true, Nat.reduceMul, Nat.reduceSub, Int.toNat_zero, Int.reduceToNat, Try.underlying3, info3, Try.underlying22, info22, Try.underlying26, h26, Try.underlying30, Try.underlying31, Try.underlying34, info34, Try.underlying35, info35, Try.underlying47, h47, sgnsA_len, nadd, nadd1, nadd2, nadd3, n1add, n2add, vT])) | with_reducible refine vfresh_set ?_ | with_reducible refine vfresh_intro (fun _ _ => ?_) | with_reducible refine vif_intro (fun _ => ?_) (fun _ => ?_) | omega | ((with_reducible first | refine vop_at ?_ | refine vops_at ?_ | refine vquiet_at ?_ | refine vmix_at ?_ | refine Holds_at ?_); simp only [vO, vQ, ↓vP, vE, vS, vB, vL, vF, vM, vN, vbs_full, Nat.reduceEqDiff, Nat.reduceAdd, Nat.reduceLeDiff, ne_eq, not_false_eq_true, Nat.reduceMul, Nat.reduceSub, Int.toNat_zero, Int.reduceToNat, Try.underlying3, info3, Try.underlying22, info22, Try.underlying26, h26, Try.underlying30, Try.underlying31, Try.underlying34, info34, Try.underlying35, info35, Try.underlying47, h47, sgnsA_len, nadd, nadd1, nadd2, nadd3, n1add, n2add, vT]))
    all_goals exact ⟨S, .refl _, ρ1, ρ2, o1, o2, rfl, by rw [e40]; exact hB⟩
end Go.Proofs.Ytkbfngepdgdecaa
