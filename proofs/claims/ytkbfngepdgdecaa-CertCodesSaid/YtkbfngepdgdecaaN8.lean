/- Part 8 of the proof: C27, C28, C29, V19, D1, D2, D3. -/
import Derived.Test.YtkbfngepdgdecaaN7
import Derived.Test.YtkbfngepdgdecaaN3
import Derived.Test.YtkbfngepdgdecaaN6

set_option linter.unusedSimpArgs false
set_option linter.unusedVariables false
namespace Go.Proofs.Ytkbfngepdgdecaa
open Go Go.V Go.Cert
theorem RegA.alive {σ : Sg} {ρ : Nat} {own : List Nat} {ps : Ps} (h : RegA σ ρ own ps) {β : Nat} (hβ : β ∈ own) : σ β ≠ none := by
  obtain ⟨m1, m2, pv, tv, ts, h⟩ := h
  rw [h.own_eq] at hβ
  rcases List.mem_cons.1 hβ with rfl | hβ
  · rw [h.at0]; simp
  rcases List.mem_cons.1 hβ with rfl | hβ
  · rw [h.at1]; simp
  rcases List.mem_cons.1 hβ with rfl | hβ
  · rw [h.at2]; simp
  rcases List.mem_append.1 hβ with hβ | hβ
  · rw [(h.atv β (by simpa using hβ)).1]; simp
  · rw [h.ats β hβ]; simp
theorem RegA.keep {σ σ' : Sg} {ρ : Nat} {own : List Nat} {ps : Ps} (h : RegA σ ρ own ps) (hk : ∀ β ∈ own, σ' β = σ β) : RegA σ' ρ own ps := by
  obtain ⟨m1, m2, pv, tv, ts, h⟩ := h
  have ho := h.own_eq
  refine ⟨m1, m2, pv, tv, ts, ho, ?_, ?_, ?_, h.ne, fun τ hτ => ⟨?_, (h.atv τ hτ).2⟩, fun τ hτ => ?_, h.nd, h.pl⟩
  · rw [hk _ (by rw [ho]; simp), h.at0]
  · rw [hk _ (by rw [ho]; simp), h.at1]
  · rw [hk _ (by rw [ho]; simp), h.at2]
  · rw [hk _ (by rw [ho]; simp [hτ]), (h.atv τ hτ).1]
  · rw [hk _ (by rw [ho]; simp [hτ]), h.ats τ hτ]
theorem RegC.alive {σ : Sg} {ρ : Nat} {own : List Nat} {ps : Ps} (h : RegC σ ρ own ps) {β : Nat} (hβ : β ∈ own) : σ β ≠ none := by
  obtain ⟨tv, h⟩ := h
  rw [h.own_eq] at hβ
  rcases List.mem_cons.1 hβ with rfl | hβ
  · rw [h.at0]; simp
  · rw [h.atv β (by simpa using hβ)]; simp
theorem RegC.keep {σ σ' : Sg} {ρ : Nat} {own : List Nat} {ps : Ps} (h : RegC σ ρ own ps) (hk : ∀ β ∈ own, σ' β = σ β) : RegC σ' ρ own ps := by
  obtain ⟨tv, h⟩ := h
  have ho := h.own_eq
  refine ⟨tv, ho, ?_, fun τ hτ => ?_, h.emp⟩
  · rw [hk _ (by rw [ho]; simp), h.at0]
  · rw [hk _ (by rw [ho]; simp [hτ]), h.atv τ hτ]
/-- Both registries, side by side. -/
structure Both (σ0 S : Sg) (ρ1 ρ2 : Nat) (o1 o2 : List Nat) (p1 p2 : Ps) : Prop where
  a : RegA S ρ1 o1 p1
  c : RegC S ρ2 o2 p2
  dj : ∀ β ∈ o1, β ∉ o2
  nw : ∀ β, β ∈ o1 ∨ β ∈ o2 → σ0 β = none
  sb : σ0.sub S
theorem Both.tok {σ0 S : Sg} {ρ1 ρ2 τ : Nat} {o1 o2 : List Nat} {p1 p2 : Ps} (h : Both σ0 S ρ1 ρ2 o1 o2 p1 p2) (hτ : S τ = none) (o : Ob) : Both σ0 (S.set τ o) ρ1 ρ2 o1 o2 p1 p2 :=
  ⟨h.a.keep fun β hβ => Sg.set_other _ _ (fun e => h.a.alive hβ (by rw [e, hτ])), h.c.keep fun β hβ => Sg.set_other _ _ (fun e => h.c.alive hβ (by rw [e, hτ])), h.dj, h.nw, fun β v hv => (by
    have h1 := h.sb β v hv
    rw [Sg.set_other _ _ (ne_of h1 hτ), h1])⟩
theorem sub_only {σ0 S S1 : Sg} {o o' : List Nat} (hs : σ0.sub S) (ho : Only o o' S S1) (hn : ∀ β ∈ o, σ0 β = none) : σ0.sub S1 := fun β v h => by
  have h1 := hs β v h
  rw [ho.1 β (fun hm => by rw [hn β hm] at h; cases h) (by rw [h1]; simp), h1]
theorem Both.stepA {σ0 S S1 : Sg} {ρ1 ρ2 : Nat} {o1 o2 o1' : List Nat} {p1 p2 p1' : Ps} (h : Both σ0 S ρ1 ρ2 o1 o2 p1 p2) (ha : RegA S1 ρ1 o1' p1') (ho : Only o1 o1' S S1) : Both σ0 S1 ρ1 ρ2 o1' o2 p1' p2 where
  a := ha
  c := h.c.keep fun β hβ => ho.1 β (fun hm => h.dj β hm hβ) (h.c.alive hβ)
  dj β hβ hm := (ho.2 β hβ).elim (fun e => h.dj β e hm) (fun e => h.c.alive hm e)
  nw β hβ := hβ.elim (fun hβ => (ho.2 β hβ).elim (fun e => h.nw β (.inl e)) (fun e => by
    cases hz : σ0 β with
    | none => rfl
    | some v => rw [h.sb β v hz] at e; cases e)) (fun hβ => h.nw β (.inr hβ))
  sb := sub_only h.sb ho (fun β hβ => h.nw β (.inl hβ))
theorem Both.stepC {σ0 S S1 : Sg} {ρ1 ρ2 : Nat} {o1 o2 o2' : List Nat} {p1 p2 p2' : Ps} (h : Both σ0 S ρ1 ρ2 o1 o2 p1 p2) (hc : RegC S1 ρ2 o2' p2') (ho : Only o2 o2' S S1) : Both σ0 S1 ρ1 ρ2 o1 o2' p1 p2' where
  c := hc
  a := h.a.keep fun β hβ => ho.1 β (fun hm => h.dj β hβ hm) (h.a.alive hβ)
  dj β hβ hm := (ho.2 β hm).elim (fun e => h.dj β hβ e) (fun e => h.a.alive hβ e)
  nw β hβ := hβ.elim (fun hβ => h.nw β (.inl hβ)) (fun hβ => (ho.2 β hβ).elim (fun e => h.nw β (.inr e)) (fun e => by
    cases hz : σ0 β with
    | none => rfl
    | some v => rw [h.sb β v hz] at e; cases e))
  sb := sub_only h.sb ho (fun β hβ => h.nw β (.inr hβ))
/-- Who signs which header. -/
abbrev Sgn := Int × Int × List UInt8
def sgnA (s : Sgn) : List AV := .i s.1 :: .i s.2.1 :: aB s.2.2
def sgnsA (l : List Sgn) : List (List AV) := l.map sgnA
def sgs (l : List Sgn) : Ps := l.foldl (fun ps s => if bad s.2.1 then ps else addS ps s.1 (certText s.2.1 s.2.2)) []
theorem sgnsA_len (l : List Sgn) : (sgnsA l).length = l.length := by simp [sgnsA]
theorem sgnsA_get (l : List Sgn) (j : Nat) (h : j < l.length) : (sgnsA l).getD j [] = .i l[j].1 :: .i l[j].2.1 :: aB l[j].2.2 := by
  simp [sgnsA, List.getD_eq_getElem?_getD, List.getElem?_eq_getElem h, sgnA]
theorem sgs_step (l : List Sgn) (j : Nat) (h : j < l.length) : sgs (l.take (j + 1)) = if bad l[j].2.1 then sgs (l.take j) else addS (sgs (l.take j)) l[j].1 (certText l[j].2.1 l[j].2.2) := by
  unfold sgs
  rw [List.take_add_one, List.getElem?_eq_getElem h, List.foldl_append]
  rfl
theorem sgs_len (l : List Sgn) : (sgs l).length ≤ l.length := by
  have : ∀ (l : List Sgn) (ps : Ps), (l.foldl (fun ps s => if bad s.2.1 then ps else addS ps s.1 (certText s.2.1 s.2.2)) ps).length ≤ ps.length + l.length := by
    intro l
    induction l with
    | nil => intro ps; simp
    | cons a r ih =>
      intro ps
      have h1 := ih (if bad a.2.1 then ps else addS ps a.1 (certText a.2.1 a.2.2))
      have h2 : (if bad a.2.1 then ps else addS ps a.1 (certText a.2.1 a.2.2)).length ≤ ps.length + 1 := by
        split
        · omega
        · exact addS_len _ _ _
      simp only [List.foldl_cons, List.length_cons]
      omega
  have := this l []
  simpa [sgs] using this
theorem sz47 : ∃ z, tInfo Try.prog 47 = some (some z, 130, 144) := ⟨_, info47⟩
theorem regA_new {σ : Sg} {ρ m1 m2 : Nat} (h0 : σ ρ = none) (h1 : σ m1 = none) (h2 : σ m2 = none) (h3 : m2 ≠ m1) (h4 : ρ ≠ m1) (h5 : ρ ≠ m2) : RegA (((σ.set m1 (.map [])).set m2 (.map [])).set ρ (.cells 94 [.map m1, .sl .nil [], .map m2])) ρ [ρ, m1, m2] [] :=
  ⟨m1, m2, [], none, [], { own_eq := rfl, at0 := Sg.set_same _ _ _, at1 := by rw [Sg.set_other _ _ (Ne.symm h4), Sg.set_other _ _ (Ne.symm h3), Sg.set_same]; rfl, at2 := by rw [Sg.set_other _ _ (Ne.symm h5), Sg.set_same]; rfl, ne := Ne.symm h3, atv := fun τ e => (nomatch e), ats := fun τ e => (List.not_mem_nil e).elim, nd := List.nodup_nil, pl := ⟨Nat.le_refl _, fun w τ l e => (nomatch e)⟩ }⟩
set_option maxHeartbeats 1000000 in
set_option maxRecDepth 100000 in
theorem t11 (k : Own) (sl : List Sgn) (σ : Sg) (hsl : ∀ s ∈ sl, s.2.2.length = 128) (hln : sl.length ≤ 9223372036854775807) : VCalls Try.prog 11 [.sl k (sgnsA sl)] σ (fun x σ' => ∃ ρ1 ρ2 o1 o2, x = .tup [.ref ρ1 0, .ref ρ2 0] ∧ Both σ σ' ρ1 ρ2 o1 o2 (sgs (sl.take 40)) (sgs (sl.take 40))) := by
  obtain ⟨z47, h47⟩ := sz47
  obtain ⟨z26, h26⟩ := sz26
  (refine vfun (fun _ => .no) mixed Try.func11 (by kernel_rfl) ?_; simp only [bodyOf, Try.f11, Option.getD_some])
  repeat' (first | with_reducible rfl | exact .inr trivial | with_reducible apply And.intro | with_reducible apply vqx_step | with_reducible apply vqm_step | with_reducible refine vkp_free (by decide +kernel) ?_ | with_reducible intro _ | ((first | (with_reducible first | refine .rs ?_ | refine .ds (by kernel_rfl) ?_ | refine .dg (by kernel_rfl) ?_ | refine .rg ?_ | refine .ite ?_ | refine .ret ?_ | refine .skip ?_ | refine .exit ?_ | refine .scope ?_ | refine .seq (.label ?_) | refine .block ?_ | refine .seq ?_)); (try simp only [vO, vQ, ↓vP, vE, vS, vB, vL, vF, vM, vN, vbs_full, Nat.reduceEqDiff, Nat.reduceAdd, Nat.reduceLeDiff, ne_eq, not_false_eq_true, Nat.reduceMul, Nat.reduceSub, Int.toNat_zero, Int.reduceToNat, Try.underlying3, info3, Try.underlying22, info22, Try.underlying30, Try.underlying31, Try.underlying34, info34, Try.underlying35, info35, vT])) | ((simp (disch := first | assumption | (apply Go.Cert.ne_of2; assumption; assumption) | (apply Go.Cert.ne_ob; assumption; assumption; (intro e; cases e; done)) | omega) only [w64, w8, tg_eq, Go.V.n1, Go.V.n2, Go.V.nn, Int.tdiv_eq_ediv_of_nonneg, Sg.set_same, Sg.set_ne, Sg.set_ne', Sg.del_ne, Sg.del_ne']); (try simp only [vO, vQ, ↓vP, vE, vS, vB, vL, vF, vM, vN, vbs_full, Nat.reduceEqDiff, Nat.reduceAdd, Nat.reduceLeDiff, ne_eq, not_false_eq_true, Nat.reduceMul, Nat.reduceSub, Int.toNat_zero, Int.reduceToNat, Try.underlying3, info3, Try.underlying22, info22, Try.underlying30, Try.underlying31, Try.underlying34, info34, Try.underlying35, info35, vT])) | ((((with_reducible refine (t30 _).mono ?_); rintro _ S ⟨ρ1, m1, m2, q0, q1, q2, q3, q4, q5, rfl, rfl⟩)); (try simp only [vO, vQ, ↓vP, vE, vS, vB, vL, vF, vM, vN, vbs_full, Nat.reduceEqDiff, Nat.reduceAdd, Nat.reduceLeDiff, ne_eq, not_false_eq_true, Nat.reduceMul, Nat.reduceSub, Int.toNat_zero, Int.reduceToNat, Try.underlying3, info3, Try.underlying22, info22, Try.underlying30, Try.underlying31, Try.underlying34, info34, Try.underlying35, info35, vT])) | ((((with_reducible refine (t31 _).mono ?_); rintro _ S ⟨ρ2, q6, rfl, rfl⟩)); (try simp only [vO, vQ, ↓vP, vE, vS, vB, vL, vF, vM, vN, vbs_full, Nat.reduceEqDiff, Nat.reduceAdd, Nat.reduceLeDiff, ne_eq, not_false_eq_true, Nat.reduceMul, Nat.reduceSub, Int.toNat_zero, Int.reduceToNat, Try.underlying3, info3, Try.underlying22, info22, Try.underlying30, Try.underlying31, Try.underlying34, info34, Try.underlying35, info35, vT])) | with_reducible refine vfresh_set ?_ | with_reducible refine vfresh_intro (fun _ _ => ?_) | with_reducible refine vif_intro (fun _ => ?_) (fun _ => ?_) | omega | ((with_reducible first | refine vop_at ?_ | refine vops_at ?_ | refine vquiet_at ?_ | refine vmix_at ?_ | refine Holds_at ?_); simp only [vO, vQ, ↓vP, vE, vS, vB, vL, vF, vM, vN, vbs_full, Nat.reduceEqDiff, Nat.reduceAdd, Nat.reduceLeDiff, ne_eq, not_false_eq_true, Nat.reduceMul, Nat.reduceSub, Int.toNat_zero, Int.reduceToNat, Try.underlying3, info3, Try.underlying22, info22, Try.underlying30, Try.underlying31, Try.underlying34, info34, Try.underlying35, info35, vT]))
  refine VW.loop3 (0 : Nat) ((((σ.set m1 (.map [])).set m2 (.map [])).set ρ1 (.cells 94 [.map m1, .sl .nil [], .map m2])).set ρ2 (.cells 97 [.sl .nil []])) ([ρ1, m1, m2], [ρ2]) (fun j S o => j ≤ 40 ∧ j ≤ sl.length ∧ Both σ S ρ1 ρ2 o.1 o.2 (sgs (sl.take j)) (sgs (sl.take j))) (fun j _ _ => [(0, .sl k (sgnsA sl)), (4, .ref ρ1 0), (5, .ref ρ2 0), (6, .i j)]) (fun _ S _ => S) (fun j _ _ => sl.length - j) ⟨Nat.zero_le _, Nat.zero_le _, ?_⟩ (.refl _) ?_ ?_
  · have hA := regA_new q0 q1 q2 q3 q4 q5
    have hb : σ ρ2 = none ∧ ρ2 ≠ ρ1 ∧ ρ2 ≠ m1 ∧ ρ2 ≠ m2 := by
      have h := q6
      unfold Sg.set at h
      by_cases e1 : ρ2 = ρ1
      · rw [if_pos e1] at h; cases h
      rw [if_neg e1] at h
      by_cases e2 : ρ2 = m2
      · rw [if_pos e2] at h; cases h
      rw [if_neg e2] at h
      by_cases e3 : ρ2 = m1
      · rw [if_pos e3] at h; cases h
      rw [if_neg e3] at h
      exact ⟨h, e1, e3, e2⟩
    refine ⟨hA.keep fun β hβ => Sg.set_other _ _ (fun e => hA.alive hβ (by rw [e]; exact q6)), ⟨none, rfl, Sg.set_same _ _ _, (fun τ e => nomatch e), fun _ => rfl⟩, ?_, ?_, ?_⟩
    · intro β hβ hm
      have e : β = ρ2 := by simpa using hm
      subst e
      have : β = ρ1 ∨ β = m1 ∨ β = m2 := by simpa using hβ
      rcases this with e | e | e
      · exact hb.2.1 e
      · exact hb.2.2.1 e
      · exact hb.2.2.2 e
    · intro β hβ
      rcases hβ with hβ | hβ
      · have : β = ρ1 ∨ β = m1 ∨ β = m2 := by simpa using hβ
        rcases this with rfl | rfl | rfl <;> assumption
      · have e : β = ρ2 := by simpa using hβ
        rw [e]; exact hb.1
    · exact Sg.sub.set_fresh (Sg.sub.set_fresh (Sg.sub.set_fresh (Sg.sub.set_fresh (.refl _) q1) q2) q0) hb.1
  · simp only [vO, vQ, ↓vP, vE, vS, vB, vL, vF, vM, vN, vbs_full, Nat.reduceEqDiff, Nat.reduceAdd, Nat.reduceLeDiff, ne_eq, not_false_eq_true, Nat.reduceMul, Nat.reduceSub, Int.toNat_zero, Int.reduceToNat, vT]
    rfl
  rintro j S ⟨o1, o2⟩ ⟨h1, h2, hB⟩
  have hlen : (sgs (sl.take j)).length ≤ 2 ^ 32 := Nat.le_trans (sgs_len _) (by simp; omega)
  rcases Nat.lt_or_ge j sl.length with hj | hj
  · have hg := sgnsA_get sl j hj
    have hh := hsl _ (List.getElem_mem hj)
    have hst := sgs_step sl j hj
    have hl := aR hh
    generalize sl[j].1 = w at *
    generalize sl[j].2.1 = q at *
    generalize sl[j].2.2 = l at *
    by_cases hq : bad q
    · have h13 := fun σ => t13a q l σ hh hq
      repeat' (first | with_reducible rfl | exact .inr trivial | with_reducible apply And.intro | with_reducible apply vqx_step | with_reducible apply vqm_step | with_reducible refine vkp_free (by decide +kernel) ?_ | with_reducible intro _ | ((first | (with_reducible first | refine .rs ?_ | refine .ds (by kernel_rfl) ?_ | refine .dg (by kernel_rfl) ?_ | refine .rg ?_ | refine .ite ?_ | refine .ret ?_ | refine .skip ?_ | refine .exit ?_ | refine .scope ?_ | refine .seq (.label ?_) | refine .block ?_ | refine .seq ?_)); (try simp only [vO, vQ, ↓vP, vE, vS, vB, vL, vF, vM, vN, vbs_full, Nat.reduceEqDiff, Nat.reduceAdd, Nat.reduceLeDiff, ne_eq, not_false_eq_true, Nat.reduceMul, Nat.reduceSub, Int.toNat_zero, Int.reduceToNat, Try.underlying3, info3, Try.underlying22, info22, Try.underlying26, h26, Try.underlying30, Try.underlying31, Try.underlying34, info34, Try.underlying35, info35, Try.underlying47, h47, hg, hl, sgnsA_len, nadd, nadd1, nadd2, nadd3, n1add, n2add, vT])) | ((simp (disch := first | assumption | (apply Go.Cert.ne_of2; assumption; assumption) | (apply Go.Cert.ne_ob; assumption; assumption; (intro e; cases e; done)) | omega) only [w64, w8, tg_eq, Go.V.n1, Go.V.n2, Go.V.nn, Int.tdiv_eq_ediv_of_nonneg, Sg.set_same, Sg.set_ne, Sg.set_ne', Sg.del_ne, Sg.del_ne']); (try simp only [vO, vQ, ↓vP, vE, vS, vB, vL, vF, vM, vN, vbs_full, Nat.reduceEqDiff, Nat.reduceAdd, Nat.reduceLeDiff, ne_eq, not_false_eq_true, Nat.reduceMul, Nat.reduceSub, Int.toNat_zero, Int.reduceToNat, Try.underlying3, info3, Try.underlying22, info22, Try.underlying26, h26, Try.underlying30, Try.underlying31, Try.underlying34, info34, Try.underlying35, info35, Try.underlying47, h47, hg, hl, sgnsA_len, nadd, nadd1, nadd2, nadd3, n1add, n2add, vT])) | ((((with_reducible refine (h13 _).mono ?_); rintro _ σ' ⟨rfl, rfl⟩)); (try simp only [vO, vQ, ↓vP, vE, vS, vB, vL, vF, vM, vN, vbs_full, Nat.reduceEqDiff, Nat.reduceAdd, Nat.reduceLeDiff, ne_eq, not_false_eq_true, Nat.reduceMul, Nat.reduceSub, Int.toNat_zero, Int.reduceToNat, Try.underlying3, info3, Try.underlying22, info22, Try.underlying26, h26, Try.underlying30, Try.underlying31, Try.underlying34, info34, Try.underlying35, info35, Try.underlying47, h47, hg, hl, sgnsA_len, nadd, nadd1, nadd2, nadd3, n1add, n2add, vT])) | with_reducible refine vfresh_set ?_ | with_reducible refine vfresh_intro (fun _ _ => ?_) | with_reducible refine vif_intro (fun _ => ?_) (fun _ => ?_) | omega | ((with_reducible first | refine vop_at ?_ | refine vops_at ?_ | refine vquiet_at ?_ | refine vmix_at ?_ | refine Holds_at ?_); simp only [vO, vQ, ↓vP, vE, vS, vB, vL, vF, vM, vN, vbs_full, Nat.reduceEqDiff, Nat.reduceAdd, Nat.reduceLeDiff, ne_eq, not_false_eq_true, Nat.reduceMul, Nat.reduceSub, Int.toNat_zero, Int.reduceToNat, Try.underlying3, info3, Try.underlying22, info22, Try.underlying26, h26, Try.underlying30, Try.underlying31, Try.underlying34, info34, Try.underlying35, info35, Try.underlying47, h47, hg, hl, sgnsA_len, nadd, nadd1, nadd2, nadd3, n1add, n2add, vT]))
      · exact ⟨j + 1, σ', (o1, o2), ⟨⟨by omega, by omega, by rw [hst, if_pos hq]; exact hB⟩, by omega⟩, .refl _, rfl⟩
      · exact ⟨S, .refl _, ρ1, ρ2, o1, o2, rfl, by rw [show (40 : Nat) = j by omega]; exact hB⟩
    · have h13 := fun σ => t13 q l σ hh hq
      have e1 := hst.trans (if_neg hq)
      repeat' (first | with_reducible rfl | exact .inr trivial | with_reducible apply And.intro | with_reducible apply vqx_step | with_reducible apply vqm_step | with_reducible refine vkp_free (by decide +kernel) ?_ | with_reducible intro _ | ((first | (with_reducible first | refine .rs ?_ | refine .ds (by kernel_rfl) ?_ | refine .dg (by kernel_rfl) ?_ | refine .rg ?_ | refine .ite ?_ | refine .ret ?_ | refine .skip ?_ | refine .exit ?_ | refine .scope ?_ | refine .seq (.label ?_) | refine .block ?_ | refine .seq ?_)); (try simp only [vO, vQ, ↓vP, vE, vS, vB, vL, vF, vM, vN, vbs_full, Nat.reduceEqDiff, Nat.reduceAdd, Nat.reduceLeDiff, ne_eq, not_false_eq_true, Nat.reduceMul, Nat.reduceSub, Int.toNat_zero, Int.reduceToNat, Try.underlying3, info3, Try.underlying22, info22, Try.underlying26, h26, Try.underlying30, Try.underlying31, Try.underlying34, info34, Try.underlying35, info35, Try.underlying47, h47, hg, hl, sgnsA_len, nadd, nadd1, nadd2, nadd3, n1add, n2add, vT])) | ((simp (disch := first | assumption | (apply Go.Cert.ne_of2; assumption; assumption) | (apply Go.Cert.ne_ob; assumption; assumption; (intro e; cases e; done)) | omega) only [w64, w8, tg_eq, Go.V.n1, Go.V.n2, Go.V.nn, Int.tdiv_eq_ediv_of_nonneg, Sg.set_same, Sg.set_ne, Sg.set_ne', Sg.del_ne, Sg.del_ne']); (try simp only [vO, vQ, ↓vP, vE, vS, vB, vL, vF, vM, vN, vbs_full, Nat.reduceEqDiff, Nat.reduceAdd, Nat.reduceLeDiff, ne_eq, not_false_eq_true, Nat.reduceMul, Nat.reduceSub, Int.toNat_zero, Int.reduceToNat, Try.underlying3, info3, Try.underlying22, info22, Try.underlying26, h26, Try.underlying30, Try.underlying31, Try.underlying34, info34, Try.underlying35, info35, Try.underlying47, h47, hg, hl, sgnsA_len, nadd, nadd1, nadd2, nadd3, n1add, n2add, vT])) | ((((with_reducible refine (h13 _).mono ?_); rintro _ σ' ⟨y, rfl, τ, hτ, rfl, rfl⟩; have hB1 := hB.tok hτ (.tok (some 5)))); (try simp only [vO, vQ, ↓vP, vE, vS, vB, vL, vF, vM, vN, vbs_full, Nat.reduceEqDiff, Nat.reduceAdd, Nat.reduceLeDiff, ne_eq, not_false_eq_true, Nat.reduceMul, Nat.reduceSub, Int.toNat_zero, Int.reduceToNat, Try.underlying3, info3, Try.underlying22, info22, Try.underlying26, h26, Try.underlying30, Try.underlying31, Try.underlying34, info34, Try.underlying35, info35, Try.underlying47, h47, hg, hl, sgnsA_len, nadd, nadd1, nadd2, nadd3, n1add, n2add, vT])) | ((((with_reducible refine (t19 ρ1 o1 _ _ w _ _ hB1.a hlen).mono ?_); rintro _ S1 ⟨o1', hA2, hO1⟩; have hB2 := hB1.stepA hA2 hO1)); (try simp only [vO, vQ, ↓vP, vE, vS, vB, vL, vF, vM, vN, vbs_full, Nat.reduceEqDiff, Nat.reduceAdd, Nat.reduceLeDiff, ne_eq, not_false_eq_true, Nat.reduceMul, Nat.reduceSub, Int.toNat_zero, Int.reduceToNat, Try.underlying3, info3, Try.underlying22, info22, Try.underlying26, h26, Try.underlying30, Try.underlying31, Try.underlying34, info34, Try.underlying35, info35, Try.underlying47, h47, hg, hl, sgnsA_len, nadd, nadd1, nadd2, nadd3, n1add, n2add, vT])) | ((((with_reducible refine (t32c ρ2 o2 _ _ w _ _ hB2.c hlen).mono ?_); rintro _ S2 ⟨o2', hC2, hO2⟩; have hB3 := hB2.stepC hC2 hO2)); (try simp only [vO, vQ, ↓vP, vE, vS, vB, vL, vF, vM, vN, vbs_full, Nat.reduceEqDiff, Nat.reduceAdd, Nat.reduceLeDiff, ne_eq, not_false_eq_true, Nat.reduceMul, Nat.reduceSub, Int.toNat_zero, Int.reduceToNat, Try.underlying3, info3, Try.underlying22, info22, Try.underlying26, h26, Try.underlying30, Try.underlying31, Try.underlying34, info34, Try.underlying35, info35, Try.underlying47, h47, hg, hl, sgnsA_len, nadd, nadd1, nadd2, nadd3, n1add, n2add, vT])) | with_reducible refine vfresh_set ?_ | with_reducible refine vfresh_intro (fun _ _ => ?_) | with_reducible refine vif_intro (fun _ => ?_) (fun _ => ?_) | omega | ((with_reducible first | refine vop_at ?_ | refine vops_at ?_ | refine vquiet_at ?_ | refine vmix_at ?_ | refine Holds_at ?_); simp only [vO, vQ, ↓vP, vE, vS, vB, vL, vF, vM, vN, vbs_full, Nat.reduceEqDiff, Nat.reduceAdd, Nat.reduceLeDiff, ne_eq, not_false_eq_true, Nat.reduceMul, Nat.reduceSub, Int.toNat_zero, Int.reduceToNat, Try.underlying3, info3, Try.underlying22, info22, Try.underlying26, h26, Try.underlying30, Try.underlying31, Try.underlying34, info34, Try.underlying35, info35, Try.underlying47, h47, hg, hl, sgnsA_len, nadd, nadd1, nadd2, nadd3, n1add, n2add, vT]))
      · exact ⟨j + 1, S2, (o1', o2'), ⟨⟨by omega, by omega, by rw [e1]; exact hB3⟩, by omega⟩, .refl _, rfl⟩
      · exact ⟨S, .refl _, ρ1, ρ2, o1, o2, rfl, by rw [show (40 : Nat) = j by omega]; exact hB⟩
  · rw [List.take_of_length_le hj] at hB
    have e40 : sl.take 40 = sl := List.take_of_length_le (by omega)
    repeat' (first | with_reducible rfl | exact .inr trivial | with_reducible apply And.intro | with_reducible apply vqx_step | with_reducible apply vqm_step | with_reducible refine vkp_free (by decide +kernel) ?_ | with_reducible intro _ | ((first | (with_reducible first | refine .rs ?_ | refine .ds (by kernel_rfl) ?_ | refine .dg (by kernel_rfl) ?_ | refine .rg ?_ | refine .ite ?_ | refine .ret ?_ | refine .skip ?_ | refine .exit ?_ | refine .scope ?_ | refine .seq (.label ?_) | refine .block ?_ | refine .seq ?_)); (try simp only [vO, vQ, ↓vP, vE, vS, vB, vL, vF, vM, vN, vbs_full, Nat.reduceEqDiff, Nat.reduceAdd, Nat.reduceLeDiff, ne_eq, not_false_eq_true, Nat.reduceMul, Nat.reduceSub, Int.toNat_zero, Int.reduceToNat, Try.underlying3, info3, Try.underlying22, info22, Try.underlying26, h26, Try.underlying30, Try.underlying31, Try.underlying34, info34, Try.underlying35, info35, Try.underlying47, h47, sgnsA_len, nadd, nadd1, nadd2, nadd3, n1add, n2add, vT])) | ((simp (disch := first | assumption | (apply Go.Cert.ne_of2; assumption; assumption) | (apply Go.Cert.ne_ob; assumption; assumption; (intro e; cases e; done)) | omega) only [w64, w8, tg_eq, Go.V.n1, Go.V.n2, Go.V.nn, Int.tdiv_eq_ediv_of_nonneg, Sg.set_same, Sg.set_ne, Sg.set_ne', Sg.del_ne, Sg.del_ne']); (try simp only [vO, vQ, ↓vP, vE, vS, vB, vL, vF, vM, vN, vbs_full, Nat.reduceEqDiff, Nat.reduceAdd, Nat.reduceLeDiff, ne_eq, not_false_eq_true, Nat.reduceMul, Nat.reduceSub, Int.toNat_zero, Int.reduceToNat, Try.underlying3, info3, Try.underlying22, info22, Try.underlying26, h26, Try.underlying30, Try.underlying31, Try.underlying34, info34, Try.underlying35, info35, Try.underlying47, h47, sgnsA_len, nadd, nadd1, nadd2, nadd3, n1add, n2add, vT])) | with_reducible refine vfresh_set ?_ | with_reducible refine vfresh_intro (fun _ _ => ?_) | with_reducible refine vif_intro (fun _ => ?_) (fun _ => ?_) | omega | ((with_reducible first | refine vop_at ?_ | refine vops_at ?_ | refine vquiet_at ?_ | refine vmix_at ?_ | refine Holds_at ?_); simp only [vO, vQ, ↓vP, vE, vS, vB, vL, vF, vM, vN, vbs_full, Nat.reduceEqDiff, Nat.reduceAdd, Nat.reduceLeDiff, ne_eq, not_false_eq_true, Nat.reduceMul, Nat.reduceSub, Int.toNat_zero, Int.reduceToNat, Try.underlying3, info3, Try.underlying22, info22, Try.underlying26, h26, Try.underlying30, Try.underlying31, Try.underlying34, info34, Try.underlying35, info35, Try.underlying47, h47, sgnsA_len, nadd, nadd1, nadd2, nadd3, n1add, n2add, vT]))
    all_goals exact ⟨S, .refl _, ρ1, ρ2, o1, o2, rfl, by rw [e40]; exact hB⟩
end Go.Proofs.Ytkbfngepdgdecaa

set_option linter.unusedSimpArgs false
set_option linter.unusedVariables false
namespace Go.Cert
open Go.V
theorem quarters {a b : List UInt8} (ha : a.length = 128) (hb : b.length = 128) : (a = b) ↔ (a.take 32 = b.take 32 ∧ (a.drop 32).take 32 = (b.drop 32).take 32 ∧ (a.drop 64).take 32 = (b.drop 64).take 32 ∧ (a.drop 96).take 32 = (b.drop 96).take 32) := by
  constructor
  · rintro rfl; exact ⟨rfl, rfl, rfl, rfl⟩
  · rintro ⟨h1, h2, h3, h4⟩
    have e : ∀ c : List UInt8, c.length = 128 → c = c.take 32 ++ ((c.drop 32).take 32 ++ ((c.drop 64).take 32 ++ (c.drop 96).take 32)) := fun c hc => by
      have h0 : (c.drop 96).take 32 = c.drop 96 := List.take_of_length_le (by simp [hc])
      have h1 : (c.drop 64).take 32 ++ c.drop 96 = c.drop 64 := by
        have := List.take_append_drop 32 (c.drop 64)
        rwa [List.drop_drop] at this
      have h2 : (c.drop 32).take 32 ++ c.drop 64 = c.drop 32 := by
        have := List.take_append_drop 32 (c.drop 32)
        rwa [List.drop_drop] at this
      rw [h0, h1, h2, List.take_append_drop]
    rw [e a ha, e b hb, h1, h2, h3, h4]
theorem veqIn_array {P : Program} {d : Nat} {t e : TypeId} {n : Nat} {xs ys : List AV} (hu : P.underlying t = some (.array n e)) (hi : (tInfo P e).isSome = true) : veqIn P (d + 1) t (.agg xs) (.agg ys) = veqIs P (veqIn P d e) e (P.cellsOf e) xs ys (List.range n) := by
  simp only [veqIn, hu, hi, if_true]
end Go.Cert
namespace Go.Proofs.Ytkbfngepdgdecaa
open Go Go.V Go.Cert
theorem partO_u8 (a : List UInt8) (i : Nat) (h : i < a.length) : partO Try.prog 5 ((aB a).drop i) = some (AV.u8 a[i].toNat) := by
  rw [aB_drop, List.drop_eq_getElem_cons h]
  exact partO_one info5 Try.underlying5 rfl
theorem veqIs_u8 {a b : List UInt8} {n : Nat} (ha : a.length = n) (hb : b.length = n) (d : Nat) : ∀ l : List Nat, (∀ i ∈ l, i < n) → veqIs Try.prog (veqIn Try.prog (d + 1) 5) 5 1 (aB a) (aB b) l = some (decide (∀ i ∈ l, a[i]? = b[i]?))
  | [], _ => by simp [veqIs]
  | i :: l, h => by
    have hi := h i (List.mem_cons_self ..)
    have ih := veqIs_u8 ha hb d l (fun j hj => h j (List.mem_cons_of_mem _ hj))
    rw [veqIs, Nat.mul_one, partO_u8 a i (by omega), partO_u8 b i (by omega)]
    simp only [veqIn_int Try.underlying5, ih]
    rw [← Bool.decide_and]
    refine congrArg some (decide_eq_decide.2 ?_)
    have e : ((a[i]'(by omega)).toNat : Int) = ((b[i]'(by omega)).toNat : Int) ↔ a[i]? = b[i]? := by
      rw [List.getElem?_eq_getElem (by omega), List.getElem?_eq_getElem (by omega)]
      constructor
      · intro h
        exact congrArg some (UInt8.toNat_inj.1 (Int.ofNat.inj h))
      · intro h
        rw [Option.some.inj h]
    rw [e]
    simp
theorem eq24 {a b : List UInt8} (ha : a.length = 32) (hb : b.length = 32) (d : Nat) : veqIn Try.prog (d + 2) 24 (.agg (aB a)) (.agg (aB b)) = some (decide (a = b)) := by
  obtain ⟨z, h24⟩ := sz24
  have hc : Try.prog.cellsOf 5 = 1 := by kernel_rfl
  rw [veqIn_array (d := d + 1) Try.underlying24 (by rw [info5]; rfl), hc]
  have := veqIs_u8 ha hb d (List.range 32) (fun i hi => by simpa using hi)
  refine this.trans (congrArg some (decide_eq_decide.2 ?_))
  constructor
  · intro h
    refine List.ext_getElem? fun i => ?_
    rcases Nat.lt_or_ge i 32 with hi | hi
    · exact h i (by simpa using hi)
    · rw [List.getElem?_eq_none (by omega), List.getElem?_eq_none (by omega)]
  · rintro rfl i _
    rfl
theorem partO_24 (l : List UInt8) (h : 32 ≤ l.length) : partO Try.prog 24 (aB l) = some (.agg (aB (l.take 32))) := by
  obtain ⟨z, h24⟩ := sz24
  simp only [partO, h24, Try.underlying24]
  rw [if_pos (by rfl), if_pos (by rw [aB_len]; exact h), aB_take]
set_option maxRecDepth 100000 in
theorem eq26 {q q' : Int} {a b : List UInt8} (ha : a.length = 128) (hb : b.length = 128) (d : Nat) : veqIn Try.prog (d + 4) 26 (.agg (.i q :: aB a)) (.agg (.i q' :: aB b)) = some (decide (q = q' ∧ a = b)) := by
  have hd : ∀ (l : List UInt8) (k : Nat), (AV.i q :: aB l).drop (k + 1) = aB (l.drop k) ∧ (AV.i q' :: aB l).drop (k + 1) = aB (l.drop k) := fun l k => ⟨by rw [List.drop_succ_cons, aB_drop], by rw [List.drop_succ_cons, aB_drop]⟩
  rw [veqIn_struct (d := d + 3) Try.underlying26 (by kernel_rfl)]
  have h24 : ∀ (k : Nat), k + 32 ≤ 128 → veqIn Try.prog (d + 3) 24 (.agg (aB ((a.drop k).take 32))) (.agg (aB ((b.drop k).take 32))) = some (decide ((a.drop k).take 32 = (b.drop k).take 32)) := fun k hk => eq24 (d := d + 1) (by simp [ha]; omega) (by simp [hb]; omega)
  have p24 : ∀ (l : List UInt8) (k : Nat), k + 32 ≤ l.length → partO Try.prog 24 (aB (l.drop k)) = some (.agg (aB ((l.drop k).take 32))) := fun l k hk => partO_24 _ (by simp; omega)
  refine (veqFs_cons (x := .i q) (y := .i q') (by decide) (partO_one info3 Try.underlying3 rfl) (partO_one info3 Try.underlying3 rfl) (veqIn_int Try.underlying3)
    (veqFs_cons (x := .agg (aB ((a.drop 0).take 32))) (y := .agg (aB ((b.drop 0).take 32))) (by decide) (by rw [(hd a 0).1]; exact p24 a 0 (by omega)) (by rw [(hd b 0).2]; exact p24 b 0 (by omega)) (h24 0 (by omega))
    (veqFs_cons (x := .agg (aB ((a.drop 32).take 32))) (y := .agg (aB ((b.drop 32).take 32))) (by decide) (by rw [(hd a 32).1]; exact p24 a 32 (by omega)) (by rw [(hd b 32).2]; exact p24 b 32 (by omega)) (h24 32 (by omega))
    (veqFs_cons (x := .agg (aB ((a.drop 64).take 32))) (y := .agg (aB ((b.drop 64).take 32))) (by decide) (by rw [(hd a 64).1]; exact p24 a 64 (by omega)) (by rw [(hd b 64).2]; exact p24 b 64 (by omega)) (h24 64 (by omega))
    (veqFs_cons (x := .agg (aB ((a.drop 96).take 32))) (y := .agg (aB ((b.drop 96).take 32))) (by decide) (by rw [(hd a 96).1]; exact p24 a 96 (by omega)) (by rw [(hd b 96).2]; exact p24 b 96 (by omega)) (h24 96 (by omega)) rfl))))).trans ?_
  rw [Bool.and_true, ← Bool.decide_and, ← Bool.decide_and, ← Bool.decide_and, ← Bool.decide_and]
  refine congrArg some (decide_eq_decide.2 ?_)
  rw [quarters ha hb, List.drop_zero, List.drop_zero]
set_option maxRecDepth 100000 in
theorem eq28 {q q' s s' : Int} {a b : List UInt8} (ha : a.length = 128) (hb : b.length = 128) (d : Nat) : veqIn Try.prog (d + 6) 28 (.agg (.i q :: (aB a ++ [.i s]))) (.agg (.i q' :: (aB b ++ [.i s']))) = some (decide (q = q' ∧ a = b ∧ s = s')) := by
  obtain ⟨z26, h26⟩ := sz26
  have p26 : ∀ (q s : Int) (l : List UInt8), l.length = 128 → partO Try.prog 26 (.i q :: (aB l ++ [.i s])) = some (.agg (.i q :: aB l)) := fun q s l hl => by
    obtain ⟨h1, _, _, _, h5, _⟩ := cR hl s
    simp only [partO, h26, Try.underlying26]
    rw [if_pos (by rfl), if_pos (by rw [List.length_cons, h1]; omega), List.take_succ_cons, h5]
  have d129 : ∀ (q s : Int) (l : List UInt8), l.length = 128 → (AV.i q :: (aB l ++ [AV.i s])).drop 129 = [.i s] := fun q s l hl => by
    obtain ⟨_, _, _, _, _, h6⟩ := cR hl s
    rw [List.drop_succ_cons, h6]
  rw [veqIn_struct (d := d + 5) Try.underlying28 (by kernel_rfl)]
  refine (veqFs_cons (x := .agg (.i q :: aB a)) (y := .agg (.i q' :: aB b)) (by decide) (p26 q s a ha) (p26 q' s' b hb) (eq26 (d := d + 1) ha hb)
    (veqFs_cons (x := .i s) (y := .i s') (by decide) (by rw [d129 q s a ha]; exact partO_one info3 Try.underlying3 rfl) (by rw [d129 q' s' b hb]; exact partO_one info3 Try.underlying3 rfl) (veqIn_int Try.underlying3) rfl)).trans ?_
  rw [Bool.and_true, ← Bool.decide_and]
  exact congrArg some (decide_eq_decide.2 (by rw [and_assoc]))
set_option maxRecDepth 100000 in
theorem eqT28 {q q' s s' : Int} {a b : List UInt8} (ha : a.length = 128) (hb : b.length = 128) (t : TypeDesc) : veqT Try.prog 28 t (.agg (.i q :: (aB a ++ [.i s]))) (.agg (.i q' :: (aB b ++ [.i s']))) = some (decide (q = q' ∧ a = b ∧ s = s')) := by
  rw [veqT_agg (by kernel_rfl)]
  exact eq28 (d := 9994) ha hb
set_option maxRecDepth 100000 in
theorem eqT26 {q q' : Int} {a b : List UInt8} (ha : a.length = 128) (hb : b.length = 128) (t : TypeDesc) : veqT Try.prog 26 t (.agg (.i q :: aB a)) (.agg (.i q' :: aB b)) = some (decide (q = q' ∧ a = b)) := by
  rw [veqT_agg (by kernel_rfl)]
  exact eq26 (d := 9996) ha hb
end Go.Proofs.Ytkbfngepdgdecaa

set_option linter.unusedSimpArgs false
set_option linter.unusedVariables false
namespace Go.V
open Go.RowKit
theorem Post.lose {P : Program} {R R' : AV → Sg → Prop} (h : ∀ x σ', R x σ' → ∃ x' σ'', AVw x x' ∧ σ''.sub σ' ∧ R' x' σ'') {κ : K} {v : Value} {w : World} (hp : Post κ R v w) : Post κ R' v w := by
  obtain ⟨κ', x, σ', h1, h2, h3, h4, h5⟩ := hp
  obtain ⟨x', σ'', h6, h8, h7⟩ := h x σ' h5
  exact ⟨κ', x', σ'', h1, h2, h3.sub h8, h6 κ' v h4, h7⟩
/-- What is known of a result, and of the store, may be forgotten. -/
theorem VCalls.lose {P : Program} {σ : Sg} {f : FuncId} {args : List AV} {R R' : AV → Sg → Prop} (hc : VCalls P f args σ R) (h : ∀ x σ', R x σ' → ∃ x' σ'', AVw x x' ∧ σ''.sub σ' ∧ R' x' σ'') : VCalls P f args σ R' := by
  refine ⟨fun κ vs hst hr => ?_⟩
  have hd := hc.go κ vs hst hr
  revert hd
  generalize (callFunc f vs).run P κ.w = r
  intro hd
  cases r with
  | halt x w => exact hd.elim
  | ok nx w =>
    cases nx <;> simp only [Done] at hd ⊢
    case value v => exact Post.lose (P := P) h hd
    case skip => exact Post.lose (P := P) h hd
    case enter f args =>
      refine hd.mono (fun e w' he => ?_)
      cases e with
      | returned v => exact Post.lose (P := P) h he
      | panicked c => exact he.elim
      | outgrown => exact he.elim
    case row r args => exact hd.mono (fun v w' he => Post.lose (P := P) h he)
end Go.V
namespace Go.Proofs.Ytkbfngepdgdecaa
open Go Go.V Go.Cert
/-- A new row of bytes that is only read. -/
theorem lose_B {f : FuncId} {args : List AV} {l : List UInt8} {σ : Sg} (h : VCalls Try.prog f args σ (fun x σ' => ∃ y, x = .tup [y, .i 0] ∧ OwnB l σ y σ')) : VCalls Try.prog f args σ (fun x σ' => x = .tup [.sl .any (bytesL l), .i 0] ∧ σ' = σ) :=
  h.lose fun x σ' hx => by
    obtain ⟨y, rfl, τ, hτ, rfl, rfl⟩ := hx
    exact ⟨_, σ, (AVw.any _ _).tup2 (AVw.refl _), Sg.sub_set hτ _, rfl, rfl⟩
/-- The bits of those up to n who signed a header. -/
def bq (ps : Ps) (n q : Int) (l : List UInt8) : Nat := bitsOf (fun m => decide (((m : Int), certText q l) ∈ ps)) (min n.toNat 16)
theorem a14 {ρ : Nat} {own : List Nat} {ps : Ps} (n q : Int) {l : List UInt8} {σ : Sg} (hR : RegA σ ρ own ps) (hh : l.length = 128) : VCalls Try.prog 14 [.ref ρ 0, .i n, .agg (.i q :: aB l)] σ (fun x σ' => x = .tup [colC (bq ps n q l) n q l, .i (colE (bq ps n q l) n q)] ∧ σ' = σ) := by
  obtain ⟨m1, m2, pv, tv, ts, h⟩ := hR
  exact t14 ρ m1 m2 _ ps n q l σ hh h.at0 h.at1
theorem a16 {ρ : Nat} {own : List Nat} {ps : Ps} (n q s : Int) {l : List UInt8} {σ : Sg} (hR : RegA σ ρ own ps) (hh : l.length = 128) : VCalls Try.prog 16 [.ref ρ 0, .i n, cA q l s] σ (fun x σ' => x = .i (chk (bq ps n q l) n q s) ∧ σ' = σ) := by
  obtain ⟨m1, m2, pv, tv, ts, h⟩ := hR
  exact t16 ρ m1 m2 _ ps n q s l σ hh h.at0 h.at1
theorem c15 {ρ : Nat} {own : List Nat} {ps : Ps} (n q : Int) {l : List UInt8} {σ : Sg} (hR : RegC σ ρ own ps) (hh : l.length = 128) (hlen : ps.length ≤ 2 ^ 32) : VCalls Try.prog 15 [.ref ρ 0, .i n, .agg (.i q :: aB l)] σ (fun x σ' => x = .tup [colC (bq ps n q l) n q l, .i (colE (bq ps n q l) n q)] ∧ σ' = σ) := by
  obtain ⟨k, h⟩ := RegC.at _ _ _ _ hR
  by_cases hq : bad q
  · have he : ∀ m, colE m n q = 1 := fun m => if_pos (.inr hq)
    have hC : ∀ m, colC m n q l = cA 0 zs 0 := fun m => by rw [colC, he]; rfl
    rw [hC, he]
    exact t15a ρ n q l σ hh hq
  · exact t15 ρ ps k n q l σ hlen hh h hq
theorem c17 {ρ : Nat} {own : List Nat} {ps : Ps} (n q s : Int) {l : List UInt8} {σ : Sg} (hR : RegC σ ρ own ps) (hh : l.length = 128) (hlen : ps.length ≤ 2 ^ 32) : VCalls Try.prog 17 [.ref ρ 0, .i n, cA q l s] σ (fun x σ' => x = .i (chk (bq ps n q l) n q s) ∧ σ' = σ) := by
  obtain ⟨k, h⟩ := RegC.at _ _ _ _ hR
  exact t17 ρ ps k n q s l σ hlen hh h
abbrev sm3 : List Sgn := [(1, 1, zs), (2, 1, zs), (3, 1, zs)]
theorem small1 : colE (bq (sgs (sm3.take 40)) 4 1 zs) 4 1 = 0 ∧ bq (sgs (sm3.take 40)) 4 1 zs = 7 := by decide +kernel
theorem small2 : colE (bq (sgs (sm3.take 40)) 4 2 zs) 4 2 = 5 := by decide +kernel
theorem small3 : chk 7 4 1 7 = 0 ∧ chk 7 4 1 15 = 5 := by decide +kernel
theorem small4 : (sgs (sm3.take 40)).length = 3 := by decide +kernel
abbrev ps3 : Ps := sgs (sm3.take 40)
theorem k14 {ρ : Nat} {own : List Nat} {σ : Sg} (hR : RegA σ ρ own ps3) : VCalls Try.prog 14 [.ref ρ 0, .i 4, .agg (.i 1 :: aB zs)] σ (fun x σ' => x = .tup [cA 1 zs 7, .i 0] ∧ σ' = σ) := by
  have := a14 4 1 hR zs_len
  rw [colC, small1.1, if_pos rfl, small1.2] at this
  exact this
theorem k14' {ρ : Nat} {own : List Nat} {σ : Sg} (hR : RegA σ ρ own ps3) : VCalls Try.prog 14 [.ref ρ 0, .i 4, .agg (.i 2 :: aB zs)] σ (fun x σ' => x = .tup [cA 0 zs 0, .i 5] ∧ σ' = σ) := by
  have := a14 4 2 hR zs_len
  rw [colC, small2, if_neg (by decide)] at this
  exact this
theorem k16 {ρ : Nat} {own : List Nat} {σ : Sg} (hR : RegA σ ρ own ps3) : VCalls Try.prog 16 [.ref ρ 0, .i 4, cA 1 zs 7] σ (fun x σ' => x = .i 0 ∧ σ' = σ) := by
  have := a16 4 1 7 hR zs_len
  rw [small1.2, small3.1] at this
  exact this
theorem k16' {ρ : Nat} {own : List Nat} {σ : Sg} (hR : RegA σ ρ own ps3) : VCalls Try.prog 16 [.ref ρ 0, .i 4, cA 1 zs 15] σ (fun x σ' => x = .i 5 ∧ σ' = σ) := by
  have := a16 4 1 15 hR zs_len
  rw [small1.2, small3.2] at this
  exact this
theorem vlo_app {P : Program} {t : TypeId} {S : Sg} {β : Nat} {o' : Option Ob} {off : Nat} {R : AV → Prop} (h : S β = o') (hw : vlo P t o' off R) : vlo P t (S β) off R := h ▸ hw
theorem vst_app {i : Option (Option Value × Nat × Nat)} {S : Sg} {b : Nat} {o' : Option Ob} {β off : Nat} {x : AV} {σ : Sg} {R : Sg → Prop} (h : S b = o') (hw : vst i o' β off x σ R) : vst i (S b) β off x σ R := h ▸ hw
end Go.Proofs.Ytkbfngepdgdecaa

/- Arguments: what is known of them may be forgotten; a slice of which nothing is known is nil or not. -/
set_option linter.unusedVariables false
namespace Go.V
open Go.RowKit
variable {P : Program}
theorem VCalls.arg1 {f : FuncId} {x x' : AV} {r : List AV} {σ : Sg} {R : AV → Sg → Prop} (h : AVw x x') (hc : VCalls P f (x' :: r) σ R) : VCalls P f (x :: r) σ R := by
  refine ⟨fun κ vs hst hr => hc.go κ vs hst ?_⟩
  refine ⟨hr.1, fun i y v h1 h2 => ?_⟩
  cases i with
  | zero => simp at h1; subst h1; exact h κ v (hr.2 0 x v (by simp) h2)
  | succ i => exact hr.2 (i + 1) y v (by simpa using h1) h2
theorem VCalls.arg2 {f : FuncId} {a x x' : AV} {r : List AV} {σ : Sg} {R : AV → Sg → Prop} (h : AVw x x') (hc : VCalls P f (a :: x' :: r) σ R) : VCalls P f (a :: x :: r) σ R := by
  refine ⟨fun κ vs hst hr => hc.go κ vs hst ?_⟩
  refine ⟨hr.1, fun i y v h1 h2 => ?_⟩
  match i with
  | 0 => exact hr.2 0 y v (by simpa using h1) h2
  | 1 => simp at h1; subst h1; exact h κ v (hr.2 1 x v (by simp) h2)
  | i + 2 => exact hr.2 (i + 2) y v (by simpa using h1) h2
/-- An empty slice: nil, or not. -/
theorem VCalls.any1 {f : FuncId} {r : List AV} {σ : Sg} {R : AV → Sg → Prop} (h1 : VCalls P f (.sl .nil [] :: r) σ R) (h2 : VCalls P f (.sl .view [] :: r) σ R) : VCalls P f (.sl .any [] :: r) σ R := by
  refine ⟨fun κ vs hst hr => ?_⟩
  have h0 : ∃ v, vs[0]? = some v := by
    have := hr.1
    cases h : vs[0]? with
    | some v => exact ⟨v, rfl⟩
    | none => rw [Array.getElem?_eq_none_iff] at h; simp at this; omega
  obtain ⟨v, hv⟩ := h0
  have hx : Rel κ (.sl .any []) v := hr.2 0 _ v rfl hv
  have rest : ∀ x, Rel κ x v → RelArgs κ (x :: r) vs := fun x hx => ⟨hr.1, fun i y u g1 g2 => by
    cases i with
    | zero => rw [hv] at g2; cases g2; simp at g1; subst g1; exact hx
    | succ i => exact hr.2 (i + 1) y u (by simpa using g1) g2⟩
  cases hx with
  | slnil k hk => exact h1.go κ vs hst (rest _ (.slnil .nil trivial))
  | slemp k hk a c => exact h2.go κ vs hst (rest _ (.slemp .view (.inl rfl) a c))
  | sl k es a n c sz f hk hn hc hs hz hr' h => exact h2.go κ vs hst (rest _ (.sl .view [] a n c sz f trivial hn hc hs hz hr' h))
end Go.V

set_option linter.unusedSimpArgs false
set_option linter.unusedVariables false
namespace Go.Cert
open Go.V
/-- A number out of bytes, the greatest first. -/
def nBE (l : List UInt8) : Nat := l.foldl (fun n b => n * 256 + b.toNat) 0
theorem nBE_step (l : List UInt8) (j : Nat) (h : j < l.length) : nBE (l.take (j + 1)) = nBE (l.take j) * 256 + l[j].toNat := by
  unfold nBE
  rw [List.take_add_one, List.getElem?_eq_getElem h, List.foldl_append]
  rfl
theorem nBE_lt : ∀ (l : List UInt8), nBE l < 256 ^ l.length := by
  have go : ∀ (l : List UInt8) (n m : Nat), n < 256 ^ m → l.foldl (fun n b => n * 256 + b.toNat) n < 256 ^ (m + l.length) := by
    intro l
    induction l with
    | nil => intro n m h; simpa using h
    | cons a r ih =>
      intro n m h
      have ha : a.toNat < 256 := UInt8.toNat_lt a
      have := ih (n * 256 + a.toNat) (m + 1) (by rw [Nat.pow_succ]; omega)
      rw [List.foldl_cons, List.length_cons]
      rwa [show m + (r.length + 1) = m + 1 + r.length by omega]
  intro l
  have := go l 0 0 (by simp)
  simpa [nBE] using this
theorem be_nBE : ∀ (n : Nat) (l : List UInt8), l.length = n → be n (nBE l) = l
  | 0, l, h => by
    have : l = [] := List.eq_nil_of_length_eq_zero h
    subst this; rfl
  | n + 1, l, h => by
    have hl : l = l.take n ++ [l[n]'(by omega)] := by
      have := List.take_add_one (l := l) (i := n)
      rw [List.getElem?_eq_getElem (by omega), List.take_of_length_le (by omega)] at this
      exact this
    have hs : nBE l = nBE (l.take n) * 256 + (l[n]'(by omega)).toNat := by
      have := nBE_step l n (by omega)
      rwa [List.take_of_length_le (by omega)] at this
    have ha : (l[n]'(by omega)).toNat < 256 := UInt8.toNat_lt _
    rw [be, hs, show (nBE (l.take n) * 256 + (l[n]'(by omega)).toNat) / 256 = nBE (l.take n) by omega, be_nBE n _ (by simp; omega)]
    have e : UInt8.ofNat (nBE (l.take n) * 256 + (l[n]'(by omega)).toNat) = l[n]'(by omega) := by
      apply UInt8.toNat_inj.1
      rw [UInt8.toNat_ofNat']
      omega
    rw [e, ← hl]
theorem nBE_be : ∀ (k n : Nat), n < 256 ^ k → nBE (be k n) = n
  | 0, n, h => by simp at h; subst h; rfl
  | k + 1, n, h => by
    have ih := nBE_be k (n / 256) (by rw [Nat.pow_succ] at h; omega)
    rw [be]
    unfold nBE at ih ⊢
    rw [List.foldl_append, ih]
    show n / 256 * 256 + (UInt8.ofNat n).toNat = n
    rw [UInt8.toNat_ofNat']
    omega
/-- A number, as int has it. -/
def i64 (n : Nat) : Int := IntKind.i64.wrap (n : Int)
theorem wrap_mod (x : Int) : ∃ k : Int, IntKind.i64.wrap x = x + k * 18446744073709551616 := by
  have h1 : IntKind.i64.signed = true := rfl
  have h2 : IntKind.i64.bits = 64 := rfl
  unfold IntKind.wrap
  rw [h1, h2]
  refine ⟨if 9223372036854775808 ≤ x % 18446744073709551616 then - (x / 18446744073709551616) - 1 else - (x / 18446744073709551616), ?_⟩
  simp
  split <;> omega
theorem wrap_add (x k : Int) : IntKind.i64.wrap (x + k * 18446744073709551616) = IntKind.i64.wrap x := by
  have h1 : IntKind.i64.signed = true := rfl
  have h2 : IntKind.i64.bits = 64 := rfl
  unfold IntKind.wrap
  rw [h1, h2]
  simp
theorem ofInt_wrap (x : Int) : BitVec.ofInt 64 (IntKind.i64.wrap x) = BitVec.ofInt 64 x := by
  obtain ⟨k, hk⟩ := wrap_mod x
  apply BitVec.eq_of_toNat_eq
  rw [BitVec.toNat_ofInt, BitVec.toNat_ofInt, hk]
  congr 1
  show (x + k * 18446744073709551616) % 18446744073709551616 = x % 18446744073709551616
  omega
theorem wrap_wrap (x m : Int) : IntKind.i64.wrap (IntKind.i64.wrap x * m) = IntKind.i64.wrap (x * m) := by
  obtain ⟨k, hk⟩ := wrap_mod x
  rw [hk, Int.add_mul, show k * 18446744073709551616 * m = (k * m) * 18446744073709551616 from by rw [Int.mul_assoc, Int.mul_comm 18446744073709551616 m, ← Int.mul_assoc], wrap_add]
theorem or_byte (n : Nat) (c : Nat) (hc : c < 256) : IntKind.i64.wrap ↑(BitVec.ofInt IntKind.i64.bits (IntKind.i64.wrap (i64 n * 2 ^ (min 8 IntKind.i64.bits))) ||| BitVec.ofInt IntKind.i64.bits (c : Int)).toNat = i64 (n * 256 + c) := by
  show IntKind.i64.wrap ↑(BitVec.ofInt 64 (IntKind.i64.wrap (i64 n * 256)) ||| BitVec.ofInt 64 (c : Int)).toNat = i64 (n * 256 + c)
  unfold i64
  have e0 : BitVec.ofInt 64 (IntKind.i64.wrap (n : Int) * 256) = BitVec.ofInt 64 ((n : Int) * 256) := by rw [← ofInt_wrap, wrap_wrap, ofInt_wrap]
  rw [ofInt_wrap, e0, show ((n : Int) * 256) = ((n * 256 : Nat) : Int) by omega, BitVec.ofInt_natCast, BitVec.ofInt_natCast, BitVec.toNat_or, BitVec.toNat_ofNat, BitVec.toNat_ofNat, Nat.mod_eq_of_lt (show c < 2 ^ 64 by omega)]
  have e : n * 256 % 2 ^ 64 = 2 ^ 8 * (n * 256 % 2 ^ 64 / 256) := by omega
  rw [e, ← Nat.two_pow_add_eq_or_of_lt (i := 8) (by omega)]
  obtain ⟨k, hk⟩ : ∃ k : Int, ((2 ^ 8 * (n * 256 % 2 ^ 64 / 256) + c : Nat) : Int) = ((n * 256 + c : Nat) : Int) + k * 18446744073709551616 := ⟨- ((n * 256 / 2 ^ 64 : Nat) : Int), by omega⟩
  rw [hk, wrap_add]
theorem i64_small {n : Nat} (h : n < 9223372036854775808) : i64 n = (n : Int) := i64_nat h
/-- One blob: itself, and how many bytes it takes. -/
def blobP (b : List UInt8) : Option (List UInt8 × Nat) :=
  if b.length < 4 then none else if 65536 < nBE (b.take 4) then none else if b.length - 4 < nBE (b.take 4) then none else some ((b.drop 4).take (nBE (b.take 4)), 4 + nBE (b.take 4))
def blobsP : Nat → List UInt8 → Option (List (List UInt8) × Nat)
  | 0, _ => some ([], 0)
  | k + 1, b => match blobP b with
    | none => none
    | some (p, u) => match blobsP k (b.drop u) with
      | none => none
      | some (l, v) => some (p :: l, u + v)
def rowP (b : List UInt8) : Option (List (List UInt8) × Nat) :=
  if b.length < 4 then none else if 4096 < nBE (b.take 4) then none else (blobsP (nBE (b.take 4)) (b.drop 4)).map fun x => (x.1, 4 + x.2)
theorem blobP_some {b p : List UInt8} {u : Nat} (h : blobP b = some (p, u)) : u = 4 + p.length ∧ u ≤ b.length ∧ p.length ≤ 65536 ∧ be 4 p.length ++ p = b.take u := by
  unfold blobP at h
  split at h
  · cases h
  split at h
  · cases h
  split at h
  · cases h
  rename_i h1 h2 h3
  cases h
  have hl : ((b.drop 4).take (nBE (b.take 4))).length = nBE (b.take 4) := by simp; omega
  refine ⟨by rw [hl], by omega, by omega, ?_⟩
  rw [hl, be_nBE 4 _ (by simp; omega), List.take_add]
theorem blobsP_some : ∀ (k : Nat) (b : List UInt8) (l : List (List UInt8)) (u : Nat), blobsP k b = some (l, u) → l.length = k ∧ u ≤ b.length ∧ (∀ p ∈ l, p.length ≤ 65536) ∧ partB l = b.take u
  | 0, b, l, u, h => by cases h; exact ⟨rfl, Nat.zero_le _, fun p hp => (List.not_mem_nil hp).elim, rfl⟩
  | k + 1, b, l, u, h => by
    rw [blobsP] at h
    split at h
    · cases h
    rename_i p v hp
    split at h
    · cases h
    rename_i m w hm
    cases h
    obtain ⟨h1, h2, h3, h4⟩ := blobP_some hp
    obtain ⟨g1, g2, g3, g4⟩ := blobsP_some k _ _ _ hm
    simp at g2
    refine ⟨by simp [g1], by omega, fun x hx => ?_, ?_⟩
    · rcases List.mem_cons.1 hx with rfl | hx
      · exact h3
      · exact g3 x hx
    · rw [List.take_add, ← g4, ← h4]
      simp [partB]
/-- What is read as a whole row is that row written. -/
theorem rowP_back {b : List UInt8} {l : List (List UInt8)} (h : rowP b = some (l, b.length)) : rowB l = b ∧ l.length ≤ 4096 ∧ ∀ p ∈ l, p.length ≤ 65536 := by
  unfold rowP at h
  split at h
  · cases h
  split at h
  · cases h
  rename_i h1 h2
  cases hb : blobsP (nBE (b.take 4)) (b.drop 4) with
  | none => rw [hb] at h; cases h
  | some x =>
    obtain ⟨m, w⟩ := x
    rw [hb] at h
    have e : m = l ∧ 4 + w = b.length := by simpa using h
    obtain ⟨rfl, e⟩ := e
    obtain ⟨g1, g2, g3, g4⟩ := blobsP_some _ _ _ _ hb
    refine ⟨?_, by omega, g3⟩
    rw [rowB_part, g1, be_nBE 4 _ (by simp; omega), g4, show w = (b.drop 4).length by simp; omega, List.take_length, List.take_append_drop]
theorem blobP_of (p r : List UInt8) (h : p.length ≤ 65536) : blobP (be 4 p.length ++ p ++ r) = some (p, 4 + p.length) := by
  have h4 : (be 4 p.length).length = 4 := be_len _ _
  have ht : (be 4 p.length ++ p ++ r).take 4 = be 4 p.length := by rw [List.append_assoc, List.take_left' h4]
  have hd : (be 4 p.length ++ p ++ r).drop 4 = p ++ r := by rw [List.append_assoc, List.drop_left' h4]
  have hn : nBE (be 4 p.length) = p.length := nBE_be 4 _ (by omega)
  unfold blobP
  rw [ht, hn, hd, if_neg (by simp [h4]), if_neg (by omega), if_neg (by simp [h4]), List.take_left' rfl]
theorem blobsP_of : ∀ (l : List (List UInt8)) (r : List UInt8), (∀ p ∈ l, p.length ≤ 65536) → blobsP l.length (partB l ++ r) = some (l, (partB l).length)
  | [], r, _ => rfl
  | p :: l, r, h => by
    have h1 := h p (List.mem_cons_self ..)
    have ih := blobsP_of l r (fun q hq => h q (List.mem_cons_of_mem _ hq))
    have e : partB (p :: l) = be 4 p.length ++ p ++ partB l := by simp [partB]
    have hl : (be 4 p.length ++ p).length = 4 + p.length := by rw [List.length_append, be_len]
    rw [List.length_cons, blobsP, e, List.append_assoc (be 4 p.length ++ p), blobP_of p _ h1]
    simp only
    rw [List.drop_left' hl, ih]
    simp only [List.length_append, hl]
theorem rowP_of (l : List (List UInt8)) (hn : l.length ≤ 4096) (h : ∀ p ∈ l, p.length ≤ 65536) : rowP (rowB l) = some (l, (rowB l).length) := by
  have h4 : (be 4 l.length).length = 4 := be_len _ _
  have hc : nBE (be 4 l.length) = l.length := nBE_be 4 _ (by omega)
  have := blobsP_of l [] h
  rw [List.append_nil] at this
  unfold rowP
  rw [rowB_part, List.take_left' h4, List.drop_left' h4, hc, if_neg (by simp [h4]), if_neg (by omega), this]
  simp [h4]
end Go.Cert

set_option linter.unusedSimpArgs false
set_option linter.unusedVariables false
namespace Go.Cert
open Go.V
theorem bytesL_get (l : List UInt8) (j : Nat) (h : j < l.length) : (bytesL l).getD j [] = [AV.u8 l[j].toNat] := by
  simp [bytesL, List.getD_eq_getElem?_getD, List.getElem?_eq_getElem h]
theorem bytesL_take (l : List UInt8) (k : Nat) : (bytesL l).take k = bytesL (l.take k) := by simp [bytesL]
theorem bytesL_drop (l : List UInt8) (k : Nat) : (bytesL l).drop k = bytesL (l.drop k) := by simp [bytesL]
end Go.Cert
namespace Go.Proofs.Ytkbfngepdgdecaa
open Go Go.V Go.Cert
set_option maxHeartbeats 400000 in
set_option maxRecDepth 100000 in
theorem t88a (b : List UInt8) (n : Nat) (σ : Sg) (hn : n ≤ 8) (hb : b.length ≤ 1000000000000) : VCalls Try.prog 88 [.sl .any (bytesL b), .i n] σ (fun x σ' => (x = if b.length < n then .tup [.i 0, .b false] else .tup [.i (i64 (nBE (b.take n))), .b true]) ∧ σ' = σ) := by
  by_cases hs : b.length < n
  · rw [if_pos hs]
    (refine vfun (fun _ => .no) mixed Try.func88 (by kernel_rfl) ?_; simp only [bodyOf, Try.f88, Option.getD_some])
    repeat' (first | with_reducible rfl | exact .inr trivial | with_reducible apply And.intro | with_reducible apply vqx_step | with_reducible apply vqm_step | with_reducible refine vkp_free (by decide +kernel) ?_ | with_reducible intro _ | ((first | (with_reducible first | refine .rs ?_ | refine .ds (by kernel_rfl) ?_ | refine .dg (by kernel_rfl) ?_ | refine .rg ?_ | refine .ite ?_ | refine .ret ?_ | refine .skip ?_ | refine .exit ?_ | refine .scope ?_ | refine .seq (.label ?_) | refine .block ?_ | refine .seq ?_)); (try simp only [vO, vQ, ↓vP, vE, vS, vB, vL, vF, vM, vN, vbs_full, Nat.reduceEqDiff, Nat.reduceAdd, Nat.reduceLeDiff, ne_eq, not_false_eq_true, Nat.reduceMul, Nat.reduceSub, Int.toNat_zero, Int.reduceToNat, Try.underlying3, info3, Try.underlying34, info34, Try.underlying5, info5, vT])) | ((simp (disch := first | assumption | (apply Go.Cert.ne_of2; assumption; assumption) | (apply Go.Cert.ne_ob; assumption; assumption; (intro e; cases e; done)) | omega) only [w64, w8, tg_eq, Go.V.n1, Go.V.n2, Go.V.nn, Int.tdiv_eq_ediv_of_nonneg, Sg.set_same, Sg.set_ne, Sg.set_ne', Sg.del_ne, Sg.del_ne']); (try simp only [vO, vQ, ↓vP, vE, vS, vB, vL, vF, vM, vN, vbs_full, Nat.reduceEqDiff, Nat.reduceAdd, Nat.reduceLeDiff, ne_eq, not_false_eq_true, Nat.reduceMul, Nat.reduceSub, Int.toNat_zero, Int.reduceToNat, Try.underlying3, info3, Try.underlying34, info34, Try.underlying5, info5, vT])) | with_reducible refine vfresh_set ?_ | with_reducible refine vfresh_intro (fun _ _ => ?_) | with_reducible refine vif_intro (fun _ => ?_) (fun _ => ?_) | omega | ((with_reducible first | refine vop_at ?_ | refine vops_at ?_ | refine vquiet_at ?_ | refine vmix_at ?_ | refine Holds_at ?_); simp only [vO, vQ, ↓vP, vE, vS, vB, vL, vF, vM, vN, vbs_full, Nat.reduceEqDiff, Nat.reduceAdd, Nat.reduceLeDiff, ne_eq, not_false_eq_true, Nat.reduceMul, Nat.reduceSub, Int.toNat_zero, Int.reduceToNat, Try.underlying3, info3, Try.underlying34, info34, Try.underlying5, info5, vT]))
    all_goals exact ⟨_, .refl _, rfl⟩
  rw [if_neg hs]
  (refine vfun (fun _ => .no) mixed Try.func88 (by kernel_rfl) ?_; simp only [bodyOf, Try.f88, Option.getD_some])
  repeat' (first | with_reducible rfl | exact .inr trivial | with_reducible apply And.intro | with_reducible apply vqx_step | with_reducible apply vqm_step | with_reducible refine vkp_free (by decide +kernel) ?_ | with_reducible intro _ | ((first | (with_reducible first | refine .rs ?_ | refine .ds (by kernel_rfl) ?_ | refine .dg (by kernel_rfl) ?_ | refine .rg ?_ | refine .ite ?_ | refine .ret ?_ | refine .skip ?_ | refine .exit ?_ | refine .scope ?_ | refine .seq (.label ?_) | refine .block ?_ | refine .seq ?_)); (try simp only [vO, vQ, ↓vP, vE, vS, vB, vL, vF, vM, vN, vbs_full, Nat.reduceEqDiff, Nat.reduceAdd, Nat.reduceLeDiff, ne_eq, not_false_eq_true, Nat.reduceMul, Nat.reduceSub, Int.toNat_zero, Int.reduceToNat, Try.underlying3, info3, Try.underlying34, info34, Try.underlying5, info5, bytesL_take, vT])) | ((simp (disch := first | assumption | (apply Go.Cert.ne_of2; assumption; assumption) | (apply Go.Cert.ne_ob; assumption; assumption; (intro e; cases e; done)) | omega) only [w64, w8, tg_eq, Go.V.n1, Go.V.n2, Go.V.nn, Int.tdiv_eq_ediv_of_nonneg, Sg.set_same, Sg.set_ne, Sg.set_ne', Sg.del_ne, Sg.del_ne']); (try simp only [vO, vQ, ↓vP, vE, vS, vB, vL, vF, vM, vN, vbs_full, Nat.reduceEqDiff, Nat.reduceAdd, Nat.reduceLeDiff, ne_eq, not_false_eq_true, Nat.reduceMul, Nat.reduceSub, Int.toNat_zero, Int.reduceToNat, Try.underlying3, info3, Try.underlying34, info34, Try.underlying5, info5, bytesL_take, vT])) | with_reducible refine vfresh_set ?_ | with_reducible refine vfresh_intro (fun _ _ => ?_) | with_reducible refine vif_intro (fun _ => ?_) (fun _ => ?_) | omega | ((with_reducible first | refine vop_at ?_ | refine vops_at ?_ | refine vquiet_at ?_ | refine vmix_at ?_ | refine Holds_at ?_); simp only [vO, vQ, ↓vP, vE, vS, vB, vL, vF, vM, vN, vbs_full, Nat.reduceEqDiff, Nat.reduceAdd, Nat.reduceLeDiff, ne_eq, not_false_eq_true, Nat.reduceMul, Nat.reduceSub, Int.toNat_zero, Int.reduceToNat, Try.underlying3, info3, Try.underlying34, info34, Try.underlying5, info5, bytesL_take, vT]))
  refine VW.loop3 (0 : Nat) () () (fun j _ _ => j ≤ n) (fun j _ _ => [(6, .i (i64 (nBE (b.take j)))), (15, .sl .any (bytesL (b.take n))), (16, .i n), (17, .i j)]) (fun _ _ _ => σ) (fun j _ _ => n - j) (Nat.zero_le _) (.refl _) ?_ ?_
  · simp only [vO, vQ, ↓vP, vE, vS, vB, vL, vF, vM, vN, vbs_full, Nat.reduceEqDiff, Nat.reduceAdd, Nat.reduceLeDiff, ne_eq, not_false_eq_true, Nat.reduceMul, Nat.reduceSub, Int.toNat_zero, Int.reduceToNat, vT]
    exact ⟨rfl, i_eq (by rw [List.length_take]; omega), rfl⟩
  rintro j _ _ h1
  rcases Nat.lt_or_ge j n with hj | hj
  · have hg : (bytesL (b.take n)).getD j [] = [AV.u8 (b[j]'(by omega)).toNat] := by
      rw [bytesL_get _ j (by simp; omega)]
      simp
    have hst := nBE_step b j (by omega)
    generalize (b[j]'(by omega)) = c at hg hst
    have hc : c.toNat < 256 := UInt8.toNat_lt c
    have hor := or_byte (nBE (b.take j)) c.toNat hc
    rw [← hst] at hor
    repeat' (first | with_reducible rfl | exact .inr trivial | with_reducible apply And.intro | with_reducible apply vqx_step | with_reducible apply vqm_step | with_reducible refine vkp_free (by decide +kernel) ?_ | with_reducible intro _ | ((first | (with_reducible first | refine .rs ?_ | refine .ds (by kernel_rfl) ?_ | refine .dg (by kernel_rfl) ?_ | refine .rg ?_ | refine .ite ?_ | refine .ret ?_ | refine .skip ?_ | refine .exit ?_ | refine .scope ?_ | refine .seq (.label ?_) | refine .block ?_ | refine .seq ?_)); (try simp only [vO, vQ, ↓vP, vE, vS, vB, vL, vF, vM, vN, vbs_full, Nat.reduceEqDiff, Nat.reduceAdd, Nat.reduceLeDiff, ne_eq, not_false_eq_true, Nat.reduceMul, Nat.reduceSub, Int.toNat_zero, Int.reduceToNat, Try.underlying3, info3, Try.underlying34, info34, Try.underlying5, info5, hg, hor, vT])) | ((simp (disch := first | assumption | (apply Go.Cert.ne_of2; assumption; assumption) | (apply Go.Cert.ne_ob; assumption; assumption; (intro e; cases e; done)) | omega) only [w64, w8, tg_eq, Go.V.n1, Go.V.n2, Go.V.nn, Int.tdiv_eq_ediv_of_nonneg, Sg.set_same, Sg.set_ne, Sg.set_ne', Sg.del_ne, Sg.del_ne']); (try simp only [vO, vQ, ↓vP, vE, vS, vB, vL, vF, vM, vN, vbs_full, Nat.reduceEqDiff, Nat.reduceAdd, Nat.reduceLeDiff, ne_eq, not_false_eq_true, Nat.reduceMul, Nat.reduceSub, Int.toNat_zero, Int.reduceToNat, Try.underlying3, info3, Try.underlying34, info34, Try.underlying5, info5, hg, hor, vT])) | with_reducible refine vfresh_set ?_ | with_reducible refine vfresh_intro (fun _ _ => ?_) | with_reducible refine vif_intro (fun _ => ?_) (fun _ => ?_) | omega | ((with_reducible first | refine vop_at ?_ | refine vops_at ?_ | refine vquiet_at ?_ | refine vmix_at ?_ | refine Holds_at ?_); simp only [vO, vQ, ↓vP, vE, vS, vB, vL, vF, vM, vN, vbs_full, Nat.reduceEqDiff, Nat.reduceAdd, Nat.reduceLeDiff, ne_eq, not_false_eq_true, Nat.reduceMul, Nat.reduceSub, Int.toNat_zero, Int.reduceToNat, Try.underlying3, info3, Try.underlying34, info34, Try.underlying5, info5, hg, hor, vT]))
    · rw [List.length_take]; omega
    · exact ⟨j + 1, (), (), ⟨by omega, by omega⟩, .refl _, rfl, rfl⟩
  · obtain rfl : j = n := by omega
    repeat' (first | with_reducible rfl | exact .inr trivial | with_reducible apply And.intro | with_reducible apply vqx_step | with_reducible apply vqm_step | with_reducible refine vkp_free (by decide +kernel) ?_ | with_reducible intro _ | ((first | (with_reducible first | refine .rs ?_ | refine .ds (by kernel_rfl) ?_ | refine .dg (by kernel_rfl) ?_ | refine .rg ?_ | refine .ite ?_ | refine .ret ?_ | refine .skip ?_ | refine .exit ?_ | refine .scope ?_ | refine .seq (.label ?_) | refine .block ?_ | refine .seq ?_)); (try simp only [vO, vQ, ↓vP, vE, vS, vB, vL, vF, vM, vN, vbs_full, Nat.reduceEqDiff, Nat.reduceAdd, Nat.reduceLeDiff, ne_eq, not_false_eq_true, Nat.reduceMul, Nat.reduceSub, Int.toNat_zero, Int.reduceToNat, Try.underlying3, info3, Try.underlying34, info34, Try.underlying5, info5, vT])) | ((simp (disch := first | assumption | (apply Go.Cert.ne_of2; assumption; assumption) | (apply Go.Cert.ne_ob; assumption; assumption; (intro e; cases e; done)) | omega) only [w64, w8, tg_eq, Go.V.n1, Go.V.n2, Go.V.nn, Int.tdiv_eq_ediv_of_nonneg, Sg.set_same, Sg.set_ne, Sg.set_ne', Sg.del_ne, Sg.del_ne']); (try simp only [vO, vQ, ↓vP, vE, vS, vB, vL, vF, vM, vN, vbs_full, Nat.reduceEqDiff, Nat.reduceAdd, Nat.reduceLeDiff, ne_eq, not_false_eq_true, Nat.reduceMul, Nat.reduceSub, Int.toNat_zero, Int.reduceToNat, Try.underlying3, info3, Try.underlying34, info34, Try.underlying5, info5, vT])) | with_reducible refine vfresh_set ?_ | with_reducible refine vfresh_intro (fun _ _ => ?_) | with_reducible refine vif_intro (fun _ => ?_) (fun _ => ?_) | omega | ((with_reducible first | refine vop_at ?_ | refine vops_at ?_ | refine vquiet_at ?_ | refine vmix_at ?_ | refine Holds_at ?_); simp only [vO, vQ, ↓vP, vE, vS, vB, vL, vF, vM, vN, vbs_full, Nat.reduceEqDiff, Nat.reduceAdd, Nat.reduceLeDiff, ne_eq, not_false_eq_true, Nat.reduceMul, Nat.reduceSub, Int.toNat_zero, Int.reduceToNat, Try.underlying3, info3, Try.underlying34, info34, Try.underlying5, info5, vT]))
    all_goals exact ⟨_, .refl _, rfl⟩
theorem t88 (k : Own) (b : List UInt8) (n : Nat) (σ : Sg) (hn : n ≤ 8) (hb : b.length ≤ 1000000000000) : VCalls Try.prog 88 [.sl k (bytesL b), .i n] σ (fun x σ' => (x = if b.length < n then .tup [.i 0, .b false] else .tup [.i (i64 (nBE (b.take n))), .b true]) ∧ σ' = σ) := (t88a b n σ hn hb).arg1 (AVw.any _ _)
theorem i64_4 (b : List UInt8) : i64 (nBE (b.take 4)) = (nBE (b.take 4) : Int) ∧ nBE (b.take 4) < 4294967296 := by
  have h := nBE_lt (b.take 4)
  have h2 : 256 ^ (b.take 4).length ≤ 256 ^ 4 := Nat.pow_le_pow_right (by omega) (by simp; omega)
  have h3 : nBE (b.take 4) < 4294967296 := Nat.lt_of_lt_of_le h (by simpa using h2)
  exact ⟨i64_small (by omega), h3⟩
set_option maxHeartbeats 400000 in
set_option maxRecDepth 100000 in
theorem t83 (k : Own) (b : List UInt8) (m : Nat) (σ : Sg) (hb : b.length ≤ 1000000000000) : VCalls Try.prog 83 [.sl k (bytesL b), .i m] σ (fun x σ' => (x = if b.length < 4 then .tup [.i 0, .i 3] else if m < nBE (b.take 4) then .tup [.i 0, .i 2] else .tup [.i (nBE (b.take 4) : Nat), .i 0]) ∧ σ' = σ) := by
  have h88 : ∀ σ, VCalls Try.prog 88 [.sl k (bytesL b), .i 4] σ _ := fun σ => t88 k b 4 σ (by omega) hb
  obtain ⟨h4, h4l⟩ := i64_4 b
  rw [h4] at h88
  by_cases hs : b.length < 4
  · rw [if_pos hs]
    rw [if_pos hs] at h88
    (refine vfun (fun _ => .no) mixed Try.func83 (by kernel_rfl) ?_; simp only [bodyOf, Try.f83, Option.getD_some])
    repeat' (first | with_reducible rfl | exact .inr trivial | with_reducible apply And.intro | with_reducible apply vqx_step | with_reducible apply vqm_step | with_reducible refine vkp_free (by decide +kernel) ?_ | with_reducible intro _ | ((first | (with_reducible first | refine .rs ?_ | refine .ds (by kernel_rfl) ?_ | refine .dg (by kernel_rfl) ?_ | refine .rg ?_ | refine .ite ?_ | refine .ret ?_ | refine .skip ?_ | refine .exit ?_ | refine .scope ?_ | refine .seq (.label ?_) | refine .block ?_ | refine .seq ?_)); (try simp only [vO, vQ, ↓vP, vE, vS, vB, vL, vF, vM, vN, vbs_full, Nat.reduceEqDiff, Nat.reduceAdd, Nat.reduceLeDiff, ne_eq, not_false_eq_true, Nat.reduceMul, Nat.reduceSub, Int.toNat_zero, Int.reduceToNat, Try.underlying3, info3, Try.underlying34, info34, Try.underlying5, info5, Try.underlying35, info35, vT])) | ((simp (disch := first | assumption | (apply Go.Cert.ne_of2; assumption; assumption) | (apply Go.Cert.ne_ob; assumption; assumption; (intro e; cases e; done)) | omega) only [w64, w8, tg_eq, Go.V.n1, Go.V.n2, Go.V.nn, Int.tdiv_eq_ediv_of_nonneg, Sg.set_same, Sg.set_ne, Sg.set_ne', Sg.del_ne, Sg.del_ne']); (try simp only [vO, vQ, ↓vP, vE, vS, vB, vL, vF, vM, vN, vbs_full, Nat.reduceEqDiff, Nat.reduceAdd, Nat.reduceLeDiff, ne_eq, not_false_eq_true, Nat.reduceMul, Nat.reduceSub, Int.toNat_zero, Int.reduceToNat, Try.underlying3, info3, Try.underlying34, info34, Try.underlying5, info5, Try.underlying35, info35, vT])) | ((((with_reducible refine (h88 _).mono ?_); rintro _ σ' ⟨rfl, rfl⟩)); (try simp only [vO, vQ, ↓vP, vE, vS, vB, vL, vF, vM, vN, vbs_full, Nat.reduceEqDiff, Nat.reduceAdd, Nat.reduceLeDiff, ne_eq, not_false_eq_true, Nat.reduceMul, Nat.reduceSub, Int.toNat_zero, Int.reduceToNat, Try.underlying3, info3, Try.underlying34, info34, Try.underlying5, info5, Try.underlying35, info35, vT])) | with_reducible refine vfresh_set ?_ | with_reducible refine vfresh_intro (fun _ _ => ?_) | with_reducible refine vif_intro (fun _ => ?_) (fun _ => ?_) | omega | ((with_reducible first | refine vop_at ?_ | refine vops_at ?_ | refine vquiet_at ?_ | refine vmix_at ?_ | refine Holds_at ?_); simp only [vO, vQ, ↓vP, vE, vS, vB, vL, vF, vM, vN, vbs_full, Nat.reduceEqDiff, Nat.reduceAdd, Nat.reduceLeDiff, ne_eq, not_false_eq_true, Nat.reduceMul, Nat.reduceSub, Int.toNat_zero, Int.reduceToNat, Try.underlying3, info3, Try.underlying34, info34, Try.underlying5, info5, Try.underlying35, info35, vT]))
    all_goals exact ⟨_, .refl _, rfl⟩
  · rw [if_neg hs]
    rw [if_neg hs] at h88
    generalize nBE (b.take 4) = n at *
    (refine vfun (fun _ => .no) mixed Try.func83 (by kernel_rfl) ?_; simp only [bodyOf, Try.f83, Option.getD_some])
    repeat' (first | with_reducible rfl | exact .inr trivial | with_reducible apply And.intro | with_reducible apply vqx_step | with_reducible apply vqm_step | with_reducible refine vkp_free (by decide +kernel) ?_ | with_reducible intro _ | ((first | (with_reducible first | refine .rs ?_ | refine .ds (by kernel_rfl) ?_ | refine .dg (by kernel_rfl) ?_ | refine .rg ?_ | refine .ite ?_ | refine .ret ?_ | refine .skip ?_ | refine .exit ?_ | refine .scope ?_ | refine .seq (.label ?_) | refine .block ?_ | refine .seq ?_)); (try simp only [vO, vQ, ↓vP, vE, vS, vB, vL, vF, vM, vN, vbs_full, Nat.reduceEqDiff, Nat.reduceAdd, Nat.reduceLeDiff, ne_eq, not_false_eq_true, Nat.reduceMul, Nat.reduceSub, Int.toNat_zero, Int.reduceToNat, Try.underlying3, info3, Try.underlying34, info34, Try.underlying5, info5, Try.underlying35, info35, vT])) | ((simp (disch := first | assumption | (apply Go.Cert.ne_of2; assumption; assumption) | (apply Go.Cert.ne_ob; assumption; assumption; (intro e; cases e; done)) | omega) only [w64, w8, tg_eq, Go.V.n1, Go.V.n2, Go.V.nn, Int.tdiv_eq_ediv_of_nonneg, Sg.set_same, Sg.set_ne, Sg.set_ne', Sg.del_ne, Sg.del_ne']); (try simp only [vO, vQ, ↓vP, vE, vS, vB, vL, vF, vM, vN, vbs_full, Nat.reduceEqDiff, Nat.reduceAdd, Nat.reduceLeDiff, ne_eq, not_false_eq_true, Nat.reduceMul, Nat.reduceSub, Int.toNat_zero, Int.reduceToNat, Try.underlying3, info3, Try.underlying34, info34, Try.underlying5, info5, Try.underlying35, info35, vT])) | ((((with_reducible refine (h88 _).mono ?_); rintro _ σ' ⟨rfl, rfl⟩)); (try simp only [vO, vQ, ↓vP, vE, vS, vB, vL, vF, vM, vN, vbs_full, Nat.reduceEqDiff, Nat.reduceAdd, Nat.reduceLeDiff, ne_eq, not_false_eq_true, Nat.reduceMul, Nat.reduceSub, Int.toNat_zero, Int.reduceToNat, Try.underlying3, info3, Try.underlying34, info34, Try.underlying5, info5, Try.underlying35, info35, vT])) | with_reducible refine vfresh_set ?_ | with_reducible refine vfresh_intro (fun _ _ => ?_) | with_reducible refine vif_intro (fun _ => ?_) (fun _ => ?_) | omega | ((with_reducible first | refine vop_at ?_ | refine vops_at ?_ | refine vquiet_at ?_ | refine vmix_at ?_ | refine Holds_at ?_); simp only [vO, vQ, ↓vP, vE, vS, vB, vL, vF, vM, vN, vbs_full, Nat.reduceEqDiff, Nat.reduceAdd, Nat.reduceLeDiff, ne_eq, not_false_eq_true, Nat.reduceMul, Nat.reduceSub, Int.toNat_zero, Int.reduceToNat, Try.underlying3, info3, Try.underlying34, info34, Try.underlying5, info5, Try.underlying35, info35, vT]))
    · exact ⟨_, .refl _, by rw [if_pos (by omega)], rfl⟩
    · exact ⟨_, .refl _, by rw [if_neg (by omega)], rfl⟩
set_option maxHeartbeats 400000 in
set_option maxRecDepth 100000 in
theorem t50 (k : Own) (b : List UInt8) (σ : Sg) (hb : b.length ≤ 1000000000000) : VCalls Try.prog 50 [.sl k (bytesL b)] σ (fun x σ' => (x = if b.length < 8 then .tup [.i 0, .i 0, .i 3] else .tup [.i (i64 (nBE (b.take 8))), .i 8, .i 0]) ∧ σ' = σ) := by
  have h88 : ∀ σ, VCalls Try.prog 88 [.sl k (bytesL b), .i 8] σ _ := fun σ => t88 k b 8 σ (by omega) hb
  by_cases hs : b.length < 8
  · rw [if_pos hs]
    rw [if_pos hs] at h88
    (refine vfun (fun _ => .no) mixed Try.func50 (by kernel_rfl) ?_; simp only [bodyOf, Try.f50, Option.getD_some])
    repeat' (first | with_reducible rfl | exact .inr trivial | with_reducible apply And.intro | with_reducible apply vqx_step | with_reducible apply vqm_step | with_reducible refine vkp_free (by decide +kernel) ?_ | with_reducible intro _ | ((first | (with_reducible first | refine .rs ?_ | refine .ds (by kernel_rfl) ?_ | refine .dg (by kernel_rfl) ?_ | refine .rg ?_ | refine .ite ?_ | refine .ret ?_ | refine .skip ?_ | refine .exit ?_ | refine .scope ?_ | refine .seq (.label ?_) | refine .block ?_ | refine .seq ?_)); (try simp only [vO, vQ, ↓vP, vE, vS, vB, vL, vF, vM, vN, vbs_full, Nat.reduceEqDiff, Nat.reduceAdd, Nat.reduceLeDiff, ne_eq, not_false_eq_true, Nat.reduceMul, Nat.reduceSub, Int.toNat_zero, Int.reduceToNat, Try.underlying3, info3, Try.underlying34, info34, Try.underlying5, info5, Try.underlying35, info35, vT])) | ((simp (disch := first | assumption | (apply Go.Cert.ne_of2; assumption; assumption) | (apply Go.Cert.ne_ob; assumption; assumption; (intro e; cases e; done)) | omega) only [w64, w8, tg_eq, Go.V.n1, Go.V.n2, Go.V.nn, Int.tdiv_eq_ediv_of_nonneg, Sg.set_same, Sg.set_ne, Sg.set_ne', Sg.del_ne, Sg.del_ne']); (try simp only [vO, vQ, ↓vP, vE, vS, vB, vL, vF, vM, vN, vbs_full, Nat.reduceEqDiff, Nat.reduceAdd, Nat.reduceLeDiff, ne_eq, not_false_eq_true, Nat.reduceMul, Nat.reduceSub, Int.toNat_zero, Int.reduceToNat, Try.underlying3, info3, Try.underlying34, info34, Try.underlying5, info5, Try.underlying35, info35, vT])) | ((((with_reducible refine (h88 _).mono ?_); rintro _ σ' ⟨rfl, rfl⟩)); (try simp only [vO, vQ, ↓vP, vE, vS, vB, vL, vF, vM, vN, vbs_full, Nat.reduceEqDiff, Nat.reduceAdd, Nat.reduceLeDiff, ne_eq, not_false_eq_true, Nat.reduceMul, Nat.reduceSub, Int.toNat_zero, Int.reduceToNat, Try.underlying3, info3, Try.underlying34, info34, Try.underlying5, info5, Try.underlying35, info35, vT])) | with_reducible refine vfresh_set ?_ | with_reducible refine vfresh_intro (fun _ _ => ?_) | with_reducible refine vif_intro (fun _ => ?_) (fun _ => ?_) | omega | ((with_reducible first | refine vop_at ?_ | refine vops_at ?_ | refine vquiet_at ?_ | refine vmix_at ?_ | refine Holds_at ?_); simp only [vO, vQ, ↓vP, vE, vS, vB, vL, vF, vM, vN, vbs_full, Nat.reduceEqDiff, Nat.reduceAdd, Nat.reduceLeDiff, ne_eq, not_false_eq_true, Nat.reduceMul, Nat.reduceSub, Int.toNat_zero, Int.reduceToNat, Try.underlying3, info3, Try.underlying34, info34, Try.underlying5, info5, Try.underlying35, info35, vT]))
    all_goals exact ⟨_, .refl _, rfl⟩
  · rw [if_neg hs]
    rw [if_neg hs] at h88
    (refine vfun (fun _ => .no) mixed Try.func50 (by kernel_rfl) ?_; simp only [bodyOf, Try.f50, Option.getD_some])
    repeat' (first | with_reducible rfl | exact .inr trivial | with_reducible apply And.intro | with_reducible apply vqx_step | with_reducible apply vqm_step | with_reducible refine vkp_free (by decide +kernel) ?_ | with_reducible intro _ | ((first | (with_reducible first | refine .rs ?_ | refine .ds (by kernel_rfl) ?_ | refine .dg (by kernel_rfl) ?_ | refine .rg ?_ | refine .ite ?_ | refine .ret ?_ | refine .skip ?_ | refine .exit ?_ | refine .scope ?_ | refine .seq (.label ?_) | refine .block ?_ | refine .seq ?_)); (try simp only [vO, vQ, ↓vP, vE, vS, vB, vL, vF, vM, vN, vbs_full, Nat.reduceEqDiff, Nat.reduceAdd, Nat.reduceLeDiff, ne_eq, not_false_eq_true, Nat.reduceMul, Nat.reduceSub, Int.toNat_zero, Int.reduceToNat, Try.underlying3, info3, Try.underlying34, info34, Try.underlying5, info5, Try.underlying35, info35, vT])) | ((simp (disch := first | assumption | (apply Go.Cert.ne_of2; assumption; assumption) | (apply Go.Cert.ne_ob; assumption; assumption; (intro e; cases e; done)) | omega) only [w64, w8, tg_eq, Go.V.n1, Go.V.n2, Go.V.nn, Int.tdiv_eq_ediv_of_nonneg, Sg.set_same, Sg.set_ne, Sg.set_ne', Sg.del_ne, Sg.del_ne']); (try simp only [vO, vQ, ↓vP, vE, vS, vB, vL, vF, vM, vN, vbs_full, Nat.reduceEqDiff, Nat.reduceAdd, Nat.reduceLeDiff, ne_eq, not_false_eq_true, Nat.reduceMul, Nat.reduceSub, Int.toNat_zero, Int.reduceToNat, Try.underlying3, info3, Try.underlying34, info34, Try.underlying5, info5, Try.underlying35, info35, vT])) | ((((with_reducible refine (h88 _).mono ?_); rintro _ σ' ⟨rfl, rfl⟩)); (try simp only [vO, vQ, ↓vP, vE, vS, vB, vL, vF, vM, vN, vbs_full, Nat.reduceEqDiff, Nat.reduceAdd, Nat.reduceLeDiff, ne_eq, not_false_eq_true, Nat.reduceMul, Nat.reduceSub, Int.toNat_zero, Int.reduceToNat, Try.underlying3, info3, Try.underlying34, info34, Try.underlying5, info5, Try.underlying35, info35, vT])) | with_reducible refine vfresh_set ?_ | with_reducible refine vfresh_intro (fun _ _ => ?_) | with_reducible refine vif_intro (fun _ => ?_) (fun _ => ?_) | omega | ((with_reducible first | refine vop_at ?_ | refine vops_at ?_ | refine vquiet_at ?_ | refine vmix_at ?_ | refine Holds_at ?_); simp only [vO, vQ, ↓vP, vE, vS, vB, vL, vF, vM, vN, vbs_full, Nat.reduceEqDiff, Nat.reduceAdd, Nat.reduceLeDiff, ne_eq, not_false_eq_true, Nat.reduceMul, Nat.reduceSub, Int.toNat_zero, Int.reduceToNat, Try.underlying3, info3, Try.underlying34, info34, Try.underlying5, info5, Try.underlying35, info35, vT]))
    all_goals exact ⟨_, .refl _, rfl⟩
set_option maxHeartbeats 400000 in
set_option maxRecDepth 100000 in
theorem t51 (k k' : Own) (a b : List UInt8) (σ : Sg) : VCalls Try.prog 51 [.sl k (bytesL a), .sl k' (bytesL b)] σ (fun x σ' => x = .b (decide (a = b)) ∧ σ' = σ) := by
  (refine vfun (fun _ => .no) mixed Try.func51 (by kernel_rfl) ?_; simp only [bodyOf, Try.f51, Option.getD_some])
  repeat' (first | with_reducible rfl | exact .inr trivial | with_reducible apply And.intro | with_reducible apply vqx_step | with_reducible apply vqm_step | with_reducible refine vkp_free (by decide +kernel) ?_ | with_reducible intro _ | ((first | (with_reducible first | refine .rs ?_ | refine .ds (by kernel_rfl) ?_ | refine .dg (by kernel_rfl) ?_ | refine .rg ?_ | refine .ite ?_ | refine .ret ?_ | refine .skip ?_ | refine .exit ?_ | refine .scope ?_ | refine .seq (.label ?_) | refine .block ?_ | refine .seq ?_)); (try simp only [vO, vQ, ↓vP, vE, vS, vB, vL, vF, vM, vN, vbs_full, Nat.reduceEqDiff, Nat.reduceAdd, Nat.reduceLeDiff, ne_eq, not_false_eq_true, Nat.reduceMul, Nat.reduceSub, Int.toNat_zero, Int.reduceToNat, Try.underlying3, info3, Try.underlying34, info34, Try.underlying5, info5, Try.underlying9, info9, vT])) | ((simp (disch := first | assumption | (apply Go.Cert.ne_of2; assumption; assumption) | (apply Go.Cert.ne_ob; assumption; assumption; (intro e; cases e; done)) | omega) only [w64, w8, tg_eq, Go.V.n1, Go.V.n2, Go.V.nn, Int.tdiv_eq_ediv_of_nonneg, Sg.set_same, Sg.set_ne, Sg.set_ne', Sg.del_ne, Sg.del_ne']); (try simp only [vO, vQ, ↓vP, vE, vS, vB, vL, vF, vM, vN, vbs_full, Nat.reduceEqDiff, Nat.reduceAdd, Nat.reduceLeDiff, ne_eq, not_false_eq_true, Nat.reduceMul, Nat.reduceSub, Int.toNat_zero, Int.reduceToNat, Try.underlying3, info3, Try.underlying34, info34, Try.underlying5, info5, Try.underlying9, info9, vT])) | ((with_reducible refine ⟨bs a, (bs_bytesAV a).symm, ?_⟩); (try simp only [vO, vQ, ↓vP, vE, vS, vB, vL, vF, vM, vN, vbs_full, Nat.reduceEqDiff, Nat.reduceAdd, Nat.reduceLeDiff, ne_eq, not_false_eq_true, Nat.reduceMul, Nat.reduceSub, Int.toNat_zero, Int.reduceToNat, Try.underlying3, info3, Try.underlying34, info34, Try.underlying5, info5, Try.underlying9, info9, vT])) | ((with_reducible refine ⟨bs b, (bs_bytesAV b).symm, ?_⟩); (try simp only [vO, vQ, ↓vP, vE, vS, vB, vL, vF, vM, vN, vbs_full, Nat.reduceEqDiff, Nat.reduceAdd, Nat.reduceLeDiff, ne_eq, not_false_eq_true, Nat.reduceMul, Nat.reduceSub, Int.toNat_zero, Int.reduceToNat, Try.underlying3, info3, Try.underlying34, info34, Try.underlying5, info5, Try.underlying9, info9, vT])) | with_reducible refine vfresh_set ?_ | with_reducible refine vfresh_intro (fun _ _ => ?_) | with_reducible refine vif_intro (fun _ => ?_) (fun _ => ?_) | omega | ((with_reducible first | refine vop_at ?_ | refine vops_at ?_ | refine vquiet_at ?_ | refine vmix_at ?_ | refine Holds_at ?_); simp only [vO, vQ, ↓vP, vE, vS, vB, vL, vF, vM, vN, vbs_full, Nat.reduceEqDiff, Nat.reduceAdd, Nat.reduceLeDiff, ne_eq, not_false_eq_true, Nat.reduceMul, Nat.reduceSub, Int.toNat_zero, Int.reduceToNat, Try.underlying3, info3, Try.underlying34, info34, Try.underlying5, info5, Try.underlying9, info9, vT]))
  all_goals exact ⟨_, .refl _, rfl⟩
theorem lose_any {f : FuncId} {args : List AV} {es : List (List AV)} {σ : Sg} (h : VCalls Try.prog f args σ (fun x σ' => ∃ k, x = .sl k es ∧ σ.sub σ')) : VCalls Try.prog f args σ (fun x σ' => x = .sl .any es ∧ σ' = σ) :=
  h.lose fun x σ' hx => by
    obtain ⟨k, rfl, hs⟩ := hx
    exact ⟨_, σ, AVw.any _ _, hs, rfl, rfl⟩
set_option maxHeartbeats 400000 in
set_option maxRecDepth 100000 in
theorem t112 (k : Own) (b : List UInt8) (σ : Sg) (hb : b.length ≤ 1000000000000) : VCalls Try.prog 112 [.sl k (bytesL b)] σ (fun x σ' => x = .sl .any (bytesL b) ∧ σ' = σ) := by
  refine VCalls.arg1 (AVw.any _ _) ?_
  cases b with
  | nil =>
    refine VCalls.any1 ?_ ?_
    · refine lose_any ?_
      (refine vfun (fun _ => .no) mixed Try.func112 (by kernel_rfl) ?_; simp only [bodyOf, Try.f112, Option.getD_some])
      repeat' (first | with_reducible rfl | exact .inr trivial | with_reducible apply And.intro | with_reducible apply vqx_step | with_reducible apply vqm_step | with_reducible refine vkp_free (by decide +kernel) ?_ | with_reducible intro _ | ((first | (with_reducible first | refine .rs ?_ | refine .ds (by kernel_rfl) ?_ | refine .dg (by kernel_rfl) ?_ | refine .rg ?_ | refine .ite ?_ | refine .ret ?_ | refine .skip ?_ | refine .exit ?_ | refine .scope ?_ | refine .seq (.label ?_) | refine .block ?_ | refine .seq ?_)); (try simp only [vO, vQ, ↓vP, vE, vS, vB, vL, vF, vM, vN, vbs_full, Nat.reduceEqDiff, Nat.reduceAdd, Nat.reduceLeDiff, ne_eq, not_false_eq_true, Nat.reduceMul, Nat.reduceSub, Int.toNat_zero, Int.reduceToNat, Try.underlying3, info3, Try.underlying34, info34, Try.underlying5, info5, Try.underlying9, info9, vT])) | ((simp (disch := first | assumption | (apply Go.Cert.ne_of2; assumption; assumption) | (apply Go.Cert.ne_ob; assumption; assumption; (intro e; cases e; done)) | omega) only [w64, w8, tg_eq, Go.V.n1, Go.V.n2, Go.V.nn, Int.tdiv_eq_ediv_of_nonneg, Sg.set_same, Sg.set_ne, Sg.set_ne', Sg.del_ne, Sg.del_ne']); (try simp only [vO, vQ, ↓vP, vE, vS, vB, vL, vF, vM, vN, vbs_full, Nat.reduceEqDiff, Nat.reduceAdd, Nat.reduceLeDiff, ne_eq, not_false_eq_true, Nat.reduceMul, Nat.reduceSub, Int.toNat_zero, Int.reduceToNat, Try.underlying3, info3, Try.underlying34, info34, Try.underlying5, info5, Try.underlying9, info9, vT])) | with_reducible refine vfresh_set ?_ | with_reducible refine vfresh_intro (fun _ _ => ?_) | with_reducible refine vif_intro (fun _ => ?_) (fun _ => ?_) | omega | ((with_reducible first | refine vop_at ?_ | refine vops_at ?_ | refine vquiet_at ?_ | refine vmix_at ?_ | refine Holds_at ?_); simp only [vO, vQ, ↓vP, vE, vS, vB, vL, vF, vM, vN, vbs_full, Nat.reduceEqDiff, Nat.reduceAdd, Nat.reduceLeDiff, ne_eq, not_false_eq_true, Nat.reduceMul, Nat.reduceSub, Int.toNat_zero, Int.reduceToNat, Try.underlying3, info3, Try.underlying34, info34, Try.underlying5, info5, Try.underlying9, info9, vT]))
      exact ⟨_, .refl _, _, rfl, .refl _⟩
    · refine lose_any ?_
      (refine vfun (fun _ => .no) mixed Try.func112 (by kernel_rfl) ?_; simp only [bodyOf, Try.f112, Option.getD_some])
      repeat' (first | with_reducible rfl | exact .inr trivial | with_reducible apply And.intro | with_reducible apply vqx_step | with_reducible apply vqm_step | with_reducible refine vkp_free (by decide +kernel) ?_ | with_reducible intro _ | ((first | (with_reducible first | refine .rs ?_ | refine .ds (by kernel_rfl) ?_ | refine .dg (by kernel_rfl) ?_ | refine .rg ?_ | refine .ite ?_ | refine .ret ?_ | refine .skip ?_ | refine .exit ?_ | refine .scope ?_ | refine .seq (.label ?_) | refine .block ?_ | refine .seq ?_)); (try simp only [vO, vQ, ↓vP, vE, vS, vB, vL, vF, vM, vN, vbs_full, Nat.reduceEqDiff, Nat.reduceAdd, Nat.reduceLeDiff, ne_eq, not_false_eq_true, Nat.reduceMul, Nat.reduceSub, Int.toNat_zero, Int.reduceToNat, Try.underlying3, info3, Try.underlying34, info34, Try.underlying5, info5, Try.underlying9, info9, vT])) | ((simp (disch := first | assumption | (apply Go.Cert.ne_of2; assumption; assumption) | (apply Go.Cert.ne_ob; assumption; assumption; (intro e; cases e; done)) | omega) only [w64, w8, tg_eq, Go.V.n1, Go.V.n2, Go.V.nn, Int.tdiv_eq_ediv_of_nonneg, Sg.set_same, Sg.set_ne, Sg.set_ne', Sg.del_ne, Sg.del_ne']); (try simp only [vO, vQ, ↓vP, vE, vS, vB, vL, vF, vM, vN, vbs_full, Nat.reduceEqDiff, Nat.reduceAdd, Nat.reduceLeDiff, ne_eq, not_false_eq_true, Nat.reduceMul, Nat.reduceSub, Int.toNat_zero, Int.reduceToNat, Try.underlying3, info3, Try.underlying34, info34, Try.underlying5, info5, Try.underlying9, info9, vT])) | with_reducible refine vfresh_set ?_ | with_reducible refine vfresh_intro (fun _ _ => ?_) | with_reducible refine vif_intro (fun _ => ?_) (fun _ => ?_) | omega | ((with_reducible first | refine vop_at ?_ | refine vops_at ?_ | refine vquiet_at ?_ | refine vmix_at ?_ | refine Holds_at ?_); simp only [vO, vQ, ↓vP, vE, vS, vB, vL, vF, vM, vN, vbs_full, Nat.reduceEqDiff, Nat.reduceAdd, Nat.reduceLeDiff, ne_eq, not_false_eq_true, Nat.reduceMul, Nat.reduceSub, Int.toNat_zero, Int.reduceToNat, Try.underlying3, info3, Try.underlying34, info34, Try.underlying5, info5, Try.underlying9, info9, vT]))
      exact ⟨_, .refl _, _, rfl, .refl _⟩
  | cons c r =>
    have hr : r.length + 1 ≤ 1000000000000 := hb
    have hv : ∀ e, veqT Try.prog 34 (.slice e) (.sl .any (bytesL (c :: r))) (.sl .nil []) = some false := fun e => rfl
    refine lose_any ?_
    (refine vfun (fun _ => .no) mixed Try.func112 (by kernel_rfl) ?_; simp only [bodyOf, Try.f112, Option.getD_some])
    repeat' (first | with_reducible rfl | exact .inr trivial | with_reducible apply And.intro | with_reducible apply vqx_step | with_reducible apply vqm_step | with_reducible refine vkp_free (by decide +kernel) ?_ | with_reducible intro _ | ((first | (with_reducible first | refine .rs ?_ | refine .ds (by kernel_rfl) ?_ | refine .dg (by kernel_rfl) ?_ | refine .rg ?_ | refine .ite ?_ | refine .ret ?_ | refine .skip ?_ | refine .exit ?_ | refine .scope ?_ | refine .seq (.label ?_) | refine .block ?_ | refine .seq ?_)); (try simp only [vO, vQ, ↓vP, vE, vS, vB, vL, vF, vM, vN, vbs_full, Nat.reduceEqDiff, Nat.reduceAdd, Nat.reduceLeDiff, ne_eq, not_false_eq_true, Nat.reduceMul, Nat.reduceSub, Int.toNat_zero, Int.reduceToNat, Try.underlying3, info3, Try.underlying34, info34, Try.underlying5, info5, Try.underlying9, info9, hv, vT])) | ((simp (disch := first | assumption | (apply Go.Cert.ne_of2; assumption; assumption) | (apply Go.Cert.ne_ob; assumption; assumption; (intro e; cases e; done)) | omega) only [w64, w8, tg_eq, Go.V.n1, Go.V.n2, Go.V.nn, Int.tdiv_eq_ediv_of_nonneg, Sg.set_same, Sg.set_ne, Sg.set_ne', Sg.del_ne, Sg.del_ne']); (try simp only [vO, vQ, ↓vP, vE, vS, vB, vL, vF, vM, vN, vbs_full, Nat.reduceEqDiff, Nat.reduceAdd, Nat.reduceLeDiff, ne_eq, not_false_eq_true, Nat.reduceMul, Nat.reduceSub, Int.toNat_zero, Int.reduceToNat, Try.underlying3, info3, Try.underlying34, info34, Try.underlying5, info5, Try.underlying9, info9, hv, vT])) | with_reducible refine vfresh_set ?_ | with_reducible refine vfresh_intro (fun _ _ => ?_) | with_reducible refine vif_intro (fun _ => ?_) (fun _ => ?_) | omega | ((with_reducible first | refine vop_at ?_ | refine vops_at ?_ | refine vquiet_at ?_ | refine vmix_at ?_ | refine Holds_at ?_); simp only [vO, vQ, ↓vP, vE, vS, vB, vL, vF, vM, vN, vbs_full, Nat.reduceEqDiff, Nat.reduceAdd, Nat.reduceLeDiff, ne_eq, not_false_eq_true, Nat.reduceMul, Nat.reduceSub, Int.toNat_zero, Int.reduceToNat, Try.underlying3, info3, Try.underlying34, info34, Try.underlying5, info5, Try.underlying9, info9, hv, vT]))
    · rename_i h
      exact absurd (congrArg List.length h) (by simp [bytesL])
    · exact ⟨_, .refl _, _, rfl, Sg.sub_set ‹_› _⟩
end Go.Proofs.Ytkbfngepdgdecaa

set_option linter.unusedSimpArgs false
set_option linter.unusedVariables false
namespace Go.Proofs.Ytkbfngepdgdecaa
open Go Go.V Go.Cert
set_option maxHeartbeats 400000 in
set_option maxRecDepth 100000 in
theorem t84n (k : Own) (b : List UInt8) (σ : Sg) (hb : b.length ≤ 1000000000000) (h : blobP b = none) : VCalls Try.prog 84 [.sl k (bytesL b)] σ (fun x σ' => ∃ e, e ≠ 0 ∧ x = .tup [.sl .nil [], .i 0, .i e] ∧ σ' = σ) := by
  have h83 : ∀ σ, VCalls Try.prog 83 [.sl k (bytesL b), .i 65536] σ _ := fun σ => t83 k b 65536 σ hb
  unfold blobP at h
  split at h
  · rename_i h1
    rw [if_pos h1] at h83
    (refine vfun (fun _ => .no) mixed Try.func84 (by kernel_rfl) ?_; simp only [bodyOf, Try.f84, Option.getD_some])
    repeat' (first | with_reducible rfl | exact .inr trivial | with_reducible apply And.intro | with_reducible apply vqx_step | with_reducible apply vqm_step | with_reducible refine vkp_free (by decide +kernel) ?_ | with_reducible intro _ | ((first | (with_reducible first | refine .rs ?_ | refine .ds (by kernel_rfl) ?_ | refine .dg (by kernel_rfl) ?_ | refine .rg ?_ | refine .ite ?_ | refine .ret ?_ | refine .skip ?_ | refine .exit ?_ | refine .scope ?_ | refine .seq (.label ?_) | refine .block ?_ | refine .seq ?_)); (try simp only [vO, vQ, ↓vP, vE, vS, vB, vL, vF, vM, vN, vbs_full, Nat.reduceEqDiff, Nat.reduceAdd, Nat.reduceLeDiff, ne_eq, not_false_eq_true, Nat.reduceMul, Nat.reduceSub, Int.toNat_zero, Int.reduceToNat, Try.underlying3, info3, Try.underlying34, info34, Try.underlying5, info5, Try.underlying35, info35, vT])) | ((simp (disch := first | assumption | (apply Go.Cert.ne_of2; assumption; assumption) | (apply Go.Cert.ne_ob; assumption; assumption; (intro e; cases e; done)) | omega) only [w64, w8, tg_eq, Go.V.n1, Go.V.n2, Go.V.nn, Int.tdiv_eq_ediv_of_nonneg, Sg.set_same, Sg.set_ne, Sg.set_ne', Sg.del_ne, Sg.del_ne']); (try simp only [vO, vQ, ↓vP, vE, vS, vB, vL, vF, vM, vN, vbs_full, Nat.reduceEqDiff, Nat.reduceAdd, Nat.reduceLeDiff, ne_eq, not_false_eq_true, Nat.reduceMul, Nat.reduceSub, Int.toNat_zero, Int.reduceToNat, Try.underlying3, info3, Try.underlying34, info34, Try.underlying5, info5, Try.underlying35, info35, vT])) | ((((with_reducible refine (h83 _).mono ?_); rintro _ σ' ⟨rfl, rfl⟩)); (try simp only [vO, vQ, ↓vP, vE, vS, vB, vL, vF, vM, vN, vbs_full, Nat.reduceEqDiff, Nat.reduceAdd, Nat.reduceLeDiff, ne_eq, not_false_eq_true, Nat.reduceMul, Nat.reduceSub, Int.toNat_zero, Int.reduceToNat, Try.underlying3, info3, Try.underlying34, info34, Try.underlying5, info5, Try.underlying35, info35, vT])) | with_reducible refine vfresh_set ?_ | with_reducible refine vfresh_intro (fun _ _ => ?_) | with_reducible refine vif_intro (fun _ => ?_) (fun _ => ?_) | omega | ((with_reducible first | refine vop_at ?_ | refine vops_at ?_ | refine vquiet_at ?_ | refine vmix_at ?_ | refine Holds_at ?_); simp only [vO, vQ, ↓vP, vE, vS, vB, vL, vF, vM, vN, vbs_full, Nat.reduceEqDiff, Nat.reduceAdd, Nat.reduceLeDiff, ne_eq, not_false_eq_true, Nat.reduceMul, Nat.reduceSub, Int.toNat_zero, Int.reduceToNat, Try.underlying3, info3, Try.underlying34, info34, Try.underlying5, info5, Try.underlying35, info35, vT]))
    all_goals exact ⟨_, .refl _, 3, by decide, rfl, rfl⟩
  · rename_i h1
    rw [if_neg h1] at h83
    split at h
    · rename_i h2
      rw [if_pos h2] at h83
      (refine vfun (fun _ => .no) mixed Try.func84 (by kernel_rfl) ?_; simp only [bodyOf, Try.f84, Option.getD_some])
      repeat' (first | with_reducible rfl | exact .inr trivial | with_reducible apply And.intro | with_reducible apply vqx_step | with_reducible apply vqm_step | with_reducible refine vkp_free (by decide +kernel) ?_ | with_reducible intro _ | ((first | (with_reducible first | refine .rs ?_ | refine .ds (by kernel_rfl) ?_ | refine .dg (by kernel_rfl) ?_ | refine .rg ?_ | refine .ite ?_ | refine .ret ?_ | refine .skip ?_ | refine .exit ?_ | refine .scope ?_ | refine .seq (.label ?_) | refine .block ?_ | refine .seq ?_)); (try simp only [vO, vQ, ↓vP, vE, vS, vB, vL, vF, vM, vN, vbs_full, Nat.reduceEqDiff, Nat.reduceAdd, Nat.reduceLeDiff, ne_eq, not_false_eq_true, Nat.reduceMul, Nat.reduceSub, Int.toNat_zero, Int.reduceToNat, Try.underlying3, info3, Try.underlying34, info34, Try.underlying5, info5, Try.underlying35, info35, vT])) | ((simp (disch := first | assumption | (apply Go.Cert.ne_of2; assumption; assumption) | (apply Go.Cert.ne_ob; assumption; assumption; (intro e; cases e; done)) | omega) only [w64, w8, tg_eq, Go.V.n1, Go.V.n2, Go.V.nn, Int.tdiv_eq_ediv_of_nonneg, Sg.set_same, Sg.set_ne, Sg.set_ne', Sg.del_ne, Sg.del_ne']); (try simp only [vO, vQ, ↓vP, vE, vS, vB, vL, vF, vM, vN, vbs_full, Nat.reduceEqDiff, Nat.reduceAdd, Nat.reduceLeDiff, ne_eq, not_false_eq_true, Nat.reduceMul, Nat.reduceSub, Int.toNat_zero, Int.reduceToNat, Try.underlying3, info3, Try.underlying34, info34, Try.underlying5, info5, Try.underlying35, info35, vT])) | ((((with_reducible refine (h83 _).mono ?_); rintro _ σ' ⟨rfl, rfl⟩)); (try simp only [vO, vQ, ↓vP, vE, vS, vB, vL, vF, vM, vN, vbs_full, Nat.reduceEqDiff, Nat.reduceAdd, Nat.reduceLeDiff, ne_eq, not_false_eq_true, Nat.reduceMul, Nat.reduceSub, Int.toNat_zero, Int.reduceToNat, Try.underlying3, info3, Try.underlying34, info34, Try.underlying5, info5, Try.underlying35, info35, vT])) | with_reducible refine vfresh_set ?_ | with_reducible refine vfresh_intro (fun _ _ => ?_) | with_reducible refine vif_intro (fun _ => ?_) (fun _ => ?_) | omega | ((with_reducible first | refine vop_at ?_ | refine vops_at ?_ | refine vquiet_at ?_ | refine vmix_at ?_ | refine Holds_at ?_); simp only [vO, vQ, ↓vP, vE, vS, vB, vL, vF, vM, vN, vbs_full, Nat.reduceEqDiff, Nat.reduceAdd, Nat.reduceLeDiff, ne_eq, not_false_eq_true, Nat.reduceMul, Nat.reduceSub, Int.toNat_zero, Int.reduceToNat, Try.underlying3, info3, Try.underlying34, info34, Try.underlying5, info5, Try.underlying35, info35, vT]))
      all_goals exact ⟨_, .refl _, 2, by decide, rfl, rfl⟩
    · rename_i h2
      rw [if_neg h2] at h83
      split at h
      · rename_i h3
        generalize nBE (b.take 4) = n at *
        (refine vfun (fun _ => .no) mixed Try.func84 (by kernel_rfl) ?_; simp only [bodyOf, Try.f84, Option.getD_some])
        repeat' (first | with_reducible rfl | exact .inr trivial | with_reducible apply And.intro | with_reducible apply vqx_step | with_reducible apply vqm_step | with_reducible refine vkp_free (by decide +kernel) ?_ | with_reducible intro _ | ((first | (with_reducible first | refine .rs ?_ | refine .ds (by kernel_rfl) ?_ | refine .dg (by kernel_rfl) ?_ | refine .rg ?_ | refine .ite ?_ | refine .ret ?_ | refine .skip ?_ | refine .exit ?_ | refine .scope ?_ | refine .seq (.label ?_) | refine .block ?_ | refine .seq ?_)); (try simp only [vO, vQ, ↓vP, vE, vS, vB, vL, vF, vM, vN, vbs_full, Nat.reduceEqDiff, Nat.reduceAdd, Nat.reduceLeDiff, ne_eq, not_false_eq_true, Nat.reduceMul, Nat.reduceSub, Int.toNat_zero, Int.reduceToNat, Try.underlying3, info3, Try.underlying34, info34, Try.underlying5, info5, Try.underlying35, info35, vT])) | ((simp (disch := first | assumption | (apply Go.Cert.ne_of2; assumption; assumption) | (apply Go.Cert.ne_ob; assumption; assumption; (intro e; cases e; done)) | omega) only [w64, w8, tg_eq, Go.V.n1, Go.V.n2, Go.V.nn, Int.tdiv_eq_ediv_of_nonneg, Sg.set_same, Sg.set_ne, Sg.set_ne', Sg.del_ne, Sg.del_ne']); (try simp only [vO, vQ, ↓vP, vE, vS, vB, vL, vF, vM, vN, vbs_full, Nat.reduceEqDiff, Nat.reduceAdd, Nat.reduceLeDiff, ne_eq, not_false_eq_true, Nat.reduceMul, Nat.reduceSub, Int.toNat_zero, Int.reduceToNat, Try.underlying3, info3, Try.underlying34, info34, Try.underlying5, info5, Try.underlying35, info35, vT])) | ((((with_reducible refine (h83 _).mono ?_); rintro _ σ' ⟨rfl, rfl⟩)); (try simp only [vO, vQ, ↓vP, vE, vS, vB, vL, vF, vM, vN, vbs_full, Nat.reduceEqDiff, Nat.reduceAdd, Nat.reduceLeDiff, ne_eq, not_false_eq_true, Nat.reduceMul, Nat.reduceSub, Int.toNat_zero, Int.reduceToNat, Try.underlying3, info3, Try.underlying34, info34, Try.underlying5, info5, Try.underlying35, info35, vT])) | with_reducible refine vfresh_set ?_ | with_reducible refine vfresh_intro (fun _ _ => ?_) | with_reducible refine vif_intro (fun _ => ?_) (fun _ => ?_) | omega | ((with_reducible first | refine vop_at ?_ | refine vops_at ?_ | refine vquiet_at ?_ | refine vmix_at ?_ | refine Holds_at ?_); simp only [vO, vQ, ↓vP, vE, vS, vB, vL, vF, vM, vN, vbs_full, Nat.reduceEqDiff, Nat.reduceAdd, Nat.reduceLeDiff, ne_eq, not_false_eq_true, Nat.reduceMul, Nat.reduceSub, Int.toNat_zero, Int.reduceToNat, Try.underlying3, info3, Try.underlying34, info34, Try.underlying5, info5, Try.underlying35, info35, vT]))
        all_goals first | exact ⟨_, .refl _, 3, by decide, rfl, rfl⟩ | (exfalso; omega)
      · cases h
set_option maxHeartbeats 400000 in
set_option maxRecDepth 100000 in
theorem t84s (k : Own) (b p : List UInt8) (u : Nat) (σ : Sg) (hb : b.length ≤ 1000000000000) (h : blobP b = some (p, u)) : VCalls Try.prog 84 [.sl k (bytesL b)] σ (fun x σ' => x = .tup [.sl .any (bytesL p), .i u, .i 0] ∧ σ' = σ) := by
  have h83 : ∀ σ, VCalls Try.prog 83 [.sl k (bytesL b), .i 65536] σ _ := fun σ => t83 k b 65536 σ hb
  have h112 : ∀ k σ, VCalls Try.prog 112 [.sl k (bytesL p)] σ _ := fun k σ => t112 k p σ (by have := blobP_some h; omega)
  unfold blobP at h
  split at h
  · cases h
  split at h
  · cases h
  split at h
  · cases h
  rename_i h1 h2 h3
  rw [if_neg h1, if_neg h2] at h83
  have hp : (b.drop 4).take (nBE (b.take 4)) = p := by cases h; rfl
  have hu : 4 + nBE (b.take 4) = u := by cases h; rfl
  generalize nBE (b.take 4) = n at *
  have hn4 : (4 + (n : Int)).toNat = 4 + n := by omega
  have hp2 : (b.take (4 + n)).drop 4 = p := by rw [← hp, List.drop_take]; congr 1; omega
  (refine vfun (fun _ => .no) mixed Try.func84 (by kernel_rfl) ?_; simp only [bodyOf, Try.f84, Option.getD_some])
  repeat' (first | with_reducible rfl | exact .inr trivial | with_reducible apply And.intro | with_reducible apply vqx_step | with_reducible apply vqm_step | with_reducible refine vkp_free (by decide +kernel) ?_ | with_reducible intro _ | ((first | (with_reducible first | refine .rs ?_ | refine .ds (by kernel_rfl) ?_ | refine .dg (by kernel_rfl) ?_ | refine .rg ?_ | refine .ite ?_ | refine .ret ?_ | refine .skip ?_ | refine .exit ?_ | refine .scope ?_ | refine .seq (.label ?_) | refine .block ?_ | refine .seq ?_)); (try simp only [vO, vQ, ↓vP, vE, vS, vB, vL, vF, vM, vN, vbs_full, Nat.reduceEqDiff, Nat.reduceAdd, Nat.reduceLeDiff, ne_eq, not_false_eq_true, Nat.reduceMul, Nat.reduceSub, Int.toNat_zero, Int.reduceToNat, Try.underlying3, info3, Try.underlying34, info34, Try.underlying5, info5, Try.underlying35, info35, bytesL_take, bytesL_drop, hn4, hp2, vT])) | ((simp (disch := first | assumption | (apply Go.Cert.ne_of2; assumption; assumption) | (apply Go.Cert.ne_ob; assumption; assumption; (intro e; cases e; done)) | omega) only [w64, w8, tg_eq, Go.V.n1, Go.V.n2, Go.V.nn, Int.tdiv_eq_ediv_of_nonneg, Sg.set_same, Sg.set_ne, Sg.set_ne', Sg.del_ne, Sg.del_ne']); (try simp only [vO, vQ, ↓vP, vE, vS, vB, vL, vF, vM, vN, vbs_full, Nat.reduceEqDiff, Nat.reduceAdd, Nat.reduceLeDiff, ne_eq, not_false_eq_true, Nat.reduceMul, Nat.reduceSub, Int.toNat_zero, Int.reduceToNat, Try.underlying3, info3, Try.underlying34, info34, Try.underlying5, info5, Try.underlying35, info35, bytesL_take, bytesL_drop, hn4, hp2, vT])) | ((((with_reducible refine (h83 _).mono ?_); rintro _ σ' ⟨rfl, rfl⟩)); (try simp only [vO, vQ, ↓vP, vE, vS, vB, vL, vF, vM, vN, vbs_full, Nat.reduceEqDiff, Nat.reduceAdd, Nat.reduceLeDiff, ne_eq, not_false_eq_true, Nat.reduceMul, Nat.reduceSub, Int.toNat_zero, Int.reduceToNat, Try.underlying3, info3, Try.underlying34, info34, Try.underlying5, info5, Try.underlying35, info35, bytesL_take, bytesL_drop, hn4, hp2, vT])) | ((((with_reducible refine (h112 _ _).mono ?_); rintro _ σ' ⟨rfl, rfl⟩)); (try simp only [vO, vQ, ↓vP, vE, vS, vB, vL, vF, vM, vN, vbs_full, Nat.reduceEqDiff, Nat.reduceAdd, Nat.reduceLeDiff, ne_eq, not_false_eq_true, Nat.reduceMul, Nat.reduceSub, Int.toNat_zero, Int.reduceToNat, Try.underlying3, info3, Try.underlying34, info34, Try.underlying5, info5, Try.underlying35, info35, bytesL_take, bytesL_drop, hn4, hp2, vT])) | with_reducible refine vfresh_set ?_ | with_reducible refine vfresh_intro (fun _ _ => ?_) | with_reducible refine vif_intro (fun _ => ?_) (fun _ => ?_) | omega | ((with_reducible first | refine vop_at ?_ | refine vops_at ?_ | refine vquiet_at ?_ | refine vmix_at ?_ | refine Holds_at ?_); simp only [vO, vQ, ↓vP, vE, vS, vB, vL, vF, vM, vN, vbs_full, Nat.reduceEqDiff, Nat.reduceAdd, Nat.reduceLeDiff, ne_eq, not_false_eq_true, Nat.reduceMul, Nat.reduceSub, Int.toNat_zero, Int.reduceToNat, Try.underlying3, info3, Try.underlying34, info34, Try.underlying5, info5, Try.underlying35, info35, bytesL_take, bytesL_drop, hn4, hp2, vT]))
  exact ⟨_, .refl _, by rw [← hu]; rfl, rfl⟩
def anys (l : List (List UInt8)) : Es := l.map fun p => (.any, p)
theorem anys_app (a b : List (List UInt8)) : anys a ++ anys b = anys (a ++ b) := by simp [anys]
theorem anys_len (a : List (List UInt8)) : (anys a).length = a.length := by simp [anys]
theorem rowsA_app (a b : Es) : rowsA a ++ rowsA b = rowsA (a ++ b) := by simp [rowsA]
theorem rowsA_all (a : Es) : allLen (rowsA a) 1 = True := by
  refine eq_true (fun e he => ?_)
  obtain ⟨b, _, rfl⟩ := List.mem_map.1 he
  rfl
def rowX (o : Option (List (List UInt8) × Nat)) (x : AV) : Prop := match o with
  | none => ∃ e, e ≠ 0 ∧ x = .tup [.sl .nil [], .i 0, .i e]
  | some (l, u) => ∃ k, x = .tup [.sl k (rowsA (anys l)), .i u, .i 0]
/-- What is left to read. -/
def RowI (b : List UInt8) (n j : Nat) (l : List (List UInt8)) (u : Nat) : Prop := j ≤ n ∧ l.length = j ∧ 4 + u ≤ b.length ∧ blobsP n (b.drop 4) = (blobsP (n - j) (b.drop (4 + u))).map fun x => (l ++ x.1, u + x.2)
theorem RowI.zero {b : List UInt8} {n : Nat} (h : 4 ≤ b.length) : RowI b n 0 [] 0 := ⟨Nat.zero_le _, rfl, h, by simp⟩
theorem RowI.fail {b : List UInt8} {n j u : Nat} {l : List (List UInt8)} (h : RowI b n j l u) (hj : j < n) (hb : blobP (b.drop (4 + u)) = none) : blobsP n (b.drop 4) = none := by
  rw [h.2.2.2, show n - j = (n - j - 1) + 1 by omega, blobsP, hb]
  rfl
theorem RowI.step {b : List UInt8} {n j u v : Nat} {l : List (List UInt8)} {p : List UInt8} (h : RowI b n j l u) (hj : j < n) (hb : blobP (b.drop (4 + u)) = some (p, v)) : RowI b n (j + 1) (l ++ [p]) (u + v) := by
  have hu := (blobP_some hb).2.1
  obtain ⟨h1, h2, h3, h4⟩ := h
  simp at hu
  refine ⟨hj, by simp [h2], by omega, ?_⟩
  rw [h4, show n - j = (n - (j + 1)) + 1 by omega, blobsP, hb]
  simp only [List.drop_drop]
  rw [show 4 + u + v = 4 + (u + v) by omega]
  cases blobsP (n - (j + 1)) (b.drop (4 + (u + v))) with
  | none => rfl
  | some x => simp [Nat.add_assoc]
theorem RowI.done {b : List UInt8} {n u : Nat} {l : List (List UInt8)} (h : RowI b n n l u) : blobsP n (b.drop 4) = some (l, u) := by
  rw [h.2.2.2, Nat.sub_self, blobsP]
  simp
set_option maxHeartbeats 400000 in
set_option maxRecDepth 100000 in
theorem t48 (k : Own) (b : List UInt8) (σ : Sg) (hb : b.length ≤ 1000000000000) : VCalls Try.prog 48 [.sl k (bytesL b)] σ (fun x σ' => rowX (rowP b) x ∧ σ.sub σ') := by
  have h83 : ∀ σ, VCalls Try.prog 83 [.sl k (bytesL b), .i 4096] σ _ := fun σ => t83 k b 4096 σ hb
  unfold rowP
  by_cases h1 : b.length < 4
  · rw [if_pos h1] at h83 ⊢
    (refine vfun (fun _ => .no) mixed Try.func48 (by kernel_rfl) ?_; simp only [bodyOf, Try.f48, Option.getD_some])
    repeat' (first | with_reducible rfl | exact .inr trivial | with_reducible apply And.intro | with_reducible apply vqx_step | with_reducible apply vqm_step | with_reducible refine vkp_free (by decide +kernel) ?_ | with_reducible intro _ | ((first | (with_reducible first | refine .rs ?_ | refine .ds (by kernel_rfl) ?_ | refine .dg (by kernel_rfl) ?_ | refine .rg ?_ | refine .ite ?_ | refine .ret ?_ | refine .skip ?_ | refine .exit ?_ | refine .scope ?_ | refine .seq (.label ?_) | refine .block ?_ | refine .seq ?_)); (try simp only [vO, vQ, ↓vP, vE, vS, vB, vL, vF, vM, vN, vbs_full, Nat.reduceEqDiff, Nat.reduceAdd, Nat.reduceLeDiff, ne_eq, not_false_eq_true, Nat.reduceMul, Nat.reduceSub, Int.toNat_zero, Int.reduceToNat, Try.underlying3, info3, Try.underlying34, info34, Try.underlying5, info5, Try.underlying35, info35, Try.underlying70, info70, vT])) | ((simp (disch := first | assumption | (apply Go.Cert.ne_of2; assumption; assumption) | (apply Go.Cert.ne_ob; assumption; assumption; (intro e; cases e; done)) | omega) only [w64, w8, tg_eq, Go.V.n1, Go.V.n2, Go.V.nn, Int.tdiv_eq_ediv_of_nonneg, Sg.set_same, Sg.set_ne, Sg.set_ne', Sg.del_ne, Sg.del_ne']); (try simp only [vO, vQ, ↓vP, vE, vS, vB, vL, vF, vM, vN, vbs_full, Nat.reduceEqDiff, Nat.reduceAdd, Nat.reduceLeDiff, ne_eq, not_false_eq_true, Nat.reduceMul, Nat.reduceSub, Int.toNat_zero, Int.reduceToNat, Try.underlying3, info3, Try.underlying34, info34, Try.underlying5, info5, Try.underlying35, info35, Try.underlying70, info70, vT])) | ((((with_reducible refine (h83 _).mono ?_); rintro _ σ' ⟨rfl, rfl⟩)); (try simp only [vO, vQ, ↓vP, vE, vS, vB, vL, vF, vM, vN, vbs_full, Nat.reduceEqDiff, Nat.reduceAdd, Nat.reduceLeDiff, ne_eq, not_false_eq_true, Nat.reduceMul, Nat.reduceSub, Int.toNat_zero, Int.reduceToNat, Try.underlying3, info3, Try.underlying34, info34, Try.underlying5, info5, Try.underlying35, info35, Try.underlying70, info70, vT])) | with_reducible refine vfresh_set ?_ | with_reducible refine vfresh_intro (fun _ _ => ?_) | with_reducible refine vif_intro (fun _ => ?_) (fun _ => ?_) | omega | ((with_reducible first | refine vop_at ?_ | refine vops_at ?_ | refine vquiet_at ?_ | refine vmix_at ?_ | refine Holds_at ?_); simp only [vO, vQ, ↓vP, vE, vS, vB, vL, vF, vM, vN, vbs_full, Nat.reduceEqDiff, Nat.reduceAdd, Nat.reduceLeDiff, ne_eq, not_false_eq_true, Nat.reduceMul, Nat.reduceSub, Int.toNat_zero, Int.reduceToNat, Try.underlying3, info3, Try.underlying34, info34, Try.underlying5, info5, Try.underlying35, info35, Try.underlying70, info70, vT]))
    all_goals exact ⟨_, .refl _, ⟨3, by decide, rfl⟩, .refl _⟩
  rw [if_neg h1] at h83 ⊢
  by_cases h2 : 4096 < nBE (b.take 4)
  · rw [if_pos h2] at h83 ⊢
    (refine vfun (fun _ => .no) mixed Try.func48 (by kernel_rfl) ?_; simp only [bodyOf, Try.f48, Option.getD_some])
    repeat' (first | with_reducible rfl | exact .inr trivial | with_reducible apply And.intro | with_reducible apply vqx_step | with_reducible apply vqm_step | with_reducible refine vkp_free (by decide +kernel) ?_ | with_reducible intro _ | ((first | (with_reducible first | refine .rs ?_ | refine .ds (by kernel_rfl) ?_ | refine .dg (by kernel_rfl) ?_ | refine .rg ?_ | refine .ite ?_ | refine .ret ?_ | refine .skip ?_ | refine .exit ?_ | refine .scope ?_ | refine .seq (.label ?_) | refine .block ?_ | refine .seq ?_)); (try simp only [vO, vQ, ↓vP, vE, vS, vB, vL, vF, vM, vN, vbs_full, Nat.reduceEqDiff, Nat.reduceAdd, Nat.reduceLeDiff, ne_eq, not_false_eq_true, Nat.reduceMul, Nat.reduceSub, Int.toNat_zero, Int.reduceToNat, Try.underlying3, info3, Try.underlying34, info34, Try.underlying5, info5, Try.underlying35, info35, Try.underlying70, info70, vT])) | ((simp (disch := first | assumption | (apply Go.Cert.ne_of2; assumption; assumption) | (apply Go.Cert.ne_ob; assumption; assumption; (intro e; cases e; done)) | omega) only [w64, w8, tg_eq, Go.V.n1, Go.V.n2, Go.V.nn, Int.tdiv_eq_ediv_of_nonneg, Sg.set_same, Sg.set_ne, Sg.set_ne', Sg.del_ne, Sg.del_ne']); (try simp only [vO, vQ, ↓vP, vE, vS, vB, vL, vF, vM, vN, vbs_full, Nat.reduceEqDiff, Nat.reduceAdd, Nat.reduceLeDiff, ne_eq, not_false_eq_true, Nat.reduceMul, Nat.reduceSub, Int.toNat_zero, Int.reduceToNat, Try.underlying3, info3, Try.underlying34, info34, Try.underlying5, info5, Try.underlying35, info35, Try.underlying70, info70, vT])) | ((((with_reducible refine (h83 _).mono ?_); rintro _ σ' ⟨rfl, rfl⟩)); (try simp only [vO, vQ, ↓vP, vE, vS, vB, vL, vF, vM, vN, vbs_full, Nat.reduceEqDiff, Nat.reduceAdd, Nat.reduceLeDiff, ne_eq, not_false_eq_true, Nat.reduceMul, Nat.reduceSub, Int.toNat_zero, Int.reduceToNat, Try.underlying3, info3, Try.underlying34, info34, Try.underlying5, info5, Try.underlying35, info35, Try.underlying70, info70, vT])) | with_reducible refine vfresh_set ?_ | with_reducible refine vfresh_intro (fun _ _ => ?_) | with_reducible refine vif_intro (fun _ => ?_) (fun _ => ?_) | omega | ((with_reducible first | refine vop_at ?_ | refine vops_at ?_ | refine vquiet_at ?_ | refine vmix_at ?_ | refine Holds_at ?_); simp only [vO, vQ, ↓vP, vE, vS, vB, vL, vF, vM, vN, vbs_full, Nat.reduceEqDiff, Nat.reduceAdd, Nat.reduceLeDiff, ne_eq, not_false_eq_true, Nat.reduceMul, Nat.reduceSub, Int.toNat_zero, Int.reduceToNat, Try.underlying3, info3, Try.underlying34, info34, Try.underlying5, info5, Try.underlying35, info35, Try.underlying70, info70, vT]))
    all_goals exact ⟨_, .refl _, ⟨2, by decide, rfl⟩, .refl _⟩
  rw [if_neg h2] at h83 ⊢
  generalize nBE (b.take 4) = n at *
  (refine vfun (fun _ => .no) mixed Try.func48 (by kernel_rfl) ?_; simp only [bodyOf, Try.f48, Option.getD_some])
  repeat' (first | with_reducible rfl | exact .inr trivial | with_reducible apply And.intro | with_reducible apply vqx_step | with_reducible apply vqm_step | with_reducible refine vkp_free (by decide +kernel) ?_ | with_reducible intro _ | ((first | (with_reducible first | refine .rs ?_ | refine .ds (by kernel_rfl) ?_ | refine .dg (by kernel_rfl) ?_ | refine .rg ?_ | refine .ite ?_ | refine .ret ?_ | refine .skip ?_ | refine .exit ?_ | refine .scope ?_ | refine .seq (.label ?_) | refine .block ?_ | refine .seq ?_)); (try simp only [vO, vQ, ↓vP, vE, vS, vB, vL, vF, vM, vN, vbs_full, Nat.reduceEqDiff, Nat.reduceAdd, Nat.reduceLeDiff, ne_eq, not_false_eq_true, Nat.reduceMul, Nat.reduceSub, Int.toNat_zero, Int.reduceToNat, Try.underlying3, info3, Try.underlying34, info34, Try.underlying5, info5, Try.underlying35, info35, Try.underlying70, info70, vT])) | ((simp (disch := first | assumption | (apply Go.Cert.ne_of2; assumption; assumption) | (apply Go.Cert.ne_ob; assumption; assumption; (intro e; cases e; done)) | omega) only [w64, w8, tg_eq, Go.V.n1, Go.V.n2, Go.V.nn, Int.tdiv_eq_ediv_of_nonneg, Sg.set_same, Sg.set_ne, Sg.set_ne', Sg.del_ne, Sg.del_ne']); (try simp only [vO, vQ, ↓vP, vE, vS, vB, vL, vF, vM, vN, vbs_full, Nat.reduceEqDiff, Nat.reduceAdd, Nat.reduceLeDiff, ne_eq, not_false_eq_true, Nat.reduceMul, Nat.reduceSub, Int.toNat_zero, Int.reduceToNat, Try.underlying3, info3, Try.underlying34, info34, Try.underlying5, info5, Try.underlying35, info35, Try.underlying70, info70, vT])) | ((((with_reducible refine (h83 _).mono ?_); rintro _ σ' ⟨rfl, rfl⟩)); (try simp only [vO, vQ, ↓vP, vE, vS, vB, vL, vF, vM, vN, vbs_full, Nat.reduceEqDiff, Nat.reduceAdd, Nat.reduceLeDiff, ne_eq, not_false_eq_true, Nat.reduceMul, Nat.reduceSub, Int.toNat_zero, Int.reduceToNat, Try.underlying3, info3, Try.underlying34, info34, Try.underlying5, info5, Try.underlying35, info35, Try.underlying70, info70, vT])) | with_reducible refine vfresh_set ?_ | with_reducible refine vfresh_intro (fun _ _ => ?_) | with_reducible refine vif_intro (fun _ => ?_) (fun _ => ?_) | omega | ((with_reducible first | refine vop_at ?_ | refine vops_at ?_ | refine vquiet_at ?_ | refine vmix_at ?_ | refine Holds_at ?_); simp only [vO, vQ, ↓vP, vE, vS, vB, vL, vF, vM, vN, vbs_full, Nat.reduceEqDiff, Nat.reduceAdd, Nat.reduceLeDiff, ne_eq, not_false_eq_true, Nat.reduceMul, Nat.reduceSub, Int.toNat_zero, Int.reduceToNat, Try.underlying3, info3, Try.underlying34, info34, Try.underlying5, info5, Try.underlying35, info35, Try.underlying70, info70, vT]))
  refine VW.loop4 (0 : Nat) (([], 0) : List (List UInt8) × Nat) (.sl .nil []) _ (fun j o V S => RowI b n j o.1 o.2 ∧ Grown 34 1 (rowsA (anys o.1)) σ' V S) (fun j o V _ => [(0, .sl k (bytesL b)), (7, .i ((4 + o.2 : Nat) : Int)), (8, V), (20, .i n), (21, .i j)]) (fun _ _ _ S => S) (fun j _ _ _ => n - j) ⟨.zero (by omega), .nil _ _ _⟩ (.refl _) ?_ ?_
  · simp only [vO, vQ, ↓vP, vE, vS, vB, vL, vF, vM, vN, vbs_full, Nat.reduceEqDiff, Nat.reduceAdd, Nat.reduceLeDiff, ne_eq, not_false_eq_true, Nat.reduceMul, Nat.reduceSub, Int.toNat_zero, Int.reduceToNat, vT]
    exact ⟨rfl, rfl⟩
  rintro j ⟨l, u⟩ V S ⟨hI, hG⟩
  have hl : l.length = j := hI.2.1
  have hu := hI.2.2.1
  have hjn := hI.1
  have hnil : l = [] → rowsA (anys l) = [] := fun h => by rw [h]; rfl
  rcases Nat.lt_or_ge j n with hj | hj
  · have hlen : (b.drop (4 + u)).length ≤ 1000000000000 := by simp; omega
    cases hp : blobP (b.drop (4 + u)) with
    | none =>
      have h84 := fun k σ => t84n k _ σ hlen hp
      have hf := hI.fail hj hp
      rcases hG with ⟨h5, rfl, rfl⟩ | ⟨τ, hτ, rfl, rfl⟩
      all_goals
        repeat' (first | with_reducible rfl | exact .inr trivial | with_reducible apply And.intro | with_reducible apply vqx_step | with_reducible apply vqm_step | with_reducible refine vkp_free (by decide +kernel) ?_ | with_reducible intro _ | ((first | (with_reducible first | refine .rs ?_ | refine .ds (by kernel_rfl) ?_ | refine .dg (by kernel_rfl) ?_ | refine .rg ?_ | refine .ite ?_ | refine .ret ?_ | refine .skip ?_ | refine .exit ?_ | refine .scope ?_ | refine .seq (.label ?_) | refine .block ?_ | refine .seq ?_)); (try simp only [vO, vQ, ↓vP, vE, vS, vB, vL, vF, vM, vN, vbs_full, Nat.reduceEqDiff, Nat.reduceAdd, Nat.reduceLeDiff, ne_eq, not_false_eq_true, Nat.reduceMul, Nat.reduceSub, Int.toNat_zero, Int.reduceToNat, Try.underlying3, info3, Try.underlying34, info34, Try.underlying5, info5, Try.underlying35, info35, Try.underlying70, info70, bytesL_drop, bytesL_take, anys_len, rowsA_len, rowsA_all, nadd, nadd1, nadd2, nadd3, n1add, n2add, vT])) | ((simp (disch := first | assumption | (apply Go.Cert.ne_of2; assumption; assumption) | (apply Go.Cert.ne_ob; assumption; assumption; (intro e; cases e; done)) | omega) only [w64, w8, tg_eq, Go.V.n1, Go.V.n2, Go.V.nn, Int.tdiv_eq_ediv_of_nonneg, Sg.set_same, Sg.set_ne, Sg.set_ne', Sg.del_ne, Sg.del_ne']); (try simp only [vO, vQ, ↓vP, vE, vS, vB, vL, vF, vM, vN, vbs_full, Nat.reduceEqDiff, Nat.reduceAdd, Nat.reduceLeDiff, ne_eq, not_false_eq_true, Nat.reduceMul, Nat.reduceSub, Int.toNat_zero, Int.reduceToNat, Try.underlying3, info3, Try.underlying34, info34, Try.underlying5, info5, Try.underlying35, info35, Try.underlying70, info70, bytesL_drop, bytesL_take, anys_len, rowsA_len, rowsA_all, nadd, nadd1, nadd2, nadd3, n1add, n2add, vT])) | ((((with_reducible refine (h84 _ _).mono ?_); rintro _ σ2 ⟨e, he, rfl, rfl⟩)); (try simp only [vO, vQ, ↓vP, vE, vS, vB, vL, vF, vM, vN, vbs_full, Nat.reduceEqDiff, Nat.reduceAdd, Nat.reduceLeDiff, ne_eq, not_false_eq_true, Nat.reduceMul, Nat.reduceSub, Int.toNat_zero, Int.reduceToNat, Try.underlying3, info3, Try.underlying34, info34, Try.underlying5, info5, Try.underlying35, info35, Try.underlying70, info70, bytesL_drop, bytesL_take, anys_len, rowsA_len, rowsA_all, nadd, nadd1, nadd2, nadd3, n1add, n2add, vT])) | with_reducible refine vfresh_set ?_ | with_reducible refine vfresh_intro (fun _ _ => ?_) | with_reducible refine vif_intro (fun _ => ?_) (fun _ => ?_) | omega | ((with_reducible first | refine vop_at ?_ | refine vops_at ?_ | refine vquiet_at ?_ | refine vmix_at ?_ | refine Holds_at ?_); simp only [vO, vQ, ↓vP, vE, vS, vB, vL, vF, vM, vN, vbs_full, Nat.reduceEqDiff, Nat.reduceAdd, Nat.reduceLeDiff, ne_eq, not_false_eq_true, Nat.reduceMul, Nat.reduceSub, Int.toNat_zero, Int.reduceToNat, Try.underlying3, info3, Try.underlying34, info34, Try.underlying5, info5, Try.underlying35, info35, Try.underlying70, info70, bytesL_drop, bytesL_take, anys_len, rowsA_len, rowsA_all, nadd, nadd1, nadd2, nadd3, n1add, n2add, vT]))
        all_goals first | exact ⟨_, .refl _, by rw [hf]; exact ⟨e, he, rfl⟩, .refl _⟩ | exact ⟨_, .refl _, by rw [hf]; exact ⟨e, he, rfl⟩, Sg.sub_set hτ _⟩
    | some x =>
      obtain ⟨p, v⟩ := x
      have h84 := fun k σ => t84s k _ p v σ hlen hp
      have hst := hI.step hj hp
      have hst3 := hst.2.2.1
      have hw : IntKind.i64.wrap ((4 + u + v : Nat) : Int) = ((4 + (u + v) : Nat) : Int) := by rw [w64 (by omega) (by simp only at hst3; omega)]; omega
      rcases hG with ⟨h5, rfl, rfl⟩ | ⟨τ, hτ, rfl, rfl⟩
      all_goals
        repeat' (first | with_reducible rfl | exact .inr trivial | with_reducible apply And.intro | with_reducible apply vqx_step | with_reducible apply vqm_step | with_reducible refine vkp_free (by decide +kernel) ?_ | with_reducible intro _ | ((first | (with_reducible first | refine .rs ?_ | refine .ds (by kernel_rfl) ?_ | refine .dg (by kernel_rfl) ?_ | refine .rg ?_ | refine .ite ?_ | refine .ret ?_ | refine .skip ?_ | refine .exit ?_ | refine .scope ?_ | refine .seq (.label ?_) | refine .block ?_ | refine .seq ?_)); (try simp only [vO, vQ, ↓vP, vE, vS, vB, vL, vF, vM, vN, vbs_full, Nat.reduceEqDiff, Nat.reduceAdd, Nat.reduceLeDiff, ne_eq, not_false_eq_true, Nat.reduceMul, Nat.reduceSub, Int.toNat_zero, Int.reduceToNat, Try.underlying3, info3, Try.underlying34, info34, Try.underlying5, info5, Try.underlying35, info35, Try.underlying70, info70, bytesL_drop, bytesL_take, anys_len, rowsA_len, rowsA_all, hw, nadd, nadd1, nadd2, nadd3, n1add, n2add, vT])) | ((simp (disch := first | assumption | (apply Go.Cert.ne_of2; assumption; assumption) | (apply Go.Cert.ne_ob; assumption; assumption; (intro e; cases e; done)) | omega) only [w64, w8, tg_eq, Go.V.n1, Go.V.n2, Go.V.nn, Int.tdiv_eq_ediv_of_nonneg, Sg.set_same, Sg.set_ne, Sg.set_ne', Sg.del_ne, Sg.del_ne']); (try simp only [vO, vQ, ↓vP, vE, vS, vB, vL, vF, vM, vN, vbs_full, Nat.reduceEqDiff, Nat.reduceAdd, Nat.reduceLeDiff, ne_eq, not_false_eq_true, Nat.reduceMul, Nat.reduceSub, Int.toNat_zero, Int.reduceToNat, Try.underlying3, info3, Try.underlying34, info34, Try.underlying5, info5, Try.underlying35, info35, Try.underlying70, info70, bytesL_drop, bytesL_take, anys_len, rowsA_len, rowsA_all, hw, nadd, nadd1, nadd2, nadd3, n1add, n2add, vT])) | ((((with_reducible refine (h84 _ _).mono ?_); rintro _ σ2 ⟨rfl, rfl⟩)); (try simp only [vO, vQ, ↓vP, vE, vS, vB, vL, vF, vM, vN, vbs_full, Nat.reduceEqDiff, Nat.reduceAdd, Nat.reduceLeDiff, ne_eq, not_false_eq_true, Nat.reduceMul, Nat.reduceSub, Int.toNat_zero, Int.reduceToNat, Try.underlying3, info3, Try.underlying34, info34, Try.underlying5, info5, Try.underlying35, info35, Try.underlying70, info70, bytesL_drop, bytesL_take, anys_len, rowsA_len, rowsA_all, hw, nadd, nadd1, nadd2, nadd3, n1add, n2add, vT])) | with_reducible refine vfresh_set ?_ | with_reducible refine vfresh_intro (fun _ _ => ?_) | with_reducible refine vif_intro (fun _ => ?_) (fun _ => ?_) | omega | ((with_reducible first | refine vop_at ?_ | refine vops_at ?_ | refine vquiet_at ?_ | refine vmix_at ?_ | refine Holds_at ?_); simp only [vO, vQ, ↓vP, vE, vS, vB, vL, vF, vM, vN, vbs_full, Nat.reduceEqDiff, Nat.reduceAdd, Nat.reduceLeDiff, ne_eq, not_false_eq_true, Nat.reduceMul, Nat.reduceSub, Int.toNat_zero, Int.reduceToNat, Try.underlying3, info3, Try.underlying34, info34, Try.underlying5, info5, Try.underlying35, info35, Try.underlying70, info70, bytesL_drop, bytesL_take, anys_len, rowsA_len, rowsA_all, hw, nadd, nadd1, nadd2, nadd3, n1add, n2add, vT]))
        all_goals first
          | (have hl0 : l = [] := List.eq_nil_of_length_eq_zero (by have := congrArg List.length h5; simpa [rowsA_len, anys_len] using this)
             subst hl0
             exact ⟨j + 1, ([] ++ [p], u + v), _, _, ⟨⟨hst, .tok (by assumption)⟩, by omega⟩, .refl _, rfl, rfl, rfl⟩)
          | exact ⟨j + 1, (l ++ [p], u + v), .sl (.tok _ 1) (rowsA (anys (l ++ [p]))), _, ⟨⟨hst, .tok (by assumption)⟩, by omega⟩, (by repeat (first | exact Sg.sub.refl _ | refine Sg.sub.set_both ?_ | refine Sg.sub.set_fresh ?_ (by first | assumption | exact Sg.set_none ‹_› ‹_›) | refine Sg.sub.del_fresh ?_ (by first | assumption | exact Sg.set_none ‹_› ‹_›))), rfl, by rw [← anys_app, ← rowsA_app]; rfl, rfl⟩
  · obtain rfl : j = n := by omega
    have hd := hI.done
    rcases hG with ⟨h5, rfl, rfl⟩ | ⟨τ, hτ, rfl, rfl⟩
    all_goals
      repeat' (first | with_reducible rfl | exact .inr trivial | with_reducible apply And.intro | with_reducible apply vqx_step | with_reducible apply vqm_step | with_reducible refine vkp_free (by decide +kernel) ?_ | with_reducible intro _ | ((first | (with_reducible first | refine .rs ?_ | refine .ds (by kernel_rfl) ?_ | refine .dg (by kernel_rfl) ?_ | refine .rg ?_ | refine .ite ?_ | refine .ret ?_ | refine .skip ?_ | refine .exit ?_ | refine .scope ?_ | refine .seq (.label ?_) | refine .block ?_ | refine .seq ?_)); (try simp only [vO, vQ, ↓vP, vE, vS, vB, vL, vF, vM, vN, vbs_full, Nat.reduceEqDiff, Nat.reduceAdd, Nat.reduceLeDiff, ne_eq, not_false_eq_true, Nat.reduceMul, Nat.reduceSub, Int.toNat_zero, Int.reduceToNat, Try.underlying3, info3, Try.underlying34, info34, Try.underlying5, info5, Try.underlying35, info35, Try.underlying70, info70, vT])) | ((simp (disch := first | assumption | (apply Go.Cert.ne_of2; assumption; assumption) | (apply Go.Cert.ne_ob; assumption; assumption; (intro e; cases e; done)) | omega) only [w64, w8, tg_eq, Go.V.n1, Go.V.n2, Go.V.nn, Int.tdiv_eq_ediv_of_nonneg, Sg.set_same, Sg.set_ne, Sg.set_ne', Sg.del_ne, Sg.del_ne']); (try simp only [vO, vQ, ↓vP, vE, vS, vB, vL, vF, vM, vN, vbs_full, Nat.reduceEqDiff, Nat.reduceAdd, Nat.reduceLeDiff, ne_eq, not_false_eq_true, Nat.reduceMul, Nat.reduceSub, Int.toNat_zero, Int.reduceToNat, Try.underlying3, info3, Try.underlying34, info34, Try.underlying5, info5, Try.underlying35, info35, Try.underlying70, info70, vT])) | with_reducible refine vfresh_set ?_ | with_reducible refine vfresh_intro (fun _ _ => ?_) | with_reducible refine vif_intro (fun _ => ?_) (fun _ => ?_) | omega | ((with_reducible first | refine vop_at ?_ | refine vops_at ?_ | refine vquiet_at ?_ | refine vmix_at ?_ | refine Holds_at ?_); simp only [vO, vQ, ↓vP, vE, vS, vB, vL, vF, vM, vN, vbs_full, Nat.reduceEqDiff, Nat.reduceAdd, Nat.reduceLeDiff, ne_eq, not_false_eq_true, Nat.reduceMul, Nat.reduceSub, Int.toNat_zero, Int.reduceToNat, Try.underlying3, info3, Try.underlying34, info34, Try.underlying5, info5, Try.underlying35, info35, Try.underlying70, info70, vT]))
      all_goals first
        | (have hx : rowsA (anys l) = [] := h5
           refine ⟨_, .refl _, ?_, .refl _⟩
           rw [hd]
           refine ⟨.nil, ?_⟩
           simp only [hx])
        | exact ⟨_, .refl _, by rw [hd]; exact ⟨_, rfl⟩, Sg.sub_set hτ _⟩
end Go.Proofs.Ytkbfngepdgdecaa
