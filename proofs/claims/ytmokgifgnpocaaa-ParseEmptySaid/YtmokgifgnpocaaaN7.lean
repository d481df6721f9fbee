/- Part 7 of the proof: B8, B9, B10, B11, K17. -/
import Derived.Test.YtmokgifgnpocaaaN6
import Derived.Test.YtmokgifgnpocaaaN5

set_option linter.unusedSimpArgs false
set_option linter.unusedVariables false
namespace Go.V
/-- A row of rows, cell by cell. -/
theorem AVw.rows {k : Own} {es es' : List (List AV)} (hl : es.length = es'.length) (h : ∀ (i : Nat) (e e' : List AV), es[i]? = some e → es'[i]? = some e' → e.length = e'.length ∧ ∀ (j : Nat) (x x' : AV), e[j]? = some x → e'[j]? = some x' → AVw x x') : AVw (.sl k es) (.sl .any es') := fun κ v hr => by
  have other : ∀ i e', es'[i]? = some e' → ∃ e, es[i]? = some e := fun i e' he => by
    have hi : i < es'.length := by
      rcases Nat.lt_or_ge i es'.length with h' | h'
      · exact h'
      · rw [List.getElem?_eq_none h'] at he; cases he
    exact ⟨_, List.getElem?_eq_getElem (by omega)⟩
  cases hr with
  | slnil k hk =>
    obtain rfl : es' = [] := List.eq_nil_of_length_eq_zero hl.symm
    exact .slnil _ trivial
  | slemp k hk a c =>
    obtain rfl : es' = [] := List.eq_nil_of_length_eq_zero hl.symm
    exact .slemp _ (.inr rfl) a c
  | sl k es a n c sz f hk hn hc hs hz hr hx =>
    refine .sl .any es' a n c sz f trivial (by omega) hc hs (fun i e' he' => ?_) hr (fun i j e' x' he' hx' => ?_)
    · obtain ⟨e, he⟩ := other i e' he'
      rw [← (h i e e' he he').1]
      exact hz i e he
    · obtain ⟨e, he⟩ := other i e' he'
      have hj : j < e.length := by
        rw [(h i e e' he he').1]
        rcases Nat.lt_or_ge j e'.length with h' | h'
        · exact h'
        · rw [List.getElem?_eq_none h'] at hx'; cases hx'
      exact (h i e e' he he').2 j _ _ (List.getElem?_eq_getElem hj) hx' κ _ (hx i j e _ he (List.getElem?_eq_getElem hj))
end Go.V
namespace Go.Parse
open Go.V Go.Lex Go.Proofs.Ytmokgifgnpocaaa
/-- What a row of operators grows to: of the left ones it is known how their slices came. -/
inductive Sp
  | base (e : Ex)
  | op (k : Int) (a : Sp) (f : Ex)
def spA : Sp → List AV
  | .base e => exA e
  | .op k a f => [.i 3, .i k, .s (bs []), .s (bs []), .i 0, .i 0, .s (bs []), .sl .full [spA a, exA f]]
def Sp.ex : Sp → Ex
  | .base e => e
  | .op k a f => opE k a.ex f
theorem spA_len (a : Sp) : (spA a).length = 8 := by
  cases a with
  | base e => exact exA_len e
  | op k a f => rfl
theorem spA_one (a : Sp) : (spA a).all AV.one = true := by
  cases a with
  | base e => exact exA_one e
  | op k a f => rfl
theorem spA_take (a : Sp) : (spA a).take 8 = spA a := List.take_of_length_le (by rw [spA_len]; omega)
theorem spA_drop (a : Sp) : (spA a).drop 8 = [] := List.drop_of_length_le (by rw [spA_len]; omega)
theorem spA_cells : ∀ (a : Sp) (j : Nat) (x x' : AV), (spA a)[j]? = some x → (exA a.ex)[j]? = some x' → AVw x x'
  | .base e, j, x, x', h1, h2 => by
    have : some x = some x' := h1.symm.trans h2
    cases this
    exact AVw.refl _
  | .op k a f, j, x, x', h1, h2 => by
    rw [Sp.ex, exA_mk] at h2
    rw [spA] at h1
    match j with
    | 0 => cases h1; cases h2; exact AVw.refl _
    | 1 => cases h1; cases h2; exact AVw.refl _
    | 2 => cases h1; cases h2; exact AVw.refl _
    | 3 => cases h1; cases h2; exact AVw.refl _
    | 4 => cases h1; cases h2; exact AVw.refl _
    | 5 => cases h1; cases h2; exact AVw.refl _
    | 6 => cases h1; cases h2; exact AVw.refl _
    | 7 =>
      cases h1
      cases h2
      rw [exsA_cons, exsA_cons, exsA_nil]
      refine AVw.rows rfl (fun i e e' g1 g2 => ?_)
      match i with
      | 0 =>
        cases g1; cases g2
        exact ⟨by rw [spA_len, exA_len], fun j x x' k1 k2 => spA_cells a j x x' k1 k2⟩
      | 1 =>
        cases g1; cases g2
        refine ⟨rfl, fun j x x' k1 k2 => ?_⟩
        have : some x = some x' := k1.symm.trans k2
        cases this
        exact AVw.refl _
      | i + 2 => simp at g1
    | j + 8 => simp at h1
theorem rowL_no {F : Pr} {first : Int} {ws : List By} {n : Nat} {e : Ex} {s : Rd} (h : ¬ 0 ≤ s.is ws) : rowL F first ws n e s = (e, s) := by
  cases n with
  | zero => rfl
  | succ n => rw [rowL, if_neg h]
theorem rowL_yes {F : Pr} (hN : Nice F) {first : Int} {ws : List By} {e : Ex} {s : Rd} (hl : WF s.l) (h : 0 ≤ s.is ws) : rowL F first ws s.l.length e s = rowL F first ws (F s.next).2.l.length (opE (first + s.is ws) e (F s.next).1) (F s.next).2 ∧ (F s.next).2.l.length < s.l.length := by
  obtain ⟨h1, h2, _⟩ := is_pos h
  have o1 := ok_is hl h
  have o2 := hN s.next o1.wf
  have ht : s.next.l.length + 1 = s.l.length := (hl.tail (by omega)).2
  have hle := o2.le
  have hp := o2.wf.pos
  obtain ⟨m, hm⟩ : ∃ m, s.l.length = m + 1 := ⟨s.l.length - 1, by omega⟩
  rw [hm, rowL, if_pos h]
  exact ⟨rowL_fuel hN first ws _ _ _ _ o2.wf (by omega) (Nat.le_refl _), by omega⟩
theorem AVw.sp (a : Sp) : AVw (.agg (spA a)) (.agg (exA a.ex)) := AVw.agg (by rw [spA_len, exA_len]) (fun i x x' h1 h2 => spA_cells a i x x' h1 h2)
end Go.Parse
namespace Go.Proofs.Ytmokgifgnpocaaa
open Go Go.V Go.Lex Go.Parse
theorem lose_sp {f : FuncId} {args : List AV} {e : Ex} {σ S : Sg} (h : VCalls Try.prog f args σ (fun x σ' => ∃ a : Sp, (x = .agg (spA a) ∧ a.ex = e) ∧ S.sub σ')) : VCalls Try.prog f args σ (fun x σ' => x = .agg (exA e) ∧ σ' = S) :=
  h.lose fun x σ' hx => by
    obtain ⟨a, ⟨rfl, rfl⟩, hs⟩ := hx
    exact ⟨_, S, AVw.sp a, hs, rfl, rfl⟩
set_option maxHeartbeats 400000 in
set_option maxRecDepth 100000 in
theorem p18 (ρ : Nat) (s : Rd) (σ : Sg) (f : FuncId) (F : Pr) (first : Int) (o : Own) (ws : List By) (es : List (List AV)) (he : es = strs ws) (hF : Reads f F s.d) (hN : Nice F) (hρ : σ ρ = some (rdA s)) (hl : WF s.l) (hf : 0 ≤ first ∧ first ≤ 100) (hw : ws.length ≤ 100) : VCalls Try.prog 18 [.ref ρ 0, .bm f [.ref ρ 0], .i first, .sl o es] σ (fun x σ' => x = .agg (exA (row F first ws s).1) ∧ σ' = σ.set ρ (rdA (row F first ws s).2)) := by
  subst he
  refine lose_sp ?_
  obtain ⟨z27, h27, hz27⟩ := zero27
  simp only [ex0, exK_mk, exsA_nil] at hz27
  have hf := fun S hS => hF ρ s S hS hl rfl
  have o1 := hN s hl
  have hFl := exA_len (F s).1
  have hFo := exA_one (F s).1
  have hFt := exA_take (F s).1
  have hFd := exA_drop (F s).1
  have h22 := fun s' S (hS : S ρ = some (rdA s')) (hl' : WF s'.l) => p22 ρ s' o ws _ S rfl hS hl'.pos (by omega)
  (refine vfun (fun _ => .no) mixed Try.func18 (by kernel_rfl) ?_; simp only [bodyOf, Try.f18, Option.getD_some])
  repeat' (first | with_reducible rfl | exact .inr trivial | with_reducible apply And.intro | with_reducible apply vqx_step | with_reducible apply vqm_step | with_reducible refine vkp_free (by decide +kernel) ?_ | with_reducible intro _ | ((first | (with_reducible first | refine .rs ?_ | refine .ds (by kernel_rfl) ?_ | refine .dg (by kernel_rfl) ?_ | refine .rg ?_ | refine .ite ?_ | refine .ret ?_ | refine .skip ?_ | refine .exit ?_ | refine .scope ?_ | refine .seq (.label ?_) | refine .block ?_ | refine .seq ?_) | (simp (disch := first | assumption | (apply Go.Cert.ne_of2; assumption; assumption) | (apply Go.Cert.ne_ob; assumption; assumption; (intro e; cases e; done)) | omega) only [w64, w8, tg_eq, Go.V.n1, Go.V.n2, Go.V.nn, Int.tdiv_eq_ediv_of_nonneg, Sg.set_same, Sg.set_ne, Sg.set_ne', Sg.del_ne, Sg.del_ne']) | ((with_reducible refine (hf _ (by first | assumption | ((simp (disch := first | assumption | (apply Go.Cert.ne_of2; assumption; assumption) | (apply Go.Cert.ne_ob; assumption; assumption; (intro e; cases e; done)) | omega) only [Sg.set_same, Sg.set_ne, Sg.set_ne', Sg.del_ne, Sg.del_ne']); first | done | rfl | assumption))).mono ?_); rintro _ S ⟨rfl, rfl⟩) | ((with_reducible refine (h22 (F s).2 _ (by first | assumption | ((simp (disch := first | assumption | (apply Go.Cert.ne_of2; assumption; assumption) | (apply Go.Cert.ne_ob; assumption; assumption; (intro e; cases e; done)) | omega) only [Sg.set_same, Sg.set_ne, Sg.set_ne', Sg.del_ne, Sg.del_ne']); first | done | rfl | assumption)) o1.wf).mono ?_); rintro _ S ⟨rfl, rfl⟩) | (refine vlo_app (by first | assumption | ((simp (disch := first | assumption | (apply Go.Cert.ne_of2; assumption; assumption) | (apply Go.Cert.ne_ob; assumption; assumption; (intro e; cases e; done)) | omega) only [Sg.set_same, Sg.set_ne, Sg.set_ne', Sg.del_ne, Sg.del_ne']); first | done | rfl | assumption)) ?_) | (refine vst_app (by first | assumption | ((simp (disch := first | assumption | (apply Go.Cert.ne_of2; assumption; assumption) | (apply Go.Cert.ne_ob; assumption; assumption; (intro e; cases e; done)) | omega) only [Sg.set_same, Sg.set_ne, Sg.set_ne', Sg.del_ne, Sg.del_ne']); first | done | rfl | assumption)) ?_)); (try simp only [vO, vQ, ↓vP, vE, vS, vB, vL, vF, vM, vN, vbs_full, Nat.reduceEqDiff, Nat.reduceAdd, Nat.reduceLeDiff, ne_eq, not_false_eq_true, Nat.reduceMul, Nat.reduceSub, Int.toNat_zero, Int.reduceToNat, Try.underlying3, info3, Try.underlying27, h27, hz27, Try.underlying25, info25, Try.underlying24, info24, Try.underlying9, info9, hFl, hFo, hFt, hFd, List.append_nil, vT])) | with_reducible refine vfresh_set ?_ | with_reducible refine vfresh_intro (fun _ _ => ?_) | with_reducible refine vif_intro (fun _ => ?_) (fun _ => ?_) | omega | ((with_reducible first | refine vop_at ?_ | refine vops_at ?_ | refine vquiet_at ?_ | refine vmix_at ?_ | refine Holds_at ?_); simp only [vO, vQ, ↓vP, vE, vS, vB, vL, vF, vM, vN, vbs_full, Nat.reduceEqDiff, Nat.reduceAdd, Nat.reduceLeDiff, ne_eq, not_false_eq_true, Nat.reduceMul, Nat.reduceSub, Int.toNat_zero, Int.reduceToNat, Try.underlying3, info3, Try.underlying27, h27, hz27, Try.underlying25, info25, Try.underlying24, info24, Try.underlying9, info9, hFl, hFo, hFt, hFd, List.append_nil, vT]))
  rename_i x8 h8 x9 h9 hne hne2
  have hlt := is_lt
  refine VW.loop3 (Sp.base (F s).1) (F s).2 () (fun a s' _ => rowL F first ws s'.l.length a.ex s' = row F first ws s ∧ WF s'.l ∧ s'.d = s.d) (fun a s' _ => [(0, .ref ρ 0), (1, .bm f [.ref ρ 0]), (2, .i first), (3, .sl o (strs ws)), (8, .ref x8 0), (9, .ref x9 0), (10, .i (s'.is ws))]) (fun a s' _ => ((σ.set ρ (rdA (s'.pass ws))).set x8 (.cells 27 [AV.i 0, AV.i 0, AV.s (bs []), AV.s (bs []), AV.i 0, AV.i 0, AV.s (bs []), AV.sl Own.nil []])).set x9 (.cells 27 (spA a))) (fun _ s' _ => s'.l.length) ⟨rfl, o1.wf, o1.d⟩ ?_ ?_ ?_
  · have hsp : spA (Sp.base (F s).1) = exA (F s).1 := rfl
    rw [hsp]
    generalize rdA ((F s).2.pass ws) = Z
    have h8ρ := Go.Cert.ne_of2a h8 hρ
    have h9ρ := Go.Cert.ne_of2a h9 hρ
    intro y p hy
    simp only [Sg.set_apply, Sg.del_apply] at hy ⊢
    grind
  · simp only [vO, vQ, ↓vP, vE, vS, vB, vL, vF, vM, vN, vbs_full, Nat.reduceEqDiff, Nat.reduceAdd, Nat.reduceLeDiff, ne_eq, not_false_eq_true, Nat.reduceMul, Nat.reduceSub, Int.toNat_zero, Int.reduceToNat, vT]
    all_goals rfl
  rintro a s' _ ⟨g1, g2, g3⟩
  have h8ρ := Go.Cert.ne_of2a h8 hρ
  have h9ρ := Go.Cert.ne_of2a h9 hρ
  have ha1 := spA_len a
  have ha2 := spA_one a
  have ha3 := spA_take a
  have ha4 := spA_drop a
  by_cases hk : 0 ≤ s'.is ws
  · have hps : s'.pass ws = s'.next := if_pos hk
    have hlt1 := (hlt s' ws).2
    obtain ⟨k1, k2⟩ := rowL_yes hN (first := first) (e := a.ex) g2 hk
    have o2 := ok_is g2 hk
    have hf2 := fun S hS => hF ρ s'.next S hS o2.wf g3
    have o3 := hN s'.next o2.wf
    have hFl2 := exA_len (F s'.next).1
    have hFo2 := exA_one (F s'.next).1
    have hFt2 := exA_take (F s'.next).1
    have hFd2 := exA_drop (F s'.next).1
    have h222 := fun S hS => h22 (F s'.next).2 S hS o3.wf
    have hd3 : (F s'.next).2.d = s.d := o3.d.trans g3
    rw [hps]
    rw [g1] at k1
    generalize hE : (F s'.next).1 = e2 at *
    generalize (F s'.next).2 = s2 at *
    generalize s'.next = s1 at *
    generalize s'.is ws = kk at *
    repeat' (first | with_reducible rfl | exact .inr trivial | with_reducible apply And.intro | with_reducible apply vqx_step | with_reducible apply vqm_step | with_reducible refine vkp_free (by decide +kernel) ?_ | with_reducible intro _ | ((first | (with_reducible first | refine .rs ?_ | refine .ds (by kernel_rfl) ?_ | refine .dg (by kernel_rfl) ?_ | refine .rg ?_ | refine .ite ?_ | refine .ret ?_ | refine .skip ?_ | refine .exit ?_ | refine .scope ?_ | refine .seq (.label ?_) | refine .block ?_ | refine .seq ?_) | (simp (disch := first | assumption | (apply Go.Cert.ne_of2; assumption; assumption) | (apply Go.Cert.ne_ob; assumption; assumption; (intro e; cases e; done)) | omega) only [w64, w8, tg_eq, Go.V.n1, Go.V.n2, Go.V.nn, Int.tdiv_eq_ediv_of_nonneg, Sg.set_same, Sg.set_ne, Sg.set_ne', Sg.del_ne, Sg.del_ne']) | ((with_reducible refine (hf2 _ (by first | assumption | ((simp (disch := first | assumption | (apply Go.Cert.ne_of2; assumption; assumption) | (apply Go.Cert.ne_ob; assumption; assumption; (intro e; cases e; done)) | omega) only [Sg.set_same, Sg.set_ne, Sg.set_ne', Sg.del_ne, Sg.del_ne']); first | done | rfl | assumption))).mono ?_); rintro _ S ⟨rfl, rfl⟩) | ((with_reducible refine (h222 _ (by first | assumption | ((simp (disch := first | assumption | (apply Go.Cert.ne_of2; assumption; assumption) | (apply Go.Cert.ne_ob; assumption; assumption; (intro e; cases e; done)) | omega) only [Sg.set_same, Sg.set_ne, Sg.set_ne', Sg.del_ne, Sg.del_ne']); first | done | rfl | assumption))).mono ?_); rintro _ S ⟨rfl, rfl⟩) | (refine vlo_app (by first | assumption | ((simp (disch := first | assumption | (apply Go.Cert.ne_of2; assumption; assumption) | (apply Go.Cert.ne_ob; assumption; assumption; (intro e; cases e; done)) | omega) only [Sg.set_same, Sg.set_ne, Sg.set_ne', Sg.del_ne, Sg.del_ne']); first | done | rfl | assumption)) ?_) | (refine vst_app (by first | assumption | ((simp (disch := first | assumption | (apply Go.Cert.ne_of2; assumption; assumption) | (apply Go.Cert.ne_ob; assumption; assumption; (intro e; cases e; done)) | omega) only [Sg.set_same, Sg.set_ne, Sg.set_ne', Sg.del_ne, Sg.del_ne']); first | done | rfl | assumption)) ?_)); (try simp only [vO, vQ, ↓vP, vE, vS, vB, vL, vF, vM, vN, vbs_full, Nat.reduceEqDiff, Nat.reduceAdd, Nat.reduceLeDiff, ne_eq, not_false_eq_true, Nat.reduceMul, Nat.reduceSub, Int.toNat_zero, Int.reduceToNat, Try.underlying3, info3, Try.underlying27, h27, hz27, Try.underlying25, info25, Try.underlying24, info24, Try.underlying9, info9, ha1, ha2, ha3, ha4, hFl2, hFo2, hFt2, hFd2, List.append_nil, vT])) | with_reducible refine vfresh_set ?_ | with_reducible refine vfresh_intro (fun _ _ => ?_) | with_reducible refine vif_intro (fun _ => ?_) (fun _ => ?_) | omega | ((with_reducible first | refine vop_at ?_ | refine vops_at ?_ | refine vquiet_at ?_ | refine vmix_at ?_ | refine Holds_at ?_); simp only [vO, vQ, ↓vP, vE, vS, vB, vL, vF, vM, vN, vbs_full, Nat.reduceEqDiff, Nat.reduceAdd, Nat.reduceLeDiff, ne_eq, not_false_eq_true, Nat.reduceMul, Nat.reduceSub, Int.toNat_zero, Int.reduceToNat, Try.underlying3, info3, Try.underlying27, h27, hz27, Try.underlying25, info25, Try.underlying24, info24, Try.underlying9, info9, ha1, ha2, ha3, ha4, hFl2, hFo2, hFt2, hFd2, List.append_nil, vT]))
    rename_i x11 h11 n1 n2 n3
    refine ⟨.op (first + kk) a e2, s2, (), ⟨⟨k1.symm, o3.wf, hd3⟩, k2⟩, ?_, rfl⟩
    have hsp : spA (Sp.op (first + kk) a e2) = [.i 3, .i (first + kk), .s (bs []), .s (bs []), .i 0, .i 0, .s (bs []), .sl .full [spA a, exA e2]] := rfl
    rw [hsp]
    clear hf2 h222 h22 hF hN
    generalize rdA (s2.pass ws) = Z
    intro y p hy
    simp only [Sg.set_apply, Sg.del_apply] at hy ⊢
    grind
  · have hps : s'.pass ws = s' := if_neg hk
    rw [rowL_no hk] at g1
    rw [hps]
    have g2' : (row F first ws s).1 = a.ex := by rw [← g1]
    have g3' : (row F first ws s).2 = s' := by rw [← g1]
    rw [g2', g3']
    generalize s'.is ws = kk at *
    repeat' (first | with_reducible rfl | exact .inr trivial | with_reducible apply And.intro | with_reducible apply vqx_step | with_reducible apply vqm_step | with_reducible refine vkp_free (by decide +kernel) ?_ | with_reducible intro _ | ((first | (with_reducible first | refine .rs ?_ | refine .ds (by kernel_rfl) ?_ | refine .dg (by kernel_rfl) ?_ | refine .rg ?_ | refine .ite ?_ | refine .ret ?_ | refine .skip ?_ | refine .exit ?_ | refine .scope ?_ | refine .seq (.label ?_) | refine .block ?_ | refine .seq ?_) | (simp (disch := first | assumption | (apply Go.Cert.ne_of2; assumption; assumption) | (apply Go.Cert.ne_ob; assumption; assumption; (intro e; cases e; done)) | omega) only [w64, w8, tg_eq, Go.V.n1, Go.V.n2, Go.V.nn, Int.tdiv_eq_ediv_of_nonneg, Sg.set_same, Sg.set_ne, Sg.set_ne', Sg.del_ne, Sg.del_ne']) | (refine vlo_app (by first | assumption | ((simp (disch := first | assumption | (apply Go.Cert.ne_of2; assumption; assumption) | (apply Go.Cert.ne_ob; assumption; assumption; (intro e; cases e; done)) | omega) only [Sg.set_same, Sg.set_ne, Sg.set_ne', Sg.del_ne, Sg.del_ne']); first | done | rfl | assumption)) ?_) | (refine vst_app (by first | assumption | ((simp (disch := first | assumption | (apply Go.Cert.ne_of2; assumption; assumption) | (apply Go.Cert.ne_ob; assumption; assumption; (intro e; cases e; done)) | omega) only [Sg.set_same, Sg.set_ne, Sg.set_ne', Sg.del_ne, Sg.del_ne']); first | done | rfl | assumption)) ?_)); (try simp only [vO, vQ, ↓vP, vE, vS, vB, vL, vF, vM, vN, vbs_full, Nat.reduceEqDiff, Nat.reduceAdd, Nat.reduceLeDiff, ne_eq, not_false_eq_true, Nat.reduceMul, Nat.reduceSub, Int.toNat_zero, Int.reduceToNat, Try.underlying3, info3, Try.underlying27, h27, hz27, Try.underlying25, info25, Try.underlying24, info24, Try.underlying9, info9, ha1, ha2, ha3, ha4, vT])) | with_reducible refine vfresh_set ?_ | with_reducible refine vfresh_intro (fun _ _ => ?_) | with_reducible refine vif_intro (fun _ => ?_) (fun _ => ?_) | omega | ((with_reducible first | refine vop_at ?_ | refine vops_at ?_ | refine vquiet_at ?_ | refine vmix_at ?_ | refine Holds_at ?_); simp only [vO, vQ, ↓vP, vE, vS, vB, vL, vF, vM, vN, vbs_full, Nat.reduceEqDiff, Nat.reduceAdd, Nat.reduceLeDiff, ne_eq, not_false_eq_true, Nat.reduceMul, Nat.reduceSub, Int.toNat_zero, Int.reduceToNat, Try.underlying3, info3, Try.underlying27, h27, hz27, Try.underlying25, info25, Try.underlying24, info24, Try.underlying9, info9, ha1, ha2, ha3, ha4, vT]))
    refine ⟨_, .refl _, a, ⟨rfl, rfl⟩, ?_⟩
    clear h22 hF hN hf
    generalize rdA s' = Z
    intro y p hy
    simp only [Sg.set_apply, Sg.del_apply] at hy ⊢
    grind
end Go.Proofs.Ytmokgifgnpocaaa

set_option linter.unusedSimpArgs false
set_option linter.unusedVariables false
namespace Go.Proofs.Ytmokgifgnpocaaa
open Go Go.V Go.Lex Go.Parse
structure RD (D : Dp) (d : Int) : Prop where
  fac : Reads 75 D.fac d
  not : Reads 39 D.not d
  ex : Reads 10 D.ex d
set_option maxHeartbeats 400000 in
set_option maxRecDepth 100000 in
theorem q75 (D : Dp) (d : Int) (hD : d < 10 → RD D (d + 1)) (hN : D.Nice) (hd : 0 ≤ d ∧ d ≤ 10) : Reads 75 (facL D) d := by
  intro ρ s σ hρ hl hs
  subst hs
  refine lose_ex ?_
  obtain ⟨z27, h27, hz27⟩ := zero27
  obtain ⟨z24, h24, hz24⟩ := zero24
  simp only [ex0, exK_mk, exsA_nil] at hz27
  have o1 := ok_lit hl
  have h67 := fun S hS => p67 ρ s S hS hl
  have h22 := fun S hS es he => p22 ρ s.lit.2.2 .full [wMinus, [40]] es S he hS o1.wf.pos (by simp)
  rw [pass_val] at h22
  unfold facL
  cases hb : s.lit.2.1 with
  | true =>
    rw [if_pos rfl]
    simp only [hb] at h67
    simp only [exK_mk, exsA_nil]
    generalize s.lit.1.1 = va at *
    generalize s.lit.1.2.1 = vb at *
    generalize s.lit.1.2.2 = vc at *
    generalize s.lit.2.2 = s1 at *
    (refine vfun (fun _ => .no) mixed Try.func75 (by kernel_rfl) ?_; simp only [bodyOf, Try.f75, Option.getD_some])
    repeat' (first | with_reducible rfl | exact .inr trivial | with_reducible apply And.intro | with_reducible apply vqx_step | with_reducible apply vqm_step | with_reducible refine vkp_free (by decide +kernel) ?_ | with_reducible intro _ | ((first | (with_reducible first | refine .rs ?_ | refine .ds (by kernel_rfl) ?_ | refine .dg (by kernel_rfl) ?_ | refine .rg ?_ | refine .ite ?_ | refine .ret ?_ | refine .skip ?_ | refine .exit ?_ | refine .scope ?_ | refine .seq (.label ?_) | refine .block ?_ | refine .seq ?_) | (simp (disch := first | assumption | (apply Go.Cert.ne_of2; assumption; assumption) | (apply Go.Cert.ne_ob; assumption; assumption; (intro e; cases e; done)) | omega) only [w64, w8, tg_eq, Go.V.n1, Go.V.n2, Go.V.nn, Int.tdiv_eq_ediv_of_nonneg, Sg.set_same, Sg.set_ne, Sg.set_ne', Sg.del_ne, Sg.del_ne']) | ((with_reducible refine (h67 _ (by first | assumption | ((simp (disch := first | assumption | (apply Go.Cert.ne_of2; assumption; assumption) | (apply Go.Cert.ne_ob; assumption; assumption; (intro e; cases e; done)) | omega) only [Sg.set_same, Sg.set_ne, Sg.set_ne', Sg.del_ne, Sg.del_ne']); first | done | rfl | assumption))).mono ?_); rintro _ S ⟨rfl, rfl⟩) | (refine vlo_app (by first | assumption | ((simp (disch := first | assumption | (apply Go.Cert.ne_of2; assumption; assumption) | (apply Go.Cert.ne_ob; assumption; assumption; (intro e; cases e; done)) | omega) only [Sg.set_same, Sg.set_ne, Sg.set_ne', Sg.del_ne, Sg.del_ne']); first | done | rfl | assumption)) ?_) | (refine vst_app (by first | assumption | ((simp (disch := first | assumption | (apply Go.Cert.ne_of2; assumption; assumption) | (apply Go.Cert.ne_ob; assumption; assumption; (intro e; cases e; done)) | omega) only [Sg.set_same, Sg.set_ne, Sg.set_ne', Sg.del_ne, Sg.del_ne']); first | done | rfl | assumption)) ?_)); (try simp only [vO, vQ, ↓vP, vE, vS, vB, vL, vF, vM, vN, vbs_full, Nat.reduceEqDiff, Nat.reduceAdd, Nat.reduceLeDiff, ne_eq, not_false_eq_true, Nat.reduceMul, Nat.reduceSub, Int.toNat_zero, Int.reduceToNat, Try.underlying3, info3, Try.underlying4, info4, Try.underlying27, h27, hz27, Try.underlying25, info25, Try.underlying24, h24, hz24, Try.underlying9, info9, vT])) | with_reducible refine vfresh_set ?_ | with_reducible refine vfresh_intro (fun _ _ => ?_) | with_reducible refine vif_intro (fun _ => ?_) (fun _ => ?_) | omega | ((with_reducible first | refine vop_at ?_ | refine vops_at ?_ | refine vquiet_at ?_ | refine vmix_at ?_ | refine Holds_at ?_); simp only [vO, vQ, ↓vP, vE, vS, vB, vL, vF, vM, vN, vbs_full, Nat.reduceEqDiff, Nat.reduceAdd, Nat.reduceLeDiff, ne_eq, not_false_eq_true, Nat.reduceMul, Nat.reduceSub, Int.toNat_zero, Int.reduceToNat, Try.underlying3, info3, Try.underlying4, info4, Try.underlying27, h27, hz27, Try.underlying25, info25, Try.underlying24, h24, hz24, Try.underlying9, info9, vT]))
    all_goals (refine ⟨_, .refl _, _, rfl, ?_⟩; (first | exact Sg.sub.refl _ | ((repeat (first | exact Sg.sub.refl _ | refine Sg.sub.set_both ?_ | refine Sg.sub.set_fresh ?_ (by first | assumption | exact Sg.set_none (by assumption) (by first | assumption | (apply Go.Cert.ne_of2a; assumption; assumption))))); done) | (intro y p hy; simp only [Sg.set_apply, Sg.del_apply] at hy ⊢; grind)))
  | false =>
    rw [if_neg (by simp)]
    simp only [hb] at h67
    by_cases h0 : s.lit.2.2.is [wMinus, [40]] = 0
    · rw [if_pos h0]
      rw [if_pos (by omega)] at h22
      simp only [h0] at h22
      have o2 := ok_is (ws := [wMinus, [40]]) o1.wf (by omega)
      have hdd : s.lit.2.2.next.d = s.d := o1.d
      have h63 := fun S hS => p63 ρ s.lit.2.2.next S 75 D.fac (fun h => by rw [hdd] at h ⊢; exact (hD h).fac) hN.fac hS o2.wf (by rw [hdd]; exact hd)
      generalize (within D.fac s.lit.2.2.next).1 = e at *
      generalize (within D.fac s.lit.2.2.next).2 = s3 at *
      generalize s.lit.2.2.next = s2 at *
      generalize s.lit.1.1 = va at *
      generalize s.lit.1.2.1 = vb at *
      generalize s.lit.1.2.2 = vc at *
      generalize s.lit.2.2 = s1 at *
      have h62 : ∀ σ, VCalls Try.prog 62 [.i 5, .agg (exA e)] σ _ := fun σ => p62 5 e σ
      have hFl := exA_len (ofE 5 e)
      have hFo := exA_one (ofE 5 e)
      have hFt := exA_take (ofE 5 e)
      have hFd := exA_drop (ofE 5 e)
      have hk := exK_any (ofE 5 e)
      generalize ofE 5 e = e5 at *
      (refine vfun (fun _ => .no) mixed Try.func75 (by kernel_rfl) ?_; simp only [bodyOf, Try.f75, Option.getD_some])
      repeat' (first | with_reducible rfl | exact .inr trivial | with_reducible apply And.intro | with_reducible apply vqx_step | with_reducible apply vqm_step | with_reducible refine vkp_free (by decide +kernel) ?_ | with_reducible intro _ | ((first | (with_reducible first | refine .rs ?_ | refine .ds (by kernel_rfl) ?_ | refine .dg (by kernel_rfl) ?_ | refine .rg ?_ | refine .ite ?_ | refine .ret ?_ | refine .skip ?_ | refine .exit ?_ | refine .scope ?_ | refine .seq (.label ?_) | refine .block ?_ | refine .seq ?_) | (simp (disch := first | assumption | (apply Go.Cert.ne_of2; assumption; assumption) | (apply Go.Cert.ne_ob; assumption; assumption; (intro e; cases e; done)) | omega) only [w64, w8, tg_eq, Go.V.n1, Go.V.n2, Go.V.nn, Int.tdiv_eq_ediv_of_nonneg, Sg.set_same, Sg.set_ne, Sg.set_ne', Sg.del_ne, Sg.del_ne']) | ((with_reducible refine (h67 _ (by first | assumption | ((simp (disch := first | assumption | (apply Go.Cert.ne_of2; assumption; assumption) | (apply Go.Cert.ne_ob; assumption; assumption; (intro e; cases e; done)) | omega) only [Sg.set_same, Sg.set_ne, Sg.set_ne', Sg.del_ne, Sg.del_ne']); first | done | rfl | assumption))).mono ?_); rintro _ S ⟨rfl, rfl⟩) | ((with_reducible refine (h22 _ (by first | assumption | ((simp (disch := first | assumption | (apply Go.Cert.ne_of2; assumption; assumption) | (apply Go.Cert.ne_ob; assumption; assumption; (intro e; cases e; done)) | omega) only [Sg.set_same, Sg.set_ne, Sg.set_ne', Sg.del_ne, Sg.del_ne']); first | done | rfl | assumption)) _ (by with_unfolding_all rfl)).mono ?_); rintro _ S ⟨rfl, rfl⟩) | ((with_reducible refine (h63 _ (by first | assumption | ((simp (disch := first | assumption | (apply Go.Cert.ne_of2; assumption; assumption) | (apply Go.Cert.ne_ob; assumption; assumption; (intro e; cases e; done)) | omega) only [Sg.set_same, Sg.set_ne, Sg.set_ne', Sg.del_ne, Sg.del_ne']); first | done | rfl | assumption))).mono ?_); rintro _ S ⟨rfl, rfl⟩) | ((with_reducible refine (h62 _).mono ?_); rintro _ S ⟨rfl, rfl⟩) | (refine vlo_app (by first | assumption | ((simp (disch := first | assumption | (apply Go.Cert.ne_of2; assumption; assumption) | (apply Go.Cert.ne_ob; assumption; assumption; (intro e; cases e; done)) | omega) only [Sg.set_same, Sg.set_ne, Sg.set_ne', Sg.del_ne, Sg.del_ne']); first | done | rfl | assumption)) ?_) | (refine vst_app (by first | assumption | ((simp (disch := first | assumption | (apply Go.Cert.ne_of2; assumption; assumption) | (apply Go.Cert.ne_ob; assumption; assumption; (intro e; cases e; done)) | omega) only [Sg.set_same, Sg.set_ne, Sg.set_ne', Sg.del_ne, Sg.del_ne']); first | done | rfl | assumption)) ?_)); (try simp only [vO, vQ, ↓vP, vE, vS, vB, vL, vF, vM, vN, vbs_full, Nat.reduceEqDiff, Nat.reduceAdd, Nat.reduceLeDiff, ne_eq, not_false_eq_true, Nat.reduceMul, Nat.reduceSub, Int.toNat_zero, Int.reduceToNat, Try.underlying3, info3, Try.underlying4, info4, Try.underlying27, h27, hz27, Try.underlying25, info25, Try.underlying24, h24, hz24, Try.underlying9, info9, Try.underlying68, info68, hFl, hFo, hFt, hFd, vT])) | with_reducible refine vfresh_set ?_ | with_reducible refine vfresh_intro (fun _ _ => ?_) | with_reducible refine vif_intro (fun _ => ?_) (fun _ => ?_) | omega | ((with_reducible first | refine vop_at ?_ | refine vops_at ?_ | refine vquiet_at ?_ | refine vmix_at ?_ | refine Holds_at ?_); simp only [vO, vQ, ↓vP, vE, vS, vB, vL, vF, vM, vN, vbs_full, Nat.reduceEqDiff, Nat.reduceAdd, Nat.reduceLeDiff, ne_eq, not_false_eq_true, Nat.reduceMul, Nat.reduceSub, Int.toNat_zero, Int.reduceToNat, Try.underlying3, info3, Try.underlying4, info4, Try.underlying27, h27, hz27, Try.underlying25, info25, Try.underlying24, h24, hz24, Try.underlying9, info9, Try.underlying68, info68, hFl, hFo, hFt, hFd, vT]))
      all_goals (refine ⟨_, .refl _, .any, by rw [exK_any], ?_⟩; (first | exact Sg.sub.refl _ | ((repeat (first | exact Sg.sub.refl _ | refine Sg.sub.set_both ?_ | refine Sg.sub.set_fresh ?_ (by first | assumption | exact Sg.set_none (by assumption) (by first | assumption | (apply Go.Cert.ne_of2a; assumption; assumption))))); done) | (intro y p hy; simp only [Sg.set_apply, Sg.del_apply] at hy ⊢; grind)))
    · rw [if_neg h0]
      by_cases h1 : s.lit.2.2.is [wMinus, [40]] = 1
      · rw [if_pos h1]
        rw [if_pos (by omega)] at h22
        simp only [h1] at h22
        have o2 := ok_is (ws := [wMinus, [40]]) o1.wf (by omega)
        have hdd : s.lit.2.2.next.d = s.d := o1.d
        have h63 := fun S hS => p63 ρ s.lit.2.2.next S 10 D.ex (fun h => by rw [hdd] at h ⊢; exact (hD h).ex) hN.ex hS o2.wf (by rw [hdd]; exact hd)
        have o3 := nice_within hN.ex s.lit.2.2.next o2.wf
        have h41 := fun S hS es he => p41 ρ (within D.ex s.lit.2.2.next).2 .full [[41]] es S he hS o3.wf (by simp)
        have hFl := exA_len (within D.ex s.lit.2.2.next).1
        have hFo := exA_one (within D.ex s.lit.2.2.next).1
        have hFt := exA_take (within D.ex s.lit.2.2.next).1
        have hFd := exA_drop (within D.ex s.lit.2.2.next).1
        generalize (within D.ex s.lit.2.2.next).1 = e at *
        generalize (within D.ex s.lit.2.2.next).2 = s3 at *
        generalize s3.must [[41]] = s4 at *
        generalize s.lit.2.2.next = s2 at *
        generalize s.lit.1.1 = va at *
        generalize s.lit.1.2.1 = vb at *
        generalize s.lit.1.2.2 = vc at *
        generalize s.lit.2.2 = s1 at *
        (refine vfun (fun _ => .no) mixed Try.func75 (by kernel_rfl) ?_; simp only [bodyOf, Try.f75, Option.getD_some])
        repeat' (first | with_reducible rfl | exact .inr trivial | with_reducible apply And.intro | with_reducible apply vqx_step | with_reducible apply vqm_step | with_reducible refine vkp_free (by decide +kernel) ?_ | with_reducible intro _ | ((first | (with_reducible first | refine .rs ?_ | refine .ds (by kernel_rfl) ?_ | refine .dg (by kernel_rfl) ?_ | refine .rg ?_ | refine .ite ?_ | refine .ret ?_ | refine .skip ?_ | refine .exit ?_ | refine .scope ?_ | refine .seq (.label ?_) | refine .block ?_ | refine .seq ?_) | (simp (disch := first | assumption | (apply Go.Cert.ne_of2; assumption; assumption) | (apply Go.Cert.ne_ob; assumption; assumption; (intro e; cases e; done)) | omega) only [w64, w8, tg_eq, Go.V.n1, Go.V.n2, Go.V.nn, Int.tdiv_eq_ediv_of_nonneg, Sg.set_same, Sg.set_ne, Sg.set_ne', Sg.del_ne, Sg.del_ne']) | ((with_reducible refine (h67 _ (by first | assumption | ((simp (disch := first | assumption | (apply Go.Cert.ne_of2; assumption; assumption) | (apply Go.Cert.ne_ob; assumption; assumption; (intro e; cases e; done)) | omega) only [Sg.set_same, Sg.set_ne, Sg.set_ne', Sg.del_ne, Sg.del_ne']); first | done | rfl | assumption))).mono ?_); rintro _ S ⟨rfl, rfl⟩) | ((with_reducible refine (h22 _ (by first | assumption | ((simp (disch := first | assumption | (apply Go.Cert.ne_of2; assumption; assumption) | (apply Go.Cert.ne_ob; assumption; assumption; (intro e; cases e; done)) | omega) only [Sg.set_same, Sg.set_ne, Sg.set_ne', Sg.del_ne, Sg.del_ne']); first | done | rfl | assumption)) _ (by with_unfolding_all rfl)).mono ?_); rintro _ S ⟨rfl, rfl⟩) | ((with_reducible refine (h63 _ (by first | assumption | ((simp (disch := first | assumption | (apply Go.Cert.ne_of2; assumption; assumption) | (apply Go.Cert.ne_ob; assumption; assumption; (intro e; cases e; done)) | omega) only [Sg.set_same, Sg.set_ne, Sg.set_ne', Sg.del_ne, Sg.del_ne']); first | done | rfl | assumption))).mono ?_); rintro _ S ⟨rfl, rfl⟩) | ((with_reducible refine (h41 _ (by first | assumption | ((simp (disch := first | assumption | (apply Go.Cert.ne_of2; assumption; assumption) | (apply Go.Cert.ne_ob; assumption; assumption; (intro e; cases e; done)) | omega) only [Sg.set_same, Sg.set_ne, Sg.set_ne', Sg.del_ne, Sg.del_ne']); first | done | rfl | assumption)) _ (by with_unfolding_all rfl)).mono ?_); rintro _ S ⟨rfl, rfl⟩) | (refine vlo_app (by first | assumption | ((simp (disch := first | assumption | (apply Go.Cert.ne_of2; assumption; assumption) | (apply Go.Cert.ne_ob; assumption; assumption; (intro e; cases e; done)) | omega) only [Sg.set_same, Sg.set_ne, Sg.set_ne', Sg.del_ne, Sg.del_ne']); first | done | rfl | assumption)) ?_) | (refine vst_app (by first | assumption | ((simp (disch := first | assumption | (apply Go.Cert.ne_of2; assumption; assumption) | (apply Go.Cert.ne_ob; assumption; assumption; (intro e; cases e; done)) | omega) only [Sg.set_same, Sg.set_ne, Sg.set_ne', Sg.del_ne, Sg.del_ne']); first | done | rfl | assumption)) ?_)); (try simp only [vO, vQ, ↓vP, vE, vS, vB, vL, vF, vM, vN, vbs_full, Nat.reduceEqDiff, Nat.reduceAdd, Nat.reduceLeDiff, ne_eq, not_false_eq_true, Nat.reduceMul, Nat.reduceSub, Int.toNat_zero, Int.reduceToNat, Try.underlying3, info3, Try.underlying4, info4, Try.underlying27, h27, hz27, Try.underlying25, info25, Try.underlying24, h24, hz24, Try.underlying9, info9, Try.underlying68, info68, hFl, hFo, hFt, hFd, vT])) | with_reducible refine vfresh_set ?_ | with_reducible refine vfresh_intro (fun _ _ => ?_) | with_reducible refine vif_intro (fun _ => ?_) (fun _ => ?_) | omega | ((with_reducible first | refine vop_at ?_ | refine vops_at ?_ | refine vquiet_at ?_ | refine vmix_at ?_ | refine Holds_at ?_); simp only [vO, vQ, ↓vP, vE, vS, vB, vL, vF, vM, vN, vbs_full, Nat.reduceEqDiff, Nat.reduceAdd, Nat.reduceLeDiff, ne_eq, not_false_eq_true, Nat.reduceMul, Nat.reduceSub, Int.toNat_zero, Int.reduceToNat, Try.underlying3, info3, Try.underlying4, info4, Try.underlying27, h27, hz27, Try.underlying25, info25, Try.underlying24, h24, hz24, Try.underlying9, info9, Try.underlying68, info68, hFl, hFo, hFt, hFd, vT]))
        all_goals (refine ⟨_, .refl _, .any, by rw [exK_any], ?_⟩; (first | exact Sg.sub.refl _ | ((repeat (first | exact Sg.sub.refl _ | refine Sg.sub.set_both ?_ | refine Sg.sub.set_fresh ?_ (by first | assumption | exact Sg.set_none (by assumption) (by first | assumption | (apply Go.Cert.ne_of2a; assumption; assumption))))); done) | (intro y p hy; simp only [Sg.set_apply, Sg.del_apply] at hy ⊢; grind)))
      · rw [if_neg h1]
        have hlt := is_lt s.lit.2.2 [wMinus, [40]]
        simp only [List.length_cons, List.length_nil] at hlt
        have hm : s.lit.2.2.is [wMinus, [40]] = -1 := by omega
        rw [if_neg (by omega)] at h22
        simp only [hm] at h22
        have h68 := fun S hS => p68 ρ s.lit.2.2 S hS o1.wf
        have hFl := exA_len s.lit.2.2.column.1
        have hFo := exA_one s.lit.2.2.column.1
        have hFt := exA_take s.lit.2.2.column.1
        have hFd := exA_drop s.lit.2.2.column.1
        generalize s.lit.2.2.column.1 = e at *
        generalize s.lit.2.2.column.2 = s3 at *
        generalize s.lit.1.1 = va at *
        generalize s.lit.1.2.1 = vb at *
        generalize s.lit.1.2.2 = vc at *
        generalize s.lit.2.2 = s1 at *
        (refine vfun (fun _ => .no) mixed Try.func75 (by kernel_rfl) ?_; simp only [bodyOf, Try.f75, Option.getD_some])
        repeat' (first | with_reducible rfl | exact .inr trivial | with_reducible apply And.intro | with_reducible apply vqx_step | with_reducible apply vqm_step | with_reducible refine vkp_free (by decide +kernel) ?_ | with_reducible intro _ | ((first | (with_reducible first | refine .rs ?_ | refine .ds (by kernel_rfl) ?_ | refine .dg (by kernel_rfl) ?_ | refine .rg ?_ | refine .ite ?_ | refine .ret ?_ | refine .skip ?_ | refine .exit ?_ | refine .scope ?_ | refine .seq (.label ?_) | refine .block ?_ | refine .seq ?_) | (simp (disch := first | assumption | (apply Go.Cert.ne_of2; assumption; assumption) | (apply Go.Cert.ne_ob; assumption; assumption; (intro e; cases e; done)) | omega) only [w64, w8, tg_eq, Go.V.n1, Go.V.n2, Go.V.nn, Int.tdiv_eq_ediv_of_nonneg, Sg.set_same, Sg.set_ne, Sg.set_ne', Sg.del_ne, Sg.del_ne']) | ((with_reducible refine (h67 _ (by first | assumption | ((simp (disch := first | assumption | (apply Go.Cert.ne_of2; assumption; assumption) | (apply Go.Cert.ne_ob; assumption; assumption; (intro e; cases e; done)) | omega) only [Sg.set_same, Sg.set_ne, Sg.set_ne', Sg.del_ne, Sg.del_ne']); first | done | rfl | assumption))).mono ?_); rintro _ S ⟨rfl, rfl⟩) | ((with_reducible refine (h22 _ (by first | assumption | ((simp (disch := first | assumption | (apply Go.Cert.ne_of2; assumption; assumption) | (apply Go.Cert.ne_ob; assumption; assumption; (intro e; cases e; done)) | omega) only [Sg.set_same, Sg.set_ne, Sg.set_ne', Sg.del_ne, Sg.del_ne']); first | done | rfl | assumption)) _ (by with_unfolding_all rfl)).mono ?_); rintro _ S ⟨rfl, rfl⟩) | ((with_reducible refine (h68 _ (by first | assumption | ((simp (disch := first | assumption | (apply Go.Cert.ne_of2; assumption; assumption) | (apply Go.Cert.ne_ob; assumption; assumption; (intro e; cases e; done)) | omega) only [Sg.set_same, Sg.set_ne, Sg.set_ne', Sg.del_ne, Sg.del_ne']); first | done | rfl | assumption))).mono ?_); rintro _ S ⟨rfl, rfl⟩) | (refine vlo_app (by first | assumption | ((simp (disch := first | assumption | (apply Go.Cert.ne_of2; assumption; assumption) | (apply Go.Cert.ne_ob; assumption; assumption; (intro e; cases e; done)) | omega) only [Sg.set_same, Sg.set_ne, Sg.set_ne', Sg.del_ne, Sg.del_ne']); first | done | rfl | assumption)) ?_) | (refine vst_app (by first | assumption | ((simp (disch := first | assumption | (apply Go.Cert.ne_of2; assumption; assumption) | (apply Go.Cert.ne_ob; assumption; assumption; (intro e; cases e; done)) | omega) only [Sg.set_same, Sg.set_ne, Sg.set_ne', Sg.del_ne, Sg.del_ne']); first | done | rfl | assumption)) ?_)); (try simp only [vO, vQ, ↓vP, vE, vS, vB, vL, vF, vM, vN, vbs_full, Nat.reduceEqDiff, Nat.reduceAdd, Nat.reduceLeDiff, ne_eq, not_false_eq_true, Nat.reduceMul, Nat.reduceSub, Int.toNat_zero, Int.reduceToNat, Try.underlying3, info3, Try.underlying4, info4, Try.underlying27, h27, hz27, Try.underlying25, info25, Try.underlying24, h24, hz24, Try.underlying9, info9, Try.underlying68, info68, hFl, hFo, hFt, hFd, vT])) | with_reducible refine vfresh_set ?_ | with_reducible refine vfresh_intro (fun _ _ => ?_) | with_reducible refine vif_intro (fun _ => ?_) (fun _ => ?_) | omega | ((with_reducible first | refine vop_at ?_ | refine vops_at ?_ | refine vquiet_at ?_ | refine vmix_at ?_ | refine Holds_at ?_); simp only [vO, vQ, ↓vP, vE, vS, vB, vL, vF, vM, vN, vbs_full, Nat.reduceEqDiff, Nat.reduceAdd, Nat.reduceLeDiff, ne_eq, not_false_eq_true, Nat.reduceMul, Nat.reduceSub, Int.toNat_zero, Int.reduceToNat, Try.underlying3, info3, Try.underlying4, info4, Try.underlying27, h27, hz27, Try.underlying25, info25, Try.underlying24, h24, hz24, Try.underlying9, info9, Try.underlying68, info68, hFl, hFo, hFt, hFd, vT]))
        all_goals (refine ⟨_, .refl _, .any, by rw [exK_any], ?_⟩; (first | exact Sg.sub.refl _ | ((repeat (first | exact Sg.sub.refl _ | refine Sg.sub.set_both ?_ | refine Sg.sub.set_fresh ?_ (by first | assumption | exact Sg.set_none (by assumption) (by first | assumption | (apply Go.Cert.ne_of2a; assumption; assumption))))); done) | (intro y p hy; simp only [Sg.set_apply, Sg.del_apply] at hy ⊢; grind)))
end Go.Proofs.Ytmokgifgnpocaaa

set_option linter.unusedSimpArgs false
set_option linter.unusedVariables false
namespace Go.Proofs.Ytmokgifgnpocaaa
open Go Go.V Go.Lex Go.Parse
set_option maxHeartbeats 400000 in
set_option maxRecDepth 100000 in
theorem q74 (D : Dp) (d : Int) (hB : Reads 75 (facL D) d) (hN : Nice (facL D)) : Reads 74 (termL D) d := by
  intro ρ s σ hρ hl hs
  subst hs
  refine lose_ex ?_
  obtain ⟨z27, h27, hz27⟩ := zero27
  simp only [ex0, exK_mk, exsA_nil] at hz27
  have h18 : ∀ S es, S ρ = some (rdA s) → es = strs [[42], [47], [37]] → VCalls Try.prog 18 [.ref ρ 0, .bm 75 [.ref ρ 0], .i 11, .sl .full es] S _ := fun S es hS he => p18 ρ s S 75 (facL D) 11 .full [[42], [47], [37]] es he hB hN hS hl (by decide) (by decide)
  have e : termL D s = row (facL D) 11 [[42], [47], [37]] s := rfl
  rw [e]
  have hFl := exA_len (row (facL D) 11 [[42], [47], [37]] s).1
  have hFo := exA_one (row (facL D) 11 [[42], [47], [37]] s).1
  have hFt := exA_take (row (facL D) 11 [[42], [47], [37]] s).1
  have hFd := exA_drop (row (facL D) 11 [[42], [47], [37]] s).1
  generalize (row (facL D) 11 [[42], [47], [37]] s).1 = e at *
  generalize (row (facL D) 11 [[42], [47], [37]] s).2 = s3 at *
  (refine vfun (fun _ => .no) mixed Try.func74 (by kernel_rfl) ?_; simp only [bodyOf, Try.f74, Option.getD_some])
  repeat' (first | with_reducible rfl | exact .inr trivial | with_reducible apply And.intro | with_reducible apply vqx_step | with_reducible apply vqm_step | with_reducible refine vkp_free (by decide +kernel) ?_ | with_reducible intro _ | ((first | (with_reducible first | refine .rs ?_ | refine .ds (by kernel_rfl) ?_ | refine .dg (by kernel_rfl) ?_ | refine .rg ?_ | refine .ite ?_ | refine .ret ?_ | refine .skip ?_ | refine .exit ?_ | refine .scope ?_ | refine .seq (.label ?_) | refine .block ?_ | refine .seq ?_) | (simp (disch := first | assumption | (apply Go.Cert.ne_of2; assumption; assumption) | (apply Go.Cert.ne_ob; assumption; assumption; (intro e; cases e; done)) | omega) only [w64, w8, tg_eq, Go.V.n1, Go.V.n2, Go.V.nn, Int.tdiv_eq_ediv_of_nonneg, Sg.set_same, Sg.set_ne, Sg.set_ne', Sg.del_ne, Sg.del_ne']) | ((with_reducible refine (h18 _ _ (by first | assumption | ((simp (disch := first | assumption | (apply Go.Cert.ne_of2; assumption; assumption) | (apply Go.Cert.ne_ob; assumption; assumption; (intro e; cases e; done)) | omega) only [Sg.set_same, Sg.set_ne, Sg.set_ne', Sg.del_ne, Sg.del_ne']); first | done | rfl | assumption)) (by with_unfolding_all rfl)).mono ?_); rintro _ S ⟨rfl, rfl⟩) | (refine vlo_app (by first | assumption | ((simp (disch := first | assumption | (apply Go.Cert.ne_of2; assumption; assumption) | (apply Go.Cert.ne_ob; assumption; assumption; (intro e; cases e; done)) | omega) only [Sg.set_same, Sg.set_ne, Sg.set_ne', Sg.del_ne, Sg.del_ne']); first | done | rfl | assumption)) ?_) | (refine vst_app (by first | assumption | ((simp (disch := first | assumption | (apply Go.Cert.ne_of2; assumption; assumption) | (apply Go.Cert.ne_ob; assumption; assumption; (intro e; cases e; done)) | omega) only [Sg.set_same, Sg.set_ne, Sg.set_ne', Sg.del_ne, Sg.del_ne']); first | done | rfl | assumption)) ?_)); (try simp only [vO, vQ, ↓vP, vE, vS, vB, vL, vF, vM, vN, vbs_full, Nat.reduceEqDiff, Nat.reduceAdd, Nat.reduceLeDiff, ne_eq, not_false_eq_true, Nat.reduceMul, Nat.reduceSub, Int.toNat_zero, Int.reduceToNat, Try.underlying3, info3, Try.underlying4, info4, Try.underlying27, h27, hz27, Try.underlying25, info25, Try.underlying9, info9, Try.underlying68, info68, hFl, hFo, hFt, hFd, vT])) | with_reducible refine vfresh_set ?_ | with_reducible refine vfresh_intro (fun _ _ => ?_) | with_reducible refine vif_intro (fun _ => ?_) (fun _ => ?_) | omega | ((with_reducible first | refine vop_at ?_ | refine vops_at ?_ | refine vquiet_at ?_ | refine vmix_at ?_ | refine Holds_at ?_); simp only [vO, vQ, ↓vP, vE, vS, vB, vL, vF, vM, vN, vbs_full, Nat.reduceEqDiff, Nat.reduceAdd, Nat.reduceLeDiff, ne_eq, not_false_eq_true, Nat.reduceMul, Nat.reduceSub, Int.toNat_zero, Int.reduceToNat, Try.underlying3, info3, Try.underlying4, info4, Try.underlying27, h27, hz27, Try.underlying25, info25, Try.underlying9, info9, Try.underlying68, info68, hFl, hFo, hFt, hFd, vT]))
  all_goals (refine ⟨_, .refl _, .any, by rw [exK_any], ?_⟩; (first | exact Sg.sub.refl _ | ((repeat (first | exact Sg.sub.refl _ | refine Sg.sub.set_both ?_ | refine Sg.sub.set_fresh ?_ (by first | assumption | exact Sg.set_none (by assumption) (by first | assumption | (apply Go.Cert.ne_of2a; assumption; assumption))))); done) | (intro y p hy; simp only [Sg.set_apply, Sg.del_apply] at hy ⊢; grind)))
set_option maxHeartbeats 400000 in
set_option maxRecDepth 100000 in
theorem q71 (D : Dp) (d : Int) (hB : Reads 74 (termL D) d) (hN : Nice (termL D)) : Reads 71 (sumL D) d := by
  intro ρ s σ hρ hl hs
  subst hs
  refine lose_ex ?_
  obtain ⟨z27, h27, hz27⟩ := zero27
  simp only [ex0, exK_mk, exsA_nil] at hz27
  have h18 : ∀ S es, S ρ = some (rdA s) → es = strs [[43], [45]] → VCalls Try.prog 18 [.ref ρ 0, .bm 74 [.ref ρ 0], .i 9, .sl .full es] S _ := fun S es hS he => p18 ρ s S 74 (termL D) 9 .full [[43], [45]] es he hB hN hS hl (by decide) (by decide)
  have e : sumL D s = row (termL D) 9 [[43], [45]] s := rfl
  rw [e]
  have hFl := exA_len (row (termL D) 9 [[43], [45]] s).1
  have hFo := exA_one (row (termL D) 9 [[43], [45]] s).1
  have hFt := exA_take (row (termL D) 9 [[43], [45]] s).1
  have hFd := exA_drop (row (termL D) 9 [[43], [45]] s).1
  generalize (row (termL D) 9 [[43], [45]] s).1 = e at *
  generalize (row (termL D) 9 [[43], [45]] s).2 = s3 at *
  (refine vfun (fun _ => .no) mixed Try.func71 (by kernel_rfl) ?_; simp only [bodyOf, Try.f71, Option.getD_some])
  repeat' (first | with_reducible rfl | exact .inr trivial | with_reducible apply And.intro | with_reducible apply vqx_step | with_reducible apply vqm_step | with_reducible refine vkp_free (by decide +kernel) ?_ | with_reducible intro _ | ((first | (with_reducible first | refine .rs ?_ | refine .ds (by kernel_rfl) ?_ | refine .dg (by kernel_rfl) ?_ | refine .rg ?_ | refine .ite ?_ | refine .ret ?_ | refine .skip ?_ | refine .exit ?_ | refine .scope ?_ | refine .seq (.label ?_) | refine .block ?_ | refine .seq ?_) | (simp (disch := first | assumption | (apply Go.Cert.ne_of2; assumption; assumption) | (apply Go.Cert.ne_ob; assumption; assumption; (intro e; cases e; done)) | omega) only [w64, w8, tg_eq, Go.V.n1, Go.V.n2, Go.V.nn, Int.tdiv_eq_ediv_of_nonneg, Sg.set_same, Sg.set_ne, Sg.set_ne', Sg.del_ne, Sg.del_ne']) | ((with_reducible refine (h18 _ _ (by first | assumption | ((simp (disch := first | assumption | (apply Go.Cert.ne_of2; assumption; assumption) | (apply Go.Cert.ne_ob; assumption; assumption; (intro e; cases e; done)) | omega) only [Sg.set_same, Sg.set_ne, Sg.set_ne', Sg.del_ne, Sg.del_ne']); first | done | rfl | assumption)) (by with_unfolding_all rfl)).mono ?_); rintro _ S ⟨rfl, rfl⟩) | (refine vlo_app (by first | assumption | ((simp (disch := first | assumption | (apply Go.Cert.ne_of2; assumption; assumption) | (apply Go.Cert.ne_ob; assumption; assumption; (intro e; cases e; done)) | omega) only [Sg.set_same, Sg.set_ne, Sg.set_ne', Sg.del_ne, Sg.del_ne']); first | done | rfl | assumption)) ?_) | (refine vst_app (by first | assumption | ((simp (disch := first | assumption | (apply Go.Cert.ne_of2; assumption; assumption) | (apply Go.Cert.ne_ob; assumption; assumption; (intro e; cases e; done)) | omega) only [Sg.set_same, Sg.set_ne, Sg.set_ne', Sg.del_ne, Sg.del_ne']); first | done | rfl | assumption)) ?_)); (try simp only [vO, vQ, ↓vP, vE, vS, vB, vL, vF, vM, vN, vbs_full, Nat.reduceEqDiff, Nat.reduceAdd, Nat.reduceLeDiff, ne_eq, not_false_eq_true, Nat.reduceMul, Nat.reduceSub, Int.toNat_zero, Int.reduceToNat, Try.underlying3, info3, Try.underlying4, info4, Try.underlying27, h27, hz27, Try.underlying25, info25, Try.underlying9, info9, Try.underlying68, info68, hFl, hFo, hFt, hFd, vT])) | with_reducible refine vfresh_set ?_ | with_reducible refine vfresh_intro (fun _ _ => ?_) | with_reducible refine vif_intro (fun _ => ?_) (fun _ => ?_) | omega | ((with_reducible first | refine vop_at ?_ | refine vops_at ?_ | refine vquiet_at ?_ | refine vmix_at ?_ | refine Holds_at ?_); simp only [vO, vQ, ↓vP, vE, vS, vB, vL, vF, vM, vN, vbs_full, Nat.reduceEqDiff, Nat.reduceAdd, Nat.reduceLeDiff, ne_eq, not_false_eq_true, Nat.reduceMul, Nat.reduceSub, Int.toNat_zero, Int.reduceToNat, Try.underlying3, info3, Try.underlying4, info4, Try.underlying27, h27, hz27, Try.underlying25, info25, Try.underlying9, info9, Try.underlying68, info68, hFl, hFo, hFt, hFd, vT]))
  all_goals (refine ⟨_, .refl _, .any, by rw [exK_any], ?_⟩; (first | exact Sg.sub.refl _ | ((repeat (first | exact Sg.sub.refl _ | refine Sg.sub.set_both ?_ | refine Sg.sub.set_fresh ?_ (by first | assumption | exact Sg.set_none (by assumption) (by first | assumption | (apply Go.Cert.ne_of2a; assumption; assumption))))); done) | (intro y p hy; simp only [Sg.set_apply, Sg.del_apply] at hy ⊢; grind)))
set_option maxHeartbeats 400000 in
set_option maxRecDepth 100000 in
theorem q19 (D : Dp) (d : Int) (hB : Reads 39 (notL D) d) (hN : Nice (notL D)) : Reads 19 (andL D) d := by
  intro ρ s σ hρ hl hs
  subst hs
  refine lose_ex ?_
  obtain ⟨z27, h27, hz27⟩ := zero27
  simp only [ex0, exK_mk, exsA_nil] at hz27
  have h18 : ∀ S es, S ρ = some (rdA s) → es = strs [[65, 78, 68]] → VCalls Try.prog 18 [.ref ρ 0, .bm 39 [.ref ρ 0], .i 2, .sl .full es] S _ := fun S es hS he => p18 ρ s S 39 (notL D) 2 .full [[65, 78, 68]] es he hB hN hS hl (by decide) (by decide)
  have e : andL D s = row (notL D) 2 [[65, 78, 68]] s := rfl
  rw [e]
  have hFl := exA_len (row (notL D) 2 [[65, 78, 68]] s).1
  have hFo := exA_one (row (notL D) 2 [[65, 78, 68]] s).1
  have hFt := exA_take (row (notL D) 2 [[65, 78, 68]] s).1
  have hFd := exA_drop (row (notL D) 2 [[65, 78, 68]] s).1
  generalize (row (notL D) 2 [[65, 78, 68]] s).1 = e at *
  generalize (row (notL D) 2 [[65, 78, 68]] s).2 = s3 at *
  (refine vfun (fun _ => .no) mixed Try.func19 (by kernel_rfl) ?_; simp only [bodyOf, Try.f19, Option.getD_some])
  repeat' (first | with_reducible rfl | exact .inr trivial | with_reducible apply And.intro | with_reducible apply vqx_step | with_reducible apply vqm_step | with_reducible refine vkp_free (by decide +kernel) ?_ | with_reducible intro _ | ((first | (with_reducible first | refine .rs ?_ | refine .ds (by kernel_rfl) ?_ | refine .dg (by kernel_rfl) ?_ | refine .rg ?_ | refine .ite ?_ | refine .ret ?_ | refine .skip ?_ | refine .exit ?_ | refine .scope ?_ | refine .seq (.label ?_) | refine .block ?_ | refine .seq ?_) | (simp (disch := first | assumption | (apply Go.Cert.ne_of2; assumption; assumption) | (apply Go.Cert.ne_ob; assumption; assumption; (intro e; cases e; done)) | omega) only [w64, w8, tg_eq, Go.V.n1, Go.V.n2, Go.V.nn, Int.tdiv_eq_ediv_of_nonneg, Sg.set_same, Sg.set_ne, Sg.set_ne', Sg.del_ne, Sg.del_ne']) | ((with_reducible refine (h18 _ _ (by first | assumption | ((simp (disch := first | assumption | (apply Go.Cert.ne_of2; assumption; assumption) | (apply Go.Cert.ne_ob; assumption; assumption; (intro e; cases e; done)) | omega) only [Sg.set_same, Sg.set_ne, Sg.set_ne', Sg.del_ne, Sg.del_ne']); first | done | rfl | assumption)) (by with_unfolding_all rfl)).mono ?_); rintro _ S ⟨rfl, rfl⟩) | (refine vlo_app (by first | assumption | ((simp (disch := first | assumption | (apply Go.Cert.ne_of2; assumption; assumption) | (apply Go.Cert.ne_ob; assumption; assumption; (intro e; cases e; done)) | omega) only [Sg.set_same, Sg.set_ne, Sg.set_ne', Sg.del_ne, Sg.del_ne']); first | done | rfl | assumption)) ?_) | (refine vst_app (by first | assumption | ((simp (disch := first | assumption | (apply Go.Cert.ne_of2; assumption; assumption) | (apply Go.Cert.ne_ob; assumption; assumption; (intro e; cases e; done)) | omega) only [Sg.set_same, Sg.set_ne, Sg.set_ne', Sg.del_ne, Sg.del_ne']); first | done | rfl | assumption)) ?_)); (try simp only [vO, vQ, ↓vP, vE, vS, vB, vL, vF, vM, vN, vbs_full, Nat.reduceEqDiff, Nat.reduceAdd, Nat.reduceLeDiff, ne_eq, not_false_eq_true, Nat.reduceMul, Nat.reduceSub, Int.toNat_zero, Int.reduceToNat, Try.underlying3, info3, Try.underlying4, info4, Try.underlying27, h27, hz27, Try.underlying25, info25, Try.underlying9, info9, Try.underlying68, info68, hFl, hFo, hFt, hFd, vT])) | with_reducible refine vfresh_set ?_ | with_reducible refine vfresh_intro (fun _ _ => ?_) | with_reducible refine vif_intro (fun _ => ?_) (fun _ => ?_) | omega | ((with_reducible first | refine vop_at ?_ | refine vops_at ?_ | refine vquiet_at ?_ | refine vmix_at ?_ | refine Holds_at ?_); simp only [vO, vQ, ↓vP, vE, vS, vB, vL, vF, vM, vN, vbs_full, Nat.reduceEqDiff, Nat.reduceAdd, Nat.reduceLeDiff, ne_eq, not_false_eq_true, Nat.reduceMul, Nat.reduceSub, Int.toNat_zero, Int.reduceToNat, Try.underlying3, info3, Try.underlying4, info4, Try.underlying27, h27, hz27, Try.underlying25, info25, Try.underlying9, info9, Try.underlying68, info68, hFl, hFo, hFt, hFd, vT]))
  all_goals (refine ⟨_, .refl _, .any, by rw [exK_any], ?_⟩; (first | exact Sg.sub.refl _ | ((repeat (first | exact Sg.sub.refl _ | refine Sg.sub.set_both ?_ | refine Sg.sub.set_fresh ?_ (by first | assumption | exact Sg.set_none (by assumption) (by first | assumption | (apply Go.Cert.ne_of2a; assumption; assumption))))); done) | (intro y p hy; simp only [Sg.set_apply, Sg.del_apply] at hy ⊢; grind)))
set_option maxHeartbeats 400000 in
set_option maxRecDepth 100000 in
theorem q10 (D : Dp) (d : Int) (hB : Reads 19 (andL D) d) (hN : Nice (andL D)) : Reads 10 (exL D) d := by
  intro ρ s σ hρ hl hs
  subst hs
  refine lose_ex ?_
  obtain ⟨z27, h27, hz27⟩ := zero27
  simp only [ex0, exK_mk, exsA_nil] at hz27
  have h18 : ∀ S es, S ρ = some (rdA s) → es = strs [[79, 82]] → VCalls Try.prog 18 [.ref ρ 0, .bm 19 [.ref ρ 0], .i 1, .sl .full es] S _ := fun S es hS he => p18 ρ s S 19 (andL D) 1 .full [[79, 82]] es he hB hN hS hl (by decide) (by decide)
  have e : exL D s = row (andL D) 1 [[79, 82]] s := rfl
  rw [e]
  have hFl := exA_len (row (andL D) 1 [[79, 82]] s).1
  have hFo := exA_one (row (andL D) 1 [[79, 82]] s).1
  have hFt := exA_take (row (andL D) 1 [[79, 82]] s).1
  have hFd := exA_drop (row (andL D) 1 [[79, 82]] s).1
  generalize (row (andL D) 1 [[79, 82]] s).1 = e at *
  generalize (row (andL D) 1 [[79, 82]] s).2 = s3 at *
  (refine vfun (fun _ => .no) mixed Try.func10 (by kernel_rfl) ?_; simp only [bodyOf, Try.f10, Option.getD_some])
  repeat' (first | with_reducible rfl | exact .inr trivial | with_reducible apply And.intro | with_reducible apply vqx_step | with_reducible apply vqm_step | with_reducible refine vkp_free (by decide +kernel) ?_ | with_reducible intro _ | ((first | (with_reducible first | refine .rs ?_ | refine .ds (by kernel_rfl) ?_ | refine .dg (by kernel_rfl) ?_ | refine .rg ?_ | refine .ite ?_ | refine .ret ?_ | refine .skip ?_ | refine .exit ?_ | refine .scope ?_ | refine .seq (.label ?_) | refine .block ?_ | refine .seq ?_) | (simp (disch := first | assumption | (apply Go.Cert.ne_of2; assumption; assumption) | (apply Go.Cert.ne_ob; assumption; assumption; (intro e; cases e; done)) | omega) only [w64, w8, tg_eq, Go.V.n1, Go.V.n2, Go.V.nn, Int.tdiv_eq_ediv_of_nonneg, Sg.set_same, Sg.set_ne, Sg.set_ne', Sg.del_ne, Sg.del_ne']) | ((with_reducible refine (h18 _ _ (by first | assumption | ((simp (disch := first | assumption | (apply Go.Cert.ne_of2; assumption; assumption) | (apply Go.Cert.ne_ob; assumption; assumption; (intro e; cases e; done)) | omega) only [Sg.set_same, Sg.set_ne, Sg.set_ne', Sg.del_ne, Sg.del_ne']); first | done | rfl | assumption)) (by with_unfolding_all rfl)).mono ?_); rintro _ S ⟨rfl, rfl⟩) | (refine vlo_app (by first | assumption | ((simp (disch := first | assumption | (apply Go.Cert.ne_of2; assumption; assumption) | (apply Go.Cert.ne_ob; assumption; assumption; (intro e; cases e; done)) | omega) only [Sg.set_same, Sg.set_ne, Sg.set_ne', Sg.del_ne, Sg.del_ne']); first | done | rfl | assumption)) ?_) | (refine vst_app (by first | assumption | ((simp (disch := first | assumption | (apply Go.Cert.ne_of2; assumption; assumption) | (apply Go.Cert.ne_ob; assumption; assumption; (intro e; cases e; done)) | omega) only [Sg.set_same, Sg.set_ne, Sg.set_ne', Sg.del_ne, Sg.del_ne']); first | done | rfl | assumption)) ?_)); (try simp only [vO, vQ, ↓vP, vE, vS, vB, vL, vF, vM, vN, vbs_full, Nat.reduceEqDiff, Nat.reduceAdd, Nat.reduceLeDiff, ne_eq, not_false_eq_true, Nat.reduceMul, Nat.reduceSub, Int.toNat_zero, Int.reduceToNat, Try.underlying3, info3, Try.underlying4, info4, Try.underlying27, h27, hz27, Try.underlying25, info25, Try.underlying9, info9, Try.underlying68, info68, hFl, hFo, hFt, hFd, vT])) | with_reducible refine vfresh_set ?_ | with_reducible refine vfresh_intro (fun _ _ => ?_) | with_reducible refine vif_intro (fun _ => ?_) (fun _ => ?_) | omega | ((with_reducible first | refine vop_at ?_ | refine vops_at ?_ | refine vquiet_at ?_ | refine vmix_at ?_ | refine Holds_at ?_); simp only [vO, vQ, ↓vP, vE, vS, vB, vL, vF, vM, vN, vbs_full, Nat.reduceEqDiff, Nat.reduceAdd, Nat.reduceLeDiff, ne_eq, not_false_eq_true, Nat.reduceMul, Nat.reduceSub, Int.toNat_zero, Int.reduceToNat, Try.underlying3, info3, Try.underlying4, info4, Try.underlying27, h27, hz27, Try.underlying25, info25, Try.underlying9, info9, Try.underlying68, info68, hFl, hFo, hFt, hFd, vT]))
  all_goals (refine ⟨_, .refl _, .any, by rw [exK_any], ?_⟩; (first | exact Sg.sub.refl _ | ((repeat (first | exact Sg.sub.refl _ | refine Sg.sub.set_both ?_ | refine Sg.sub.set_fresh ?_ (by first | assumption | exact Sg.set_none (by assumption) (by first | assumption | (apply Go.Cert.ne_of2a; assumption; assumption))))); done) | (intro y p hy; simp only [Sg.set_apply, Sg.del_apply] at hy ⊢; grind)))
end Go.Proofs.Ytmokgifgnpocaaa

set_option linter.unusedSimpArgs false
set_option linter.unusedVariables false
namespace Go.Proofs.Ytmokgifgnpocaaa
open Go Go.V Go.Lex Go.Parse
set_option maxHeartbeats 400000 in
set_option maxRecDepth 100000 in
theorem q64 (D : Dp) (d : Int) (hB : Reads 71 (sumL D) d) (hD : D.Nice) : Reads 64 (testL D) d := by
  intro ρ s σ hρ hl hs
  subst hs
  refine lose_ex ?_
  obtain ⟨z27, h27, hz27⟩ := zero27
  simp only [ex0, exK_mk, exsA_nil] at hz27
  have hN := nice_sum hD
  have o1 := hN s hl
  have h71 := fun S hS => hB ρ s S hS hl rfl
  have hlt := is_lt (sumL D s).2 tests
  simp only [List.length_cons, List.length_nil] at hlt
  have h22 := fun S hS es he => p22 ρ (sumL D s).2 .full tests es S he hS o1.wf.pos (by simp)
  rw [pass_val] at h22
  have hFl := exA_len (sumL D s).1
  have hFo := exA_one (sumL D s).1
  have hFt := exA_take (sumL D s).1
  have hFd := exA_drop (sumL D s).1
  unfold testL
  by_cases h0 : (sumL D s).2.is tests < 0
  · rw [if_pos h0]
    rw [if_neg (by omega)] at h22
    generalize (sumL D s).2.is tests = k at *
    generalize (sumL D s).1 = e at *
    generalize (sumL D s).2 = s1 at *
    (refine vfun (fun _ => .no) mixed Try.func64 (by kernel_rfl) ?_; simp only [bodyOf, Try.f64, Option.getD_some])
    repeat' (first | with_reducible rfl | exact .inr trivial | with_reducible apply And.intro | with_reducible apply vqx_step | with_reducible apply vqm_step | with_reducible refine vkp_free (by decide +kernel) ?_ | with_reducible intro _ | ((first | (with_reducible first | refine .rs ?_ | refine .ds (by kernel_rfl) ?_ | refine .dg (by kernel_rfl) ?_ | refine .rg ?_ | refine .ite ?_ | refine .ret ?_ | refine .skip ?_ | refine .exit ?_ | refine .scope ?_ | refine .seq (.label ?_) | refine .block ?_ | refine .seq ?_) | (simp (disch := first | assumption | (apply Go.Cert.ne_of2; assumption; assumption) | (apply Go.Cert.ne_ob; assumption; assumption; (intro e; cases e; done)) | omega) only [w64, w8, tg_eq, Go.V.n1, Go.V.n2, Go.V.nn, Int.tdiv_eq_ediv_of_nonneg, Sg.set_same, Sg.set_ne, Sg.set_ne', Sg.del_ne, Sg.del_ne']) | ((with_reducible refine (h71 _ (by first | assumption | ((simp (disch := first | assumption | (apply Go.Cert.ne_of2; assumption; assumption) | (apply Go.Cert.ne_ob; assumption; assumption; (intro e; cases e; done)) | omega) only [Sg.set_same, Sg.set_ne, Sg.set_ne', Sg.del_ne, Sg.del_ne']); first | done | rfl | assumption))).mono ?_); rintro _ S ⟨rfl, rfl⟩) | ((with_reducible refine (h22 _ (by first | assumption | ((simp (disch := first | assumption | (apply Go.Cert.ne_of2; assumption; assumption) | (apply Go.Cert.ne_ob; assumption; assumption; (intro e; cases e; done)) | omega) only [Sg.set_same, Sg.set_ne, Sg.set_ne', Sg.del_ne, Sg.del_ne']); first | done | rfl | assumption)) _ (by with_unfolding_all rfl)).mono ?_); rintro _ S ⟨rfl, rfl⟩) | (refine vlo_app (by first | assumption | ((simp (disch := first | assumption | (apply Go.Cert.ne_of2; assumption; assumption) | (apply Go.Cert.ne_ob; assumption; assumption; (intro e; cases e; done)) | omega) only [Sg.set_same, Sg.set_ne, Sg.set_ne', Sg.del_ne, Sg.del_ne']); first | done | rfl | assumption)) ?_) | (refine vst_app (by first | assumption | ((simp (disch := first | assumption | (apply Go.Cert.ne_of2; assumption; assumption) | (apply Go.Cert.ne_ob; assumption; assumption; (intro e; cases e; done)) | omega) only [Sg.set_same, Sg.set_ne, Sg.set_ne', Sg.del_ne, Sg.del_ne']); first | done | rfl | assumption)) ?_)); (try simp only [vO, vQ, ↓vP, vE, vS, vB, vL, vF, vM, vN, vbs_full, Nat.reduceEqDiff, Nat.reduceAdd, Nat.reduceLeDiff, ne_eq, not_false_eq_true, Nat.reduceMul, Nat.reduceSub, Int.toNat_zero, Int.reduceToNat, Try.underlying3, info3, Try.underlying4, info4, Try.underlying27, h27, hz27, Try.underlying25, info25, Try.underlying9, info9, Try.underlying68, info68, hFl, hFo, hFt, hFd, vT])) | with_reducible refine vfresh_set ?_ | with_reducible refine vfresh_intro (fun _ _ => ?_) | with_reducible refine vif_intro (fun _ => ?_) (fun _ => ?_) | omega | ((with_reducible first | refine vop_at ?_ | refine vops_at ?_ | refine vquiet_at ?_ | refine vmix_at ?_ | refine Holds_at ?_); simp only [vO, vQ, ↓vP, vE, vS, vB, vL, vF, vM, vN, vbs_full, Nat.reduceEqDiff, Nat.reduceAdd, Nat.reduceLeDiff, ne_eq, not_false_eq_true, Nat.reduceMul, Nat.reduceSub, Int.toNat_zero, Int.reduceToNat, Try.underlying3, info3, Try.underlying4, info4, Try.underlying27, h27, hz27, Try.underlying25, info25, Try.underlying9, info9, Try.underlying68, info68, hFl, hFo, hFt, hFd, vT]))
    all_goals (refine ⟨_, .refl _, .any, by rw [exK_any], ?_⟩; (first | exact Sg.sub.refl _ | ((repeat (first | exact Sg.sub.refl _ | refine Sg.sub.set_both ?_ | refine Sg.sub.set_fresh ?_ (by first | assumption | exact Sg.set_none (by assumption) (by first | assumption | (apply Go.Cert.ne_of2a; assumption; assumption))))); done) | (intro y p hy; simp only [Sg.set_apply, Sg.del_apply] at hy ⊢; grind)))
  · rw [if_neg h0]
    rw [if_pos (by omega)] at h22
    have o2 := ok_is (ws := tests) o1.wf (by omega)
    by_cases h8 : 3 + (sumL D s).2.is tests ≤ 8
    · rw [if_pos h8]
      have h71b := fun S hS => hB ρ (sumL D s).2.next S hS o2.wf (by show (sumL D s).2.d = s.d; exact o1.d)
      have hFl2 := exA_len (sumL D (sumL D s).2.next).1
      have hFo2 := exA_one (sumL D (sumL D s).2.next).1
      have hFt2 := exA_take (sumL D (sumL D s).2.next).1
      have hFd2 := exA_drop (sumL D (sumL D s).2.next).1
      generalize (sumL D (sumL D s).2.next).1 = e2 at *
      generalize (sumL D (sumL D s).2.next).2 = s3 at *
      generalize (sumL D s).2.next = s2 at *
      generalize (sumL D s).2.is tests = k at *
      generalize (sumL D s).1 = e at *
      generalize (sumL D s).2 = s1 at *
      simp only [exK_mk, opA]
      (refine vfun (fun _ => .no) mixed Try.func64 (by kernel_rfl) ?_; simp only [bodyOf, Try.f64, Option.getD_some])
      repeat' (first | with_reducible rfl | exact .inr trivial | with_reducible apply And.intro | with_reducible apply vqx_step | with_reducible apply vqm_step | with_reducible refine vkp_free (by decide +kernel) ?_ | with_reducible intro _ | ((first | (with_reducible first | refine .rs ?_ | refine .ds (by kernel_rfl) ?_ | refine .dg (by kernel_rfl) ?_ | refine .rg ?_ | refine .ite ?_ | refine .ret ?_ | refine .skip ?_ | refine .exit ?_ | refine .scope ?_ | refine .seq (.label ?_) | refine .block ?_ | refine .seq ?_) | (simp (disch := first | assumption | (apply Go.Cert.ne_of2; assumption; assumption) | (apply Go.Cert.ne_ob; assumption; assumption; (intro e; cases e; done)) | omega) only [w64, w8, tg_eq, Go.V.n1, Go.V.n2, Go.V.nn, Int.tdiv_eq_ediv_of_nonneg, Sg.set_same, Sg.set_ne, Sg.set_ne', Sg.del_ne, Sg.del_ne']) | ((with_reducible refine (h71 _ (by first | assumption | ((simp (disch := first | assumption | (apply Go.Cert.ne_of2; assumption; assumption) | (apply Go.Cert.ne_ob; assumption; assumption; (intro e; cases e; done)) | omega) only [Sg.set_same, Sg.set_ne, Sg.set_ne', Sg.del_ne, Sg.del_ne']); first | done | rfl | assumption))).mono ?_); rintro _ S ⟨rfl, rfl⟩) | ((with_reducible refine (h22 _ (by first | assumption | ((simp (disch := first | assumption | (apply Go.Cert.ne_of2; assumption; assumption) | (apply Go.Cert.ne_ob; assumption; assumption; (intro e; cases e; done)) | omega) only [Sg.set_same, Sg.set_ne, Sg.set_ne', Sg.del_ne, Sg.del_ne']); first | done | rfl | assumption)) _ (by with_unfolding_all rfl)).mono ?_); rintro _ S ⟨rfl, rfl⟩) | ((with_reducible refine (h71b _ (by first | assumption | ((simp (disch := first | assumption | (apply Go.Cert.ne_of2; assumption; assumption) | (apply Go.Cert.ne_ob; assumption; assumption; (intro e; cases e; done)) | omega) only [Sg.set_same, Sg.set_ne, Sg.set_ne', Sg.del_ne, Sg.del_ne']); first | done | rfl | assumption))).mono ?_); rintro _ S ⟨rfl, rfl⟩) | (refine vlo_app (by first | assumption | ((simp (disch := first | assumption | (apply Go.Cert.ne_of2; assumption; assumption) | (apply Go.Cert.ne_ob; assumption; assumption; (intro e; cases e; done)) | omega) only [Sg.set_same, Sg.set_ne, Sg.set_ne', Sg.del_ne, Sg.del_ne']); first | done | rfl | assumption)) ?_) | (refine vst_app (by first | assumption | ((simp (disch := first | assumption | (apply Go.Cert.ne_of2; assumption; assumption) | (apply Go.Cert.ne_ob; assumption; assumption; (intro e; cases e; done)) | omega) only [Sg.set_same, Sg.set_ne, Sg.set_ne', Sg.del_ne, Sg.del_ne']); first | done | rfl | assumption)) ?_)); (try simp only [vO, vQ, ↓vP, vE, vS, vB, vL, vF, vM, vN, vbs_full, Nat.reduceEqDiff, Nat.reduceAdd, Nat.reduceLeDiff, ne_eq, not_false_eq_true, Nat.reduceMul, Nat.reduceSub, Int.toNat_zero, Int.reduceToNat, Try.underlying3, info3, Try.underlying4, info4, Try.underlying27, h27, hz27, Try.underlying25, info25, Try.underlying24, info24, Try.underlying9, info9, Try.underlying68, info68, hFl, hFo, hFt, hFd, hFl2, hFo2, hFt2, hFd2, vT])) | with_reducible refine vfresh_set ?_ | with_reducible refine vfresh_intro (fun _ _ => ?_) | with_reducible refine vif_intro (fun _ => ?_) (fun _ => ?_) | omega | ((with_reducible first | refine vop_at ?_ | refine vops_at ?_ | refine vquiet_at ?_ | refine vmix_at ?_ | refine Holds_at ?_); simp only [vO, vQ, ↓vP, vE, vS, vB, vL, vF, vM, vN, vbs_full, Nat.reduceEqDiff, Nat.reduceAdd, Nat.reduceLeDiff, ne_eq, not_false_eq_true, Nat.reduceMul, Nat.reduceSub, Int.toNat_zero, Int.reduceToNat, Try.underlying3, info3, Try.underlying4, info4, Try.underlying27, h27, hz27, Try.underlying25, info25, Try.underlying24, info24, Try.underlying9, info9, Try.underlying68, info68, hFl, hFo, hFt, hFd, hFl2, hFo2, hFt2, hFd2, vT]))
      all_goals (refine ⟨_, .refl _, _, rfl, ?_⟩; (first | exact Sg.sub.refl _ | ((repeat (first | exact Sg.sub.refl _ | refine Sg.sub.set_both ?_ | refine Sg.sub.set_fresh ?_ (by first | assumption | exact Sg.set_none (by assumption) (by first | assumption | (apply Go.Cert.ne_of2a; assumption; assumption))))); done) | (intro y p hy; simp only [Sg.set_apply, Sg.del_apply] at hy ⊢; grind)))
    · rw [if_neg h8]
      have h13 : ∀ S, S ρ = some (rdA (sumL D s).2.next) → VCalls Try.prog 13 [.ref ρ 0, .s (bs wNot)] S _ := fun S hS => p13 ρ (sumL D s).2.next wNot S hS o2.wf.pos
      unfold isNull
      cases hb : (sumL D s).2.next.has wNot with
      | true =>
        simp only [hb, if_true] at h13 ⊢
        have o3 := ok_has o2.wf hb
        have h41 := fun S hS es he => p41 ρ (sumL D s).2.next.next .full [wNull] es S he hS o3.wf (by simp)
        have h62 : ∀ σ, VCalls Try.prog 62 [.i 6, .agg (exA (sumL D s).1)] σ _ := fun σ => p62 6 (sumL D s).1 σ
        have hGl := exA_len (ofE 6 (sumL D s).1)
        have hGo := exA_one (ofE 6 (sumL D s).1)
        have hGt := exA_take (ofE 6 (sumL D s).1)
        have hGd := exA_drop (ofE 6 (sumL D s).1)
        have h62b : ∀ σ, VCalls Try.prog 62 [.i 4, .agg (exA (ofE 6 (sumL D s).1))] σ _ := fun σ => p62 4 (ofE 6 (sumL D s).1) σ
        have hHl := exA_len (ofE 4 (ofE 6 (sumL D s).1))
        have hHo := exA_one (ofE 4 (ofE 6 (sumL D s).1))
        have hHt := exA_take (ofE 4 (ofE 6 (sumL D s).1))
        have hHd := exA_drop (ofE 4 (ofE 6 (sumL D s).1))
        generalize ofE 4 (ofE 6 (sumL D s).1) = e4 at *
        generalize ofE 6 (sumL D s).1 = e6 at *
        generalize (sumL D s).2.next.next.must [wNull] = s4 at *
        generalize (sumL D s).2.next.next = s3 at *
        generalize (sumL D s).2.next = s2 at *
        generalize (sumL D s).2.is tests = k at *
        generalize (sumL D s).1 = e at *
        generalize (sumL D s).2 = s1 at *
        (refine vfun (fun _ => .no) mixed Try.func64 (by kernel_rfl) ?_; simp only [bodyOf, Try.f64, Option.getD_some])
        repeat' (first | with_reducible rfl | exact .inr trivial | with_reducible apply And.intro | with_reducible apply vqx_step | with_reducible apply vqm_step | with_reducible refine vkp_free (by decide +kernel) ?_ | with_reducible intro _ | ((first | (with_reducible first | refine .rs ?_ | refine .ds (by kernel_rfl) ?_ | refine .dg (by kernel_rfl) ?_ | refine .rg ?_ | refine .ite ?_ | refine .ret ?_ | refine .skip ?_ | refine .exit ?_ | refine .scope ?_ | refine .seq (.label ?_) | refine .block ?_ | refine .seq ?_) | (simp (disch := first | assumption | (apply Go.Cert.ne_of2; assumption; assumption) | (apply Go.Cert.ne_ob; assumption; assumption; (intro e; cases e; done)) | omega) only [w64, w8, tg_eq, Go.V.n1, Go.V.n2, Go.V.nn, Int.tdiv_eq_ediv_of_nonneg, Sg.set_same, Sg.set_ne, Sg.set_ne', Sg.del_ne, Sg.del_ne']) | ((with_reducible refine (h71 _ (by first | assumption | ((simp (disch := first | assumption | (apply Go.Cert.ne_of2; assumption; assumption) | (apply Go.Cert.ne_ob; assumption; assumption; (intro e; cases e; done)) | omega) only [Sg.set_same, Sg.set_ne, Sg.set_ne', Sg.del_ne, Sg.del_ne']); first | done | rfl | assumption))).mono ?_); rintro _ S ⟨rfl, rfl⟩) | ((with_reducible refine (h22 _ (by first | assumption | ((simp (disch := first | assumption | (apply Go.Cert.ne_of2; assumption; assumption) | (apply Go.Cert.ne_ob; assumption; assumption; (intro e; cases e; done)) | omega) only [Sg.set_same, Sg.set_ne, Sg.set_ne', Sg.del_ne, Sg.del_ne']); first | done | rfl | assumption)) _ (by with_unfolding_all rfl)).mono ?_); rintro _ S ⟨rfl, rfl⟩) | ((with_reducible refine (h13 _ (by first | assumption | ((simp (disch := first | assumption | (apply Go.Cert.ne_of2; assumption; assumption) | (apply Go.Cert.ne_ob; assumption; assumption; (intro e; cases e; done)) | omega) only [Sg.set_same, Sg.set_ne, Sg.set_ne', Sg.del_ne, Sg.del_ne']); first | done | rfl | assumption))).mono ?_); rintro _ S ⟨rfl, rfl⟩) | ((with_reducible refine (h41 _ (by first | assumption | ((simp (disch := first | assumption | (apply Go.Cert.ne_of2; assumption; assumption) | (apply Go.Cert.ne_ob; assumption; assumption; (intro e; cases e; done)) | omega) only [Sg.set_same, Sg.set_ne, Sg.set_ne', Sg.del_ne, Sg.del_ne']); first | done | rfl | assumption)) _ (by with_unfolding_all rfl)).mono ?_); rintro _ S ⟨rfl, rfl⟩) | ((with_reducible refine (h62 _).mono ?_); rintro _ S ⟨rfl, rfl⟩) | ((with_reducible refine (h62b _).mono ?_); rintro _ S ⟨rfl, rfl⟩) | (refine vlo_app (by first | assumption | ((simp (disch := first | assumption | (apply Go.Cert.ne_of2; assumption; assumption) | (apply Go.Cert.ne_ob; assumption; assumption; (intro e; cases e; done)) | omega) only [Sg.set_same, Sg.set_ne, Sg.set_ne', Sg.del_ne, Sg.del_ne']); first | done | rfl | assumption)) ?_) | (refine vst_app (by first | assumption | ((simp (disch := first | assumption | (apply Go.Cert.ne_of2; assumption; assumption) | (apply Go.Cert.ne_ob; assumption; assumption; (intro e; cases e; done)) | omega) only [Sg.set_same, Sg.set_ne, Sg.set_ne', Sg.del_ne, Sg.del_ne']); first | done | rfl | assumption)) ?_)); (try simp only [vO, vQ, ↓vP, vE, vS, vB, vL, vF, vM, vN, vbs_full, Nat.reduceEqDiff, Nat.reduceAdd, Nat.reduceLeDiff, ne_eq, not_false_eq_true, Nat.reduceMul, Nat.reduceSub, Int.toNat_zero, Int.reduceToNat, Try.underlying3, info3, Try.underlying4, info4, Try.underlying27, h27, hz27, Try.underlying25, info25, Try.underlying24, info24, Try.underlying9, info9, Try.underlying68, info68, hFl, hFo, hFt, hFd, hGl, hGo, hGt, hGd, hHl, hHo, hHt, hHd, vT])) | with_reducible refine vfresh_set ?_ | with_reducible refine vfresh_intro (fun _ _ => ?_) | with_reducible refine vif_intro (fun _ => ?_) (fun _ => ?_) | omega | ((with_reducible first | refine vop_at ?_ | refine vops_at ?_ | refine vquiet_at ?_ | refine vmix_at ?_ | refine Holds_at ?_); simp only [vO, vQ, ↓vP, vE, vS, vB, vL, vF, vM, vN, vbs_full, Nat.reduceEqDiff, Nat.reduceAdd, Nat.reduceLeDiff, ne_eq, not_false_eq_true, Nat.reduceMul, Nat.reduceSub, Int.toNat_zero, Int.reduceToNat, Try.underlying3, info3, Try.underlying4, info4, Try.underlying27, h27, hz27, Try.underlying25, info25, Try.underlying24, info24, Try.underlying9, info9, Try.underlying68, info68, hFl, hFo, hFt, hFd, hGl, hGo, hGt, hGd, hHl, hHo, hHt, hHd, vT]))
        all_goals (refine ⟨_, .refl _, .any, by rw [exK_any], ?_⟩; (first | exact Sg.sub.refl _ | ((repeat (first | exact Sg.sub.refl _ | refine Sg.sub.set_both ?_ | refine Sg.sub.set_fresh ?_ (by first | assumption | exact Sg.set_none (by assumption) (by first | assumption | (apply Go.Cert.ne_of2a; assumption; assumption))))); done) | (intro y p hy; simp only [Sg.set_apply, Sg.del_apply] at hy ⊢; grind)))
      | false =>
        simp only [hb, Bool.false_eq_true, if_false] at h13 ⊢
        have h41 := fun S hS es he => p41 ρ (sumL D s).2.next .full [wNull] es S he hS o2.wf (by simp)
        have h62 : ∀ σ, VCalls Try.prog 62 [.i 6, .agg (exA (sumL D s).1)] σ _ := fun σ => p62 6 (sumL D s).1 σ
        have hGl := exA_len (ofE 6 (sumL D s).1)
        have hGo := exA_one (ofE 6 (sumL D s).1)
        have hGt := exA_take (ofE 6 (sumL D s).1)
        have hGd := exA_drop (ofE 6 (sumL D s).1)
        generalize ofE 6 (sumL D s).1 = e6 at *
        generalize (sumL D s).2.next.must [wNull] = s4 at *
        generalize (sumL D s).2.next = s2 at *
        generalize (sumL D s).2.is tests = k at *
        generalize (sumL D s).1 = e at *
        generalize (sumL D s).2 = s1 at *
        (refine vfun (fun _ => .no) mixed Try.func64 (by kernel_rfl) ?_; simp only [bodyOf, Try.f64, Option.getD_some])
        repeat' (first | with_reducible rfl | exact .inr trivial | with_reducible apply And.intro | with_reducible apply vqx_step | with_reducible apply vqm_step | with_reducible refine vkp_free (by decide +kernel) ?_ | with_reducible intro _ | ((first | (with_reducible first | refine .rs ?_ | refine .ds (by kernel_rfl) ?_ | refine .dg (by kernel_rfl) ?_ | refine .rg ?_ | refine .ite ?_ | refine .ret ?_ | refine .skip ?_ | refine .exit ?_ | refine .scope ?_ | refine .seq (.label ?_) | refine .block ?_ | refine .seq ?_) | (simp (disch := first | assumption | (apply Go.Cert.ne_of2; assumption; assumption) | (apply Go.Cert.ne_ob; assumption; assumption; (intro e; cases e; done)) | omega) only [w64, w8, tg_eq, Go.V.n1, Go.V.n2, Go.V.nn, Int.tdiv_eq_ediv_of_nonneg, Sg.set_same, Sg.set_ne, Sg.set_ne', Sg.del_ne, Sg.del_ne']) | ((with_reducible refine (h71 _ (by first | assumption | ((simp (disch := first | assumption | (apply Go.Cert.ne_of2; assumption; assumption) | (apply Go.Cert.ne_ob; assumption; assumption; (intro e; cases e; done)) | omega) only [Sg.set_same, Sg.set_ne, Sg.set_ne', Sg.del_ne, Sg.del_ne']); first | done | rfl | assumption))).mono ?_); rintro _ S ⟨rfl, rfl⟩) | ((with_reducible refine (h22 _ (by first | assumption | ((simp (disch := first | assumption | (apply Go.Cert.ne_of2; assumption; assumption) | (apply Go.Cert.ne_ob; assumption; assumption; (intro e; cases e; done)) | omega) only [Sg.set_same, Sg.set_ne, Sg.set_ne', Sg.del_ne, Sg.del_ne']); first | done | rfl | assumption)) _ (by with_unfolding_all rfl)).mono ?_); rintro _ S ⟨rfl, rfl⟩) | ((with_reducible refine (h13 _ (by first | assumption | ((simp (disch := first | assumption | (apply Go.Cert.ne_of2; assumption; assumption) | (apply Go.Cert.ne_ob; assumption; assumption; (intro e; cases e; done)) | omega) only [Sg.set_same, Sg.set_ne, Sg.set_ne', Sg.del_ne, Sg.del_ne']); first | done | rfl | assumption))).mono ?_); rintro _ S ⟨rfl, rfl⟩) | ((with_reducible refine (h41 _ (by first | assumption | ((simp (disch := first | assumption | (apply Go.Cert.ne_of2; assumption; assumption) | (apply Go.Cert.ne_ob; assumption; assumption; (intro e; cases e; done)) | omega) only [Sg.set_same, Sg.set_ne, Sg.set_ne', Sg.del_ne, Sg.del_ne']); first | done | rfl | assumption)) _ (by with_unfolding_all rfl)).mono ?_); rintro _ S ⟨rfl, rfl⟩) | ((with_reducible refine (h62 _).mono ?_); rintro _ S ⟨rfl, rfl⟩) | (refine vlo_app (by first | assumption | ((simp (disch := first | assumption | (apply Go.Cert.ne_of2; assumption; assumption) | (apply Go.Cert.ne_ob; assumption; assumption; (intro e; cases e; done)) | omega) only [Sg.set_same, Sg.set_ne, Sg.set_ne', Sg.del_ne, Sg.del_ne']); first | done | rfl | assumption)) ?_) | (refine vst_app (by first | assumption | ((simp (disch := first | assumption | (apply Go.Cert.ne_of2; assumption; assumption) | (apply Go.Cert.ne_ob; assumption; assumption; (intro e; cases e; done)) | omega) only [Sg.set_same, Sg.set_ne, Sg.set_ne', Sg.del_ne, Sg.del_ne']); first | done | rfl | assumption)) ?_)); (try simp only [vO, vQ, ↓vP, vE, vS, vB, vL, vF, vM, vN, vbs_full, Nat.reduceEqDiff, Nat.reduceAdd, Nat.reduceLeDiff, ne_eq, not_false_eq_true, Nat.reduceMul, Nat.reduceSub, Int.toNat_zero, Int.reduceToNat, Try.underlying3, info3, Try.underlying4, info4, Try.underlying27, h27, hz27, Try.underlying25, info25, Try.underlying24, info24, Try.underlying9, info9, Try.underlying68, info68, hFl, hFo, hFt, hFd, hGl, hGo, hGt, hGd, vT])) | with_reducible refine vfresh_set ?_ | with_reducible refine vfresh_intro (fun _ _ => ?_) | with_reducible refine vif_intro (fun _ => ?_) (fun _ => ?_) | omega | ((with_reducible first | refine vop_at ?_ | refine vops_at ?_ | refine vquiet_at ?_ | refine vmix_at ?_ | refine Holds_at ?_); simp only [vO, vQ, ↓vP, vE, vS, vB, vL, vF, vM, vN, vbs_full, Nat.reduceEqDiff, Nat.reduceAdd, Nat.reduceLeDiff, ne_eq, not_false_eq_true, Nat.reduceMul, Nat.reduceSub, Int.toNat_zero, Int.reduceToNat, Try.underlying3, info3, Try.underlying4, info4, Try.underlying27, h27, hz27, Try.underlying25, info25, Try.underlying24, info24, Try.underlying9, info9, Try.underlying68, info68, hFl, hFo, hFt, hFd, hGl, hGo, hGt, hGd, vT]))
        all_goals (refine ⟨_, .refl _, .any, by rw [exK_any], ?_⟩; (first | exact Sg.sub.refl _ | ((repeat (first | exact Sg.sub.refl _ | refine Sg.sub.set_both ?_ | refine Sg.sub.set_fresh ?_ (by first | assumption | exact Sg.set_none (by assumption) (by first | assumption | (apply Go.Cert.ne_of2a; assumption; assumption))))); done) | (intro y p hy; simp only [Sg.set_apply, Sg.del_apply] at hy ⊢; grind)))
set_option maxHeartbeats 400000 in
set_option maxRecDepth 100000 in
theorem q39 (D : Dp) (d : Int) (hB : Reads 64 (testL D) d) (hD : d < 10 → RD D (d + 1)) (hN : D.Nice) (hd : 0 ≤ d ∧ d ≤ 10) : Reads 39 (notL D) d := by
  intro ρ s σ hρ hl hs
  subst hs
  refine lose_ex ?_
  obtain ⟨z27, h27, hz27⟩ := zero27
  simp only [ex0, exK_mk, exsA_nil] at hz27
  have h13 : ∀ S, S ρ = some (rdA s) → VCalls Try.prog 13 [.ref ρ 0, .s (bs wNot)] S _ := fun S hS => p13 ρ s wNot S hS hl.pos
  unfold notL
  cases hb : s.has wNot with
  | true =>
    simp only [hb, if_true] at h13 ⊢
    have o1 := ok_has hl hb
    have h63 := fun S hS => p63 ρ s.next S 39 D.not (fun h => (hD h).not) hN.not hS o1.wf hd
    have h62 : ∀ σ, VCalls Try.prog 62 [.i 4, .agg (exA (within D.not s.next).1)] σ _ := fun σ => p62 4 (within D.not s.next).1 σ
    have hFl := exA_len (ofE 4 (within D.not s.next).1)
    have hFo := exA_one (ofE 4 (within D.not s.next).1)
    have hFt := exA_take (ofE 4 (within D.not s.next).1)
    have hFd := exA_drop (ofE 4 (within D.not s.next).1)
    generalize ofE 4 (within D.not s.next).1 = e4 at *
    generalize (within D.not s.next).1 = e at *
    generalize (within D.not s.next).2 = s2 at *
    generalize s.next = s1 at *
    (refine vfun (fun _ => .no) mixed Try.func39 (by kernel_rfl) ?_; simp only [bodyOf, Try.f39, Option.getD_some])
    repeat' (first | with_reducible rfl | exact .inr trivial | with_reducible apply And.intro | with_reducible apply vqx_step | with_reducible apply vqm_step | with_reducible refine vkp_free (by decide +kernel) ?_ | with_reducible intro _ | ((first | (with_reducible first | refine .rs ?_ | refine .ds (by kernel_rfl) ?_ | refine .dg (by kernel_rfl) ?_ | refine .rg ?_ | refine .ite ?_ | refine .ret ?_ | refine .skip ?_ | refine .exit ?_ | refine .scope ?_ | refine .seq (.label ?_) | refine .block ?_ | refine .seq ?_) | (simp (disch := first | assumption | (apply Go.Cert.ne_of2; assumption; assumption) | (apply Go.Cert.ne_ob; assumption; assumption; (intro e; cases e; done)) | omega) only [w64, w8, tg_eq, Go.V.n1, Go.V.n2, Go.V.nn, Int.tdiv_eq_ediv_of_nonneg, Sg.set_same, Sg.set_ne, Sg.set_ne', Sg.del_ne, Sg.del_ne']) | ((with_reducible refine (h13 _ (by first | assumption | ((simp (disch := first | assumption | (apply Go.Cert.ne_of2; assumption; assumption) | (apply Go.Cert.ne_ob; assumption; assumption; (intro e; cases e; done)) | omega) only [Sg.set_same, Sg.set_ne, Sg.set_ne', Sg.del_ne, Sg.del_ne']); first | done | rfl | assumption))).mono ?_); rintro _ S ⟨rfl, rfl⟩) | ((with_reducible refine (h63 _ (by first | assumption | ((simp (disch := first | assumption | (apply Go.Cert.ne_of2; assumption; assumption) | (apply Go.Cert.ne_ob; assumption; assumption; (intro e; cases e; done)) | omega) only [Sg.set_same, Sg.set_ne, Sg.set_ne', Sg.del_ne, Sg.del_ne']); first | done | rfl | assumption))).mono ?_); rintro _ S ⟨rfl, rfl⟩) | ((with_reducible refine (h62 _).mono ?_); rintro _ S ⟨rfl, rfl⟩) | (refine vlo_app (by first | assumption | ((simp (disch := first | assumption | (apply Go.Cert.ne_of2; assumption; assumption) | (apply Go.Cert.ne_ob; assumption; assumption; (intro e; cases e; done)) | omega) only [Sg.set_same, Sg.set_ne, Sg.set_ne', Sg.del_ne, Sg.del_ne']); first | done | rfl | assumption)) ?_) | (refine vst_app (by first | assumption | ((simp (disch := first | assumption | (apply Go.Cert.ne_of2; assumption; assumption) | (apply Go.Cert.ne_ob; assumption; assumption; (intro e; cases e; done)) | omega) only [Sg.set_same, Sg.set_ne, Sg.set_ne', Sg.del_ne, Sg.del_ne']); first | done | rfl | assumption)) ?_)); (try simp only [vO, vQ, ↓vP, vE, vS, vB, vL, vF, vM, vN, vbs_full, Nat.reduceEqDiff, Nat.reduceAdd, Nat.reduceLeDiff, ne_eq, not_false_eq_true, Nat.reduceMul, Nat.reduceSub, Int.toNat_zero, Int.reduceToNat, Try.underlying3, info3, Try.underlying4, info4, Try.underlying27, h27, hz27, Try.underlying25, info25, Try.underlying24, info24, Try.underlying9, info9, Try.underlying68, info68, hFl, hFo, hFt, hFd, vT])) | with_reducible refine vfresh_set ?_ | with_reducible refine vfresh_intro (fun _ _ => ?_) | with_reducible refine vif_intro (fun _ => ?_) (fun _ => ?_) | omega | ((with_reducible first | refine vop_at ?_ | refine vops_at ?_ | refine vquiet_at ?_ | refine vmix_at ?_ | refine Holds_at ?_); simp only [vO, vQ, ↓vP, vE, vS, vB, vL, vF, vM, vN, vbs_full, Nat.reduceEqDiff, Nat.reduceAdd, Nat.reduceLeDiff, ne_eq, not_false_eq_true, Nat.reduceMul, Nat.reduceSub, Int.toNat_zero, Int.reduceToNat, Try.underlying3, info3, Try.underlying4, info4, Try.underlying27, h27, hz27, Try.underlying25, info25, Try.underlying24, info24, Try.underlying9, info9, Try.underlying68, info68, hFl, hFo, hFt, hFd, vT]))
    all_goals (refine ⟨_, .refl _, .any, by rw [exK_any], ?_⟩; (first | exact Sg.sub.refl _ | ((repeat (first | exact Sg.sub.refl _ | refine Sg.sub.set_both ?_ | refine Sg.sub.set_fresh ?_ (by first | assumption | exact Sg.set_none (by assumption) (by first | assumption | (apply Go.Cert.ne_of2a; assumption; assumption))))); done) | (intro y p hy; simp only [Sg.set_apply, Sg.del_apply] at hy ⊢; grind)))
  | false =>
    simp only [hb, Bool.false_eq_true, if_false] at h13 ⊢
    have h64 := fun S hS => hB ρ s S hS hl rfl
    have hFl := exA_len (testL D s).1
    have hFo := exA_one (testL D s).1
    have hFt := exA_take (testL D s).1
    have hFd := exA_drop (testL D s).1
    generalize (testL D s).1 = e at *
    generalize (testL D s).2 = s2 at *
    (refine vfun (fun _ => .no) mixed Try.func39 (by kernel_rfl) ?_; simp only [bodyOf, Try.f39, Option.getD_some])
    repeat' (first | with_reducible rfl | exact .inr trivial | with_reducible apply And.intro | with_reducible apply vqx_step | with_reducible apply vqm_step | with_reducible refine vkp_free (by decide +kernel) ?_ | with_reducible intro _ | ((first | (with_reducible first | refine .rs ?_ | refine .ds (by kernel_rfl) ?_ | refine .dg (by kernel_rfl) ?_ | refine .rg ?_ | refine .ite ?_ | refine .ret ?_ | refine .skip ?_ | refine .exit ?_ | refine .scope ?_ | refine .seq (.label ?_) | refine .block ?_ | refine .seq ?_) | (simp (disch := first | assumption | (apply Go.Cert.ne_of2; assumption; assumption) | (apply Go.Cert.ne_ob; assumption; assumption; (intro e; cases e; done)) | omega) only [w64, w8, tg_eq, Go.V.n1, Go.V.n2, Go.V.nn, Int.tdiv_eq_ediv_of_nonneg, Sg.set_same, Sg.set_ne, Sg.set_ne', Sg.del_ne, Sg.del_ne']) | ((with_reducible refine (h13 _ (by first | assumption | ((simp (disch := first | assumption | (apply Go.Cert.ne_of2; assumption; assumption) | (apply Go.Cert.ne_ob; assumption; assumption; (intro e; cases e; done)) | omega) only [Sg.set_same, Sg.set_ne, Sg.set_ne', Sg.del_ne, Sg.del_ne']); first | done | rfl | assumption))).mono ?_); rintro _ S ⟨rfl, rfl⟩) | ((with_reducible refine (h64 _ (by first | assumption | ((simp (disch := first | assumption | (apply Go.Cert.ne_of2; assumption; assumption) | (apply Go.Cert.ne_ob; assumption; assumption; (intro e; cases e; done)) | omega) only [Sg.set_same, Sg.set_ne, Sg.set_ne', Sg.del_ne, Sg.del_ne']); first | done | rfl | assumption))).mono ?_); rintro _ S ⟨rfl, rfl⟩) | (refine vlo_app (by first | assumption | ((simp (disch := first | assumption | (apply Go.Cert.ne_of2; assumption; assumption) | (apply Go.Cert.ne_ob; assumption; assumption; (intro e; cases e; done)) | omega) only [Sg.set_same, Sg.set_ne, Sg.set_ne', Sg.del_ne, Sg.del_ne']); first | done | rfl | assumption)) ?_) | (refine vst_app (by first | assumption | ((simp (disch := first | assumption | (apply Go.Cert.ne_of2; assumption; assumption) | (apply Go.Cert.ne_ob; assumption; assumption; (intro e; cases e; done)) | omega) only [Sg.set_same, Sg.set_ne, Sg.set_ne', Sg.del_ne, Sg.del_ne']); first | done | rfl | assumption)) ?_)); (try simp only [vO, vQ, ↓vP, vE, vS, vB, vL, vF, vM, vN, vbs_full, Nat.reduceEqDiff, Nat.reduceAdd, Nat.reduceLeDiff, ne_eq, not_false_eq_true, Nat.reduceMul, Nat.reduceSub, Int.toNat_zero, Int.reduceToNat, Try.underlying3, info3, Try.underlying4, info4, Try.underlying27, h27, hz27, Try.underlying25, info25, Try.underlying24, info24, Try.underlying9, info9, Try.underlying68, info68, hFl, hFo, hFt, hFd, vT])) | with_reducible refine vfresh_set ?_ | with_reducible refine vfresh_intro (fun _ _ => ?_) | with_reducible refine vif_intro (fun _ => ?_) (fun _ => ?_) | omega | ((with_reducible first | refine vop_at ?_ | refine vops_at ?_ | refine vquiet_at ?_ | refine vmix_at ?_ | refine Holds_at ?_); simp only [vO, vQ, ↓vP, vE, vS, vB, vL, vF, vM, vN, vbs_full, Nat.reduceEqDiff, Nat.reduceAdd, Nat.reduceLeDiff, ne_eq, not_false_eq_true, Nat.reduceMul, Nat.reduceSub, Int.toNat_zero, Int.reduceToNat, Try.underlying3, info3, Try.underlying4, info4, Try.underlying27, h27, hz27, Try.underlying25, info25, Try.underlying24, info24, Try.underlying9, info9, Try.underlying68, info68, hFl, hFo, hFt, hFd, vT]))
    all_goals (refine ⟨_, .refl _, .any, by rw [exK_any], ?_⟩; (first | exact Sg.sub.refl _ | ((repeat (first | exact Sg.sub.refl _ | refine Sg.sub.set_both ?_ | refine Sg.sub.set_fresh ?_ (by first | assumption | exact Sg.set_none (by assumption) (by first | assumption | (apply Go.Cert.ne_of2a; assumption; assumption))))); done) | (intro y p hy; simp only [Sg.set_apply, Sg.del_apply] at hy ⊢; grind)))
theorem qRD : ∀ (n : Nat) (d : Int), d + n = 11 → 0 ≤ d → d ≤ 10 → RD (dp n) d
  | 0, d, h, h0, h1 => by omega
  | n + 1, d, h, h0, h1 => by
    have hD : d < 10 → RD (dp n) (d + 1) := fun h2 => qRD n (d + 1) (by omega) (by omega) (by omega)
    have hN := dp_nice n
    have r75 := q75 (dp n) d hD hN ⟨h0, h1⟩
    have r74 := q74 (dp n) d r75 (nice_fac hN)
    have r71 := q71 (dp n) d r74 (nice_row (nice_fac hN) _ _)
    have r64 := q64 (dp n) d r71 hN
    have r39 := q39 (dp n) d r64 hD hN ⟨h0, h1⟩
    have r19 := q19 (dp n) d r39 (nice_not hN)
    have r10 := q10 (dp n) d r19 (nice_row (nice_not hN) _ _)
    exact ⟨r75, r39, r10⟩
end Go.Proofs.Ytmokgifgnpocaaa

namespace Go.Lex
open Go.V Go.Proofs.Ytmokgifgnpocaaa
theorem pre_join {p : UInt8 → Bool} (hp : p 10 = false) (r t : List UInt8) : pre p (r ++ 10 :: t) = pre p r := by
  unfold pre
  induction r with
  | nil => simp [hp]
  | cons c r ih =>
    simp only [List.cons_append, List.takeWhile_cons]
    split
    · simp only [List.length_cons, ih]
    · rfl
theorem hasPre_cons (x : List UInt8) (a c : UInt8) (r : List UInt8) : hasPre (a :: x) (c :: r) = (decide (c = a) && hasPre x r) := by
  simp only [hasPre, List.length_cons, List.take_succ_cons, List.cons.injEq, Bool.decide_and]
theorem hasPre_join : ∀ (x r t : List UInt8), 10 ∉ x → hasPre x (r ++ 10 :: t) = hasPre x r
  | [], _, _, _ => rfl
  | a :: x, [], t, h => by
    rw [List.nil_append, hasPre_cons, decide_eq_false (fun e => h (by rw [e]; simp))]
    rfl
  | a :: x, c :: r, t, h => by
    rw [List.cons_append, hasPre_cons, hasPre_cons, hasPre_join x r t (fun e => h (by simp [e]))]
theorem bstep_join : ∀ (r t : List UInt8), r ≠ [] → bstep (r ++ 10 :: t) = bstep r
  | [], _, h => absurd rfl h
  | c :: r, t, _ => by
    show (if ws c then 1 else if hasPre [45, 45] (c :: (r ++ 10 :: t)) then pre (· != 10) (c :: (r ++ 10 :: t)) else 0) = _
    rw [← List.cons_append, hasPre_join _ _ _ (by decide), pre_join rfl]
    rfl
theorem blanks_join_lt : ∀ (n : Nat) (r t : List UInt8), r.length ≤ n → blanks r < r.length → blanks (r ++ 10 :: t) = blanks r := by
  intro n
  induction n with
  | zero => intro r t h h'; omega
  | succ n ih =>
    intro r t h h'
    have hne : r ≠ [] := fun e => by subst e; simp at h'
    have hj := bstep_join r t hne
    by_cases hb : bstep r = 0
    · rw [blanks_stop hb, blanks_stop (by rw [hj]; exact hb)]
    · have hl := bstep_le r
      rw [blanks_step hb] at h'
      rw [blanks_step hb, blanks_step (by rw [hj]; exact hb), hj, List.drop_append_of_le_length hl]
      rw [ih _ _ (by simp; omega) (by simp; omega)]
theorem blanks_join_eq : ∀ (n : Nat) (r t : List UInt8), r.length ≤ n → r.length ≤ blanks r → blanks (r ++ 10 :: t) = r.length + 1 + blanks t := by
  intro n
  induction n with
  | zero =>
    intro r t h _
    obtain rfl : r = [] := List.eq_nil_of_length_eq_zero (by omega)
    have hb : bstep (10 :: t) = 1 := rfl
    rw [List.nil_append, blanks_step (by rw [hb]; decide), hb]
    rfl
  | succ n ih =>
    intro r t h h'
    by_cases hne : r = []
    · subst hne
      have hb : bstep (10 :: t) = 1 := rfl
      rw [List.nil_append, blanks_step (by rw [hb]; decide), hb]
      rfl
    · have hj := bstep_join r t hne
      have hpos := List.length_pos_iff.2 hne
      by_cases hb : bstep r = 0
      · rw [blanks_stop hb] at h'; omega
      · have hl := bstep_le r
        rw [blanks_step hb] at h'
        rw [blanks_step (by rw [hj]; exact hb), hj, List.drop_append_of_le_length hl]
        rw [ih _ _ (by simp; omega) (by simp; omega)]
        simp; omega
theorem qd_join : ∀ (r t x : List UInt8) (n : Nat), qd r = some (x, n) → qd (r ++ 10 :: t) = some (x, n)
  | [], _, _, _, h => by cases h
  | [c], t, x, n, h => by
    simp only [qd] at h
    split at h
    · rename_i hc
      subst hc
      cases h
      rfl
    · cases h
  | c :: d :: r, t, x, n, h => by
    by_cases hc : c = 39
    · subst hc
      by_cases hd : d = 39
      · subst hd
        rw [qd_two] at h
        show qd (39 :: 39 :: (r ++ 10 :: t)) = _
        rw [qd_two]
        cases hq : qd r with
        | none => rw [hq] at h; cases h
        | some p => rw [hq] at h; rw [qd_join r t p.1 p.2 hq]; exact h
      · rw [qd_close (fun d' r' e => by injection e with e1 e2; rw [← e1]; exact hd)] at h
        show qd (39 :: d :: (r ++ 10 :: t)) = _
        rw [qd_close (fun d' r' e => by injection e with e1 e2; rw [← e1]; exact hd)]
        exact h
    · rw [qd_other hc] at h
      show qd (c :: (d :: r ++ 10 :: t)) = _
      rw [qd_other hc]
      cases hq : qd (d :: r) with
      | none => rw [hq] at h; cases h
      | some p => rw [hq] at h; rw [qd_join (d :: r) t p.1 p.2 hq]; exact h
theorem getD_join {r t : List UInt8} {n : Nat} (h : n < r.length) : (r ++ 10 :: t).getD n 0 = r.getD n 0 := by
  simp [List.getD_eq_getElem?_getD, List.getElem?_append_left h]
theorem glue_join (r t : List UInt8) (n : Nat) (h : n ≤ r.length) : glue (r ++ 10 :: t) n = glue r n := by
  unfold glue
  rcases Nat.lt_or_ge n r.length with h' | h'
  · rw [getD_join h', decide_eq_true h', decide_eq_true (by simp; omega)]
  · have e : (r ++ 10 :: t).getD n 0 = 10 := by
      obtain rfl : n = r.length := by omega
      simp [List.getD_eq_getElem?_getD]
    have h1 : (isSmall 10 || isGreat 10) = false := rfl
    rw [e, h1, Bool.and_false, decide_eq_false (by omega), Bool.false_and]
theorem wl_join (kd : Nat) (p : UInt8 → Bool) (hp : p 10 = false) (r t : List UInt8) : wl kd (r ++ 10 :: t) (pre p (r ++ 10 :: t)) = wl kd r (pre p r) := by
  have hl := pre_le p r
  rw [pre_join hp]
  unfold wl wordT
  rw [glue_join r t _ hl, List.take_append_of_le_length hl]
theorem find_congr {α : Type} (l : List α) (p q : α → Bool) (h : ∀ x ∈ l, p x = q x) : l.find? p = l.find? q := by
  induction l with
  | nil => rfl
  | cons a r ih => rw [List.find?_cons, List.find?_cons, h a (by simp), ih (fun x hx => h x (by simp [hx]))]
theorem tok1_join (r t : List UInt8) (h0 : 0 < r.length) (h : tok1 r ≠ .error 3) : tok1 (r ++ 10 :: t) = tok1 r := by
  have hg := getD_join (t := t) h0
  by_cases h1 : (r.getD 0 0).toNat = 39
  · rw [tok1_q h1] at h ⊢
    rw [tok1_q (by rw [hg]; exact h1)]
    unfold quotedT at h ⊢
    cases hq : qd (r.drop 1) with
    | none => rw [hq] at h; exact absurd rfl h
    | some p =>
      have := qd_join (r.drop 1) t p.1 p.2 hq
      rw [List.drop_append_of_le_length (by omega), this]
  · by_cases h2 : isFirst (r.getD 0 0) = true
    · rw [tok1_1 h2, tok1_1 (by rw [hg]; exact h2), wl_join _ _ rfl]
    · by_cases h3 : isGreat (r.getD 0 0) = true
      · rw [tok1_2 h3, tok1_2 (by rw [hg]; exact h3), wl_join _ _ rfl]
      · by_cases h4 : isDigit (r.getD 0 0) = true
        · rw [tok1_3 h4, tok1_3 (by rw [hg]; exact h4), wl_join _ _ rfl]
        · rw [tok1_s h1 h2 h3 h4, tok1_s (by rw [hg]; exact h1) (by rw [hg]; exact h2) (by rw [hg]; exact h3) (by rw [hg]; exact h4)]
          rw [find_congr signs (fun x => hasPre x (r ++ 10 :: t)) (fun x => hasPre x r) (fun x hx => hasPre_join x r t (by revert x; decide))]
def shiftE (c : Nat) : Except (Nat × Nat) (List Tk) → Except (Nat × Nat) (List Tk)
  | .ok l => .ok (l.map fun x => (x.1, x.2.1, x.2.2.1, x.2.2.2 + c))
  | .error (e, a) => .error (e, a + c)
theorem toks_shift : ∀ (n : Nat) (r : List UInt8) (a c : Nat), r.length ≤ n → toks r (a + c) = shiftE c (toks r a) := by
  intro n
  induction n with
  | zero =>
    intro r a c h
    rw [toks_end (by omega), toks_end (by omega)]
    simp [shiftE]; omega
  | succ n ih =>
    intro r a c h
    by_cases hb : r.length ≤ blanks r
    · rw [toks_end hb, toks_end hb]; simp [shiftE]; omega
    · cases ht : tok1 (r.drop (blanks r)) with
      | error e => rw [toks_err (by omega) ht, toks_err (by omega) ht]; simp [shiftE]; omega
      | ok p =>
        obtain ⟨k, t, v, m⟩ := p
        have hm := tok1_len (by simp; omega) ht
        rw [toks_ok (by omega) ht, toks_ok (by omega) ht, show a + c + blanks r + m = a + blanks r + m + c by omega, ih _ _ c (by simp; omega)]
        cases toks (r.drop (blanks r + m)) (a + blanks r + m) with
        | error q => rfl
        | ok l => simp [shiftE, appE]; omega
theorem toks_skip {R : List UInt8} {a c : Nat} (hc : c ≤ R.length) (h : blanks R = c + blanks (R.drop c)) : toks R a = toks (R.drop c) (a + c) := by
  by_cases hb : R.length ≤ blanks R
  · rw [toks_end hb, toks_end (by simp; omega), h, Nat.add_assoc]
  · have hd : R.drop (blanks R) = (R.drop c).drop (blanks (R.drop c)) := by rw [List.drop_drop, ← h]
    cases ht : tok1 (R.drop (blanks R)) with
    | error e =>
      rw [toks_err (by omega) ht, toks_err (by simp; omega) (by rw [← hd]; exact ht), h, Nat.add_assoc]
    | ok p =>
      obtain ⟨k, t, v, m⟩ := p
      have hA := toks_ok (r := R) (a := a) (by omega) ht
      have hB := toks_ok (r := R.drop c) (a := a + c) (k := k) (v := v) (n := m) (t := t) (by simp; omega) (by rw [← hd]; exact ht)
      rw [hA, hB, List.drop_drop, h, show a + (c + blanks (R.drop c)) = a + c + blanks (R.drop c) by omega, show c + blanks (R.drop c) + m = c + (blanks (R.drop c) + m) by omega]
theorem toks_join_end {r t : List UInt8} {a : Nat} (hb : r.length ≤ blanks r) : toks (r ++ 10 :: t) a = toks t (a + r.length + 1) := by
  have h1 := blanks_join_eq _ r t (Nat.le_refl _) hb
  have h2 : (r ++ 10 :: t).drop (r.length + 1) = t := by simp
  rw [toks_skip (c := r.length + 1) (by simp) (by rw [h2, h1]), h2, Nat.add_assoc]
/-- Two sources with a byte 10 between. -/
theorem toks_join_ok : ∀ (n : Nat) (r t : List UInt8) (a : Nat) (l : List Tk), r.length ≤ n → toks r a = .ok l → ∃ i, l = i ++ [(6, [], 0, a + r.length)] ∧ toks (r ++ 10 :: t) a = appE i (toks t (a + r.length + 1)) := by
  intro n
  induction n with
  | zero =>
    intro r t a l h hl
    have hb := blanks_le r
    rw [toks_end (by omega)] at hl
    cases hl
    exact ⟨[], by simp; omega, by rw [appE_nil, toks_join_end (by omega)]⟩
  | succ n ih =>
    intro r t a l h hl
    have hbl := blanks_le r
    by_cases hb : r.length ≤ blanks r
    · rw [toks_end hb] at hl
      cases hl
      exact ⟨[], by simp; omega, by rw [appE_nil, toks_join_end hb]⟩
    · cases ht : tok1 (r.drop (blanks r)) with
      | error e => rw [toks_err (by omega) ht] at hl; cases hl
      | ok p =>
        obtain ⟨k, x, v, m⟩ := p
        have hm := tok1_len (by simp; omega) ht
        simp only [List.length_drop] at hm
        rw [toks_ok (by omega) ht] at hl
        have hj := blanks_join_lt _ r t (Nat.le_refl _) (by omega)
        have htj := tok1_join (r.drop (blanks r)) t (by simp; omega) (by rw [ht]; intro e; cases e)
        cases hr : toks (r.drop (blanks r + m)) (a + blanks r + m) with
        | error q => rw [hr] at hl; cases hl
        | ok l' =>
          rw [hr] at hl
          cases hl
          obtain ⟨i, h1, h2⟩ := ih _ t _ _ (by simp; omega) hr
          refine ⟨(k, x, v, a + blanks r) :: i, ?_, ?_⟩
          · rw [h1]; simp; omega
          · rw [toks_ok (by rw [hj]; simp; omega) (by rw [hj, List.drop_append_of_le_length hbl, htj, ht]), hj, List.drop_append_of_le_length (by omega), h2, appE_appE]
            simp only [List.length_drop, List.cons_append, List.nil_append]
            congr 2; omega
theorem toks_join_err : ∀ (n : Nat) (r t : List UInt8) (a e b : Nat), r.length ≤ n → toks r a = .error (e, b) → e ≠ 3 → toks (r ++ 10 :: t) a = .error (e, b) := by
  intro n
  induction n with
  | zero =>
    intro r t a e b h hl
    rw [toks_end (by omega)] at hl
    cases hl
  | succ n ih =>
    intro r t a e b h hl he
    have hbl := blanks_le r
    by_cases hb : r.length ≤ blanks r
    · rw [toks_end hb] at hl
      cases hl
    · have hj := blanks_join_lt _ r t (Nat.le_refl _) (by omega)
      cases ht : tok1 (r.drop (blanks r)) with
      | error e' =>
        rw [toks_err (by omega) ht] at hl
        cases hl
        have htj := tok1_join (r.drop (blanks r)) t (by simp; omega) (by rw [ht]; intro e'; cases e'; exact he rfl)
        rw [toks_err (by rw [hj]; simp; omega) (by rw [hj, List.drop_append_of_le_length hbl, htj, ht]), hj]
      | ok p =>
        obtain ⟨k, x, v, m⟩ := p
        have hm := tok1_len (by simp; omega) ht
        simp only [List.length_drop] at hm
        rw [toks_ok (by omega) ht] at hl
        have htj := tok1_join (r.drop (blanks r)) t (by simp; omega) (by rw [ht]; intro e; cases e)
        cases hr : toks (r.drop (blanks r + m)) (a + blanks r + m) with
        | ok l' => rw [hr] at hl; cases hl
        | error q =>
          rw [hr] at hl
          cases hl
          rw [toks_ok (by rw [hj]; simp; omega) (by rw [hj, List.drop_append_of_le_length hbl, htj, ht]), hj, List.drop_append_of_le_length (by omega), ih _ t _ _ _ (by simp; omega) hr he]
          rfl
theorem sameL_shift (c : Nat) : ∀ (l : List Tk), sameL false (l.map fun x => (x.1, x.2.1, x.2.2.1, x.2.2.2 + c)) l = true
  | [] => rfl
  | x :: r => by
    show (tkEq false (x.1, x.2.1, x.2.2.1, x.2.2.2 + c) x && sameL false _ r) = true
    rw [sameL_shift c r]
    simp [tkEq]
theorem sameL_app (p : Bool) (i : List Tk) : ∀ (a b : List Tk), sameL p (i ++ a) (i ++ b) = sameL p a b := by
  induction i with
  | nil => intro a b; rfl
  | cons x i ih =>
    intro a b
    show (tkEq p x x && sameL p (i ++ a) (i ++ b)) = _
    rw [ih]
    simp [tkEq]
/-- What LexJoins asks. -/
theorem join_ok {s t : List UInt8} {l m : List Tk} (h : s.length + 1 + t.length ≤ 2000) (hl : lexAll s = .ok l) (hm : lexAll t = .ok m) :
    ∃ n, lexAll (s ++ 10 :: t) = .ok n ∧ 0 < l.length ∧ sameL false n (l.take (l.length - 1) ++ m) = true := by
  have h1 : toks s 0 = .ok l := by
    unfold lexAll at hl
    rw [if_neg (by omega)] at hl
    split at hl <;> first | (cases hl; assumption) | cases hl
  have h2 : toks t 0 = .ok m := by
    unfold lexAll at hm
    rw [if_neg (by omega)] at hm
    split at hm <;> first | (cases hm; assumption) | cases hm
  obtain ⟨i, e1, e2⟩ := toks_join_ok _ s t 0 l (Nat.le_refl _) h1
  have h3 := toks_shift _ t 0 (s.length + 1) (Nat.le_refl _)
  rw [h2] at h3
  rw [show 0 + s.length + 1 = 0 + (s.length + 1) by omega, h3] at e2
  refine ⟨_, lexAll_ok (by simp; omega) e2, by rw [e1]; simp, ?_⟩
  rw [e1]
  simp only [List.length_append, List.length_cons, List.length_nil, Nat.zero_add, Nat.add_sub_cancel, List.take_left]
  rw [sameL_app, sameL_shift]
theorem join_err1 {s t : List UInt8} {e : Nat} {a : Int} (h : s.length + 1 + t.length ≤ 2000) (hl : lexAll s = .error (e, a)) (he : e ≠ 3) : lexAll (s ++ 10 :: t) = .error (e, a) := by
  unfold lexAll at hl
  rw [if_neg (by omega)] at hl
  split at hl
  · cases hl
  · rename_i e' a' h1
    cases hl
    exact lexAll_err (by simp; omega) (toks_join_err _ s t 0 _ _ (Nat.le_refl _) h1 he)
theorem join_err2 {s t : List UInt8} {l : List Tk} {e : Nat} {a : Int} (h : s.length + 1 + t.length ≤ 2000) (hl : lexAll s = .ok l) (hm : lexAll t = .error (e, a)) : lexAll (s ++ 10 :: t) = .error (e, a + s.length + 1) := by
  have h1 : toks s 0 = .ok l := by
    unfold lexAll at hl
    rw [if_neg (by omega)] at hl
    split at hl <;> first | (cases hl; assumption) | cases hl
  unfold lexAll at hm
  rw [if_neg (by omega)] at hm
  split at hm
  · cases hm
  · rename_i e' a' h2
    cases hm
    obtain ⟨i, e1, e2⟩ := toks_join_ok _ s t 0 l (Nat.le_refl _) h1
    have h3 := toks_shift _ t 0 (s.length + 1) (Nat.le_refl _)
    rw [h2] at h3
    rw [show 0 + s.length + 1 = 0 + (s.length + 1) by omega, h3] at e2
    rw [lexAll_err (by simp; omega) e2]
    congr 2
end Go.Lex
