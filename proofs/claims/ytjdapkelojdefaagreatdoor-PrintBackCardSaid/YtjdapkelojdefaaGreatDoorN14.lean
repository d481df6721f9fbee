/- Part 14 of the proof: B28, B29, B30, S1, B15, B16, B17, B18, B19, B31, S2, G12, G2, W25, W26, W27. -/
import Derived.Test.YtjdapkelojdefaaGreatDoorN7
import Derived.Test.YtjdapkelojdefaaGreatDoorN13
import Derived.Test.YtjdapkelojdefaaGreatDoorN12
import Derived.Test.YtjdapkelojdefaaGreatDoorN4
import Derived.Test.YtjdapkelojdefaaGreatDoorN10
import Derived.Test.YtjdapkelojdefaaGreatDoorN11
import Derived.Test.YtjdapkelojdefaaGreatDoorN8

set_option linter.all false
set_option maxRecDepth 100000
set_option maxHeartbeats 2000000
open Nat renaming reduceEqDiff → zb, reduceAdd → zd, reduceLeDiff → ze, reduceMul → zf, reduceSub → zg
open Int renaming toNat_zero → zk, reduceToNat → zl, tdiv_eq_ediv_of_nonneg → zm
open Go.V.Sg renaming set_same → zn, set_ne → zp, set_ne' → zq, del_ne → zr, del_ne' → zv
open Option renaming getD_some → zw
open List renaming length_map → zB
open Go.Cert renaming ne_of2 → zQ, ne_ob → zR
open Go.V.VCalls renaming mono → zU
open Go.Proofs.Tryz renaming underlying3 → Z3, underlying4 → Z4, underlying9 → Z9, underlying42 → Z42, underlying47 → Z47, underlying75 → Z75, underlying132 → Z132
namespace Go.Proofs.YtjdapkelojdefaaGreatDoor
open Go Go.V Go.Lex Go.Parse
theorem sub3 {σ S : Sg} {γ ρ : Nat} {C R : Ob} (h1 : S γ = some C) (h2 : S ρ = some R) (h3 : ∀ y o, y ≠ γ → y ≠ ρ → σ y = some o → S y = some o) : ((σ.set γ C).set ρ R).sub S := fun y p hy => by
  simp only [Sg.set_apply] at hy
  split at hy
  · subst_vars; rw [h2]; exact hy
  · split at hy
    · subst_vars; rw [h1]; exact hy
    · exact h3 y p (by assumption) (by assumption) hy
def grC (t : By) : Gr Co := ⟨fun o V => .cells 42 [.i 1, .s (bs t), .sl o V, .s (bs []), .sl .nil [], .sl .nil [], .sl .nil [], .s (bs []), .sl .nil [], .sl .nil [], .sl .nil [], .sl .nil [], .b false, .i (-1)], coA, 4, 132⟩
theorem colsMore_bad {acc : List Co} {s : Rd} (h : s.c ≠ 0) : Q2j acc s = false := by unfold Q2j; rw [decide_eq_false h]; rfl
theorem colsAt_bad {acc : List Co} {s : Rd} (h : s.c ≠ 0) : Q3l acc s = s := by unfold Q3l; rw [if_neg (fun hh => h hh.1)]
theorem colsL_end {k : Nat} {acc : List Co} {s : Rd} (h : Q2j acc s = false) : Q6p k acc s = (acc, Q3l acc s) := by
  cases k <;> (unfold Q6p; rw [h]; rfl)
theorem colsL_bad {k : Nat} {acc : List Co} {s : Rd} (h : s.c ≠ 0) : Q6p k acc s = (acc, s) := by
  rw [colsL_end (colsMore_bad h), colsAt_bad h]
theorem colsL_zero {acc : List Co} {s : Rd} (h : Q2j acc s = true) : Q6p 0 acc s = (acc ++ [((Q3l acc s).fail 2).columnOf.1], ((Q3l acc s).fail 2).columnOf.2.must [[44]]) := by
  unfold Q6p; rw [if_pos h]
theorem X9g {k : Nat} {acc : List Co} {s : Rd} (h : Q2j acc s = true) : Q6p (k + 1) acc s = Q6p k (acc ++ [(Q3l acc s).columnOf.1]) ((Q3l acc s).columnOf.2.must [[44]]) := by
  rw [Q6p, if_pos h]
theorem c23 : Kind 88 Q8x 1 := by
  intro ρ γ s σ hρ hγ hg
  have hne := X9f hρ hγ
  have hne' := hne.symm
  refine Q9j ?_
  have eZ : Q8x s = ({ stm0 with k := 1, t := ((crA s).tok 1).2.1, cols := (crC s).1, pk := ((crD s).tok 1).2.1 }, ((crD s).take 1).must [[41], [41]]) := rfl
  rw [eZ]
  simp only [stmK, stmC, List.map_nil, optA, optK]
  unfold stmZ at hγ
  have gA : Gd (crA s) := Q3q hg
  have gB : Gd (crB s) := Q3q (Q6q (by decide) gA)
  have h41 : ∀ S es, S ρ = some (rdA s) → es = strs [[84, 65, 66, 76, 69]] → VCalls Tryz.prog 137 [.ref ρ 0, .sl .full es] S (fun x σ' => x = .tup [] ∧ σ' = S.set ρ (rdA (crA s))) := fun S es hS he => c41 ρ _ .full [[84, 65, 66, 76, 69]] es S he hS hg (by decide)
  have h42 := fun S (hS : S ρ = some (rdA (crA s))) => c42 ρ _ S hS gA
  have h41b : ∀ S es, S ρ = some (rdA ((crA s).take 1)) → es = strs [[40]] → VCalls Tryz.prog 137 [.ref ρ 0, .sl .full es] S (fun x σ' => x = .tup [] ∧ σ' = S.set ρ (rdA (crB s))) := fun S es hS he => c41 ρ _ .full [[40]] es S he hS (Q6q (by decide) gA) (by decide)
  generalize ((crA s).tok 1).2.1 = t at *
  (refine vfun (fun _ => .no) Q0h Tryz.func88 (by kernel_rfl) ?_; simp only [Q0f, Tryz.f88, zw])
  (have zz := Bx.mk (j6 ui3 ui4 ui9 ui42 Q6k ui75); (repeat' (first | exact zc | (with_reducible first | apply And.intro | apply Q0a | apply Q0b | refine Q0c (by decide +kernel) ?_ | intro _) | refine zaW zz.out ?_ | ((first | (with_reducible refine uc (h41 _ _ (by exact zK) (by with_unfolding_all rfl)) ?_) | (with_reducible refine uc (h42 _ (by exact zK)) ?_) | (with_reducible refine uc (h41b _ _ (by exact zK) (by with_unfolding_all rfl)) ?_) | (refine Q0d (by exact zK) ?_) | (refine Q0e (by exact zK) ?_)); (try refine zs zz.out ?_)) | refine zo ?_ | omega | refine zt zz.out ?_ | fail)); try (all_goals clear zz))
  obtain ⟨z75, h75, hz75⟩ := zero75
  have gC0 := gB
  refine VW.loop3 ([] : List Co) (crB s) 0 (fun acc s' τ => acc.length ≤ 9 ∧ (acc.length = 9 → s'.c ≠ 0) ∧ Q6p (8 - acc.length) acc s' = crC s ∧ Gd s' ∧ okG σ ρ γ τ acc) (fun _ _ _ => [(0, .ref ρ 0), (1, .ref γ 0)]) (fun acc s' τ => stG (grC t) σ ρ γ τ acc s') (fun acc _ _ => 9 - acc.length) ⟨by simp, by simp, rfl, gB, fun h => absurd rfl h⟩ (by rw [stG_nil]; simp only [grC]; (exact zu)) ?_ ?_
  · simp only [vO, vQ, ↓vP, vE, vS, vB, vL, vF, vM, vN, Q0g, zb, zd, ze, ne_eq, not_false_eq_true, zf, zg, zk, zl, vT]
    all_goals rfl
  rintro acc s' τ ⟨h1, h2, h3, h4, h5⟩
  have h20 := fun S (hS : S ρ = some (rdA s')) => c20 ρ s' S hS
  by_cases hc : s'.c = 0
  · simp only [decide_eq_true hc] at h20
    cases acc with
    | nil =>
      have hm : Q2j [] s' = true := by unfold Q2j; rw [decide_eq_true hc]; rfl
      have ha : Q3l [] s' = s' := by unfold Q3l; rw [if_neg (by simp)]
      have h3' : Q6p 8 [] s' = crC s := h3
      rw [X9g (k := 7) hm, ha] at h3'
      have h43 := fun S (hS : S ρ = some (rdA s')) => c43 ρ s' S hS h4
      have g1 : Gd s'.columnOf.2 := X4j Q4m h4
      have h41c : ∀ S es, S ρ = some (rdA s'.columnOf.2) → es = strs [[44]] → VCalls Tryz.prog 137 [.ref ρ 0, .sl .full es] S _ := fun S es hS he => c41 ρ _ .full [[44]] es S he hS g1 (by decide)
      have g2 : Gd (s'.columnOf.2.must [[44]]) := Q3q g1
      generalize s'.columnOf.2.must [[44]] = s3 at *
      generalize s'.columnOf.2 = s2 at *
      generalize s'.columnOf.1 = c at *
      unfold coA at h43
      rw [stG_nil]
      simp only [grC]
      clear h41 h42 h41b
      (have zz := Bx.mk (j2 ui3 (j9 ui4 ui9 ui42 Q6k ui75 ui37 Z132 h75 hz75)); (repeat' (first | exact zc | (with_reducible first | apply And.intro | apply Q0a | apply Q0b | refine Q0c (by decide +kernel) ?_ | intro _) | ((with_reducible refine .dms (fun β => β = γ) [(0, false), (1, false), (2, false), (3, false), (4, false), (5, false), (6, true), (7, false), (8, true), (9, true), (10, false), (11, true)] (by decide) (by decide +kernel) ?_); (refine zs zz.out ?_)) | refine zaW zz.out ?_ | ((first | (refine Q0j (by intro β h; first | (rcases h with h | h <;> subst h <;> (simp (disch := first | assumption | (apply zQ; assumption; assumption) | (apply zR; assumption; assumption; (intro e; cases e; done)) | omega) only [zn, zp, zq, zr, zv])) | (subst h; (simp (disch := first | assumption | (apply zQ; assumption; assumption) | (apply zR; assumption; assumption; (intro e; cases e; done)) | omega) only [zn, zp, zq, zr, zv]))) ?_) | (with_reducible refine uc (h20 _ (by exact zK)) ?_) | (with_reducible refine uc (h43 _ (by exact zK)) ?_) | (with_reducible refine uc (h41c _ _ (by exact zK) (by with_unfolding_all rfl)) ?_) | (refine Q0d (o' := some (.cells 42 [.i 1, .s (bs t), .sl .nil [], .s (bs []), .sl .nil [], .sl .nil [], .sl .nil [], .s (bs []), .sl .nil [], .sl .nil [], .sl .nil [], .sl .nil [], .b false, .i (-1)])) (Q8f (by assumption) (by exact zK)) ?_) | (refine Q0d (by exact zK) ?_) | (refine Q0e (by exact zK) ?_)); (try refine zs zz.out ?_)) | refine zo ?_ | omega | refine zt zz.out ?_ | fail)); try (all_goals clear zz))
      exact ⟨[c], s3, _, ⟨⟨by simp, by simp, h3', g2, fun _ => ⟨‹σ _ = none›, by assumption, by assumption⟩⟩, by simp⟩, by rw [X0i (by simp)]; simp only [List.map_cons, List.map_nil, coA]; (exact zu)⟩
    | cons v r =>
      obtain ⟨q1, q2, q3⟩ := h5 (by simp)
      have h13 : ∀ S, S ρ = some (rdA s') → VCalls Tryz.prog 37 [.ref ρ 0, .s (bs [80, 82, 73, 77, 65, 82, 89])] S _ := fun S hS => c13 ρ _ [80, 82, 73, 77, 65, 82, 89] S hS h4
      have ha : Q3l (v :: r) s' = s'.pass [[80, 82, 73, 77, 65, 82, 89]] := by unfold Q3l; rw [if_pos ⟨hc, by simp⟩]
      rw [X0i (by simp)]
      have hl2 : r.length + 1 ≤ 8 := by
        have e9 : (v :: r).length = r.length + 1 := rfl
        have : ¬ (v :: r).length = 9 := fun h => h2 h hc
        omega
      have hV : ((v :: r).map coA).length = r.length + 1 := by simp
      have hA : Q1t ((v :: r).map coA) 4 = True := eq_true (fun e he => by
        obtain ⟨w, _, rfl⟩ := List.mem_map.1 he
        rfl)
      by_cases hp : s'.has [80, 82, 73, 77, 65, 82, 89] = true
      · have hm : Q2j (v :: r) s' = false := by unfold Q2j; rw [hp, decide_eq_true hc]; rfl
        have hR : crC s = (v :: r, s'.pass [[80, 82, 73, 77, 65, 82, 89]]) := by rw [← h3, colsL_end hm, ha]
        simp only [hp] at h13
        have eD : crD s = (s'.pass [[80, 82, 73, 77, 65, 82, 89]]).must [[75, 69, 89], [40]] := by show (crC s).2.must _ = _; rw [hR]
        have gX : Gd (s'.pass [[80, 82, 73, 77, 65, 82, 89]]) := Q5y h4
        have h41k : ∀ S es, S ρ = some (rdA (s'.pass [[80, 82, 73, 77, 65, 82, 89]])) → es = strs [[75, 69, 89], [40]] → VCalls Tryz.prog 137 [.ref ρ 0, .sl .full es] S (fun x σ' => x = .tup [] ∧ σ' = S.set ρ (rdA (crD s))) := fun S es hS he => by rw [eD]; exact c41 ρ _ .full [[75, 69, 89], [40]] es S he hS gX (by decide)
        have gD : Gd (crD s) := by rw [eD]; exact Q3q gX
        have h42k := fun S (hS : S ρ = some (rdA (crD s))) => c42 ρ _ S hS gD
        have h41z : ∀ S es, S ρ = some (rdA ((crD s).take 1)) → es = strs [[41], [41]] → VCalls Tryz.prog 137 [.ref ρ 0, .sl .full es] S (fun x σ' => x = .tup [] ∧ σ' = S.set ρ (rdA (((crD s).take 1).must [[41], [41]]))) := fun S es hS he => c41 ρ _ .full [[41], [41]] es S he hS (Q6q (by decide) gD) (by decide)
        rw [hR]
        generalize ((crD s).tok 1).2.1 = pk at *
        generalize ((crD s).take 1).must [[41], [41]] = sz at *
        generalize (crD s).take 1 = sy at *
        generalize crD s = sw at *
        
        generalize s'.pass [[80, 82, 73, 77, 65, 82, 89]] = sX at *
        simp only [grC]
        generalize (v :: r).map coA = V at *
        clear h41 h42 h41b
        (have zz := Bx.mk (j4 ui3 ui4 ui9 (j9 ui42 Q6k ui75 ui37 Z132 h75 hz75 hV hA)); (repeat' (first | exact zc | (with_reducible first | apply And.intro | apply Q0a | apply Q0b | refine Q0c (by decide +kernel) ?_ | intro _) | refine zaW zz.out ?_ | ((first | (with_reducible refine uc (h20 _ (by exact zK)) ?_) | (with_reducible refine uc (h13 _ (by exact zK)) ?_) | ((with_reducible refine zU (h41k _ _ (by exact zK) (by with_unfolding_all rfl)) ?_); rintro _ S ⟨rfl, rfl⟩) | (with_reducible refine uc (h42k _ (by exact zK)) ?_) | (with_reducible refine uc (h41z _ _ (by exact zK) (by with_unfolding_all rfl)) ?_) | (refine Q0d (by exact zK) ?_) | (refine Q0e (by exact zK) ?_)); (try refine zs zz.out ?_)) | refine zo ?_ | omega | refine zt zz.out ?_ | fail)); try (all_goals clear zz))
        refine ⟨_, .refl _, .tok τ 4, .nil, .nil, .nil, .nil, sub3 (by (simp (disch := first | assumption | (apply zQ; assumption; assumption) | (apply zR; assumption; assumption; (intro e; cases e; done)) | omega) only [zn, zp, zq, zr, zv]); first | done | rfl) (by (simp (disch := first | assumption | (apply zQ; assumption; assumption) | (apply zR; assumption; assumption; (intro e; cases e; done)) | omega) only [zn, zp, zq, zr, zv]); first | done | rfl) ?_⟩; intro y o hy1 hy2 hy; have hy3 := Go.Cert.ne_of hy q1; (simp (disch := first | assumption | (apply zQ; assumption; assumption) | (apply zR; assumption; assumption; (intro e; cases e; done)) | omega) only [zn, zp, zq, zr, zv]); exact hy
      · simp only [hp] at h13
        have hp' : s'.has [80, 82, 73, 77, 65, 82, 89] = false := by simpa using hp
        have hm : Q2j (v :: r) s' = true := by unfold Q2j; rw [hp', decide_eq_true hc]; simp
        rw [has_pass hp'] at h13 ha
        by_cases h8 : r.length + 1 = 8
        · have h14 := fun S (hS : S ρ = some (rdA s')) => c14 ρ s' 2 S hS h4
          have h3' : Q6p 0 (v :: r) s' = crC s := by rw [← h3]; congr 1; simp; omega
          rw [colsL_zero hm, ha] at h3'
          have g0 : Gd (s'.fail 2) := Y0t h4
          have hcf := fail_c (s := s') (e := 2) (by decide)
          have h43 := fun S (hS : S ρ = some (rdA (s'.fail 2))) => c43 ρ _ S hS g0
          have g1 : Gd (s'.fail 2).columnOf.2 := X4j Q4m g0
          have hc1 := ((Q4m _ g0.wf).c hcf).1
          have h41c : ∀ S es, S ρ = some (rdA (s'.fail 2).columnOf.2) → es = strs [[44]] → VCalls Tryz.prog 137 [.ref ρ 0, .sl .full es] S _ := fun S es hS he => c41 ρ _ .full [[44]] es S he hS g1 (by decide)
          have g2 : Gd ((s'.fail 2).columnOf.2.must [[44]]) := Q3q g1
          have hc2 : ((s'.fail 2).columnOf.2.must [[44]]).c ≠ 0 := by
            rw [((Q2a [[44]] _ g1.wf).c (by rw [hc1]; exact hcf)).1, hc1]; exact hcf
          generalize (s'.fail 2).columnOf.2.must [[44]] = s3 at *
          generalize (s'.fail 2).columnOf.2 = s2 at *
          generalize (s'.fail 2).columnOf.1 = c at *
          generalize s'.fail 2 = sf at *
          unfold coA at h43
          simp only [grC]
          generalize hV' : (v :: r).map coA = V at *
          clear h41 h42 h41b
          (have zz := Bx.mk (j5 ui3 ui4 ui9 ui42 (j9 Q6k ui75 ui37 Z132 h75 hz75 hV hA h8)); (repeat' (first | exact zc | (with_reducible first | apply And.intro | apply Q0a | apply Q0b | refine Q0c (by decide +kernel) ?_ | intro _) | ((with_reducible refine .dms (fun β => β = γ) [(0, false), (1, false), (2, false), (3, false), (4, false), (5, false), (6, true), (7, false), (8, true), (9, true), (10, false), (11, true)] (by decide) (by decide +kernel) ?_); (refine zs zz.out ?_)) | refine zaW zz.out ?_ | ((first | (refine Q0j (by intro β h; first | (rcases h with h | h <;> subst h <;> (simp (disch := first | assumption | (apply zQ; assumption; assumption) | (apply zR; assumption; assumption; (intro e; cases e; done)) | omega) only [zn, zp, zq, zr, zv])) | (subst h; (simp (disch := first | assumption | (apply zQ; assumption; assumption) | (apply zR; assumption; assumption; (intro e; cases e; done)) | omega) only [zn, zp, zq, zr, zv]))) ?_) | (with_reducible refine uc (h20 _ (by exact zK)) ?_) | (with_reducible refine uc (h13 _ (by exact zK)) ?_) | (with_reducible refine uc (h14 _ (by exact zK)) ?_) | (with_reducible refine uc (h43 _ (by exact zK)) ?_) | (with_reducible refine uc (h41c _ _ (by exact zK) (by with_unfolding_all rfl)) ?_) | (refine Q0d (o' := some (.cells 42 [.i 1, .s (bs t), .sl (.tok τ 4) V, .s (bs []), .sl .nil [], .sl .nil [], .sl .nil [], .s (bs []), .sl .nil [], .sl .nil [], .sl .nil [], .sl .nil [], .b false, .i (-1)])) (Q8f (by assumption) (by exact zK)) ?_) | (refine Q0d (by exact zK) ?_) | (refine Q0e (by exact zK) ?_)); (try refine zs zz.out ?_)) | refine zo ?_ | omega | refine zt zz.out ?_ | fail)); try (all_goals clear zz))
          exact ⟨v :: r ++ [c], s3, _, ⟨⟨by simp; omega, fun _ => hc2, by rw [colsL_bad hc2]; exact h3', g2, fun _ => ⟨‹σ _ = none›, by assumption, by assumption⟩⟩, by simp; omega⟩, by rw [X0i (by simp), List.map_append, hV']; simp only [List.map_cons, List.map_nil, coA]; (exact zu)⟩
        · obtain ⟨k, hk⟩ : ∃ k, 8 - (v :: r).length = k + 1 := ⟨8 - (r.length + 1) - 1, by show 8 - (r.length + 1) = _; omega⟩
          rw [hk, X9g hm, ha] at h3
          have h43 := fun S (hS : S ρ = some (rdA s')) => c43 ρ s' S hS h4
          have g1 : Gd s'.columnOf.2 := X4j Q4m h4
          have h41c : ∀ S es, S ρ = some (rdA s'.columnOf.2) → es = strs [[44]] → VCalls Tryz.prog 137 [.ref ρ 0, .sl .full es] S _ := fun S es hS he => c41 ρ _ .full [[44]] es S he hS g1 (by decide)
          have g2 : Gd (s'.columnOf.2.must [[44]]) := Q3q g1
          generalize s'.columnOf.2.must [[44]] = s3 at *
          generalize s'.columnOf.2 = s2 at *
          generalize s'.columnOf.1 = c at *
          unfold coA at h43
          simp only [grC]
          generalize hV' : (v :: r).map coA = V at *
          clear h41 h42 h41b
          (have zz := Bx.mk (j4 ui3 ui4 ui9 (j9 ui42 Q6k ui75 ui37 Z132 h75 hz75 hV hA)); (repeat' (first | exact zc | (with_reducible first | apply And.intro | apply Q0a | apply Q0b | refine Q0c (by decide +kernel) ?_ | intro _) | ((with_reducible refine .dms (fun β => β = γ) [(0, false), (1, false), (2, false), (3, false), (4, false), (5, false), (6, true), (7, false), (8, true), (9, true), (10, false), (11, true)] (by decide) (by decide +kernel) ?_); (refine zs zz.out ?_)) | refine zaW zz.out ?_ | ((first | (refine Q0j (by intro β h; first | (rcases h with h | h <;> subst h <;> (simp (disch := first | assumption | (apply zQ; assumption; assumption) | (apply zR; assumption; assumption; (intro e; cases e; done)) | omega) only [zn, zp, zq, zr, zv])) | (subst h; (simp (disch := first | assumption | (apply zQ; assumption; assumption) | (apply zR; assumption; assumption; (intro e; cases e; done)) | omega) only [zn, zp, zq, zr, zv]))) ?_) | (with_reducible refine uc (h20 _ (by exact zK)) ?_) | (with_reducible refine uc (h13 _ (by exact zK)) ?_) | (with_reducible refine uc (h43 _ (by exact zK)) ?_) | (with_reducible refine uc (h41c _ _ (by exact zK) (by with_unfolding_all rfl)) ?_) | (refine Q0d (o' := some (.cells 42 [.i 1, .s (bs t), .sl (.tok τ 4) V, .s (bs []), .sl .nil [], .sl .nil [], .sl .nil [], .s (bs []), .sl .nil [], .sl .nil [], .sl .nil [], .sl .nil [], .b false, .i (-1)])) (Q8f (by assumption) (by exact zK)) ?_) | (refine Q0d (by exact zK) ?_) | (refine Q0e (by exact zK) ?_)); (try refine zs zz.out ?_)) | refine zo ?_ | omega | refine zt zz.out ?_ | fail)); try (all_goals clear zz))
          exact ⟨v :: r ++ [c], s3, _, ⟨⟨by simp; omega, fun h => absurd h (by simp; omega), by rw [show 8 - (v :: r ++ [c]).length = k by simp at hk ⊢; omega]; exact h3, g2, fun _ => ⟨‹σ _ = none›, by assumption, by assumption⟩⟩, by simp; omega⟩, by rw [X0i (by simp), List.map_append, hV']; simp only [List.map_cons, List.map_nil, coA]; (exact zu)⟩
  · simp only [decide_eq_false hc] at h20
    have hR : crC s = (acc, s') := by rw [← h3, colsL_bad hc]
    have eD : crD s = s'.must [[75, 69, 89], [40]] := by show (crC s).2.must _ = _; rw [hR]
    have gX : Gd s' := h4
    have h41k : ∀ S es, S ρ = some (rdA s') → es = strs [[75, 69, 89], [40]] → VCalls Tryz.prog 137 [.ref ρ 0, .sl .full es] S (fun x σ' => x = .tup [] ∧ σ' = S.set ρ (rdA (crD s))) := fun S es hS he => by rw [eD]; exact c41 ρ _ .full [[75, 69, 89], [40]] es S he hS gX (by decide)
    have gD : Gd (crD s) := by rw [eD]; exact Q3q gX
    have h42k := fun S (hS : S ρ = some (rdA (crD s))) => c42 ρ _ S hS gD
    have h41z : ∀ S es, S ρ = some (rdA ((crD s).take 1)) → es = strs [[41], [41]] → VCalls Tryz.prog 137 [.ref ρ 0, .sl .full es] S (fun x σ' => x = .tup [] ∧ σ' = S.set ρ (rdA (((crD s).take 1).must [[41], [41]]))) := fun S es hS he => c41 ρ _ .full [[41], [41]] es S he hS (Q6q (by decide) gD) (by decide)
    rw [hR]
    generalize ((crD s).tok 1).2.1 = pk at *
    generalize ((crD s).take 1).must [[41], [41]] = sz at *
    generalize (crD s).take 1 = sy at *
    generalize crD s = sw at *
    
    cases acc with
    | nil =>
      rw [stG_nil]
      simp only [grC, List.map_nil]
      clear h41 h42 h41b
      (have zz := Bx.mk (j2 ui3 (j9 ui4 ui9 ui42 Q6k ui75 ui37 Z132 h75 hz75)); (repeat' (first | exact zc | (with_reducible first | apply And.intro | apply Q0a | apply Q0b | refine Q0c (by decide +kernel) ?_ | intro _) | refine zaW zz.out ?_ | ((first | (with_reducible refine uc (h20 _ (by exact zK)) ?_) | ((with_reducible refine zU (h41k _ _ (by exact zK) (by with_unfolding_all rfl)) ?_); rintro _ S ⟨rfl, rfl⟩) | (with_reducible refine uc (h42k _ (by exact zK)) ?_) | (with_reducible refine uc (h41z _ _ (by exact zK) (by with_unfolding_all rfl)) ?_) | (refine Q0d (by exact zK) ?_) | (refine Q0e (by exact zK) ?_)); (try refine zs zz.out ?_)) | refine zo ?_ | omega | refine zt zz.out ?_ | fail)); try (all_goals clear zz))
      refine ⟨_, .refl _, .nil, .nil, .nil, .nil, .nil, sub3 (by (simp (disch := first | assumption | (apply zQ; assumption; assumption) | (apply zR; assumption; assumption; (intro e; cases e; done)) | omega) only [zn, zp, zq, zr, zv]); first | done | rfl) (by (simp (disch := first | assumption | (apply zQ; assumption; assumption) | (apply zR; assumption; assumption; (intro e; cases e; done)) | omega) only [zn, zp, zq, zr, zv]); first | done | rfl) ?_⟩; intro y o hy1 hy2 hy; (simp (disch := first | assumption | (apply zQ; assumption; assumption) | (apply zR; assumption; assumption; (intro e; cases e; done)) | omega) only [zn, zp, zq, zr, zv]); exact hy
    | cons v r =>
      obtain ⟨q1, q2, q3⟩ := h5 (by simp)
      rw [X0i (by simp)]
      simp only [grC]
      generalize (v :: r).map coA = V at *
      clear h41 h42 h41b
      (have zz := Bx.mk (j2 ui3 (j9 ui4 ui9 ui42 Q6k ui75 ui37 Z132 h75 hz75)); (repeat' (first | exact zc | (with_reducible first | apply And.intro | apply Q0a | apply Q0b | refine Q0c (by decide +kernel) ?_ | intro _) | refine zaW zz.out ?_ | ((first | (with_reducible refine uc (h20 _ (by exact zK)) ?_) | ((with_reducible refine zU (h41k _ _ (by exact zK) (by with_unfolding_all rfl)) ?_); rintro _ S ⟨rfl, rfl⟩) | (with_reducible refine uc (h42k _ (by exact zK)) ?_) | (with_reducible refine uc (h41z _ _ (by exact zK) (by with_unfolding_all rfl)) ?_) | (refine Q0d (by exact zK) ?_) | (refine Q0e (by exact zK) ?_)); (try refine zs zz.out ?_)) | refine zo ?_ | omega | refine zt zz.out ?_ | fail)); try (all_goals clear zz))
      refine ⟨_, .refl _, .tok τ 4, .nil, .nil, .nil, .nil, sub3 (by (simp (disch := first | assumption | (apply zQ; assumption; assumption) | (apply zR; assumption; assumption; (intro e; cases e; done)) | omega) only [zn, zp, zq, zr, zv]); first | done | rfl) (by (simp (disch := first | assumption | (apply zQ; assumption; assumption) | (apply zR; assumption; assumption; (intro e; cases e; done)) | omega) only [zn, zp, zq, zr, zv]); first | done | rfl) ?_⟩; intro y o hy1 hy2 hy; have hy3 := Go.Cert.ne_of hy q1; (simp (disch := first | assumption | (apply zQ; assumption; assumption) | (apply zR; assumption; assumption; (intro e; cases e; done)) | omega) only [zn, zp, zq, zr, zv]); exact hy
def stmA (x : Stm) : List AV := [.i x.k, .s (bs x.t), .sl .any (x.cols.map coA), .s (bs x.pk), .sl .any (x.rows.map rowA), .sl .any (x.sets.map setA), .sl .any (x.items.map Q2z), .s (bs x.join), .sl .any (exsA x.on), .sl .any (exsA x.wh), .sl .any (exsA x.gr), .sl .any (exsA x.or), .b x.desc, .i x.lim]
theorem AVw.optA (l : List Ex) : AVw (optA l) (.sl .any (exsA l)) := by
  cases l with
  | nil => rw [Q0s]; exact AVw.any _ _
  | cons e r => exact AVw.refl _
theorem AVw.optK (o : Own) (l : List Ex) : AVw (optK o l) (.sl .any (exsA l)) := by
  cases l with
  | nil => rw [Q0s]; exact AVw.any _ _
  | cons e r => exact AVw.any _ _
theorem AVw.stm (oc or os oi oo : Own) (x : Stm) : AVw (.agg (stmC oc or os oi oo x)) (.agg (stmA x)) := by
  refine AVw.agg rfl (fun i y y' h1 h2 => ?_)
  unfold stmC at h1
  unfold stmA at h2
  match i with
  | 0 => cases h1; cases h2; exact AVw.refl _
  | 1 => cases h1; cases h2; exact AVw.refl _
  | 2 => cases h1; cases h2; exact AVw.any _ _
  | 3 => cases h1; cases h2; exact AVw.refl _
  | 4 => cases h1; cases h2; exact AVw.any _ _
  | 5 => cases h1; cases h2; exact AVw.any _ _
  | 6 => cases h1; cases h2; exact AVw.any _ _
  | 7 => cases h1; cases h2; exact AVw.refl _
  | 8 => cases h1; cases h2; exact AVw.optK _ _
  | 9 => cases h1; cases h2; exact AVw.optA _
  | 10 => cases h1; cases h2; exact AVw.optA _
  | 11 => cases h1; cases h2; exact AVw.optA _
  | 12 => cases h1; cases h2; exact AVw.refl _
  | 13 => cases h1; cases h2; exact AVw.refl _
  | i + 14 => simp at h1
theorem Q8n (x : Stm) : (stmA x).length = 14 := rfl
theorem lose_stm {f : FuncId} {args : List AV} {x : Stm} {σ S : Sg} (h : VCalls Tryz.prog f args σ (fun y σ' => ∃ oc or os oi oo, y = .agg (stmC oc or os oi oo x) ∧ S.sub σ')) : VCalls Tryz.prog f args σ (fun y σ' => y = .agg (stmA x) ∧ σ' = S) :=
  h.lose fun y σ' hx => by
    obtain ⟨oc, or, os, oi, oo, rfl, hs⟩ := hx
    exact ⟨_, S, AVw.stm _ _ _ _ _ _, hs, rfl, rfl⟩
theorem zero44 : ∃ z, Q0l Tryz.prog 42 = some (some z, 14, 264) ∧ ofValue z = .agg [.i 0, .s (bs []), .sl .nil [], .s (bs []), .sl .nil [], .sl .nil [], .sl .nil [], .s (bs []), .sl .nil [], .sl .nil [], .sl .nil [], .sl .nil [], .b false, .i 0] := ⟨_, info42, by rfl⟩
theorem Q3y (oc or os oi oo : Own) (x : Stm) : (stmC oc or os oi oo x).length = 14 := rfl
theorem Q3z (oc or os oi oo : Own) (x : Stm) : (stmC oc or os oi oo x).all AV.one = true := by
  obtain ⟨k, t, cols, pk, rows, sets, items, join, on, wh, gr, od, desc, lim⟩ := x
  cases on <;> cases wh <;> cases gr <;> cases od <;> rfl
theorem Q3a (oc or os oi oo : Own) (x : Stm) : (stmC oc or os oi oo x).take 14 = stmC oc or os oi oo x := rfl
theorem Q3b (oc or os oi oo : Own) (x : Stm) : (stmC oc or os oi oo x).drop 14 = [] := rfl
theorem c15 (ρ : Nat) (s : Rd) (σ : Sg) (hρ : σ ρ = some (rdA s)) (hg : Gd s) : VCalls Tryz.prog 39 [.ref ρ 0] σ (fun x σ' => x = .agg (stmA (Q1g s).1) ∧ σ' = σ.set ρ (rdA (Q1g s).2)) := by
  obtain ⟨z44, h44, hz44⟩ := zero44
  refine lose_stm ?_
  have h22 : ∀ S es, S ρ = some (rdA s) → es = strs X2c → VCalls Tryz.prog 87 [.ref ρ 0, .sl .full es] S _ := fun S es hS he => c22 ρ s .full X2c es S he hS hg (by decide)
  have hlt := is_lt s X2c
  simp only [List.length_cons, List.length_nil] at hlt
  have g : Gd (s.pass X2c) := Q5y hg
  unfold Q1g
  generalize s.is X2c = k at *
  generalize s.pass X2c = s1 at *
  by_cases hm : k = -1
  · subst hm
    have h14 := fun S (hS : S ρ = some (rdA s1)) => c14 ρ s1 4 S hS g
    have e : Q9i (-1) s1 = (stm0, s1.fail 4) := rfl
    rw [e]
    generalize s1.fail 4 = s2 at *
    (refine vfun (fun _ => .no) Q0h Tryz.func39 (by kernel_rfl) ?_; simp only [Q0f, Tryz.f39, zw])
    repeat' (first | with_reducible rfl | exact .inr trivial | with_reducible apply And.intro | with_reducible apply Q0a | with_reducible apply Q0b | with_reducible refine Q0c (by decide +kernel) ?_ | with_reducible intro _ | ((first | (with_reducible first | refine .rs ?_ | refine .ds (by kernel_rfl) ?_ | refine .dg (by kernel_rfl) ?_ | refine .rg ?_ | refine .ite ?_ | refine .ret ?_ | refine .skip ?_ | refine .exit ?_ | refine .scope ?_ | refine .seq (.label ?_) | refine .block ?_ | refine .seq ?_) | (simp (disch := first | assumption | (apply zQ; assumption; assumption) | (apply zR; assumption; assumption; (intro e; cases e; done)) | omega) only [w64, w8, tg_eq, Go.V.n1, Go.V.n2, Go.V.nn, zm, zn, zp, zq, zr, zv]) | (with_reducible refine uc (h22 _ _ (by exact zK) (by with_unfolding_all rfl)) ?_) | (with_reducible refine uc (h14 _ (by exact zK)) ?_) | (refine Q0d (by exact zK) ?_) | (refine Q0e (by exact zK) ?_)); (try simp only [vO, vQ, ↓vP, vE, vS, vB, vL, vF, vM, vN, Q0g, zb, zd, ze, ne_eq, not_false_eq_true, zf, zg, zk, zl, Z3, Q2c, Z4, Q4x, Z9, Q2f, Z75, Q4g, Z42, h44, hz44, Q7l, Q7m, Q7n, Q7o, Q7k, stmK, Q3y, Q3z, Q3a, Q3b, vT])) | with_reducible refine Q1h ?_ | with_reducible refine Q0w (fun _ _ => ?_) | with_reducible refine Q1l (fun _ => ?_) (fun _ => ?_) | omega | ((with_reducible first | refine Q5c ?_ | refine Q3f ?_ | refine Q1v ?_ | refine Q3g ?_ | refine Q0v ?_); simp only [vO, vQ, ↓vP, vE, vS, vB, vL, vF, vM, vN, Q0g, zb, zd, ze, ne_eq, not_false_eq_true, zf, zg, zk, zl, Z3, Q2c, Z4, Q4x, Z9, Q2f, Z75, Q4g, Z42, h44, hz44, Q7l, Q7m, Q7n, Q7o, Q7k, stmK, Q3y, Q3z, Q3a, Q3b, vT]))
    all_goals (refine ⟨_, .refl _, .nil, .nil, .nil, .nil, .nil, rfl, ?_⟩; (exact zu))
  by_cases h0 : k = 0
  · subst h0
    have e : Q9i 0 s1 = Q8x s1 := rfl
    rw [e]
    have hk : ∀ γ S, S ρ = some (rdA s1) → S γ = some (.cells 42 [.i 1, .s (bs []), .sl .nil [], .s (bs []), .sl .nil [], .sl .nil [], .sl .nil [], .s (bs []), .sl .nil [], .sl .nil [], .sl .nil [], .sl .nil [], .b false, .i (-1)]) → VCalls Tryz.prog 88 [.ref ρ 0, .ref γ 0] S _ := fun γ S h1 h2 => c23 ρ γ s1 S h1 h2 g
    generalize Q8x s1 = R at *
    clear hlt
    (refine vfun (fun _ => .no) Q0h Tryz.func39 (by kernel_rfl) ?_; simp only [Q0f, Tryz.f39, zw])
    repeat' (first | with_reducible rfl | exact .inr trivial | with_reducible apply And.intro | with_reducible apply Q0a | with_reducible apply Q0b | with_reducible refine Q0c (by decide +kernel) ?_ | with_reducible intro _ | ((first | (with_reducible first | refine .rs ?_ | refine .ds (by kernel_rfl) ?_ | refine .dg (by kernel_rfl) ?_ | refine .rg ?_ | refine .ite ?_ | refine .ret ?_ | refine .skip ?_ | refine .exit ?_ | refine .scope ?_ | refine .seq (.label ?_) | refine .block ?_ | refine .seq ?_) | (simp (disch := first | assumption | (apply zQ; assumption; assumption) | (apply zR; assumption; assumption; (intro e; cases e; done)) | omega) only [w64, w8, tg_eq, Go.V.n1, Go.V.n2, Go.V.nn, zm, zn, zp, zq, zr, zv]) | (with_reducible refine uc (h22 _ _ (by exact zK) (by with_unfolding_all rfl)) ?_) | ((with_reducible refine zU (hk _ _ (by exact zK) (by exact zK)) ?_); rintro _ S ⟨rfl, oc, or, os, oi, oo, rfl⟩) | (refine Q0d (by exact zK) ?_) | (refine Q0e (by exact zK) ?_)); (try simp only [vO, vQ, ↓vP, vE, vS, vB, vL, vF, vM, vN, Q0g, zb, zd, ze, ne_eq, not_false_eq_true, zf, zg, zk, zl, Z3, Q2c, Z4, Q4x, Z9, Q2f, Z75, Q4g, Z42, h44, hz44, Q7l, Q7m, Q7n, Q7o, Q7k, stmK, Q3y, Q3z, Q3a, Q3b, vT])) | with_reducible refine Q1h ?_ | with_reducible refine Q0w (fun _ _ => ?_) | with_reducible refine Q1l (fun _ => ?_) (fun _ => ?_) | omega | ((with_reducible first | refine Q5c ?_ | refine Q3f ?_ | refine Q1v ?_ | refine Q3g ?_ | refine Q0v ?_); simp only [vO, vQ, ↓vP, vE, vS, vB, vL, vF, vM, vN, Q0g, zb, zd, ze, ne_eq, not_false_eq_true, zf, zg, zk, zl, Z3, Q2c, Z4, Q4x, Z9, Q2f, Z75, Q4g, Z42, h44, hz44, Q7l, Q7m, Q7n, Q7o, Q7k, stmK, Q3y, Q3z, Q3a, Q3b, vT]))
    all_goals (refine ⟨_, .refl _, oc, or, os, oi, oo, rfl, ?_⟩; (exact zu))
  by_cases h1 : k = 1
  · subst h1
    have e : Q9i 1 s1 = X8i s1 := rfl
    rw [e]
    have hk : ∀ γ S, S ρ = some (rdA s1) → S γ = some (.cells 42 [.i 2, .s (bs []), .sl .nil [], .s (bs []), .sl .nil [], .sl .nil [], .sl .nil [], .s (bs []), .sl .nil [], .sl .nil [], .sl .nil [], .sl .nil [], .b false, .i (-1)]) → VCalls Tryz.prog 89 [.ref ρ 0, .ref γ 0] S _ := fun γ S h1 h2 => c24 ρ γ s1 S h1 h2 g
    generalize X8i s1 = R at *
    clear hlt
    (refine vfun (fun _ => .no) Q0h Tryz.func39 (by kernel_rfl) ?_; simp only [Q0f, Tryz.f39, zw])
    repeat' (first | with_reducible rfl | exact .inr trivial | with_reducible apply And.intro | with_reducible apply Q0a | with_reducible apply Q0b | with_reducible refine Q0c (by decide +kernel) ?_ | with_reducible intro _ | ((first | (with_reducible first | refine .rs ?_ | refine .ds (by kernel_rfl) ?_ | refine .dg (by kernel_rfl) ?_ | refine .rg ?_ | refine .ite ?_ | refine .ret ?_ | refine .skip ?_ | refine .exit ?_ | refine .scope ?_ | refine .seq (.label ?_) | refine .block ?_ | refine .seq ?_) | (simp (disch := first | assumption | (apply zQ; assumption; assumption) | (apply zR; assumption; assumption; (intro e; cases e; done)) | omega) only [w64, w8, tg_eq, Go.V.n1, Go.V.n2, Go.V.nn, zm, zn, zp, zq, zr, zv]) | (with_reducible refine uc (h22 _ _ (by exact zK) (by with_unfolding_all rfl)) ?_) | ((with_reducible refine zU (hk _ _ (by exact zK) (by exact zK)) ?_); rintro _ S ⟨rfl, oc, or, os, oi, oo, rfl⟩) | (refine Q0d (by exact zK) ?_) | (refine Q0e (by exact zK) ?_)); (try simp only [vO, vQ, ↓vP, vE, vS, vB, vL, vF, vM, vN, Q0g, zb, zd, ze, ne_eq, not_false_eq_true, zf, zg, zk, zl, Z3, Q2c, Z4, Q4x, Z9, Q2f, Z75, Q4g, Z42, h44, hz44, Q7l, Q7m, Q7n, Q7o, Q7k, stmK, Q3y, Q3z, Q3a, Q3b, vT])) | with_reducible refine Q1h ?_ | with_reducible refine Q0w (fun _ _ => ?_) | with_reducible refine Q1l (fun _ => ?_) (fun _ => ?_) | omega | ((with_reducible first | refine Q5c ?_ | refine Q3f ?_ | refine Q1v ?_ | refine Q3g ?_ | refine Q0v ?_); simp only [vO, vQ, ↓vP, vE, vS, vB, vL, vF, vM, vN, Q0g, zb, zd, ze, ne_eq, not_false_eq_true, zf, zg, zk, zl, Z3, Q2c, Z4, Q4x, Z9, Q2f, Z75, Q4g, Z42, h44, hz44, Q7l, Q7m, Q7n, Q7o, Q7k, stmK, Q3y, Q3z, Q3a, Q3b, vT]))
    all_goals (refine ⟨_, .refl _, oc, or, os, oi, oo, rfl, ?_⟩; (exact zu))
  by_cases h2 : k = 2
  · subst h2
    have e : Q9i 2 s1 = Q8y s1 := rfl
    rw [e]
    have hk : ∀ γ S, S ρ = some (rdA s1) → S γ = some (.cells 42 [.i 3, .s (bs []), .sl .nil [], .s (bs []), .sl .nil [], .sl .nil [], .sl .nil [], .s (bs []), .sl .nil [], .sl .nil [], .sl .nil [], .sl .nil [], .b false, .i (-1)]) → VCalls Tryz.prog 90 [.ref ρ 0, .ref γ 0] S _ := fun γ S h1 h2 => c25 ρ γ s1 S h1 h2 g
    generalize Q8y s1 = R at *
    clear hlt
    (refine vfun (fun _ => .no) Q0h Tryz.func39 (by kernel_rfl) ?_; simp only [Q0f, Tryz.f39, zw])
    repeat' (first | with_reducible rfl | exact .inr trivial | with_reducible apply And.intro | with_reducible apply Q0a | with_reducible apply Q0b | with_reducible refine Q0c (by decide +kernel) ?_ | with_reducible intro _ | ((first | (with_reducible first | refine .rs ?_ | refine .ds (by kernel_rfl) ?_ | refine .dg (by kernel_rfl) ?_ | refine .rg ?_ | refine .ite ?_ | refine .ret ?_ | refine .skip ?_ | refine .exit ?_ | refine .scope ?_ | refine .seq (.label ?_) | refine .block ?_ | refine .seq ?_) | (simp (disch := first | assumption | (apply zQ; assumption; assumption) | (apply zR; assumption; assumption; (intro e; cases e; done)) | omega) only [w64, w8, tg_eq, Go.V.n1, Go.V.n2, Go.V.nn, zm, zn, zp, zq, zr, zv]) | (with_reducible refine uc (h22 _ _ (by exact zK) (by with_unfolding_all rfl)) ?_) | ((with_reducible refine zU (hk _ _ (by exact zK) (by exact zK)) ?_); rintro _ S ⟨rfl, oc, or, os, oi, oo, rfl⟩) | (refine Q0d (by exact zK) ?_) | (refine Q0e (by exact zK) ?_)); (try simp only [vO, vQ, ↓vP, vE, vS, vB, vL, vF, vM, vN, Q0g, zb, zd, ze, ne_eq, not_false_eq_true, zf, zg, zk, zl, Z3, Q2c, Z4, Q4x, Z9, Q2f, Z75, Q4g, Z42, h44, hz44, Q7l, Q7m, Q7n, Q7o, Q7k, stmK, Q3y, Q3z, Q3a, Q3b, vT])) | with_reducible refine Q1h ?_ | with_reducible refine Q0w (fun _ _ => ?_) | with_reducible refine Q1l (fun _ => ?_) (fun _ => ?_) | omega | ((with_reducible first | refine Q5c ?_ | refine Q3f ?_ | refine Q1v ?_ | refine Q3g ?_ | refine Q0v ?_); simp only [vO, vQ, ↓vP, vE, vS, vB, vL, vF, vM, vN, Q0g, zb, zd, ze, ne_eq, not_false_eq_true, zf, zg, zk, zl, Z3, Q2c, Z4, Q4x, Z9, Q2f, Z75, Q4g, Z42, h44, hz44, Q7l, Q7m, Q7n, Q7o, Q7k, stmK, Q3y, Q3z, Q3a, Q3b, vT]))
    all_goals (refine ⟨_, .refl _, oc, or, os, oi, oo, rfl, ?_⟩; (exact zu))
  by_cases h3 : k = 3
  · subst h3
    have e : Q9i 3 s1 = Q8z s1 := rfl
    rw [e]
    have hk : ∀ γ S, S ρ = some (rdA s1) → S γ = some (.cells 42 [.i 4, .s (bs []), .sl .nil [], .s (bs []), .sl .nil [], .sl .nil [], .sl .nil [], .s (bs []), .sl .nil [], .sl .nil [], .sl .nil [], .sl .nil [], .b false, .i (-1)]) → VCalls Tryz.prog 91 [.ref ρ 0, .ref γ 0] S _ := fun γ S h1 h2 => c26 ρ γ s1 S h1 h2 g
    generalize Q8z s1 = R at *
    clear hlt
    (refine vfun (fun _ => .no) Q0h Tryz.func39 (by kernel_rfl) ?_; simp only [Q0f, Tryz.f39, zw])
    repeat' (first | with_reducible rfl | exact .inr trivial | with_reducible apply And.intro | with_reducible apply Q0a | with_reducible apply Q0b | with_reducible refine Q0c (by decide +kernel) ?_ | with_reducible intro _ | ((first | (with_reducible first | refine .rs ?_ | refine .ds (by kernel_rfl) ?_ | refine .dg (by kernel_rfl) ?_ | refine .rg ?_ | refine .ite ?_ | refine .ret ?_ | refine .skip ?_ | refine .exit ?_ | refine .scope ?_ | refine .seq (.label ?_) | refine .block ?_ | refine .seq ?_) | (simp (disch := first | assumption | (apply zQ; assumption; assumption) | (apply zR; assumption; assumption; (intro e; cases e; done)) | omega) only [w64, w8, tg_eq, Go.V.n1, Go.V.n2, Go.V.nn, zm, zn, zp, zq, zr, zv]) | (with_reducible refine uc (h22 _ _ (by exact zK) (by with_unfolding_all rfl)) ?_) | ((with_reducible refine zU (hk _ _ (by exact zK) (by exact zK)) ?_); rintro _ S ⟨rfl, oc, or, os, oi, oo, rfl⟩) | (refine Q0d (by exact zK) ?_) | (refine Q0e (by exact zK) ?_)); (try simp only [vO, vQ, ↓vP, vE, vS, vB, vL, vF, vM, vN, Q0g, zb, zd, ze, ne_eq, not_false_eq_true, zf, zg, zk, zl, Z3, Q2c, Z4, Q4x, Z9, Q2f, Z75, Q4g, Z42, h44, hz44, Q7l, Q7m, Q7n, Q7o, Q7k, stmK, Q3y, Q3z, Q3a, Q3b, vT])) | with_reducible refine Q1h ?_ | with_reducible refine Q0w (fun _ _ => ?_) | with_reducible refine Q1l (fun _ => ?_) (fun _ => ?_) | omega | ((with_reducible first | refine Q5c ?_ | refine Q3f ?_ | refine Q1v ?_ | refine Q3g ?_ | refine Q0v ?_); simp only [vO, vQ, ↓vP, vE, vS, vB, vL, vF, vM, vN, Q0g, zb, zd, ze, ne_eq, not_false_eq_true, zf, zg, zk, zl, Z3, Q2c, Z4, Q4x, Z9, Q2f, Z75, Q4g, Z42, h44, hz44, Q7l, Q7m, Q7n, Q7o, Q7k, stmK, Q3y, Q3z, Q3a, Q3b, vT]))
    all_goals (refine ⟨_, .refl _, oc, or, os, oi, oo, rfl, ?_⟩; (exact zu))
  by_cases h4 : k = 4
  · subst h4
    have e : Q9i 4 s1 = Q9a s1 := rfl
    rw [e]
    have hk : ∀ γ S, S ρ = some (rdA s1) → S γ = some (.cells 42 [.i 5, .s (bs []), .sl .nil [], .s (bs []), .sl .nil [], .sl .nil [], .sl .nil [], .s (bs []), .sl .nil [], .sl .nil [], .sl .nil [], .sl .nil [], .b false, .i (-1)]) → VCalls Tryz.prog 92 [.ref ρ 0, .ref γ 0] S _ := fun γ S h1 h2 => c27 ρ γ s1 S h1 h2 g
    generalize Q9a s1 = R at *
    clear hlt
    (refine vfun (fun _ => .no) Q0h Tryz.func39 (by kernel_rfl) ?_; simp only [Q0f, Tryz.f39, zw])
    repeat' (first | with_reducible rfl | exact .inr trivial | with_reducible apply And.intro | with_reducible apply Q0a | with_reducible apply Q0b | with_reducible refine Q0c (by decide +kernel) ?_ | with_reducible intro _ | ((first | (with_reducible first | refine .rs ?_ | refine .ds (by kernel_rfl) ?_ | refine .dg (by kernel_rfl) ?_ | refine .rg ?_ | refine .ite ?_ | refine .ret ?_ | refine .skip ?_ | refine .exit ?_ | refine .scope ?_ | refine .seq (.label ?_) | refine .block ?_ | refine .seq ?_) | (simp (disch := first | assumption | (apply zQ; assumption; assumption) | (apply zR; assumption; assumption; (intro e; cases e; done)) | omega) only [w64, w8, tg_eq, Go.V.n1, Go.V.n2, Go.V.nn, zm, zn, zp, zq, zr, zv]) | (with_reducible refine uc (h22 _ _ (by exact zK) (by with_unfolding_all rfl)) ?_) | ((with_reducible refine zU (hk _ _ (by exact zK) (by exact zK)) ?_); rintro _ S ⟨rfl, oc, or, os, oi, oo, rfl⟩) | (refine Q0d (by exact zK) ?_) | (refine Q0e (by exact zK) ?_)); (try simp only [vO, vQ, ↓vP, vE, vS, vB, vL, vF, vM, vN, Q0g, zb, zd, ze, ne_eq, not_false_eq_true, zf, zg, zk, zl, Z3, Q2c, Z4, Q4x, Z9, Q2f, Z75, Q4g, Z42, h44, hz44, Q7l, Q7m, Q7n, Q7o, Q7k, stmK, Q3y, Q3z, Q3a, Q3b, vT])) | with_reducible refine Q1h ?_ | with_reducible refine Q0w (fun _ _ => ?_) | with_reducible refine Q1l (fun _ => ?_) (fun _ => ?_) | omega | ((with_reducible first | refine Q5c ?_ | refine Q3f ?_ | refine Q1v ?_ | refine Q3g ?_ | refine Q0v ?_); simp only [vO, vQ, ↓vP, vE, vS, vB, vL, vF, vM, vN, Q0g, zb, zd, ze, ne_eq, not_false_eq_true, zf, zg, zk, zl, Z3, Q2c, Z4, Q4x, Z9, Q2f, Z75, Q4g, Z42, h44, hz44, Q7l, Q7m, Q7n, Q7o, Q7k, stmK, Q3y, Q3z, Q3a, Q3b, vT]))
    all_goals (refine ⟨_, .refl _, oc, or, os, oi, oo, rfl, ?_⟩; (exact zu))
  by_cases h5 : k = 5
  · subst h5
    have e : Q9i 5 s1 = Q9b s1 := rfl
    rw [e]
    have hk : ∀ γ S, S ρ = some (rdA s1) → S γ = some (.cells 42 [.i 6, .s (bs []), .sl .nil [], .s (bs []), .sl .nil [], .sl .nil [], .sl .nil [], .s (bs []), .sl .nil [], .sl .nil [], .sl .nil [], .sl .nil [], .b false, .i (-1)]) → VCalls Tryz.prog 93 [.ref ρ 0, .ref γ 0] S _ := fun γ S h1 h2 => c28 ρ γ s1 S h1 h2 g
    generalize Q9b s1 = R at *
    clear hlt
    (refine vfun (fun _ => .no) Q0h Tryz.func39 (by kernel_rfl) ?_; simp only [Q0f, Tryz.f39, zw])
    repeat' (first | with_reducible rfl | exact .inr trivial | with_reducible apply And.intro | with_reducible apply Q0a | with_reducible apply Q0b | with_reducible refine Q0c (by decide +kernel) ?_ | with_reducible intro _ | ((first | (with_reducible first | refine .rs ?_ | refine .ds (by kernel_rfl) ?_ | refine .dg (by kernel_rfl) ?_ | refine .rg ?_ | refine .ite ?_ | refine .ret ?_ | refine .skip ?_ | refine .exit ?_ | refine .scope ?_ | refine .seq (.label ?_) | refine .block ?_ | refine .seq ?_) | (simp (disch := first | assumption | (apply zQ; assumption; assumption) | (apply zR; assumption; assumption; (intro e; cases e; done)) | omega) only [w64, w8, tg_eq, Go.V.n1, Go.V.n2, Go.V.nn, zm, zn, zp, zq, zr, zv]) | (with_reducible refine uc (h22 _ _ (by exact zK) (by with_unfolding_all rfl)) ?_) | ((with_reducible refine zU (hk _ _ (by exact zK) (by exact zK)) ?_); rintro _ S ⟨rfl, oc, or, os, oi, oo, rfl⟩) | (refine Q0d (by exact zK) ?_) | (refine Q0e (by exact zK) ?_)); (try simp only [vO, vQ, ↓vP, vE, vS, vB, vL, vF, vM, vN, Q0g, zb, zd, ze, ne_eq, not_false_eq_true, zf, zg, zk, zl, Z3, Q2c, Z4, Q4x, Z9, Q2f, Z75, Q4g, Z42, h44, hz44, Q7l, Q7m, Q7n, Q7o, Q7k, stmK, Q3y, Q3z, Q3a, Q3b, vT])) | with_reducible refine Q1h ?_ | with_reducible refine Q0w (fun _ _ => ?_) | with_reducible refine Q1l (fun _ => ?_) (fun _ => ?_) | omega | ((with_reducible first | refine Q5c ?_ | refine Q3f ?_ | refine Q1v ?_ | refine Q3g ?_ | refine Q0v ?_); simp only [vO, vQ, ↓vP, vE, vS, vB, vL, vF, vM, vN, Q0g, zb, zd, ze, ne_eq, not_false_eq_true, zf, zg, zk, zl, Z3, Q2c, Z4, Q4x, Z9, Q2f, Z75, Q4g, Z42, h44, hz44, Q7l, Q7m, Q7n, Q7o, Q7k, stmK, Q3y, Q3z, Q3a, Q3b, vT]))
    all_goals (refine ⟨_, .refl _, oc, or, os, oi, oo, rfl, ?_⟩; (exact zu))
  omega
theorem keepAll {ρ : Nat} {S σ' : Sg} {o : Option Ob} (h : Keep (fun _ => True) S σ') (hS : S ρ = o) : σ' ρ = o := (h ρ trivial).trans hS
theorem lose_script {f : FuncId} {args : List AV} {l : List Stm} {c a : Int} {σ S : Sg} (h : VCalls Tryz.prog f args σ (fun x σ' => ∃ o, x = .tup [.sl o (l.map stmA), .agg [.i c, .i a]] ∧ S.sub σ')) : VCalls Tryz.prog f args σ (fun x σ' => x = .tup [.sl .any (l.map stmA), .agg [.i c, .i a]] ∧ σ' = S) :=
  h.lose fun x σ' hx => by
    obtain ⟨o, rfl, hs⟩ := hx
    exact ⟨_, S, (AVw.any o _).tup2 (AVw.refl _), hs, rfl, rfl⟩
theorem X0f (x : Stm) : (stmA x).all AV.one = true := rfl
theorem Q6e (x : Stm) : (stmA x).take 14 = stmA x := rfl
theorem Q7x (x : Stm) : (stmA x).drop 14 = [] := rfl
theorem grow00 {τ sz : Nat} : grow τ sz 0 = .nil := rfl
theorem grow_ne {τ sz n : Nat} (h : n ≠ 0) : grow τ sz n = .tok τ sz := if_neg h
def stS (σ : Sg) (ρ : Nat) (τ : Nat) (acc : List Stm) (s : Rd) : Sg := tset (σ.set ρ (rdA s)) τ acc.length 42
def okM (σ : Sg) (ρ x3 x5 : Nat) (τ : Nat) (acc : List Stm) : Prop := acc ≠ [] → σ τ = none ∧ τ ≠ ρ ∧ τ ≠ x3 ∧ τ ≠ x5
theorem stS_ne {σ : Sg} {ρ τ : Nat} {acc : List Stm} {s : Rd} (h : acc ≠ []) : stS σ ρ τ acc s = (σ.set ρ (rdA s)).set τ (.tok (some 42)) := by
  cases acc with
  | nil => exact absurd rfl h
  | cons v r => unfold stS; rw [List.length_cons, tset1]
def More (R : List Stm × Rd) (acc : List Stm) (s : Rd) (b : Bool) : Prop := if b then acc.length ≤ 8 ∧ Q3s Q1g [59] (8 - acc.length) acc s = R else acc.length ≤ 9 ∧ acc ≠ [] ∧ R = (acc, s)
theorem scriptR_eq (l : List Tk) : X1f l = if ((Q3s Q1g [59] 8 [] (rd0 l)).2.fin).c = 0 then ((Q3s Q1g [59] 8 [] (rd0 l)).1, 0, 0) else ([], ((Q3s Q1g [59] 8 [] (rd0 l)).2.fin).c, ((Q3s Q1g [59] 8 [] (rd0 l)).2.fin).a) := rfl
theorem c8 (b : List UInt8) (σ : Sg) : VCalls Tryz.prog 18 [.s (bs b)] σ (fun x σ' => x = .tup [.sl .any ((Q7v b).1.map stmA), .agg [.i (Q7v b).2.1, .i (Q7v b).2.2]] ∧ σ' = σ) := by
  refine lose_script ?_
  obtain ⟨z30, h30, hz30⟩ := zero30
  have h9 := p9 b
  unfold Q7v
  cases hl : Q7q b with
  | error q =>
    obtain ⟨e, a⟩ := q
    have he := lexAll_nz hl
    simp only [hl] at h9
    simp only [List.map_nil]
    (refine vfun (fun _ => .no) Q0h Tryz.func18 (by kernel_rfl) ?_; simp only [Q0f, Tryz.f18, zw])
    (have zz := Bx.mk (j7 ui3 ui4 ui30 Z47 h30 hz30 ui9); (repeat' (first | exact zc | (with_reducible first | apply And.intro | apply Q0a | apply Q0b | refine Q0c (by decide +kernel) ?_ | intro _) | ((with_reducible refine .dms (fun _ => True) [(0, false), (1, false), (2, true)] (by decide) (by decide +kernel) ?_); (refine zs zz.out ?_)) | refine zaW zz.out ?_ | ((first | ((with_reducible refine (h9 _).mono ?_); rintro _ S ⟨rfl, rfl⟩) | (refine Q0d (o' := some (.cells 47 [.i e, .i a])) (keepAll (by assumption) (by exact zK)) ?_) | (refine Q0d (by exact zK) ?_) | (refine Q0e (by exact zK) ?_)); (try refine zs zz.out ?_)) | refine zo ?_ | omega | refine zt zz.out ?_ | fail)); try (all_goals clear zz))
    all_goals (refine ⟨_, .refl _, _, rfl, ?_⟩; (first | exact Sg.sub.refl _ | ((repeat (first | exact Sg.sub.refl _ | refine Sg.sub.set_both ?_ | refine Sg.sub.set_fresh ?_ (by first | assumption | exact Sg.set_none (by assumption) (by first | assumption | (apply Go.Cert.ne_of2a; assumption; assumption))))); done) | (intro y p hy; simp only [Sg.set_apply, Sg.del_apply] at hy ⊢; grind)))
  | ok l =>
    simp only [hl] at h9
    have hw := toks_wf hl
    have hg : Gd (rd0 l) := ⟨hw, rfl⟩
    have h0 : rdA (rd0 l) = .cells 80 [.sl .any (tksA l), .i 0, .i 0, .i 0] := rfl
    simp only [scriptR_eq]
    generalize hR : Q3s Q1g [59] 8 [] (rd0 l) = R
    (refine vfun (fun _ => .no) Q0h Tryz.func18 (by kernel_rfl) ?_; simp only [Q0f, Tryz.f18, zw])
    (have zz := Bx.mk (j9 ui3 ui4 ui30 Z47 h30 hz30 ui9 ui80 Q5t); (repeat' (first | exact zc | (with_reducible first | apply And.intro | apply Q0a | apply Q0b | refine Q0c (by decide +kernel) ?_ | intro _) | refine zaW zz.out ?_ | ((first | ((with_reducible refine (h9 _).mono ?_); rintro _ S ⟨rfl, rfl⟩) | (refine Q0d (by exact zK) ?_) | (refine Q0e (by exact zK) ?_)); (try refine zs zz.out ?_)) | refine zo ?_ | omega | refine zt zz.out ?_ | fail)); try (all_goals clear zz))
    rename_i x3 hx3 x5 hx5 n53 ρ hxρ nρ3 nρ5
    obtain ⟨z44, h44, hz44⟩ := zero44
    generalize hB : (σ.set x3 (.cells 47 [.i 0, .i 0])).set x5 (.cells 47 [.i 0, .i 0]) = σB
    have e3 : σB x3 = some (.cells 47 [.i 0, .i 0]) := by rw [← hB]; (simp (disch := first | assumption | (apply zQ; assumption; assumption) | (apply zR; assumption; assumption; (intro e; cases e; done)) | omega) only [zn, zp, zq, zr, zv])
    have e5 : σB x5 = some (.cells 47 [.i 0, .i 0]) := by rw [← hB]; (simp (disch := first | assumption | (apply zQ; assumption; assumption) | (apply zR; assumption; assumption; (intro e; cases e; done)) | omega) only [zn, zp, zq, zr, zv])
    have eσ : σ.sub σB := by rw [← hB]; exact Sg.sub.set_fresh (Sg.sub.set_fresh (.refl _) hx3) hx5
    have eN : ∀ τ, σB τ = none → σ τ = none ∧ τ ≠ x3 ∧ τ ≠ x5 := by
      intro τ h
      refine ⟨?_, ?_, ?_⟩
      · cases hh : σ τ with
        | none => rfl
        | some o => rw [eσ τ o hh] at h; cases h
      · intro e; rw [e, e3] at h; cases h
      · intro e; rw [e, e5] at h; cases h
    refine VW.loop3 ([] : List Stm) (rd0 l) (true, (0 : Nat)) (fun acc s' p => More R acc s' p.1 ∧ Gd s' ∧ okM σB ρ x3 x5 p.2 acc) (fun acc _ p => [(2, .sl .nil []), (3, .ref x3 0), (5, .ref x5 0), (6, .ref ρ 0), (7, .sl (grow p.2 14 acc.length) (acc.map stmA)), (8, .b p.1)]) (fun acc s' p => stS σB ρ p.2 acc s') (fun acc _ p => if p.1 then 20 - acc.length else 0) ⟨⟨by simp, hR⟩, hg, fun h => absurd rfl h⟩ (.refl _) ?_ ?_
    · simp only [vO, vQ, ↓vP, vE, vS, vB, vL, vF, vM, vN, Q0g, zb, zd, ze, ne_eq, not_false_eq_true, zf, zg, zk, zl, vT]
      all_goals rfl
    rintro acc s' ⟨bb, τ⟩ ⟨h1, g0, h3⟩
    simp only at h1 h3
    cases bb with
    | true =>
      obtain ⟨hl8, hM⟩ : acc.length ≤ 8 ∧ Q3s Q1g [59] (8 - acc.length) acc s' = R := h1
      cases acc with
      | nil =>
        have hM' : Q3s Q1g [59] 8 [] s' = R := hM
        have e1 : stS σB ρ τ [] s' = σB.set ρ (rdA s') := rfl
        rw [e1]
        have hmk : More R [(Q1g s').1] ((Q1g s').2.pass [[59]]) ((Q1g s').2.has [59]) := by
          unfold More
          rw [Q3s] at hM'
          cases hb : (Q1g s').2.has [59] with
          | true => rw [hb] at hM'; exact ⟨by simp, hM'⟩
          | false => rw [hb] at hM'; exact ⟨by simp, by simp, hM'.symm⟩
        have h15 := fun S (hS : S ρ = some (rdA s')) => c15 ρ _ S hS g0
        have g1 : Gd (Q1g s').2 := X4j X1s g0
        have h13 : ∀ S, S ρ = some (rdA (Q1g s').2) → VCalls Tryz.prog 37 [.ref ρ 0, .s (bs [59])] S _ := fun S hS => c13 ρ _ [59] S hS g1
        have g2 : Gd ((Q1g s').2.pass [[59]]) := Q5y g1
        generalize (Q1g s').1 = x at *
        generalize (Q1g s').2 = s2 at *
        (have zz := Bx.mk (j8 ui3 ui4 ui30 Z47 h30 hz30 ui9 (j9 ui35 Z42 h44 hz44 @Q8n @X0f @Q6e @Q7x @grow00)); (repeat' (first | exact zc | (with_reducible first | apply And.intro | apply Q0a | apply Q0b | refine Q0c (by decide +kernel) ?_ | intro _) | refine zaW zz.out ?_ | ((first | ((with_reducible refine zU (h15 _ (by exact zK)) ?_); rintro _ S ⟨rfl, rfl⟩) | ((with_reducible refine zU (h13 _ (by exact zK)) ?_); rintro _ S ⟨rfl, rfl⟩) | (refine Q0d (by exact zK) ?_) | (refine Q0e (by exact zK) ?_)); (try refine zs zz.out ?_)) | refine zo ?_ | omega | refine zt zz.out ?_ | fail)); try (all_goals clear zz))
        exact ⟨[x], s2.pass [[59]], (s2.has [59], _), ⟨⟨hmk, g2, fun _ => ⟨‹σB _ = none›, by assumption, (eN _ ‹σB _ = none›).2.1, (eN _ ‹σB _ = none›).2.2⟩⟩, by simp; split <;> omega⟩, by rw [stS_ne (by simp)]; (exact zu), rfl, rfl⟩
      | cons v r =>
        obtain ⟨q1, q2, q3, q4⟩ := h3 (by simp)
        have hl2 : r.length + 1 ≤ 8 := hl8
        have hV : ((v :: r).map stmA).length = r.length + 1 := by simp
        have hA : Q1t ((v :: r).map stmA) 14 = True := eq_true (fun e he => by
          obtain ⟨w, _, rfl⟩ := List.mem_map.1 he
          rfl)
        have hVx : ∀ x, (v :: r ++ [x]).map stmA = (v :: r).map stmA ++ [stmA x] := fun x => by rw [List.map_append]; rfl
        rw [stS_ne (by simp)]
        by_cases h8 : r.length + 1 = 8
        · have gf : Gd (s'.fail 2) := Y0t g0
          have h14 := fun S (hS : S ρ = some (rdA s')) => c14 ρ s' 2 S hS g0
          have hcf := fail_c (s := s') (e := 2) (by decide)
          have hM' : Q3s Q1g [59] 0 (v :: r) s' = R := by rw [← hM]; congr 1; simp; omega
          have hmk : More R (v :: r ++ [(Q1g (s'.fail 2)).1]) ((Q1g (s'.fail 2)).2.pass [[59]]) ((Q1g (s'.fail 2)).2.has [59]) := by
            have hb : (Q1g (s'.fail 2)).2.has [59] = false := bad_has (by rw [((X1s _ gf.wf).c hcf).1]; exact hcf)
            rw [hb]
            exact ⟨by simp; omega, by simp, hM'.symm⟩
          have gfx : (v :: r).length = 8 := h8
          clear hM hM'
          generalize hV' : (v :: r).map stmA = V at *
          have h15 := fun S (hS : S ρ = some (rdA (s'.fail 2))) => c15 ρ _ S hS gf
          have g1 : Gd (Q1g (s'.fail 2)).2 := X4j X1s gf
          have h13 : ∀ S, S ρ = some (rdA (Q1g (s'.fail 2)).2) → VCalls Tryz.prog 37 [.ref ρ 0, .s (bs [59])] S _ := fun S hS => c13 ρ _ [59] S hS g1
          have g2 : Gd ((Q1g (s'.fail 2)).2.pass [[59]]) := Q5y g1
          generalize (Q1g (s'.fail 2)).1 = x at *
          generalize (Q1g (s'.fail 2)).2 = s2 at *
          (have zz := Bx.mk (j4 ui3 ui4 ui30 (j9 Z47 h30 hz30 ui9 ui35 Z42 h44 hz44 (j9 @Q8n @X0f @Q6e @Q7x hV hA h8 gfx @grow1))); (repeat' (first | exact zc | (with_reducible first | apply And.intro | apply Q0a | apply Q0b | refine Q0c (by decide +kernel) ?_ | intro _) | refine zaW zz.out ?_ | ((first | ((with_reducible refine zU (h15 _ (by exact zK)) ?_); rintro _ S ⟨rfl, rfl⟩) | ((with_reducible refine zU (h13 _ (by exact zK)) ?_); rintro _ S ⟨rfl, rfl⟩) | (with_reducible refine uc (h14 _ (by exact zK)) ?_) | (refine Q0d (by exact zK) ?_) | (refine Q0e (by exact zK) ?_)); (try refine zs zz.out ?_)) | refine zo ?_ | omega | refine zt zz.out ?_ | fail)); try (all_goals clear zz))
          exact ⟨v :: r ++ [x], s2.pass [[59]], (s2.has [59], _), ⟨⟨hmk, g2, fun _ => ⟨‹σB _ = none›, by assumption, (eN _ ‹σB _ = none›).2.1, (eN _ ‹σB _ = none›).2.2⟩⟩, by simp; split <;> omega⟩, by rw [stS_ne (by simp)]; (exact zu), by rw [hVx, grow_ne (by simp)], rfl⟩
        · obtain ⟨k, hk⟩ : ∃ k, 8 - (v :: r).length = k + 1 := ⟨8 - (r.length + 1) - 1, by show 8 - (r.length + 1) = _; omega⟩
          rw [hk] at hM
          have hmk : More R (v :: r ++ [(Q1g s').1]) ((Q1g s').2.pass [[59]]) ((Q1g s').2.has [59]) := by
            unfold More
            rw [Q3s] at hM
            have hkk : 8 - (v :: r ++ [(Q1g s').1]).length = k := by simp at hk ⊢; omega
            cases hb : (Q1g s').2.has [59] with
            | true => rw [hb] at hM; exact ⟨by simp; omega, by rw [hkk]; exact hM⟩
            | false => rw [hb] at hM; exact ⟨by simp; omega, by simp, hM.symm⟩
          clear hM
          generalize hV' : (v :: r).map stmA = V at *
          have h15 := fun S (hS : S ρ = some (rdA s')) => c15 ρ _ S hS g0
          have g1 : Gd (Q1g s').2 := X4j X1s g0
          have h13 : ∀ S, S ρ = some (rdA (Q1g s').2) → VCalls Tryz.prog 37 [.ref ρ 0, .s (bs [59])] S _ := fun S hS => c13 ρ _ [59] S hS g1
          have g2 : Gd ((Q1g s').2.pass [[59]]) := Q5y g1
          generalize (Q1g s').1 = x at *
          generalize (Q1g s').2 = s2 at *
          (have zz := Bx.mk (j2 ui3 (j9 ui4 ui30 Z47 h30 hz30 ui9 ui35 Z42 (j9 h44 hz44 @Q8n @X0f @Q6e @Q7x hV hA @grow1))); (repeat' (first | exact zc | (with_reducible first | apply And.intro | apply Q0a | apply Q0b | refine Q0c (by decide +kernel) ?_ | intro _) | refine zaW zz.out ?_ | ((first | ((with_reducible refine zU (h15 _ (by exact zK)) ?_); rintro _ S ⟨rfl, rfl⟩) | ((with_reducible refine zU (h13 _ (by exact zK)) ?_); rintro _ S ⟨rfl, rfl⟩) | (refine Q0d (by exact zK) ?_) | (refine Q0e (by exact zK) ?_)); (try refine zs zz.out ?_)) | refine zo ?_ | omega | refine zt zz.out ?_ | fail)); try (all_goals clear zz))
          exact ⟨v :: r ++ [x], s2.pass [[59]], (s2.has [59], _), ⟨⟨hmk, g2, fun _ => ⟨‹σB _ = none›, by assumption, (eN _ ‹σB _ = none›).2.1, (eN _ ‹σB _ = none›).2.2⟩⟩, by simp; split <;> omega⟩, by rw [stS_ne (by simp)]; (exact zu), by rw [hVx, grow_ne (by simp)], rfl⟩
    | false =>
      obtain ⟨hl9, hne, rfl⟩ : acc.length ≤ 9 ∧ acc ≠ [] ∧ R = (acc, s') := h1
      obtain ⟨q1, q2, q3, q4⟩ := h3 hne
      rw [stS_ne hne]
      have h11 := fun S (hS : S ρ = some (rdA s')) => p11 ρ s' S hS g0.wf
      have hgr : grow τ 14 acc.length = .tok τ 14 := by
        cases acc with
        | nil => exact absurd rfl hne
        | cons v r => rw [List.length_cons, grow1]
      simp only
      generalize s'.fin = sF at *
      generalize hV' : acc.map stmA = V at *
      by_cases hc : sF.c = 0
      · simp only [if_pos hc]
        rw [hV']
        (have zz := Bx.mk (j8 ui3 ui4 ui30 Z47 h30 hz30 ui9 (j9 ui35 Z42 h44 hz44 @Q8n @X0f @Q6e @Q7x hgr)); (repeat' (first | exact zc | (with_reducible first | apply And.intro | apply Q0a | apply Q0b | refine Q0c (by decide +kernel) ?_ | intro _) | ((with_reducible refine .dms (fun _ => True) [(0, false), (1, false), (2, true)] (by decide) (by decide +kernel) ?_); (refine zs zz.out ?_)) | refine zaW zz.out ?_ | ((first | (with_reducible refine uc (h11 _ (by exact zK)) ?_) | (refine Q0d (by exact zK) ?_) | (refine Q0e (by exact zK) ?_)); (try refine zs zz.out ?_)) | refine zo ?_ | omega | refine zt zz.out ?_ | fail)); try (all_goals clear zz))
        all_goals (refine ⟨_, .refl _, _, rfl, ?_⟩; intro y p hy; have hy1 := Go.Cert.ne_of hy hx3; have hy2 := Go.Cert.ne_of hy hx5; have hy3 := Go.Cert.ne_of (eσ y p hy) q1; have hy4 := Go.Cert.ne_of hy hxρ; have hy5 := eσ y p hy; (simp (disch := first | assumption | (apply zQ; assumption; assumption) | (apply zR; assumption; assumption; (intro e; cases e; done)) | omega) only [zn, zp, zq, zr, zv]); exact hy5)
      · simp only [if_neg hc, List.map_nil]
        (have zz := Bx.mk (j8 ui3 ui4 ui30 Z47 h30 hz30 ui9 (j9 ui35 Z42 h44 hz44 @Q8n @X0f @Q6e @Q7x hgr)); (repeat' (first | exact zc | (with_reducible first | apply And.intro | apply Q0a | apply Q0b | refine Q0c (by decide +kernel) ?_ | intro _) | ((with_reducible refine .dms (fun _ => True) [(0, false), (1, false), (2, true)] (by decide) (by decide +kernel) ?_); (refine zs zz.out ?_)) | refine zaW zz.out ?_ | ((first | (with_reducible refine uc (h11 _ (by exact zK)) ?_) | (refine Q0d (o' := some (.cells 47 [.i sF.c, .i sF.a])) (keepAll (by assumption) (by exact zK)) ?_) | (refine Q0d (by exact zK) ?_) | (refine Q0e (by exact zK) ?_)); (try refine zs zz.out ?_)) | refine zo ?_ | omega | refine zt zz.out ?_ | fail)); try (all_goals clear zz))
        all_goals (refine ⟨_, .refl _, _, rfl, ?_⟩; intro y p hy; have hy1 := Go.Cert.ne_of hy hx3; have hy2 := Go.Cert.ne_of hy hx5; have hy3 := Go.Cert.ne_of (eσ y p hy) q1; have hy4 := Go.Cert.ne_of hy hxρ; have hy5 := eσ y p hy; (simp (disch := first | assumption | (apply zQ; assumption; assumption) | (apply zR; assumption; assumption; (intro e; cases e; done)) | omega) only [zn, zp, zq, zr, zv]); exact hy5)
end Go.Proofs.YtjdapkelojdefaaGreatDoor
namespace Go.Parse
open Go.V Go.Lex Go.Proofs.YtjdapkelojdefaaGreatDoor
def SmL (l : List Ex) : Prop := l.length ≤ 100 ∧ ∀ e ∈ l, Sm e
structure SmS (x : Stm) : Prop where
  cols : x.cols.length ≤ 100
  rows : x.rows.length ≤ 100
  row : ∀ r ∈ x.rows, r.length ≤ 100
  sets : x.sets.length ≤ 100
  set : ∀ y ∈ x.sets, Sm y.2
  items : x.items.length ≤ 100
  item : ∀ y ∈ x.items, SmL y.2
  on : SmL x.on
  wh : SmL x.wh
  gr : SmL x.gr
  or : SmL x.or
theorem SmL.nil : SmL [] := ⟨by decide, fun e h => by cases h⟩
theorem SmL.one {e : Ex} (h : Sm e) : SmL [e] := ⟨by simp, fun f hf => by simp at hf; rw [hf]; exact h⟩
end Go.Parse
namespace Go.Proofs.YtjdapkelojdefaaGreatDoor
open Go Go.V Go.Lex Go.Parse
theorem Q3c {α : Type} {f : α → List AV} {l : List α} {k : Nat} (h : k < l.length) : (l.map f).getD k [] = f l[k] := by
  rw [List.getD_eq_getElem?_getD, List.getElem?_map, List.getElem?_eq_getElem h]; rfl
theorem Q3d {α : Type} {f : α → List AV} {n : Nat} (l : List α) (h : ∀ x, (f x).length = n) : Q1t (l.map f) n = True := eq_true fun e he => by
  obtain ⟨x, _, rfl⟩ := List.mem_map.1 he
  exact h x
theorem X9h {P : Program} {d : Nat} {t : TypeId} {a b : Bool} (hu : P.underlying t = some .bool) : X0n P (d + 1) t (.b a) (.b b) = some (a == b) := by
  simp only [X0n, hu, veq]
theorem eqCo {d : TypeDesc} {s s' : ByteArray} {a a' : Int} {p p' q q' : Bool} : veqT Tryz.prog 132 d (.agg [.s s, .i a, .b p, .b q]) (.agg [.s s', .i a', .b p', .b q']) = some (sEq s s' && (decide (a = a') && ((p == p') && ((q == q') && true)))) := by
  rw [Y0c (by kernel_rfl), X0z (d := 9999) Z132 (by kernel_rfl)]
  exact Q3u (by decide) (Q1w Q2f Z9 rfl) (Q1w Q2f Z9 rfl) (X6n Z9) (Q3u (by decide) (Q1w Q2c Z3 rfl) (Q1w Q2c Z3 rfl) (X1a Z3) (Q3u (by decide) (Q1w Q4x Z4 rfl) (Q1w Q4x Z4 rfl) (X9h Z4) (Q3u (by decide) (Q1w Q4x Z4 rfl) (Q1w Q4x Z4 rfl) (X9h Z4) rfl)))
theorem q_vals (l : List Vl) (hl : l.length ≤ 100) (σ : Sg) : VCalls Tryz.prog 149 [.sl .any (X0m l), .sl .any (X0m l)] σ (fun x σ' => x = .b true ∧ σ' = σ) := by
  unfold X0m
  have hn : (l.map valA).length = l.length := zB ..
  have hall := Q3d (f := valA) (n := 3) l (fun _ => rfl)
  have hgt := fun k (h : k < l.length) => Q3c (f := valA) h
  generalize l.map valA = L at *
  (refine vfun (fun _ => .ro) Q0h Tryz.func149 (by kernel_rfl) ?_; simp only [Q0f, Tryz.f149, zw])
  (have zz := Bx.mk (j9 ui0 ui3 ui4 ui9 ui22 ui23 Q1e hn hall); (repeat' (first | exact zc | (with_reducible first | apply And.intro | apply Q0a | apply Q0b | refine Q0c (by decide +kernel) ?_ | intro _) | refine zaY zz.out ?_ | ((first | (refine Q0d (by exact zK) ?_) | (refine Q0e (by exact zK) ?_)); (try refine zsY zz.out ?_)) | refine zo ?_ | omega | refine ztY zz.out ?_ | fail)); try (all_goals clear zz))
  refine VW.loop3 (0 : Nat) () () (fun k _ _ => k ≤ l.length) (fun k _ _ => [(0, .sl .any L), (1, .sl .any L), (5, .i k)]) (fun _ _ _ => σ) (fun k _ _ => l.length - k) (by omega) (.refl _) ?_ ?_
  · simp only [vO, vQ, ↓vP, vE, vS, vB, vL, vF, vM, vN, Q0g, zb, zd, ze, ne_eq, not_false_eq_true, zf, zg, zk, zl, vT]
    all_goals rfl
  rintro k _ _ hk
  rcases Nat.lt_or_ge k l.length with hk2 | hk2
  · have hg := hgt k hk2
    have hg2 : valA l[k] = [.i l[k].1, .i l[k].2.1, .s (bs l[k].2.2)] := rfl
    rw [hg2] at hg
    have he : ∀ d, veqT Tryz.prog 23 d (.agg [.i l[k].1, .i l[k].2.1, .s (bs l[k].2.2)]) (.agg [.i l[k].1, .i l[k].2.1, .s (bs l[k].2.2)]) = some true := fun d => by rw [eq24]; simp [sEq]
    clear hg2
    generalize l[k].1 = va at *
    generalize l[k].2.1 = vb at *
    generalize l[k].2.2 = vc at *
    (have zz := Bx.mk (j3 ui0 ui3 (j9 ui4 ui9 ui22 ui23 Q1e hn hall hg he)); (repeat' (first | exact zc | (with_reducible first | apply And.intro | apply Q0a | apply Q0b | refine Q0c (by decide +kernel) ?_ | intro _) | refine zaY zz.out ?_ | ((first | (refine Q0d (by exact zK) ?_) | (refine Q0e (by exact zK) ?_)); (try refine zsY zz.out ?_)) | refine zo ?_ | omega | refine ztY zz.out ?_ | fail)); try (all_goals clear zz))
    exact ⟨k + 1, (), (), ⟨hk2, by omega⟩, .refl _, rfl⟩
  · (have zz := Bx.mk (j9 ui0 ui3 ui4 ui9 ui22 ui23 Q1e hn hall); (repeat' (first | exact zc | (with_reducible first | apply And.intro | apply Q0a | apply Q0b | refine Q0c (by decide +kernel) ?_ | intro _) | refine zaY zz.out ?_ | ((first | (refine Q0d (by exact zK) ?_) | (refine Q0e (by exact zK) ?_)); (try refine zsY zz.out ?_)) | refine zo ?_ | omega | refine ztY zz.out ?_ | fail)); try (all_goals clear zz))
    exact ⟨_, .refl _, rfl⟩
theorem q_rows (l : List (List Vl)) (hl : l.length ≤ 100) (hr : ∀ r ∈ l, r.length ≤ 100) (σ : Sg) : VCalls Tryz.prog 95 [.sl .any (l.map rowA), .sl .any (l.map rowA)] σ (fun x σ' => x = .b true ∧ σ' = σ) := by
  have hn : (l.map rowA).length = l.length := zB ..
  have hall := Q3d (f := rowA) (n := 1) l (fun _ => rfl)
  have hgt := fun k (h : k < l.length) => Q3c (f := rowA) h
  generalize l.map rowA = L at *
  (refine vfun (fun _ => .no) Q0h Tryz.func95 (by kernel_rfl) ?_; simp only [Q0f, Tryz.f95, zw])
  (have zz := Bx.mk (j2 ui0 (j9 ui3 ui4 ui9 ui22 ui23 ui38 Q1e hn hall)); (repeat' (first | exact zc | (with_reducible first | apply And.intro | apply Q0a | apply Q0b | refine Q0c (by decide +kernel) ?_ | intro _) | refine zaY zz.out ?_ | ((first | (with_reducible refine uc (q_vals _ (by assumption) _) ?_) | (refine Q0d (by exact zK) ?_) | (refine Q0e (by exact zK) ?_)); (try refine zsY zz.out ?_)) | refine zo ?_ | omega | refine ztY zz.out ?_ | fail)); try (all_goals clear zz))
  refine VW.loop3 (0 : Nat) () () (fun k _ _ => k ≤ l.length) (fun k _ _ => [(0, .sl .any L), (1, .sl .any L), (5, .i k)]) (fun _ _ _ => σ) (fun k _ _ => l.length - k) (by omega) (.refl _) ?_ ?_
  · simp only [vO, vQ, ↓vP, vE, vS, vB, vL, vF, vM, vN, Q0g, zb, zd, ze, ne_eq, not_false_eq_true, zf, zg, zk, zl, vT]
    all_goals rfl
  rintro k _ _ hk
  rcases Nat.lt_or_ge k l.length with hk2 | hk2
  · have hg := hgt k hk2
    have h1 : (l[k]).length ≤ 100 := hr _ (List.getElem_mem hk2)
    unfold rowA at hg
    generalize l[k] = R at *
    (have zz := Bx.mk (j3 ui0 ui3 (j9 ui4 ui9 ui22 ui23 ui38 Q1e hn hall hg)); (repeat' (first | exact zc | (with_reducible first | apply And.intro | apply Q0a | apply Q0b | refine Q0c (by decide +kernel) ?_ | intro _) | refine zaY zz.out ?_ | ((first | (with_reducible refine uc (q_vals _ (by assumption) _) ?_) | (refine Q0d (by exact zK) ?_) | (refine Q0e (by exact zK) ?_)); (try refine zsY zz.out ?_)) | refine zo ?_ | omega | refine ztY zz.out ?_ | fail)); try (all_goals clear zz))
    exact ⟨k + 1, (), (), ⟨hk2, by omega⟩, .refl _, rfl⟩
  · (have zz := Bx.mk (j2 ui0 (j9 ui3 ui4 ui9 ui22 ui23 ui38 Q1e hn hall)); (repeat' (first | exact zc | (with_reducible first | apply And.intro | apply Q0a | apply Q0b | refine Q0c (by decide +kernel) ?_ | intro _) | refine zaY zz.out ?_ | ((first | (with_reducible refine uc (q_vals _ (by assumption) _) ?_) | (refine Q0d (by exact zK) ?_) | (refine Q0e (by exact zK) ?_)); (try refine zsY zz.out ?_)) | refine zo ?_ | omega | refine ztY zz.out ?_ | fail)); try (all_goals clear zz))
    exact ⟨_, .refl _, rfl⟩
theorem q_cols (l : List Co) (hl : l.length ≤ 100) (σ : Sg) : VCalls Tryz.prog 94 [.sl .any (l.map coA), .sl .any (l.map coA)] σ (fun x σ' => x = .b true ∧ σ' = σ) := by
  have hn : (l.map coA).length = l.length := zB ..
  have hall := Q3d (f := coA) (n := 4) l (fun _ => rfl)
  have hgt := fun k (h : k < l.length) => Q3c (f := coA) h
  generalize l.map coA = L at *
  (refine vfun (fun _ => .ro) Q0h Tryz.func94 (by kernel_rfl) ?_; simp only [Q0f, Tryz.f94, zw])
  (have zz := Bx.mk (j9 ui0 ui3 ui4 ui9 ui37 Q1r Q1s hn hall); (repeat' (first | exact zc | (with_reducible first | apply And.intro | apply Q0a | apply Q0b | refine Q0c (by decide +kernel) ?_ | intro _) | refine zaY zz.out ?_ | ((first | (refine Q0d (by exact zK) ?_) | (refine Q0e (by exact zK) ?_)); (try refine zsY zz.out ?_)) | refine zo ?_ | omega | refine ztY zz.out ?_ | fail)); try (all_goals clear zz))
  refine VW.loop3 (0 : Nat) () () (fun k _ _ => k ≤ l.length) (fun k _ _ => [(0, .sl .any L), (1, .sl .any L), (5, .i k)]) (fun _ _ _ => σ) (fun k _ _ => l.length - k) (by omega) (.refl _) ?_ ?_
  · simp only [vO, vQ, ↓vP, vE, vS, vB, vL, vF, vM, vN, Q0g, zb, zd, ze, ne_eq, not_false_eq_true, zf, zg, zk, zl, vT]
    all_goals rfl
  rintro k _ _ hk
  rcases Nat.lt_or_ge k l.length with hk2 | hk2
  · have hg := hgt k hk2
    have hg2 : coA l[k] = [.s (bs l[k].1), .i l[k].2.1, .b l[k].2.2.1, .b l[k].2.2.2] := rfl
    rw [hg2] at hg
    have he : ∀ d, veqT Tryz.prog 132 d (.agg [.s (bs l[k].1), .i l[k].2.1, .b l[k].2.2.1, .b l[k].2.2.2]) (.agg [.s (bs l[k].1), .i l[k].2.1, .b l[k].2.2.1, .b l[k].2.2.2]) = some true := fun d => by rw [eqCo]; simp [sEq]
    clear hg2
    generalize l[k].1 = va at *
    generalize l[k].2.1 = vb at *
    generalize l[k].2.2.1 = vc at *
    generalize l[k].2.2.2 = vd at *
    (have zz := Bx.mk (j3 ui0 ui3 (j9 ui4 ui9 ui37 Q1r Q1s hn hall hg he)); (repeat' (first | exact zc | (with_reducible first | apply And.intro | apply Q0a | apply Q0b | refine Q0c (by decide +kernel) ?_ | intro _) | refine zaY zz.out ?_ | ((first | (refine Q0d (by exact zK) ?_) | (refine Q0e (by exact zK) ?_)); (try refine zsY zz.out ?_)) | refine zo ?_ | omega | refine ztY zz.out ?_ | fail)); try (all_goals clear zz))
    exact ⟨k + 1, (), (), ⟨hk2, by omega⟩, .refl _, rfl⟩
  · (have zz := Bx.mk (j9 ui0 ui3 ui4 ui9 ui37 Q1r Q1s hn hall); (repeat' (first | exact zc | (with_reducible first | apply And.intro | apply Q0a | apply Q0b | refine Q0c (by decide +kernel) ?_ | intro _) | refine zaY zz.out ?_ | ((first | (refine Q0d (by exact zK) ?_) | (refine Q0e (by exact zK) ?_)); (try refine zsY zz.out ?_)) | refine zo ?_ | omega | refine ztY zz.out ?_ | fail)); try (all_goals clear zz))
    exact ⟨_, .refl _, rfl⟩
theorem q_exps {l : List Ex} (h : SmL l) (σ : Sg) : VCalls Tryz.prog 26 [.sl .any (exsA l), .sl .any (exsA l)] σ (fun x σ' => x = .b true ∧ σ' = σ) := p12 l (fun i hi σ => p7 (h.2 _ (List.getElem_mem hi)) σ) h.1 σ
theorem q_sets (l : List Se) (hl : l.length ≤ 100) (hr : ∀ r ∈ l, Sm r.2) (σ : Sg) : VCalls Tryz.prog 96 [.sl .any (l.map setA), .sl .any (l.map setA)] σ (fun x σ' => x = .b true ∧ σ' = σ) := by
  have hn : (l.map setA).length = l.length := zB ..
  have hall := Q3d (f := setA) (n := 9) l (fun x => by simp [setA, Q0r])
  have hgt := fun k (h : k < l.length) => Q3c (f := setA) h
  generalize l.map setA = L at *
  (refine vfun (fun _ => .no) Q0h Tryz.func96 (by kernel_rfl) ?_; simp only [Q0f, Tryz.f96, zw])
  (have zz := Bx.mk (j6 ui0 ui3 ui4 ui9 ui22 (j9 ui23 ui24 ui25 ui26 ui39 ui67 ui68 hn hall)); (repeat' (first | exact zc | (with_reducible first | apply And.intro | apply Q0a | apply Q0b | refine Q0c (by decide +kernel) ?_ | intro _) | refine zaY zz.out ?_ | ((first | (with_reducible refine uc (p7 (by assumption) _) ?_) | (refine Q0d (by exact zK) ?_) | (refine Q0e (by exact zK) ?_)); (try refine zsY zz.out ?_)) | refine zo ?_ | omega | refine ztY zz.out ?_ | fail)); try (all_goals clear zz))
  refine VW.loop3 (0 : Nat) () () (fun k _ _ => k ≤ l.length) (fun k _ _ => [(0, .sl .any L), (1, .sl .any L), (5, .i k)]) (fun _ _ _ => σ) (fun k _ _ => l.length - k) (by omega) (.refl _) ?_ ?_
  · simp only [vO, vQ, ↓vP, vE, vS, vB, vL, vF, vM, vN, Q0g, zb, zd, ze, ne_eq, not_false_eq_true, zf, zg, zk, zl, vT]
    all_goals rfl
  rintro k _ _ hk
  rcases Nat.lt_or_ge k l.length with hk2 | hk2
  · have hg := hgt k hk2
    have h1 : Sm (l[k]).2 := hr _ (List.getElem_mem hk2)
    have h7 := p7 h1
    have hFl := Q0r (l[k]).2
    have hFt := Q0q (l[k]).2
    have hFd := Q0x (l[k]).2
    unfold setA at hg
    generalize exA (l[k]).2 = E at *
    generalize (l[k]).1 = nm at *
    (have zz := Bx.mk (j2 ui0 (j9 ui3 ui4 ui9 ui22 ui23 ui24 ui25 ui26 (j9 ui39 ui67 ui68 hn hall hg hFl hFt hFd))); (repeat' (first | exact zc | (with_reducible first | apply And.intro | apply Q0a | apply Q0b | refine Q0c (by decide +kernel) ?_ | intro _) | refine zaY zz.out ?_ | ((first | (with_reducible refine uc (h7 _) ?_) | (with_reducible refine uc (p7 (by assumption) _) ?_) | (refine Q0d (by exact zK) ?_) | (refine Q0e (by exact zK) ?_)); (try refine zsY zz.out ?_)) | refine zo ?_ | omega | refine ztY zz.out ?_ | fail)); try (all_goals clear zz))
    exact ⟨k + 1, (), (), ⟨hk2, by omega⟩, .refl _, rfl⟩
  · (have zz := Bx.mk (j6 ui0 ui3 ui4 ui9 ui22 (j9 ui23 ui24 ui25 ui26 ui39 ui67 ui68 hn hall)); (repeat' (first | exact zc | (with_reducible first | apply And.intro | apply Q0a | apply Q0b | refine Q0c (by decide +kernel) ?_ | intro _) | refine zaY zz.out ?_ | ((first | (with_reducible refine uc (p7 (by assumption) _) ?_) | (refine Q0d (by exact zK) ?_) | (refine Q0e (by exact zK) ?_)); (try refine zsY zz.out ?_)) | refine zo ?_ | omega | refine ztY zz.out ?_ | fail)); try (all_goals clear zz))
    exact ⟨_, .refl _, rfl⟩
theorem q_items (l : List It) (hl : l.length ≤ 100) (hr : ∀ r ∈ l, SmL r.2) (σ : Sg) : VCalls Tryz.prog 97 [.sl .any (l.map Q2z), .sl .any (l.map Q2z)] σ (fun x σ' => x = .b true ∧ σ' = σ) := by
  have hn : (l.map Q2z).length = l.length := zB ..
  have hall := Q3d (f := Q2z) (n := 2) l (fun _ => rfl)
  have hgt := fun k (h : k < l.length) => Q3c (f := Q2z) h
  generalize l.map Q2z = L at *
  (refine vfun (fun _ => .no) Q0h Tryz.func97 (by kernel_rfl) ?_; simp only [Q0f, Tryz.f97, zw])
  (have zz := Bx.mk (j6 ui0 ui3 ui4 ui9 ui22 (j9 ui23 ui24 ui25 ui26 ui40 ui70 ui71 hn hall)); (repeat' (first | exact zc | (with_reducible first | apply And.intro | apply Q0a | apply Q0b | refine Q0c (by decide +kernel) ?_ | intro _) | refine zaY zz.out ?_ | ((first | (with_reducible refine uc (q_exps (by assumption) _) ?_) | (refine Q0d (by exact zK) ?_) | (refine Q0e (by exact zK) ?_)); (try refine zsY zz.out ?_)) | refine zo ?_ | omega | refine ztY zz.out ?_ | fail)); try (all_goals clear zz))
  refine VW.loop3 (0 : Nat) () () (fun k _ _ => k ≤ l.length) (fun k _ _ => [(0, .sl .any L), (1, .sl .any L), (5, .i k)]) (fun _ _ _ => σ) (fun k _ _ => l.length - k) (by omega) (.refl _) ?_ ?_
  · simp only [vO, vQ, ↓vP, vE, vS, vB, vL, vF, vM, vN, Q0g, zb, zd, ze, ne_eq, not_false_eq_true, zf, zg, zk, zl, vT]
    all_goals rfl
  rintro k _ _ hk
  rcases Nat.lt_or_ge k l.length with hk2 | hk2
  · have hg := hgt k hk2
    have h1 : SmL (l[k]).2 := hr _ (List.getElem_mem hk2)
    unfold Q2z at hg
    generalize (l[k]).2 = E at *
    generalize (l[k]).1 = nm at *
    (have zz := Bx.mk (j7 ui0 ui3 ui4 ui9 ui22 ui23 (j9 ui24 ui25 ui26 ui40 ui70 ui71 hn hall hg)); (repeat' (first | exact zc | (with_reducible first | apply And.intro | apply Q0a | apply Q0b | refine Q0c (by decide +kernel) ?_ | intro _) | refine zaY zz.out ?_ | ((first | (with_reducible refine uc (q_exps (by assumption) _) ?_) | (refine Q0d (by exact zK) ?_) | (refine Q0e (by exact zK) ?_)); (try refine zsY zz.out ?_)) | refine zo ?_ | omega | refine ztY zz.out ?_ | fail)); try (all_goals clear zz))
    exact ⟨k + 1, (), (), ⟨hk2, by omega⟩, .refl _, rfl⟩
  · (have zz := Bx.mk (j6 ui0 ui3 ui4 ui9 ui22 (j9 ui23 ui24 ui25 ui26 ui40 ui70 ui71 hn hall)); (repeat' (first | exact zc | (with_reducible first | apply And.intro | apply Q0a | apply Q0b | refine Q0c (by decide +kernel) ?_ | intro _) | refine zaY zz.out ?_ | ((first | (with_reducible refine uc (q_exps (by assumption) _) ?_) | (refine Q0d (by exact zK) ?_) | (refine Q0e (by exact zK) ?_)); (try refine zsY zz.out ?_)) | refine zo ?_ | omega | refine ztY zz.out ?_ | fail)); try (all_goals clear zz))
    exact ⟨_, .refl _, rfl⟩
theorem Y0x {x : Stm} (h : SmS x) (σ : Sg) : VCalls Tryz.prog 40 [.agg (stmA x), .agg (stmA x)] σ (fun x σ' => x = .b true ∧ σ' = σ) := by
  obtain ⟨h1, h2, h3, h4, h5, h6, h7, h8, h9, h10, h11⟩ := h
  unfold stmA
  cases x with
  | mk k t cols pk rows sets items join on wh gr or desc lim =>
  (refine vfun (fun _ => .no) Q0h Tryz.func40 (by kernel_rfl) ?_; simp only [Q0f, Tryz.f40, zw])
  (have zz := Bx.mk (j6 ui0 ui3 ui4 ui9 ui22 (j9 ui23 ui24 ui25 ui26 ui37 ui38 ui39 ui40 (j9 ui41 ui42 ui67 ui68 ui70 ui71 Q1e Q1r Q1s))); (repeat' (first | exact zc | (with_reducible first | apply And.intro | apply Q0a | apply Q0b | refine Q0c (by decide +kernel) ?_ | intro _) | refine zaY zz.out ?_ | ((first | (with_reducible refine uc (q_exps (by assumption) _) ?_) | (with_reducible refine uc (q_cols _ (by assumption) _) ?_) | (with_reducible refine uc (q_rows _ (by assumption) (by assumption) _) ?_) | (with_reducible refine uc (q_sets _ (by assumption) (by assumption) _) ?_) | (with_reducible refine uc (q_items _ (by assumption) (by assumption) _) ?_) | (refine Q0d (by exact zK) ?_) | (refine Q0e (by exact zK) ?_)); (try refine zsY zz.out ?_)) | refine zo ?_ | omega | refine ztY zz.out ?_ | fail)); try (all_goals clear zz))
  all_goals (first | (exact zE) | exact absurd (beq_self_eq_true _) (by assumption))
theorem q_all (l : List Stm) (hl : l.length ≤ 100) (hr : ∀ r ∈ l, SmS r) (σ : Sg) : VCalls Tryz.prog 19 [.sl .any (l.map stmA), .sl .any (l.map stmA)] σ (fun x σ' => x = .b true ∧ σ' = σ) := by
  have hn : (l.map stmA).length = l.length := zB ..
  have hall := Q3d (f := stmA) (n := 14) l (fun _ => rfl)
  have hgt := fun k (h : k < l.length) => Q3c (f := stmA) h
  generalize l.map stmA = L at *
  (refine vfun (fun _ => .no) Q0h Tryz.func19 (by kernel_rfl) ?_; simp only [Q0f, Tryz.f19, zw])
  (have zz := Bx.mk (j9 ui0 ui3 ui4 ui9 ui22 ui23 ui24 ui25 (j9 ui26 ui35 ui37 ui38 ui39 ui40 ui41 ui42 (j9 ui67 ui68 ui70 ui71 Q1e Q1r Q1s hn hall))); (repeat' (first | exact zc | (with_reducible first | apply And.intro | apply Q0a | apply Q0b | refine Q0c (by decide +kernel) ?_ | intro _) | refine zaY zz.out ?_ | ((first | (with_reducible refine uc (Y0x (by assumption) _) ?_) | (refine Q0d (by exact zK) ?_) | (refine Q0e (by exact zK) ?_)); (try refine zsY zz.out ?_)) | refine zo ?_ | omega | refine ztY zz.out ?_ | fail)); try (all_goals clear zz))
  refine VW.loop3 (0 : Nat) () () (fun k _ _ => k ≤ l.length) (fun k _ _ => [(0, .sl .any L), (1, .sl .any L), (5, .i k)]) (fun _ _ _ => σ) (fun k _ _ => l.length - k) (by omega) (.refl _) ?_ ?_
  · simp only [vO, vQ, ↓vP, vE, vS, vB, vL, vF, vM, vN, Q0g, zb, zd, ze, ne_eq, not_false_eq_true, zf, zg, zk, zl, vT]
    all_goals rfl
  rintro k _ _ hk
  rcases Nat.lt_or_ge k l.length with hk2 | hk2
  · have hg := hgt k hk2
    have h1 : SmS l[k] := hr _ (List.getElem_mem hk2)
    have h7 := Y0x h1
    have hFl := Q8n l[k]
    have hFt := Q6e l[k]
    generalize stmA l[k] = R at *
    (have zz := Bx.mk (j4 ui0 ui3 ui4 (j9 ui9 ui22 ui23 ui24 ui25 ui26 ui35 ui37 (j9 ui38 ui39 ui40 ui41 ui42 ui67 ui68 ui70 (j9 ui71 Q1e Q1r Q1s hn hall hg hFl hFt)))); (repeat' (first | exact zc | (with_reducible first | apply And.intro | apply Q0a | apply Q0b | refine Q0c (by decide +kernel) ?_ | intro _) | refine zaY zz.out ?_ | ((first | (with_reducible refine uc (h7 _) ?_) | (with_reducible refine uc (Y0x (by assumption) _) ?_) | (refine Q0d (by exact zK) ?_) | (refine Q0e (by exact zK) ?_)); (try refine zsY zz.out ?_)) | refine zo ?_ | omega | refine ztY zz.out ?_ | fail)); try (all_goals clear zz))
    exact ⟨k + 1, (), (), ⟨hk2, by omega⟩, .refl _, rfl⟩
  · (have zz := Bx.mk (j9 ui0 ui3 ui4 ui9 ui22 ui23 ui24 ui25 (j9 ui26 ui35 ui37 ui38 ui39 ui40 ui41 ui42 (j9 ui67 ui68 ui70 ui71 Q1e Q1r Q1s hn hall))); (repeat' (first | exact zc | (with_reducible first | apply And.intro | apply Q0a | apply Q0b | refine Q0c (by decide +kernel) ?_ | intro _) | refine zaY zz.out ?_ | ((first | (with_reducible refine uc (Y0x (by assumption) _) ?_) | (refine Q0d (by exact zK) ?_) | (refine Q0e (by exact zK) ?_)); (try refine zsY zz.out ?_)) | refine zo ?_ | omega | refine ztY zz.out ?_ | fail)); try (all_goals clear zz))
    exact ⟨_, .refl _, rfl⟩
end Go.Proofs.YtjdapkelojdefaaGreatDoor
namespace Go.Parse
open Go.V Go.Lex Go.Proofs.YtjdapkelojdefaaGreatDoor
variable {δ : Int} {w : By} {d : Int}
end Go.Parse
namespace Go.Parse
open Go.V Go.Lex Go.Proofs.YtjdapkelojdefaaGreatDoor
def Ex.args : Ex → List Ex
  | .mk _ _ _ _ _ l => l
end Go.Parse
namespace Go.Proofs.YtjdapkelojdefaaGreatDoor
open Go Go.V Go.Lex Go.Parse
end Go.Proofs.YtjdapkelojdefaaGreatDoor
namespace Go.Print
open Go.V Go.Lex Go.Parse Go.Proofs.YtjdapkelojdefaaGreatDoor
theorem fT_of {m i : List Tk} (h : m.map noAt = i.map noAt) : m.map fT = i.map fT := by
  have : ∀ l : List Tk, l.map fT = (l.map noAt).map (fun x => (x.1, x.2.1, x.2.2, 0)) := fun l => by rw [List.map_map]; rfl
  rw [this m, this i, h]
end Go.Print
namespace Go.Proofs.YtjdapkelojdefaaGreatDoor
open Go Go.V Go.Lex Go.Parse Go.Print
end Go.Proofs.YtjdapkelojdefaaGreatDoor
namespace Go.Print
open Go.V Go.Lex Go.Parse Go.Proofs.YtjdapkelojdefaaGreatDoor
theorem X7o {i : List Tk} (h : ∀ t ∈ i, GoodT t) : Q5j i = Q4s (i.map txt) := by
  unfold Q5j txts
  rw [List.filter_eq_self.2 (fun t ht => by
    rcases h t ht with q | q | q | q | q <;> rw [q.1] <;> decide)]
theorem one_back {t : Tr} (hw : t.wf) (hg : t.rg) (hd : t.dp ≤ 10) (hl : (Q5j t.tk).length ≤ 2000) : (X7e (Q5j t.tk)).1 = t.ex ∧ (X7e (Q5j t.tk)).2.1 = 0 := by
  have hgd := Q5x t hw hg
  obtain ⟨m, hm, hn⟩ := X7b t.tk 0 hgd
  rw [X7o hgd] at hl ⊢
  have h2 := X3d (by omega) hm
  have hf : (m ++ [(6, [], 0, 0 + (Q4s (t.tk.map txt)).length)]).map fT = (t.tk ++ [(6, [], 0, 0)]).map fT := by
    rw [List.map_append, List.map_append, fT_of hn]; rfl
  have q2 := one_alike hf
  unfold X7e
  rw [h2]
  simp only
  rw [q2.1, q2.2]
  have h3 := rd_exp (r := [(6, [], 0, 0)]) hw hg hd rfl (fun w _ => rfl)
  have e : rd0 (t.tk ++ [(6, [], 0, 0)]) = stR (t.tk ++ [(6, [], 0, 0)]) 0 := rfl
  have e2 : oneT (t.tk ++ [(6, [], 0, 0)]) = (t.ex, stR [(6, [], 0, 0)] 0) := by
    unfold oneT
    rw [e, h3]
    rfl
  unfold oneR
  rw [e2]
  exact ⟨rfl, rfl⟩
def expT (ws : List By) : List Ex → List Tk
  | [] => []
  | e :: _ => wds ws ++ (toTr e).tk
def expD : List Ex → Nat
  | [] => 0
  | e :: _ => (toTr e).dp
def sepT {β : Type} (one : β → List Tk) : List β → List Tk
  | [] => []
  | [x] => one x
  | x :: y :: r => one x ++ wd [44] :: sepT one (y :: r)
def maxD {β : Type} (one : β → Nat) : List β → Nat
  | [] => 0
  | x :: r => max (one x) (maxD one r)
def colT (c : Co) : List Tk := nT c.1 :: wd (if c.2.1 = 1 then [73, 78, 84] else [84, 69, 88, 84]) :: ((if c.2.2.1 then wds [[78, 79, 84], [78, 85, 76, 76]] else []) ++ ((if c.2.2.2 then wds [[85, 78, 73, 81, 85, 69]] else []) ++ [wd [44]]))
def rowT (r : List Vl) : List Tk := wd [40] :: (sepT litT r ++ [wd [41]])
def setT (x : Se) : List Tk := nT x.1 :: wd [61] :: (toTr x.2).tk
def Q7y (x : It) : List Tk :=
  if x.1 = 1 then wds [[42]] else
  if x.1 = 3 then wds [[67, 79, 85, 78, 84], [40], [42], [41]] else
  if x.1 = 2 then expT [] x.2 else
  expT [(if x.1 = 4 then [67, 79, 85, 78, 84] else if x.1 = 5 then [83, 85, 77] else if x.1 = 6 then [77, 73, 78] else [77, 65, 88]), [40]] x.2 ++ [wd [41]]
def X4l (s : Stm) : List Tk := wds [[67, 82, 69, 65, 84, 69], [84, 65, 66, 76, 69]] ++ (nT s.t :: wd [40] :: ((s.cols.map colT).flatten ++ (wds [[80, 82, 73, 77, 65, 82, 89], [75, 69, 89], [40]] ++ (nT s.pk :: wds [[41], [41]]))))
def dropT (s : Stm) : List Tk := wds [[68, 82, 79, 80], [84, 65, 66, 76, 69]] ++ [nT s.t]
def X4m (s : Stm) : List Tk := wds [[73, 78, 83, 69, 82, 84], [73, 78, 84, 79]] ++ (nT s.t :: wd [86, 65, 76, 85, 69, 83] :: sepT rowT s.rows)
def X4n (s : Stm) : List Tk := wd [85, 80, 68, 65, 84, 69] :: nT s.t :: wd [83, 69, 84] :: (sepT setT s.sets ++ expT [[87, 72, 69, 82, 69]] s.wh)
def removeT (s : Stm) : List Tk := wds [[68, 69, 76, 69, 84, 69], [70, 82, 79, 77]] ++ (nT s.t :: expT [[87, 72, 69, 82, 69]] s.wh)
def joinT (s : Stm) : List Tk := if s.join = [] then [] else wd [74, 79, 73, 78] :: nT s.join :: expT [[79, 78]] s.on
def X4o (s : Stm) : List Tk := wd [83, 69, 76, 69, 67, 84] :: (sepT Q7y s.items ++ (wd [70, 82, 79, 77] :: nT s.t :: (joinT s ++ (expT [[87, 72, 69, 82, 69]] s.wh ++ (expT [[71, 82, 79, 85, 80], [66, 89]] s.gr ++ (expT [[79, 82, 68, 69, 82], [66, 89]] s.or ++
  ((if s.desc then [wd [68, 69, 83, 67]] else []) ++ (if 0 ≤ s.lim then [wd [76, 73, 77, 73, 84], iT s.lim] else []))))))))
def stT (s : Stm) : List Tk :=
  if s.k = 1 then X4l s else if s.k = 2 then dropT s else if s.k = 3 then X4m s else if s.k = 4 then X4n s else if s.k = 5 then removeT s else if s.k = 6 then X4o s else []
def stD (s : Stm) : Nat :=
  if s.k = 4 then max (maxD (fun x => (toTr x.2).dp) s.sets) (expD s.wh) else if s.k = 5 then expD s.wh else
  if s.k = 6 then max (maxD (fun x => expD x.2) s.items) (max (if s.join = [] then 0 else expD s.on) (max (expD s.wh) (max (expD s.gr) (expD s.or)))) else 0
def oneB (l : List Ex) : Bool := decide (l.length ≤ 1) && rts l
def colB (l : List Ex) : Bool := oneB l && (match l with | [] => true | e :: _ => decide (e.kd = 2))
def X4p (c : Co) : Bool := isNm c.1 && decide (c.2.1 = 1 ∨ c.2.1 = 2)
def X7p (l : List Co) : Bool := l.all X4p && decide (1 ≤ l.length ∧ l.length ≤ 8)
def rowB (r : List Vl) : Bool := r.all okV && decide (1 ≤ r.length ∧ r.length ≤ 8)
def X7q (l : List (List Vl)) : Bool := l.all rowB && decide (1 ≤ l.length ∧ l.length ≤ 16)
def X3m (x : Se) : Bool := isNm x.1 && rt x.2
def X5l (l : List Se) : Bool := l.all X3m && decide (1 ≤ l.length ∧ l.length ≤ 8)
def Q6u (x : It) : Bool := decide (1 ≤ x.1 ∧ x.1 ≤ 7) && (decide (x.2.length = if x.1 = 1 ∨ x.1 = 3 then 0 else 1) && rts x.2)
def X0j (l : List It) : Bool := l.all Q6u && decide (1 ≤ l.length ∧ l.length ≤ 8)
def joinB (s : Stm) : Bool := (decide (s.join = []) && decide (s.on.length = 0)) || (isNm s.join && decide (s.on.length = 1))
def selB (s : Stm) : Bool := joinB s && (X0j s.items && (oneB s.on && (colB s.gr && (colB s.or && ((decide (s.or.length = 1) || !s.desc) && decide (-1 ≤ s.lim))))))
def creates (s : Stm) : Bool := decide (0 < s.cols.length) || decide (s.pk ≠ [])
def chooses (s : Stm) : Bool := decide (0 < s.items.length + s.on.length + s.gr.length + s.or.length) || (decide (s.join ≠ []) || (s.desc || decide (s.lim ≠ -1)))
def bareB (s : Stm) : Bool :=
  isNm s.t && (decide (1 ≤ s.k ∧ s.k ≤ 6) && ((decide (s.k = 1) || !creates s) && ((decide (s.k = 3) || decide (s.rows.length = 0)) && ((decide (s.k = 4) || decide (s.sets.length = 0)) &&
    ((decide (s.k = 6) || !chooses s) && (decide (4 ≤ s.k) || decide (s.wh.length = 0)))))))
def fitB (s : Stm) : Bool :=
  bareB s && (oneB s.wh && (if s.k = 1 then X7p s.cols && isNm s.pk else if s.k = 3 then X7q s.rows else if s.k = 4 then X5l s.sets else if s.k = 6 then selB s else true))
def scT (l : List Stm) : List Tk := match l with
  | [] => []
  | x :: r => stT x ++ (r.map fun s => wd [59] :: stT s).flatten
def scD (l : List Stm) : Nat := maxD stD l
def X1j (l : List Stm) : By × Int :=
  if 8 < l.length then ([], 2) else if l = [] then ([], 4) else if l.all fitB then fin (scT l) (scD l) else ([], 4)
end Go.Print
namespace Go.Proofs.YtjdapkelojdefaaGreatDoor
open Go Go.V Go.Lex Go.Parse Go.Print
def LimL (l : List Ex) : Prop := l.length ≤ 9223372036854775807 ∧ ∀ e ∈ l, Lim e
theorem Q7z (l : List Ex) (hL : LimL l) (σ : Sg) : VCalls Tryz.prog 58 [.sl .any (exsA l)] σ (fun x σ' => x = .b (oneB l) ∧ σ' = σ) := by
  have hc := X4g l 44 (fun e => !rt e) .any hL.1 (fun e he σ => r_wrong e (Q8v e (hL.2 e he)) σ)
  have hn := Q1y l
  unfold oneB
  rw [rts_any]
  generalize (l.any fun e => !rt e) = b at *
  generalize exsA l = L at *
  (refine vfun (fun _ => .no) Q0h Tryz.func58 (by kernel_rfl) ?_; simp only [Q0f, Tryz.f58, zw])
  (have zz := Bx.mk (j2 ui3 (j9 ui4 ui9 ui22 ui23 ui24 ui25 ui26 ui34 hn)); (repeat' (first | exact zc | (with_reducible first | apply And.intro | apply Q0a | apply Q0b | refine Q0c (by decide +kernel) ?_ | intro _) | refine zaY zz.out ?_ | ((first | (with_reducible refine uc (hc _) ?_) | (refine Q0d (by exact zK) ?_) | (refine Q0e (by exact zK) ?_)); (try refine zsY zz.out ?_)) | refine zo ?_ | omega | refine ztY zz.out ?_ | fail)); try (all_goals clear zz))
  all_goals exact ⟨_, .refl _, b_eq (by simp_all <;> omega), rfl⟩
theorem Y0y (l : List Ex) (hL : LimL l) (σ : Sg) : VCalls Tryz.prog 119 [.sl .any (exsA l)] σ (fun x σ' => x = .b (colB l) ∧ σ' = σ) := by
  have hc := Q7z l hL
  unfold colB
  cases l with
  | nil =>
    have h1 : oneB [] = true := by unfold oneB; rw [rts_nil]; rfl
    rw [h1, Q0s] at hc
    rw [h1, Q0s]
    (refine vfun (fun _ => .no) Q0h Tryz.func119 (by kernel_rfl) ?_; simp only [Q0f, Tryz.f119, zw])
    (have zz := Bx.mk (j9 ui0 ui3 ui4 ui9 ui22 ui23 ui24 ui25 ui26); (repeat' (first | exact zc | (with_reducible first | apply And.intro | apply Q0a | apply Q0b | refine Q0c (by decide +kernel) ?_ | intro _) | refine zaY zz.out ?_ | ((first | (with_reducible refine uc (hc _) ?_) | (with_reducible refine uc (Q7z _ (by assumption) _) ?_) | (refine Q0d (by exact zK) ?_) | (refine Q0e (by exact zK) ?_)); (try refine zsY zz.out ?_)) | refine zo ?_ | omega | refine ztY zz.out ?_ | fail)); try (all_goals clear zz))
    all_goals first | exact ⟨_, .refl _, rfl⟩ | exact ⟨_, .refl _, rfl, rfl⟩
  | cons e r =>
    have hn : (exsA (e :: r)).length = r.length + 1 := by rw [Q1y]; rfl
    have hg : (exsA (e :: r)).getD 0 [] = exA e := by rw [Q2e]; rfl
    have hall := X5w (e :: r)
    obtain ⟨k, op, t, n, v, l2⟩ := e
    rw [Q5l] at hg
    generalize oneB (Ex.mk k op t n v l2 :: r) = b at *
    generalize exsA (Ex.mk k op t n v l2 :: r) = L at *
    have hk : (Ex.mk k op t n v l2).kd = k := rfl
    simp only [hk]
    cases b with
    | false =>
      (refine vfun (fun _ => .no) Q0h Tryz.func119 (by kernel_rfl) ?_; simp only [Q0f, Tryz.f119, zw])
      (have zz := Bx.mk (j4 ui0 ui3 ui4 (j9 ui9 ui22 ui23 ui24 ui25 ui26 hn hg hall)); (repeat' (first | exact zc | (with_reducible first | apply And.intro | apply Q0a | apply Q0b | refine Q0c (by decide +kernel) ?_ | intro _) | refine zaY zz.out ?_ | ((first | (with_reducible refine uc (hc _) ?_) | (with_reducible refine uc (Q7z _ (by assumption) _) ?_) | (refine Q0d (by exact zK) ?_) | (refine Q0e (by exact zK) ?_)); (try refine zsY zz.out ?_)) | refine zo ?_ | omega | refine ztY zz.out ?_ | fail)); try (all_goals clear zz))
      all_goals first | exact ⟨_, .refl _, rfl⟩ | exact ⟨_, .refl _, rfl, rfl⟩ | exact ⟨_, .refl _, b_eq (by simp_all <;> omega), rfl⟩
    | true =>
      (refine vfun (fun _ => .no) Q0h Tryz.func119 (by kernel_rfl) ?_; simp only [Q0f, Tryz.f119, zw])
      (have zz := Bx.mk (j4 ui0 ui3 ui4 (j9 ui9 ui22 ui23 ui24 ui25 ui26 hn hg hall)); (repeat' (first | exact zc | (with_reducible first | apply And.intro | apply Q0a | apply Q0b | refine Q0c (by decide +kernel) ?_ | intro _) | refine zaY zz.out ?_ | ((first | (with_reducible refine uc (hc _) ?_) | (with_reducible refine uc (Q7z _ (by assumption) _) ?_) | (refine Q0d (by exact zK) ?_) | (refine Q0e (by exact zK) ?_)); (try refine zsY zz.out ?_)) | refine zo ?_ | omega | refine ztY zz.out ?_ | fail)); try (all_goals clear zz))
      all_goals first | exact ⟨_, .refl _, b_eq (by simp_all <;> omega), rfl⟩ | exact ⟨_, .refl _, rfl⟩ | (exfalso; omega)
theorem Q3j (l : List Co) (hl : l.length ≤ 9223372036854775807) (σ : Sg) : VCalls Tryz.prog 59 [.sl .any (l.map coA)] σ (fun x σ' => x = .b (X7p l) ∧ σ' = σ) := by
  have hn : (l.map coA).length = l.length := zB ..
  have hall := Q3d (f := coA) (n := 4) l (fun _ => rfl)
  have hgt := fun k (h : k < l.length) => Q3c (f := coA) h
  unfold X7p
  generalize l.map coA = L at *
  (refine vfun (fun _ => .no) Q0h Tryz.func59 (by kernel_rfl) ?_; simp only [Q0f, Tryz.f59, zw])
  (have zz := Bx.mk (j9 ui0 ui3 ui4 ui9 ui37 Q1r Q1s hn hall); (repeat' (first | exact zc | (with_reducible first | apply And.intro | apply Q0a | apply Q0b | refine Q0c (by decide +kernel) ?_ | intro _) | refine zaY zz.out ?_ | ((first | (with_reducible refine uc (Q2n _ _) ?_) | (refine Q0d (by exact zK) ?_) | (refine Q0e (by exact zK) ?_)); (try refine zsY zz.out ?_)) | refine zo ?_ | omega | refine ztY zz.out ?_ | fail)); try (all_goals clear zz))
  refine VW.loop3 (0 : Nat) () () (fun k _ _ => k ≤ l.length ∧ l.all X4p = (l.drop k).all X4p) (fun k _ _ => [(0, .sl .any L), (5, .sl .any L), (6, .i l.length), (7, .i k)]) (fun _ _ _ => σ) (fun k _ _ => l.length - k) ⟨Nat.zero_le _, rfl⟩ (.refl _) ?_ ?_
  · simp only [vO, vQ, ↓vP, vE, vS, vB, vL, vF, vM, vN, Q0g, zb, zd, ze, ne_eq, not_false_eq_true, zf, zg, zk, zl, vT]
    all_goals rfl
  rintro k _ _ ⟨hk, hr⟩
  rcases Nat.lt_or_ge k l.length with hk2 | hk2
  · have hg := hgt k hk2
    have hg2 : coA l[k] = [.s (bs l[k].1), .i l[k].2.1, .b l[k].2.2.1, .b l[k].2.2.2] := rfl
    rw [hg2] at hg
    have hN := Q2n l[k].1
    have hdr : (l.drop k).all X4p = (X4p l[k] && (l.drop (k + 1)).all X4p) := by rw [List.drop_eq_getElem_cons hk2, List.all_cons]
    have hco : X4p l[k] = (isNm l[k].1 && decide (l[k].2.1 = 1 ∨ l[k].2.1 = 2)) := rfl
    clear hg2
    rw [hco] at hdr
    clear hco
    generalize isNm l[k].1 = nb at *
    generalize l[k].1 = va at *
    generalize l[k].2.1 = vb at *
    generalize l[k].2.2.1 = vc at *
    generalize l[k].2.2.2 = vd at *
    rw [hr, hdr]
    (have zz := Bx.mk (j2 ui0 (j9 ui3 ui4 ui9 ui37 Q1r Q1s hn hall hg)); (repeat' (first | exact zc | (with_reducible first | apply And.intro | apply Q0a | apply Q0b | refine Q0c (by decide +kernel) ?_ | intro _) | refine zaY zz.out ?_ | ((first | (with_reducible refine uc (hN _) ?_) | (with_reducible refine uc (Q2n _ _) ?_) | (refine Q0d (by exact zK) ?_) | (refine Q0e (by exact zK) ?_)); (try refine zsY zz.out ?_)) | refine zo ?_ | omega | refine ztY zz.out ?_ | fail)); try (all_goals clear zz))
    all_goals first | exact ⟨k + 1, (), (), ⟨⟨hk2, by simp_all⟩, by omega⟩, by (exact zu), rfl⟩ | exact ⟨σ, by (exact zu), b_eq (by simp_all <;> omega), rfl⟩ | (exfalso; omega)
  · rw [hr, List.drop_of_length_le hk2]
    (have zz := Bx.mk (j9 ui0 ui3 ui4 ui9 ui37 Q1r Q1s hn hall); (repeat' (first | exact zc | (with_reducible first | apply And.intro | apply Q0a | apply Q0b | refine Q0c (by decide +kernel) ?_ | intro _) | refine zaY zz.out ?_ | ((first | (with_reducible refine uc (Q2n _ _) ?_) | (refine Q0d (by exact zK) ?_) | (refine Q0e (by exact zK) ?_)); (try refine zsY zz.out ?_)) | refine zo ?_ | omega | refine ztY zz.out ?_ | fail)); try (all_goals clear zz))
    all_goals exact ⟨_, .refl _, b_eq (by simp_all <;> omega), rfl⟩
theorem v_items (l : List It) (hl : l.length ≤ 9223372036854775807) (hL : ∀ x ∈ l, LimL x.2) (σ : Sg) : VCalls Tryz.prog 118 [.sl .any (l.map Q2z)] σ (fun x σ' => x = .b (X0j l) ∧ σ' = σ) := by
  have hn : (l.map Q2z).length = l.length := zB ..
  have hall := Q3d (f := Q2z) (n := 2) l (fun _ => rfl)
  have hgt := fun k (h : k < l.length) => Q3c (f := Q2z) h
  unfold X0j
  generalize l.map Q2z = L at *
  (refine vfun (fun _ => .no) Q0h Tryz.func118 (by kernel_rfl) ?_; simp only [Q0f, Tryz.f118, zw])
  (have zz := Bx.mk (j6 ui0 ui3 ui4 ui9 ui22 (j9 ui23 ui24 ui25 ui26 ui40 ui70 ui71 hn hall)); (repeat' (first | exact zc | (with_reducible first | apply And.intro | apply Q0a | apply Q0b | refine Q0c (by decide +kernel) ?_ | intro _) | refine zaY zz.out ?_ | ((first | (with_reducible refine uc (Q7z _ (by assumption) _) ?_) | (refine Q0d (by exact zK) ?_) | (refine Q0e (by exact zK) ?_)); (try refine zsY zz.out ?_)) | refine zo ?_ | omega | refine ztY zz.out ?_ | fail)); try (all_goals clear zz))
  refine VW.loop3 (0 : Nat) () () (fun k _ _ => k ≤ l.length ∧ l.all Q6u = (l.drop k).all Q6u) (fun k _ _ => [(0, .sl .any L), (6, .sl .any L), (7, .i l.length), (8, .i k)]) (fun _ _ _ => σ) (fun k _ _ => l.length - k) ⟨Nat.zero_le _, rfl⟩ (.refl _) ?_ ?_
  · simp only [vO, vQ, ↓vP, vE, vS, vB, vL, vF, vM, vN, Q0g, zb, zd, ze, ne_eq, not_false_eq_true, zf, zg, zk, zl, vT]
    all_goals rfl
  rintro k _ _ ⟨hk, hr⟩
  rcases Nat.lt_or_ge k l.length with hk2 | hk2
  · have hg := hgt k hk2
    have hO := Q7z l[k].2 (hL _ (List.getElem_mem hk2))
    have hn2 := Q1y l[k].2
    have hdr : (l.drop k).all Q6u = (Q6u l[k] && (l.drop (k + 1)).all Q6u) := by rw [List.drop_eq_getElem_cons hk2, List.all_cons]
    have hco : Q6u l[k] = (decide (1 ≤ l[k].1 ∧ l[k].1 ≤ 7) && (decide (l[k].2.length = if l[k].1 = 1 ∨ l[k].1 = 3 then 0 else 1) && rts l[k].2)) := rfl
    have hob : oneB l[k].2 = (decide (l[k].2.length ≤ 1) && rts l[k].2) := rfl
    rw [hco] at hdr
    rw [hob] at hO
    clear hco hob
    unfold Q2z at hg
    generalize rts l[k].2 = rb at *
    generalize l[k].2.length = nl at *
    generalize exsA l[k].2 = EE at *
    generalize l[k].1 = kk at *
    rw [hr, hdr]
    (have zz := Bx.mk (j8 ui0 ui3 ui4 ui9 ui22 ui23 ui24 (j9 ui25 ui26 ui40 ui70 ui71 hn hall hg hn2)); (repeat' (first | exact zc | (with_reducible first | apply And.intro | apply Q0a | apply Q0b | refine Q0c (by decide +kernel) ?_ | intro _) | refine zaY zz.out ?_ | ((first | (with_reducible refine uc (hO _) ?_) | (with_reducible refine uc (Q7z _ (by assumption) _) ?_) | (refine Q0d (by exact zK) ?_) | (refine Q0e (by exact zK) ?_)); (try refine zsY zz.out ?_)) | refine zo ?_ | omega | refine ztY zz.out ?_ | fail)); try (all_goals clear zz))
    all_goals first | exact ⟨k + 1, (), (), ⟨⟨hk2, by simp_all <;> omega⟩, by omega⟩, by (exact zu), rfl⟩ | exact ⟨σ, by (exact zu), b_eq (by simp_all <;> omega), rfl⟩ | (exfalso; omega)
  · rw [hr, List.drop_of_length_le hk2]
    (have zz := Bx.mk (j6 ui0 ui3 ui4 ui9 ui22 (j9 ui23 ui24 ui25 ui26 ui40 ui70 ui71 hn hall)); (repeat' (first | exact zc | (with_reducible first | apply And.intro | apply Q0a | apply Q0b | refine Q0c (by decide +kernel) ?_ | intro _) | refine zaY zz.out ?_ | ((first | (with_reducible refine uc (Q7z _ (by assumption) _) ?_) | (refine Q0d (by exact zK) ?_) | (refine Q0e (by exact zK) ?_)); (try refine zsY zz.out ?_)) | refine zo ?_ | omega | refine ztY zz.out ?_ | fail)); try (all_goals clear zz))
    all_goals exact ⟨_, .refl _, b_eq (by simp_all <;> omega), rfl⟩
theorem Q9k (l : List Se) (hl : l.length ≤ 9223372036854775807) (hL : ∀ x ∈ l, Lim x.2) (σ : Sg) : VCalls Tryz.prog 61 [.sl .any (l.map setA)] σ (fun x σ' => x = .b (X5l l) ∧ σ' = σ) := by
  have hn : (l.map setA).length = l.length := zB ..
  have hall := Q3d (f := setA) (n := 9) l (fun x => by simp [setA, Q0r])
  have hgt := fun k (h : k < l.length) => Q3c (f := setA) h
  unfold X5l
  generalize l.map setA = L at *
  (refine vfun (fun _ => .no) Q0h Tryz.func61 (by kernel_rfl) ?_; simp only [Q0f, Tryz.f61, zw])
  (have zz := Bx.mk (j6 ui0 ui3 ui4 ui9 ui22 (j9 ui23 ui24 ui25 ui26 ui39 ui67 ui68 hn hall)); (repeat' (first | exact zc | (with_reducible first | apply And.intro | apply Q0a | apply Q0b | refine Q0c (by decide +kernel) ?_ | intro _) | refine zaY zz.out ?_ | ((first | (with_reducible refine uc (Q8v _ (by assumption) _) ?_) | (with_reducible refine uc (Q2n _ _) ?_) | (refine Q0d (by exact zK) ?_) | (refine Q0e (by exact zK) ?_)); (try refine zsY zz.out ?_)) | refine zo ?_ | omega | refine ztY zz.out ?_ | fail)); try (all_goals clear zz))
  refine VW.loop3 (0 : Nat) () () (fun k _ _ => k ≤ l.length ∧ l.all X3m = (l.drop k).all X3m) (fun k _ _ => [(0, .sl .any L), (5, .sl .any L), (6, .i l.length), (7, .i k)]) (fun _ _ _ => σ) (fun k _ _ => l.length - k) ⟨Nat.zero_le _, rfl⟩ (.refl _) ?_ ?_
  · simp only [vO, vQ, ↓vP, vE, vS, vB, vL, vF, vM, vN, Q0g, zb, zd, ze, ne_eq, not_false_eq_true, zf, zg, zk, zl, vT]
    all_goals rfl
  rintro k _ _ ⟨hk, hr⟩
  rcases Nat.lt_or_ge k l.length with hk2 | hk2
  · have hg := hgt k hk2
    have hO := Q8v l[k].2 (hL _ (List.getElem_mem hk2))
    have hN := Q2n l[k].1
    have hFl := Q0r l[k].2
    have hFt := Q0q l[k].2
    have hFd := Q0x l[k].2
    have hFo := Q1f l[k].2
    have hdr : (l.drop k).all X3m = (X3m l[k] && (l.drop (k + 1)).all X3m) := by rw [List.drop_eq_getElem_cons hk2, List.all_cons]
    have hco : X3m l[k] = (isNm l[k].1 && rt l[k].2) := rfl
    rw [hco] at hdr
    clear hco
    unfold setA at hg
    generalize rt l[k].2 = rb at *
    generalize isNm l[k].1 = nb at *
    generalize exA l[k].2 = EE at *
    generalize l[k].1 = kk at *
    rw [hr, hdr]
    (have zz := Bx.mk (j3 ui0 ui3 (j9 ui4 ui9 ui22 ui23 ui24 ui25 ui26 ui39 (j9 ui67 ui68 hn hall hg hFl hFt hFd hFo))); (repeat' (first | exact zc | (with_reducible first | apply And.intro | apply Q0a | apply Q0b | refine Q0c (by decide +kernel) ?_ | intro _) | refine zaY zz.out ?_ | ((first | (with_reducible refine uc (hO _) ?_) | (with_reducible refine uc (hN _) ?_) | (with_reducible refine uc (Q8v _ (by assumption) _) ?_) | (with_reducible refine uc (Q2n _ _) ?_) | (refine Q0d (by exact zK) ?_) | (refine Q0e (by exact zK) ?_)); (try refine zsY zz.out ?_)) | refine zo ?_ | omega | refine ztY zz.out ?_ | fail)); try (all_goals clear zz))
    all_goals first | exact ⟨k + 1, (), (), ⟨⟨hk2, by simp_all <;> omega⟩, by omega⟩, by (exact zu), rfl⟩ | exact ⟨σ, by (exact zu), b_eq (by simp_all <;> omega), rfl⟩ | (exfalso; omega) | trace_state
  · rw [hr, List.drop_of_length_le hk2]
    (have zz := Bx.mk (j6 ui0 ui3 ui4 ui9 ui22 (j9 ui23 ui24 ui25 ui26 ui39 ui67 ui68 hn hall)); (repeat' (first | exact zc | (with_reducible first | apply And.intro | apply Q0a | apply Q0b | refine Q0c (by decide +kernel) ?_ | intro _) | refine zaY zz.out ?_ | ((first | (with_reducible refine uc (Q8v _ (by assumption) _) ?_) | (with_reducible refine uc (Q2n _ _) ?_) | (refine Q0d (by exact zK) ?_) | (refine Q0e (by exact zK) ?_)); (try refine zsY zz.out ?_)) | refine zo ?_ | omega | refine ztY zz.out ?_ | fail)); try (all_goals clear zz))
    all_goals exact ⟨_, .refl _, b_eq (by simp_all <;> omega), rfl⟩
end Go.Proofs.YtjdapkelojdefaaGreatDoor
