/- Part 11 of the proof: B27, B28, B29, B30. -/
import Derived.Test.YtjdapkelojdefaaGreatDoorN7
import Derived.Test.YtjdapkelojdefaaGreatDoorN10

set_option linter.all false
set_option maxRecDepth 100000
set_option maxHeartbeats 8000000
open Nat renaming reduceEqDiff → zb, reduceAdd → zc, reduceLeDiff → zd, reduceMul → ze, reduceSub → zf
open Int renaming toNat_zero → zj, reduceToNat → zk, tdiv_eq_ediv_of_nonneg → zl
open Go.V.Sg renaming set_same → zm, set_ne → zn, set_ne' → zp, del_ne → zq, del_ne' → zr
open Option renaming getD_some → zv
open Go.Cert renaming ne_of2 → zM, ne_ob → zP
open Go.V.VCalls renaming mono → zR
open Go.Proofs.Tryz renaming underlying3 → Z3, underlying4 → Z4, underlying9 → Z9, underlying26 → Z26, underlying42 → Z42, underlying47 → Z47, underlying75 → Z75, underlying132 → Z132
namespace Go.Proofs.YtjdapkelojdefaaGreatDoor
open Go Go.V Go.Lex Go.Parse
theorem Q8z (l : List Ex) : (optA l).one = true := by cases l <;> rfl
theorem Q5m (l : List Ex) : (optA l).solid = true := by cases l <;> rfl
theorem Q5n (l : List Ex) : (optA l).cells = [optA l] := by cases l <;> rfl
theorem Q3b : optA [] = .sl .nil [] := rfl
theorem Q3o (e : Ex) (r : List Ex) : optA (e :: r) = .sl .any (exsA (e :: r)) := rfl
theorem AVw.on (o : Own) (e : Ex) : AVw (.sl o [exA e]) (optA [e]) := by
  rw [Q3o, ofA]
  exact AVw.any _ _
theorem sub2 {σ S : Sg} {γ ρ : Nat} {C R : Ob} (h1 : S γ = some C) (h2 : S ρ = some R) (h3 : ∀ y o, y ≠ γ → y ≠ ρ → σ y = some o → S y = some o) : ((σ.set γ C).set ρ R).sub S := fun y p hy => by
  simp only [Sg.set_apply] at hy
  split at hy
  · subst_vars; rw [h2]; exact hy
  · split at hy
    · subst_vars; rw [h1]; exact hy
    · exact h3 y p (by assumption) (by assumption) hy
theorem c28 : Kind 93 Q6m 6 := by
  intro ρ γ s σ hρ hγ hg
  have hne := X8z hρ hγ
  have hne' := hne.symm
  refine Q9t ?_
  have h44 : ∀ σ, VCalls Tryz.prog 140 [.ref ρ 0, .i 8, .fn 145 [.ro [.ref γ 0], .ro [.ref ρ 0]]] _ _ := fun σ => c44G (c49 ρ γ σ hne) 8 (by decide) s hg
  have h44 := h44 σ
  have hσ : (σ.set γ (stmZ 6)).set ρ (rdA s) = σ := by rw [Sg.set_id hγ, Sg.set_id hρ]
  simp only [grI, ← Q3b] at h44
  simp only [Q3b] at h44
  unfold stmZ at hσ hγ
  rw [hσ] at h44
  obtain ⟨z27, h27, hz27⟩ := Q6w
  simp only [ex0, Q3n, Q0s] at hz27
  have gA : Gd (seA s).2 := Y0p X1o hg
  have gB : Gd (seB s) := Q3t gA
  have g1 : Gd ((seB s).take 1) := Q7f (by decide) gB
  have gC : Gd (seC s).2.2 := g1.ok (ok_join g1.wf)
  have gD : Gd (seD s).2 := X4n (Q6o _) gC
  have gE : Gd (seE s).2 := X4n (X4m _) gD
  have gF : Gd (seF s).2 := X4n (X4m _) gE
  have gG : Gd (seG s).2 := X4n (X7m _) gF
  have h41 : ∀ S es, S ρ = some (rdA (seA s).2) → es = strs [[70, 82, 79, 77]] → VCalls Tryz.prog 137 [.ref ρ 0, .sl .full es] S (fun x σ' => x = .tup [] ∧ σ' = S.set ρ (rdA (seB s))) := fun S es hS he => c41 ρ _ .full [[70, 82, 79, 77]] es S he hS gA (by decide)
  have h42 := fun S (hS : S ρ = some (rdA (seB s))) => c42 ρ _ S hS gB
  have h13 : ∀ S, S ρ = some (rdA ((seB s).take 1)) → VCalls Tryz.prog 37 [.ref ρ 0, .s (bs [74, 79, 73, 78])] S _ := fun S hS => c13 ρ _ [74, 79, 73, 78] S hS g1
  have h48 : ∀ S, S ρ = some (rdA (seC s).2.2) → VCalls Tryz.prog 144 [.ref ρ 0, .s (bs [87, 72, 69, 82, 69])] S (fun x σ' => x = optA (seD s).1 ∧ σ' = S.set ρ (rdA (seD s).2)) := fun S hS => c48 [87, 72, 69, 82, 69] ρ _ S hS gC
  have h51 : ∀ S, S ρ = some (rdA (seD s).2) → VCalls Tryz.prog 147 [.ref ρ 0, .s (bs [71, 82, 79, 85, 80])] S (fun x σ' => x = optA (seE s).1 ∧ σ' = S.set ρ (rdA (seE s).2)) := fun S hS => c51 [71, 82, 79, 85, 80] ρ _ S hS gD
  have h51b : ∀ S, S ρ = some (rdA (seE s).2) → VCalls Tryz.prog 147 [.ref ρ 0, .s (bs [79, 82, 68, 69, 82])] S (fun x σ' => x = optA (seF s).1 ∧ σ' = S.set ρ (rdA (seF s).2)) := fun S hS => c51 [79, 82, 68, 69, 82] ρ _ S hS gE
  have h13d : ∀ S, S ρ = some (rdA (seF s).2) → VCalls Tryz.prog 37 [.ref ρ 0, .s (bs [68, 69, 83, 67])] S _ := fun S hS => c13 ρ _ [68, 69, 83, 67] S hS gF
  have h13l : ∀ S, S ρ = some (rdA (seG s).2) → VCalls Tryz.prog 37 [.ref ρ 0, .s (bs [76, 73, 77, 73, 84])] S _ := fun S hS => c13 ρ _ [76, 73, 77, 73, 84] S hS gG
  have gL : Gd ((seG s).2.pass [[76, 73, 77, 73, 84]]) := Q6p gG
  have h52 := fun S (hS : S ρ = some (rdA ((seG s).2.pass [[76, 73, 77, 73, 84]]))) => c52 ρ _ S hS gL
  have eH : seH s = if (seG s).2.has [76, 73, 77, 73, 84] then ((((((seG s).2.pass [[76, 73, 77, 73, 84]]).tok 3).2.2.1 : Nat) : Int), ((seG s).2.pass [[76, 73, 77, 73, 84]]).take 3) else (-1, (seG s).2.pass [[76, 73, 77, 73, 84]]) := rfl
  have eG : seG s = if (seF s).1 = [] then (false, (seF s).2) else ((seF s).2.has [68, 69, 83, 67], (seF s).2.pass [[68, 69, 83, 67]]) := rfl
  have eC : seC s = if ((seB s).take 1).has [74, 79, 73, 78] then (((((seB s).take 1).pass [[74, 79, 73, 78]]).tok 1).2.1, [(exp (joinB ((seB s).take 1))).1], (exp (joinB ((seB s).take 1))).2) else ([], [], ((seB s).take 1).pass [[74, 79, 73, 78]]) := rfl
  have gJ : Gd (((seB s).take 1).pass [[74, 79, 73, 78]]) := Q6p g1
  have gJ2 : Gd ((((seB s).take 1).pass [[74, 79, 73, 78]]).take 1) := Q7f (by decide) gJ
  have gJ3 : Gd (joinB ((seB s).take 1)) := Q3t gJ2
  have h42j := fun S (hS : S ρ = some (rdA (((seB s).take 1).pass [[74, 79, 73, 78]]))) => c42 ρ _ S hS gJ
  have h41j : ∀ S es, S ρ = some (rdA ((((seB s).take 1).pass [[74, 79, 73, 78]]).take 1)) → es = strs [[79, 78]] → VCalls Tryz.prog 137 [.ref ρ 0, .sl .full es] S (fun x σ' => x = .tup [] ∧ σ' = S.set ρ (rdA (joinB ((seB s).take 1)))) := fun S es hS he => c41 ρ _ .full [[79, 78]] es S he hS gJ2 (by decide)
  have h10j := fun S (hS : S ρ = some (rdA (joinB ((seB s).take 1)))) => c10 ρ _ S hS gJ3
  have eZ : Q6m s = ({ stm0 with k := 6, t := ((seB s).tok 1).2.1, items := (seA s).1, join := (seC s).1, on := (seC s).2.1, wh := (seD s).1, gr := (seE s).1, or := (seF s).1, desc := (seG s).1, lim := (seH s).1 }, (seH s).2) := rfl
  rw [eZ]
  simp only [stmK, stmC, List.map_nil]
  clear eZ hσ gA gB g1 gD gE gF gG gL gJ gJ2 gJ3
  change VCalls Tryz.prog 140 _ _ (fun x σ' => x = .tup [] ∧ ∃ τ', (σ τ' = none ∧ τ' ≠ ρ ∧ τ' ≠ γ) ∧ σ' = ((σ.set γ (.cells 42 [.i 6, .s (bs []), .sl .nil [], .s (bs []), .sl .nil [], .sl .nil [], .sl (.tok τ' 2) ((seA s).1.map Q3x), .s (bs []), .sl .nil [], .sl .nil [], .sl .nil [], .sl .nil [], .b false, .i (-1)])).set ρ (rdA (seA s).2)).set τ' (.tok (some 71))) at h44
  generalize (seA s).1.map Q3x = V at *
  generalize (seA s).2 = sA at *
  generalize hsB : seB s = sB at *
  generalize joinB (sB.take 1) = sJ at *
  generalize ((sB.take 1).pass [[74, 79, 73, 78]]).take 1 = sK at *
  generalize seH s = xH at *
  generalize seG s = xG at *
  obtain ⟨dG, sG⟩ := xG
  generalize seF s = xF at *
  obtain ⟨lF, sF⟩ := xF
  generalize seE s = xE at *
  obtain ⟨lE, sE⟩ := xE
  generalize seD s = xD at *
  obtain ⟨lD, sD⟩ := xD
  generalize seC s = xC at *
  obtain ⟨jC, oC, sC⟩ := xC
  simp only at *
  generalize (((sB.take 1).pass [[74, 79, 73, 78]]).tok 1).2.1 = tJ at *
  generalize (sB.tok 1).2.1 = t at *
  generalize (sG.pass [[76, 73, 77, 73, 84]]).take 3 = s5 at *
  generalize (sG.pass [[76, 73, 77, 73, 84]]).tok 3 = u5 at *
  generalize sG.pass [[76, 73, 77, 73, 84]] = s4 at *
  by_cases hj : (sB.take 1).has [74, 79, 73, 78] = true
  · rw [if_pos hj] at eC
    obtain ⟨rfl, rfl, rfl⟩ : jC = tJ ∧ oC = [(exp sJ).1] ∧ sC = (exp sJ).2 := by simpa using eC
    simp only [hj] at h13
    generalize sB.take 1 = s1 at *
    generalize s1.pass [[74, 79, 73, 78]] = s2 at *
    generalize (exp sJ).2 = sC at *
    generalize (exp sJ).1 = e at *
    have hel := Q0u e
    have hoo := Q1n e
    have ht := Q0t e
    have hd := Q1a e
    cases lF with
    | nil =>
      rw [if_pos rfl] at eG
      obtain ⟨rfl, rfl⟩ : dG = false ∧ sG = sF := by simpa using eG
      by_cases hlm : sG.has [76, 73, 77, 73, 84] = true
      · rw [if_pos hlm] at eH
        subst eH
        simp only [hlm] at h13l
        (refine vfun (fun k => if k = 2 ∨ k = 3 then .ro else .no) Q0h Tryz.func93 (by kernel_rfl) ?_; simp only [Q0f, Tryz.f93, zv])
        (have zz := Bx.mk (j2 ui3 (j9 ui4 ui9 ui24 ui78 ui42 Q7c ui75 Q0v (j9 @X1q true_or or_true or_self or_false false_or @Q8z @Q5m (j9 @Q5n @Q3b Z26 h27 hz27 hel hoo ht hd)))); (repeat' (first | with_reducible rfl | exact trivial | (with_reducible first | apply And.intro | apply Q0a | apply Q0b | refine Q0c (by decide +kernel) ?_ | intro _) | ((with_reducible refine .dms (fun _ => False) [(0, false), (1, false), (2, true), (3, true), (4, false), (5, true)] (by decide) (by decide +kernel) ?_); (refine zs zz.out ?_)) | ((with_reducible refine .dms (fun _ => False) [(0, false), (1, false), (2, true), (3, false), (4, true), (5, false), (6, true)] (by decide) (by decide +kernel) ?_); (refine zs zz.out ?_)) | ((with_reducible refine .dm (fun _ => False) [(0, false), (1, false), (2, true), (3, true), (4, false), (5, true)] (by decide) (by decide +kernel) ?_); (refine zs zz.out ?_)) | ((with_reducible refine .dm (fun _ => False) [(0, false), (1, false), (2, true), (3, false), (4, true), (5, false), (6, true)] (by decide) (by decide +kernel) ?_); (refine zs zz.out ?_)) | refine zaW zz.out ?_ | ((first | with_reducible refine Q0j (fun _ h => h.elim) ?_ | ((with_reducible refine zR h44 ?_); rintro _ S ⟨rfl, τ', ⟨hτ1, hτ2, hτ3⟩, rfl⟩) | (with_reducible refine uc (h41 _ _ (by exact Go.V.zK) (by with_unfolding_all rfl)) ?_) | (with_reducible refine uc (h42 _ (by exact Go.V.zK)) ?_) | (with_reducible refine uc (h13 _ (by exact Go.V.zK)) ?_) | (with_reducible refine uc (h48 _ (by exact Go.V.zK)) ?_) | (with_reducible refine uc (h51 _ (by exact Go.V.zK)) ?_) | (with_reducible refine uc (h51b _ (by exact Go.V.zK)) ?_) | (with_reducible refine uc (h13l _ (by exact Go.V.zK)) ?_) | (with_reducible refine uc (h52 _ (by exact Go.V.zK)) ?_) | (with_reducible refine uc (h42j _ (by exact Go.V.zK)) ?_) | (with_reducible refine uc (h41j _ _ (by exact Go.V.zK) (by with_unfolding_all rfl)) ?_) | (with_reducible refine uc (h10j _ (by exact Go.V.zK)) ?_) | (refine Q0d (by exact Go.V.zK) ?_) | (refine Q0e (by exact Go.V.zK) ?_)); (try refine zs zz.out ?_)) | refine zo ?_ | omega | refine zt zz.out ?_ | fail)); try (all_goals clear zz))
        all_goals (simp only [optK, Q3b, Q3o, ofA]; refine ⟨_, .refl _, .nil, .nil, .nil, .tok τ' 2, .full, sub2 (by (simp (disch := first | assumption | (apply zM; assumption; assumption) | (apply zP; assumption; assumption; (intro e; cases e; done)) | omega) only [zm, zn, zp, zq, zr]); first | done | rfl) (by (simp (disch := first | assumption | (apply zM; assumption; assumption) | (apply zP; assumption; assumption; (intro e; cases e; done)) | omega) only [zm, zn, zp, zq, zr]); first | done | rfl) ?_⟩; intro y o hy1 hy2 hy; have hy3 := Go.Cert.ne_of hy hτ1; (simp (disch := first | assumption | (apply zM; assumption; assumption) | (apply zP; assumption; assumption; (intro e; cases e; done)) | omega) only [zm, zn, zp, zq, zr]); exact hy)
      · rw [if_neg hlm] at eH
        subst eH
        simp only [hlm] at h13l
        (refine vfun (fun k => if k = 2 ∨ k = 3 then .ro else .no) Q0h Tryz.func93 (by kernel_rfl) ?_; simp only [Q0f, Tryz.f93, zv])
        (have zz := Bx.mk (j2 ui3 (j9 ui4 ui9 ui24 ui78 ui42 Q7c ui75 Q0v (j9 @X1q true_or or_true or_self or_false false_or @Q8z @Q5m (j9 @Q5n @Q3b Z26 h27 hz27 hel hoo ht hd)))); (repeat' (first | with_reducible rfl | exact trivial | (with_reducible first | apply And.intro | apply Q0a | apply Q0b | refine Q0c (by decide +kernel) ?_ | intro _) | ((with_reducible refine .dms (fun _ => False) [(0, false), (1, false), (2, true), (3, true), (4, false), (5, true)] (by decide) (by decide +kernel) ?_); (refine zs zz.out ?_)) | ((with_reducible refine .dms (fun _ => False) [(0, false), (1, false), (2, true), (3, false), (4, true), (5, false), (6, true)] (by decide) (by decide +kernel) ?_); (refine zs zz.out ?_)) | ((with_reducible refine .dm (fun _ => False) [(0, false), (1, false), (2, true), (3, true), (4, false), (5, true)] (by decide) (by decide +kernel) ?_); (refine zs zz.out ?_)) | ((with_reducible refine .dm (fun _ => False) [(0, false), (1, false), (2, true), (3, false), (4, true), (5, false), (6, true)] (by decide) (by decide +kernel) ?_); (refine zs zz.out ?_)) | refine zaW zz.out ?_ | ((first | with_reducible refine Q0j (fun _ h => h.elim) ?_ | ((with_reducible refine zR h44 ?_); rintro _ S ⟨rfl, τ', ⟨hτ1, hτ2, hτ3⟩, rfl⟩) | (with_reducible refine uc (h41 _ _ (by exact Go.V.zK) (by with_unfolding_all rfl)) ?_) | (with_reducible refine uc (h42 _ (by exact Go.V.zK)) ?_) | (with_reducible refine uc (h13 _ (by exact Go.V.zK)) ?_) | (with_reducible refine uc (h48 _ (by exact Go.V.zK)) ?_) | (with_reducible refine uc (h51 _ (by exact Go.V.zK)) ?_) | (with_reducible refine uc (h51b _ (by exact Go.V.zK)) ?_) | (with_reducible refine uc (h13l _ (by exact Go.V.zK)) ?_) | (with_reducible refine uc (h52 _ (by exact Go.V.zK)) ?_) | (with_reducible refine uc (h42j _ (by exact Go.V.zK)) ?_) | (with_reducible refine uc (h41j _ _ (by exact Go.V.zK) (by with_unfolding_all rfl)) ?_) | (with_reducible refine uc (h10j _ (by exact Go.V.zK)) ?_) | (refine Q0d (by exact Go.V.zK) ?_) | (refine Q0e (by exact Go.V.zK) ?_)); (try refine zs zz.out ?_)) | refine zo ?_ | omega | refine zt zz.out ?_ | fail)); try (all_goals clear zz))
        all_goals (simp only [optK, Q3b, Q3o, ofA]; refine ⟨_, .refl _, .nil, .nil, .nil, .tok τ' 2, .full, sub2 (by (simp (disch := first | assumption | (apply zM; assumption; assumption) | (apply zP; assumption; assumption; (intro e; cases e; done)) | omega) only [zm, zn, zp, zq, zr]); first | done | rfl) (by (simp (disch := first | assumption | (apply zM; assumption; assumption) | (apply zP; assumption; assumption; (intro e; cases e; done)) | omega) only [zm, zn, zp, zq, zr]); first | done | rfl) ?_⟩; intro y o hy1 hy2 hy; have hy3 := Go.Cert.ne_of hy hτ1; (simp (disch := first | assumption | (apply zM; assumption; assumption) | (apply zP; assumption; assumption; (intro e; cases e; done)) | omega) only [zm, zn, zp, zq, zr]); exact hy)
    | cons eF rF =>
      rw [if_neg (by simp)] at eG
      obtain ⟨rfl, rfl⟩ : dG = sF.has [68, 69, 83, 67] ∧ sG = sF.pass [[68, 69, 83, 67]] := by simpa using eG
      by_cases hlm : (sF.pass [[68, 69, 83, 67]]).has [76, 73, 77, 73, 84] = true
      · rw [if_pos hlm] at eH
        subst eH
        simp only [hlm] at h13l
        have hE := Q2l (eF :: rF)
        simp only [Q3o] at h51b ⊢
        generalize exsA (eF :: rF) = EF at *
        obtain ⟨x0, r0, rfl⟩ : ∃ x r, EF = x :: r := by
          cases EF with
          | nil => simp at hE
          | cons x r => exact ⟨x, r, rfl⟩
        (refine vfun (fun k => if k = 2 ∨ k = 3 then .ro else .no) Q0h Tryz.func93 (by kernel_rfl) ?_; simp only [Q0f, Tryz.f93, zv])
        (have zz := Bx.mk (j2 ui3 (j9 ui4 ui9 ui24 ui78 ui42 Q7c ui75 Q0v (j9 @X1q true_or or_true or_self or_false false_or @Q8z @Q5m (j9 @Q5n @Q3b Z26 h27 hz27 hel hoo ht hd)))); (repeat' (first | with_reducible rfl | exact trivial | (with_reducible first | apply And.intro | apply Q0a | apply Q0b | refine Q0c (by decide +kernel) ?_ | intro _) | ((with_reducible refine .dms (fun _ => False) [(0, false), (1, false), (2, true), (3, true), (4, false), (5, true)] (by decide) (by decide +kernel) ?_); (refine zs zz.out ?_)) | ((with_reducible refine .dms (fun _ => False) [(0, false), (1, false), (2, true), (3, false), (4, true), (5, false), (6, true)] (by decide) (by decide +kernel) ?_); (refine zs zz.out ?_)) | ((with_reducible refine .dm (fun _ => False) [(0, false), (1, false), (2, true), (3, true), (4, false), (5, true)] (by decide) (by decide +kernel) ?_); (refine zs zz.out ?_)) | ((with_reducible refine .dm (fun _ => False) [(0, false), (1, false), (2, true), (3, false), (4, true), (5, false), (6, true)] (by decide) (by decide +kernel) ?_); (refine zs zz.out ?_)) | refine zaW zz.out ?_ | ((first | with_reducible refine Q0j (fun _ h => h.elim) ?_ | ((with_reducible refine zR h44 ?_); rintro _ S ⟨rfl, τ', ⟨hτ1, hτ2, hτ3⟩, rfl⟩) | (with_reducible refine uc (h41 _ _ (by exact Go.V.zK) (by with_unfolding_all rfl)) ?_) | (with_reducible refine uc (h42 _ (by exact Go.V.zK)) ?_) | (with_reducible refine uc (h13 _ (by exact Go.V.zK)) ?_) | (with_reducible refine uc (h48 _ (by exact Go.V.zK)) ?_) | (with_reducible refine uc (h51 _ (by exact Go.V.zK)) ?_) | (with_reducible refine uc (h51b _ (by exact Go.V.zK)) ?_) | (with_reducible refine uc (h13l _ (by exact Go.V.zK)) ?_) | (with_reducible refine uc (h52 _ (by exact Go.V.zK)) ?_) | (with_reducible refine uc (h42j _ (by exact Go.V.zK)) ?_) | (with_reducible refine uc (h41j _ _ (by exact Go.V.zK) (by with_unfolding_all rfl)) ?_) | (with_reducible refine uc (h10j _ (by exact Go.V.zK)) ?_) | (with_reducible refine uc (h13d _ (by exact Go.V.zK)) ?_) | (refine Q0d (by exact Go.V.zK) ?_) | (refine Q0e (by exact Go.V.zK) ?_)); (try refine zs zz.out ?_)) | refine zo ?_ | omega | refine zt zz.out ?_ | fail)); try (all_goals clear zz))
        all_goals (simp only [optK, Q3b, Q3o, ofA]; refine ⟨_, .refl _, .nil, .nil, .nil, .tok τ' 2, .full, sub2 (by (simp (disch := first | assumption | (apply zM; assumption; assumption) | (apply zP; assumption; assumption; (intro e; cases e; done)) | omega) only [zm, zn, zp, zq, zr]); first | done | rfl) (by (simp (disch := first | assumption | (apply zM; assumption; assumption) | (apply zP; assumption; assumption; (intro e; cases e; done)) | omega) only [zm, zn, zp, zq, zr]); first | done | rfl) ?_⟩; intro y o hy1 hy2 hy; have hy3 := Go.Cert.ne_of hy hτ1; (simp (disch := first | assumption | (apply zM; assumption; assumption) | (apply zP; assumption; assumption; (intro e; cases e; done)) | omega) only [zm, zn, zp, zq, zr]); exact hy)
      · rw [if_neg hlm] at eH
        subst eH
        simp only [hlm] at h13l
        have hE := Q2l (eF :: rF)
        simp only [Q3o] at h51b ⊢
        generalize exsA (eF :: rF) = EF at *
        obtain ⟨x0, r0, rfl⟩ : ∃ x r, EF = x :: r := by
          cases EF with
          | nil => simp at hE
          | cons x r => exact ⟨x, r, rfl⟩
        (refine vfun (fun k => if k = 2 ∨ k = 3 then .ro else .no) Q0h Tryz.func93 (by kernel_rfl) ?_; simp only [Q0f, Tryz.f93, zv])
        (have zz := Bx.mk (j2 ui3 (j9 ui4 ui9 ui24 ui78 ui42 Q7c ui75 Q0v (j9 @X1q true_or or_true or_self or_false false_or @Q8z @Q5m (j9 @Q5n @Q3b Z26 h27 hz27 hel hoo ht hd)))); (repeat' (first | with_reducible rfl | exact trivial | (with_reducible first | apply And.intro | apply Q0a | apply Q0b | refine Q0c (by decide +kernel) ?_ | intro _) | ((with_reducible refine .dms (fun _ => False) [(0, false), (1, false), (2, true), (3, true), (4, false), (5, true)] (by decide) (by decide +kernel) ?_); (refine zs zz.out ?_)) | ((with_reducible refine .dms (fun _ => False) [(0, false), (1, false), (2, true), (3, false), (4, true), (5, false), (6, true)] (by decide) (by decide +kernel) ?_); (refine zs zz.out ?_)) | ((with_reducible refine .dm (fun _ => False) [(0, false), (1, false), (2, true), (3, true), (4, false), (5, true)] (by decide) (by decide +kernel) ?_); (refine zs zz.out ?_)) | ((with_reducible refine .dm (fun _ => False) [(0, false), (1, false), (2, true), (3, false), (4, true), (5, false), (6, true)] (by decide) (by decide +kernel) ?_); (refine zs zz.out ?_)) | refine zaW zz.out ?_ | ((first | with_reducible refine Q0j (fun _ h => h.elim) ?_ | ((with_reducible refine zR h44 ?_); rintro _ S ⟨rfl, τ', ⟨hτ1, hτ2, hτ3⟩, rfl⟩) | (with_reducible refine uc (h41 _ _ (by exact Go.V.zK) (by with_unfolding_all rfl)) ?_) | (with_reducible refine uc (h42 _ (by exact Go.V.zK)) ?_) | (with_reducible refine uc (h13 _ (by exact Go.V.zK)) ?_) | (with_reducible refine uc (h48 _ (by exact Go.V.zK)) ?_) | (with_reducible refine uc (h51 _ (by exact Go.V.zK)) ?_) | (with_reducible refine uc (h51b _ (by exact Go.V.zK)) ?_) | (with_reducible refine uc (h13l _ (by exact Go.V.zK)) ?_) | (with_reducible refine uc (h52 _ (by exact Go.V.zK)) ?_) | (with_reducible refine uc (h42j _ (by exact Go.V.zK)) ?_) | (with_reducible refine uc (h41j _ _ (by exact Go.V.zK) (by with_unfolding_all rfl)) ?_) | (with_reducible refine uc (h10j _ (by exact Go.V.zK)) ?_) | (with_reducible refine uc (h13d _ (by exact Go.V.zK)) ?_) | (refine Q0d (by exact Go.V.zK) ?_) | (refine Q0e (by exact Go.V.zK) ?_)); (try refine zs zz.out ?_)) | refine zo ?_ | omega | refine zt zz.out ?_ | fail)); try (all_goals clear zz))
        all_goals (simp only [optK, Q3b, Q3o, ofA]; refine ⟨_, .refl _, .nil, .nil, .nil, .tok τ' 2, .full, sub2 (by (simp (disch := first | assumption | (apply zM; assumption; assumption) | (apply zP; assumption; assumption; (intro e; cases e; done)) | omega) only [zm, zn, zp, zq, zr]); first | done | rfl) (by (simp (disch := first | assumption | (apply zM; assumption; assumption) | (apply zP; assumption; assumption; (intro e; cases e; done)) | omega) only [zm, zn, zp, zq, zr]); first | done | rfl) ?_⟩; intro y o hy1 hy2 hy; have hy3 := Go.Cert.ne_of hy hτ1; (simp (disch := first | assumption | (apply zM; assumption; assumption) | (apply zP; assumption; assumption; (intro e; cases e; done)) | omega) only [zm, zn, zp, zq, zr]); exact hy)
  · rw [if_neg hj] at eC
    obtain ⟨rfl, rfl, rfl⟩ : jC = [] ∧ oC = [] ∧ sC = (sB.take 1).pass [[74, 79, 73, 78]] := by simpa using eC
    simp only [hj] at h13
    generalize sB.take 1 = s1 at *
    generalize s1.pass [[74, 79, 73, 78]] = s2 at *
    cases lF with
    | nil =>
      rw [if_pos rfl] at eG
      obtain ⟨rfl, rfl⟩ : dG = false ∧ sG = sF := by simpa using eG
      by_cases hlm : sG.has [76, 73, 77, 73, 84] = true
      · rw [if_pos hlm] at eH
        subst eH
        simp only [hlm] at h13l
        (refine vfun (fun k => if k = 2 ∨ k = 3 then .ro else .no) Q0h Tryz.func93 (by kernel_rfl) ?_; simp only [Q0f, Tryz.f93, zv])
        (have zz := Bx.mk (j3 ui3 ui4 (j9 ui9 ui24 ui78 ui42 Q7c ui75 Q0v @X1q (j9 true_or or_true or_self or_false false_or @Q8z @Q5m @Q5n @Q3b))); (repeat' (first | with_reducible rfl | exact trivial | (with_reducible first | apply And.intro | apply Q0a | apply Q0b | refine Q0c (by decide +kernel) ?_ | intro _) | ((with_reducible refine .dms (fun _ => False) [(0, false), (1, false), (2, true), (3, true), (4, false), (5, true)] (by decide) (by decide +kernel) ?_); (refine zs zz.out ?_)) | ((with_reducible refine .dms (fun _ => False) [(0, false), (1, false), (2, true), (3, false), (4, true), (5, false), (6, true)] (by decide) (by decide +kernel) ?_); (refine zs zz.out ?_)) | ((with_reducible refine .dm (fun _ => False) [(0, false), (1, false), (2, true), (3, true), (4, false), (5, true)] (by decide) (by decide +kernel) ?_); (refine zs zz.out ?_)) | ((with_reducible refine .dm (fun _ => False) [(0, false), (1, false), (2, true), (3, false), (4, true), (5, false), (6, true)] (by decide) (by decide +kernel) ?_); (refine zs zz.out ?_)) | refine zaW zz.out ?_ | ((first | with_reducible refine Q0j (fun _ h => h.elim) ?_ | ((with_reducible refine zR h44 ?_); rintro _ S ⟨rfl, τ', ⟨hτ1, hτ2, hτ3⟩, rfl⟩) | (with_reducible refine uc (h41 _ _ (by exact Go.V.zK) (by with_unfolding_all rfl)) ?_) | (with_reducible refine uc (h42 _ (by exact Go.V.zK)) ?_) | (with_reducible refine uc (h13 _ (by exact Go.V.zK)) ?_) | (with_reducible refine uc (h48 _ (by exact Go.V.zK)) ?_) | (with_reducible refine uc (h51 _ (by exact Go.V.zK)) ?_) | (with_reducible refine uc (h51b _ (by exact Go.V.zK)) ?_) | (with_reducible refine uc (h13l _ (by exact Go.V.zK)) ?_) | (with_reducible refine uc (h52 _ (by exact Go.V.zK)) ?_) | (refine Q0d (by exact Go.V.zK) ?_) | (refine Q0e (by exact Go.V.zK) ?_)); (try refine zs zz.out ?_)) | refine zo ?_ | omega | refine zt zz.out ?_ | fail)); try (all_goals clear zz))
        all_goals (simp only [optK, Q3b, Q3o, ofA]; refine ⟨_, .refl _, .nil, .nil, .nil, .tok τ' 2, .full, sub2 (by (simp (disch := first | assumption | (apply zM; assumption; assumption) | (apply zP; assumption; assumption; (intro e; cases e; done)) | omega) only [zm, zn, zp, zq, zr]); first | done | rfl) (by (simp (disch := first | assumption | (apply zM; assumption; assumption) | (apply zP; assumption; assumption; (intro e; cases e; done)) | omega) only [zm, zn, zp, zq, zr]); first | done | rfl) ?_⟩; intro y o hy1 hy2 hy; have hy3 := Go.Cert.ne_of hy hτ1; (simp (disch := first | assumption | (apply zM; assumption; assumption) | (apply zP; assumption; assumption; (intro e; cases e; done)) | omega) only [zm, zn, zp, zq, zr]); exact hy)
      · rw [if_neg hlm] at eH
        subst eH
        simp only [hlm] at h13l
        (refine vfun (fun k => if k = 2 ∨ k = 3 then .ro else .no) Q0h Tryz.func93 (by kernel_rfl) ?_; simp only [Q0f, Tryz.f93, zv])
        (have zz := Bx.mk (j3 ui3 ui4 (j9 ui9 ui24 ui78 ui42 Q7c ui75 Q0v @X1q (j9 true_or or_true or_self or_false false_or @Q8z @Q5m @Q5n @Q3b))); (repeat' (first | with_reducible rfl | exact trivial | (with_reducible first | apply And.intro | apply Q0a | apply Q0b | refine Q0c (by decide +kernel) ?_ | intro _) | ((with_reducible refine .dms (fun _ => False) [(0, false), (1, false), (2, true), (3, true), (4, false), (5, true)] (by decide) (by decide +kernel) ?_); (refine zs zz.out ?_)) | ((with_reducible refine .dms (fun _ => False) [(0, false), (1, false), (2, true), (3, false), (4, true), (5, false), (6, true)] (by decide) (by decide +kernel) ?_); (refine zs zz.out ?_)) | ((with_reducible refine .dm (fun _ => False) [(0, false), (1, false), (2, true), (3, true), (4, false), (5, true)] (by decide) (by decide +kernel) ?_); (refine zs zz.out ?_)) | ((with_reducible refine .dm (fun _ => False) [(0, false), (1, false), (2, true), (3, false), (4, true), (5, false), (6, true)] (by decide) (by decide +kernel) ?_); (refine zs zz.out ?_)) | refine zaW zz.out ?_ | ((first | with_reducible refine Q0j (fun _ h => h.elim) ?_ | ((with_reducible refine zR h44 ?_); rintro _ S ⟨rfl, τ', ⟨hτ1, hτ2, hτ3⟩, rfl⟩) | (with_reducible refine uc (h41 _ _ (by exact Go.V.zK) (by with_unfolding_all rfl)) ?_) | (with_reducible refine uc (h42 _ (by exact Go.V.zK)) ?_) | (with_reducible refine uc (h13 _ (by exact Go.V.zK)) ?_) | (with_reducible refine uc (h48 _ (by exact Go.V.zK)) ?_) | (with_reducible refine uc (h51 _ (by exact Go.V.zK)) ?_) | (with_reducible refine uc (h51b _ (by exact Go.V.zK)) ?_) | (with_reducible refine uc (h13l _ (by exact Go.V.zK)) ?_) | (with_reducible refine uc (h52 _ (by exact Go.V.zK)) ?_) | (refine Q0d (by exact Go.V.zK) ?_) | (refine Q0e (by exact Go.V.zK) ?_)); (try refine zs zz.out ?_)) | refine zo ?_ | omega | refine zt zz.out ?_ | fail)); try (all_goals clear zz))
        all_goals (simp only [optK, Q3b, Q3o, ofA]; refine ⟨_, .refl _, .nil, .nil, .nil, .tok τ' 2, .full, sub2 (by (simp (disch := first | assumption | (apply zM; assumption; assumption) | (apply zP; assumption; assumption; (intro e; cases e; done)) | omega) only [zm, zn, zp, zq, zr]); first | done | rfl) (by (simp (disch := first | assumption | (apply zM; assumption; assumption) | (apply zP; assumption; assumption; (intro e; cases e; done)) | omega) only [zm, zn, zp, zq, zr]); first | done | rfl) ?_⟩; intro y o hy1 hy2 hy; have hy3 := Go.Cert.ne_of hy hτ1; (simp (disch := first | assumption | (apply zM; assumption; assumption) | (apply zP; assumption; assumption; (intro e; cases e; done)) | omega) only [zm, zn, zp, zq, zr]); exact hy)
    | cons eF rF =>
      rw [if_neg (by simp)] at eG
      obtain ⟨rfl, rfl⟩ : dG = sF.has [68, 69, 83, 67] ∧ sG = sF.pass [[68, 69, 83, 67]] := by simpa using eG
      by_cases hlm : (sF.pass [[68, 69, 83, 67]]).has [76, 73, 77, 73, 84] = true
      · rw [if_pos hlm] at eH
        subst eH
        simp only [hlm] at h13l
        have hE := Q2l (eF :: rF)
        simp only [Q3o] at h51b ⊢
        generalize exsA (eF :: rF) = EF at *
        obtain ⟨x0, r0, rfl⟩ : ∃ x r, EF = x :: r := by
          cases EF with
          | nil => simp at hE
          | cons x r => exact ⟨x, r, rfl⟩
        (refine vfun (fun k => if k = 2 ∨ k = 3 then .ro else .no) Q0h Tryz.func93 (by kernel_rfl) ?_; simp only [Q0f, Tryz.f93, zv])
        (have zz := Bx.mk (j3 ui3 ui4 (j9 ui9 ui24 ui78 ui42 Q7c ui75 Q0v @X1q (j9 true_or or_true or_self or_false false_or @Q8z @Q5m @Q5n @Q3b))); (repeat' (first | with_reducible rfl | exact trivial | (with_reducible first | apply And.intro | apply Q0a | apply Q0b | refine Q0c (by decide +kernel) ?_ | intro _) | ((with_reducible refine .dms (fun _ => False) [(0, false), (1, false), (2, true), (3, true), (4, false), (5, true)] (by decide) (by decide +kernel) ?_); (refine zs zz.out ?_)) | ((with_reducible refine .dms (fun _ => False) [(0, false), (1, false), (2, true), (3, false), (4, true), (5, false), (6, true)] (by decide) (by decide +kernel) ?_); (refine zs zz.out ?_)) | ((with_reducible refine .dm (fun _ => False) [(0, false), (1, false), (2, true), (3, true), (4, false), (5, true)] (by decide) (by decide +kernel) ?_); (refine zs zz.out ?_)) | ((with_reducible refine .dm (fun _ => False) [(0, false), (1, false), (2, true), (3, false), (4, true), (5, false), (6, true)] (by decide) (by decide +kernel) ?_); (refine zs zz.out ?_)) | refine zaW zz.out ?_ | ((first | with_reducible refine Q0j (fun _ h => h.elim) ?_ | ((with_reducible refine zR h44 ?_); rintro _ S ⟨rfl, τ', ⟨hτ1, hτ2, hτ3⟩, rfl⟩) | (with_reducible refine uc (h41 _ _ (by exact Go.V.zK) (by with_unfolding_all rfl)) ?_) | (with_reducible refine uc (h42 _ (by exact Go.V.zK)) ?_) | (with_reducible refine uc (h13 _ (by exact Go.V.zK)) ?_) | (with_reducible refine uc (h48 _ (by exact Go.V.zK)) ?_) | (with_reducible refine uc (h51 _ (by exact Go.V.zK)) ?_) | (with_reducible refine uc (h51b _ (by exact Go.V.zK)) ?_) | (with_reducible refine uc (h13l _ (by exact Go.V.zK)) ?_) | (with_reducible refine uc (h52 _ (by exact Go.V.zK)) ?_) | (with_reducible refine uc (h13d _ (by exact Go.V.zK)) ?_) | (refine Q0d (by exact Go.V.zK) ?_) | (refine Q0e (by exact Go.V.zK) ?_)); (try refine zs zz.out ?_)) | refine zo ?_ | omega | refine zt zz.out ?_ | fail)); try (all_goals clear zz))
        all_goals (simp only [optK, Q3b, Q3o, ofA]; refine ⟨_, .refl _, .nil, .nil, .nil, .tok τ' 2, .full, sub2 (by (simp (disch := first | assumption | (apply zM; assumption; assumption) | (apply zP; assumption; assumption; (intro e; cases e; done)) | omega) only [zm, zn, zp, zq, zr]); first | done | rfl) (by (simp (disch := first | assumption | (apply zM; assumption; assumption) | (apply zP; assumption; assumption; (intro e; cases e; done)) | omega) only [zm, zn, zp, zq, zr]); first | done | rfl) ?_⟩; intro y o hy1 hy2 hy; have hy3 := Go.Cert.ne_of hy hτ1; (simp (disch := first | assumption | (apply zM; assumption; assumption) | (apply zP; assumption; assumption; (intro e; cases e; done)) | omega) only [zm, zn, zp, zq, zr]); exact hy)
      · rw [if_neg hlm] at eH
        subst eH
        simp only [hlm] at h13l
        have hE := Q2l (eF :: rF)
        simp only [Q3o] at h51b ⊢
        generalize exsA (eF :: rF) = EF at *
        obtain ⟨x0, r0, rfl⟩ : ∃ x r, EF = x :: r := by
          cases EF with
          | nil => simp at hE
          | cons x r => exact ⟨x, r, rfl⟩
        (refine vfun (fun k => if k = 2 ∨ k = 3 then .ro else .no) Q0h Tryz.func93 (by kernel_rfl) ?_; simp only [Q0f, Tryz.f93, zv])
        (have zz := Bx.mk (j3 ui3 ui4 (j9 ui9 ui24 ui78 ui42 Q7c ui75 Q0v @X1q (j9 true_or or_true or_self or_false false_or @Q8z @Q5m @Q5n @Q3b))); (repeat' (first | with_reducible rfl | exact trivial | (with_reducible first | apply And.intro | apply Q0a | apply Q0b | refine Q0c (by decide +kernel) ?_ | intro _) | ((with_reducible refine .dms (fun _ => False) [(0, false), (1, false), (2, true), (3, true), (4, false), (5, true)] (by decide) (by decide +kernel) ?_); (refine zs zz.out ?_)) | ((with_reducible refine .dms (fun _ => False) [(0, false), (1, false), (2, true), (3, false), (4, true), (5, false), (6, true)] (by decide) (by decide +kernel) ?_); (refine zs zz.out ?_)) | ((with_reducible refine .dm (fun _ => False) [(0, false), (1, false), (2, true), (3, true), (4, false), (5, true)] (by decide) (by decide +kernel) ?_); (refine zs zz.out ?_)) | ((with_reducible refine .dm (fun _ => False) [(0, false), (1, false), (2, true), (3, false), (4, true), (5, false), (6, true)] (by decide) (by decide +kernel) ?_); (refine zs zz.out ?_)) | refine zaW zz.out ?_ | ((first | with_reducible refine Q0j (fun _ h => h.elim) ?_ | ((with_reducible refine zR h44 ?_); rintro _ S ⟨rfl, τ', ⟨hτ1, hτ2, hτ3⟩, rfl⟩) | (with_reducible refine uc (h41 _ _ (by exact Go.V.zK) (by with_unfolding_all rfl)) ?_) | (with_reducible refine uc (h42 _ (by exact Go.V.zK)) ?_) | (with_reducible refine uc (h13 _ (by exact Go.V.zK)) ?_) | (with_reducible refine uc (h48 _ (by exact Go.V.zK)) ?_) | (with_reducible refine uc (h51 _ (by exact Go.V.zK)) ?_) | (with_reducible refine uc (h51b _ (by exact Go.V.zK)) ?_) | (with_reducible refine uc (h13l _ (by exact Go.V.zK)) ?_) | (with_reducible refine uc (h52 _ (by exact Go.V.zK)) ?_) | (with_reducible refine uc (h13d _ (by exact Go.V.zK)) ?_) | (refine Q0d (by exact Go.V.zK) ?_) | (refine Q0e (by exact Go.V.zK) ?_)); (try refine zs zz.out ?_)) | refine zo ?_ | omega | refine zt zz.out ?_ | fail)); try (all_goals clear zz))
        all_goals (simp only [optK, Q3b, Q3o, ofA]; refine ⟨_, .refl _, .nil, .nil, .nil, .tok τ' 2, .full, sub2 (by (simp (disch := first | assumption | (apply zM; assumption; assumption) | (apply zP; assumption; assumption; (intro e; cases e; done)) | omega) only [zm, zn, zp, zq, zr]); first | done | rfl) (by (simp (disch := first | assumption | (apply zM; assumption; assumption) | (apply zP; assumption; assumption; (intro e; cases e; done)) | omega) only [zm, zn, zp, zq, zr]); first | done | rfl) ?_⟩; intro y o hy1 hy2 hy; have hy3 := Go.Cert.ne_of hy hτ1; (simp (disch := first | assumption | (apply zM; assumption; assumption) | (apply zP; assumption; assumption; (intro e; cases e; done)) | omega) only [zm, zn, zp, zq, zr]); exact hy)
theorem sub3 {σ S : Sg} {γ ρ : Nat} {C R : Ob} (h1 : S γ = some C) (h2 : S ρ = some R) (h3 : ∀ y o, y ≠ γ → y ≠ ρ → σ y = some o → S y = some o) : ((σ.set γ C).set ρ R).sub S := fun y p hy => by
  simp only [Sg.set_apply] at hy
  split at hy
  · subst_vars; rw [h2]; exact hy
  · split at hy
    · subst_vars; rw [h1]; exact hy
    · exact h3 y p (by assumption) (by assumption) hy
def grC (t : By) : Gr Co := ⟨fun o V => .cells 42 [.i 1, .s (bs t), .sl o V, .s (bs []), .sl .nil [], .sl .nil [], .sl .nil [], .s (bs []), .sl .nil [], .sl .nil [], .sl .nil [], .sl .nil [], .b false, .i (-1)], coA, 4, 132⟩
theorem colsMore_bad {acc : List Co} {s : Rd} (h : s.c ≠ 0) : Q2f acc s = false := by unfold Q2f; rw [decide_eq_false h]; rfl
theorem colsAt_bad {acc : List Co} {s : Rd} (h : s.c ≠ 0) : Q2x acc s = s := by unfold Q2x; rw [if_neg (fun hh => h hh.1)]
theorem colsL_end {k : Nat} {acc : List Co} {s : Rd} (h : Q2f acc s = false) : Q5b k acc s = (acc, Q2x acc s) := by
  cases k <;> (unfold Q5b; rw [h]; rfl)
theorem colsL_bad {k : Nat} {acc : List Co} {s : Rd} (h : s.c ≠ 0) : Q5b k acc s = (acc, s) := by
  rw [colsL_end (colsMore_bad h), colsAt_bad h]
theorem colsL_zero {acc : List Co} {s : Rd} (h : Q2f acc s = true) : Q5b 0 acc s = (acc ++ [((Q2x acc s).fail 2).columnOf.1], ((Q2x acc s).fail 2).columnOf.2.must [[44]]) := by
  unfold Q5b; rw [if_pos h]
theorem X9a {k : Nat} {acc : List Co} {s : Rd} (h : Q2f acc s = true) : Q5b (k + 1) acc s = Q5b k (acc ++ [(Q2x acc s).columnOf.1]) ((Q2x acc s).columnOf.2.must [[44]]) := by
  rw [Q5b, if_pos h]
theorem c23 : Kind 88 Q6i 1 := by
  intro ρ γ s σ hρ hγ hg
  have hne := X8z hρ hγ
  have hne' := hne.symm
  refine Q9t ?_
  have eZ : Q6i s = ({ stm0 with k := 1, t := ((crA s).tok 1).2.1, cols := (crC s).1, pk := ((crD s).tok 1).2.1 }, ((crD s).take 1).must [[41], [41]]) := rfl
  rw [eZ]
  simp only [stmK, stmC, List.map_nil, optA, optK]
  unfold stmZ at hγ
  have gA : Gd (crA s) := Q3t hg
  have gB : Gd (crB s) := Q3t (Q7f (by decide) gA)
  have h41 : ∀ S es, S ρ = some (rdA s) → es = strs [[84, 65, 66, 76, 69]] → VCalls Tryz.prog 137 [.ref ρ 0, .sl .full es] S (fun x σ' => x = .tup [] ∧ σ' = S.set ρ (rdA (crA s))) := fun S es hS he => c41 ρ _ .full [[84, 65, 66, 76, 69]] es S he hS hg (by decide)
  have h42 := fun S (hS : S ρ = some (rdA (crA s))) => c42 ρ _ S hS gA
  have h41b : ∀ S es, S ρ = some (rdA ((crA s).take 1)) → es = strs [[40]] → VCalls Tryz.prog 137 [.ref ρ 0, .sl .full es] S (fun x σ' => x = .tup [] ∧ σ' = S.set ρ (rdA (crB s))) := fun S es hS he => c41 ρ _ .full [[40]] es S he hS (Q7f (by decide) gA) (by decide)
  generalize ((crA s).tok 1).2.1 = t at *
  (refine vfun (fun _ => .no) Q0h Tryz.func88 (by kernel_rfl) ?_; simp only [Q0f, Tryz.f88, zv])
  (have zz := Bx.mk (j6 ui3 ui4 ui9 ui42 Q7c ui75); (repeat' (first | with_reducible rfl | exact trivial | (with_reducible first | apply And.intro | apply Q0a | apply Q0b | refine Q0c (by decide +kernel) ?_ | intro _) | refine zaW zz.out ?_ | ((first | (with_reducible refine uc (h41 _ _ (by exact Go.V.zK) (by with_unfolding_all rfl)) ?_) | (with_reducible refine uc (h42 _ (by exact Go.V.zK)) ?_) | (with_reducible refine uc (h41b _ _ (by exact Go.V.zK) (by with_unfolding_all rfl)) ?_) | (refine Q0d (by exact Go.V.zK) ?_) | (refine Q0e (by exact Go.V.zK) ?_)); (try refine zs zz.out ?_)) | refine zo ?_ | omega | refine zt zz.out ?_ | fail)); try (all_goals clear zz))
  obtain ⟨z75, h75, hz75⟩ := zero75
  have gC0 := gB
  refine VW.loop3 ([] : List Co) (crB s) 0 (fun acc s' τ => acc.length ≤ 9 ∧ (acc.length = 9 → s'.c ≠ 0) ∧ Q5b (8 - acc.length) acc s' = crC s ∧ Gd s' ∧ okG σ ρ γ τ acc) (fun _ _ _ => [(0, .ref ρ 0), (1, .ref γ 0)]) (fun acc s' τ => stG (grC t) σ ρ γ τ acc s') (fun acc _ _ => 9 - acc.length) ⟨by simp, by simp, rfl, gB, fun h => absurd rfl h⟩ (by rw [stG_nil]; simp only [grC]; (exact Go.V.zu)) ?_ ?_
  · simp only [vO, vQ, ↓vP, vE, vS, vB, vL, vF, vM, vN, Q0g, zb, zc, zd, ne_eq, not_false_eq_true, ze, zf, zj, zk, vT]
    all_goals rfl
  rintro acc s' τ ⟨h1, h2, h3, h4, h5⟩
  have h20 := fun S (hS : S ρ = some (rdA s')) => c20 ρ s' S hS
  by_cases hc : s'.c = 0
  · simp only [decide_eq_true hc] at h20
    cases acc with
    | nil =>
      have hm : Q2f [] s' = true := by unfold Q2f; rw [decide_eq_true hc]; rfl
      have ha : Q2x [] s' = s' := by unfold Q2x; rw [if_neg (by simp)]
      have h3' : Q5b 8 [] s' = crC s := h3
      rw [X9a (k := 7) hm, ha] at h3'
      have h43 := fun S (hS : S ρ = some (rdA s')) => c43 ρ s' S hS h4
      have g1 : Gd s'.columnOf.2 := X4n Q3g h4
      have h41c : ∀ S es, S ρ = some (rdA s'.columnOf.2) → es = strs [[44]] → VCalls Tryz.prog 137 [.ref ρ 0, .sl .full es] S _ := fun S es hS he => c41 ρ _ .full [[44]] es S he hS g1 (by decide)
      have g2 : Gd (s'.columnOf.2.must [[44]]) := Q3t g1
      generalize s'.columnOf.2.must [[44]] = s3 at *
      generalize s'.columnOf.2 = s2 at *
      generalize s'.columnOf.1 = c at *
      unfold coA at h43
      rw [stG_nil]
      simp only [grC]
      clear h41 h42 h41b
      (have zz := Bx.mk (j2 ui3 (j9 ui4 ui9 ui42 Q7c ui75 ui37 Z132 h75 hz75)); (repeat' (first | with_reducible rfl | exact trivial | (with_reducible first | apply And.intro | apply Q0a | apply Q0b | refine Q0c (by decide +kernel) ?_ | intro _) | ((with_reducible refine .dms (fun β => β = γ) [(0, false), (1, false), (2, false), (3, false), (4, false), (5, false), (6, true), (7, false), (8, true), (9, true), (10, false), (11, true)] (by decide) (by decide +kernel) ?_); (refine zs zz.out ?_)) | refine zaW zz.out ?_ | ((first | (refine Q0j (by intro β h; first | (rcases h with h | h <;> subst h <;> (simp (disch := first | assumption | (apply zM; assumption; assumption) | (apply zP; assumption; assumption; (intro e; cases e; done)) | omega) only [zm, zn, zp, zq, zr])) | (subst h; (simp (disch := first | assumption | (apply zM; assumption; assumption) | (apply zP; assumption; assumption; (intro e; cases e; done)) | omega) only [zm, zn, zp, zq, zr]))) ?_) | (with_reducible refine uc (h20 _ (by exact Go.V.zK)) ?_) | (with_reducible refine uc (h43 _ (by exact Go.V.zK)) ?_) | (with_reducible refine uc (h41c _ _ (by exact Go.V.zK) (by with_unfolding_all rfl)) ?_) | (refine Q0d (o' := some (.cells 42 [.i 1, .s (bs t), .sl .nil [], .s (bs []), .sl .nil [], .sl .nil [], .sl .nil [], .s (bs []), .sl .nil [], .sl .nil [], .sl .nil [], .sl .nil [], .b false, .i (-1)])) (Q8r (by assumption) (by exact Go.V.zK)) ?_) | (refine Q0d (by exact Go.V.zK) ?_) | (refine Q0e (by exact Go.V.zK) ?_)); (try refine zs zz.out ?_)) | refine zo ?_ | omega | refine zt zz.out ?_ | fail)); try (all_goals clear zz))
      exact ⟨[c], s3, _, ⟨⟨by simp, by simp, h3', g2, fun _ => ⟨‹σ _ = none›, by assumption, by assumption⟩⟩, by simp⟩, by rw [X0r (by simp)]; simp only [List.map_cons, List.map_nil, coA]; (exact Go.V.zu)⟩
    | cons v r =>
      obtain ⟨q1, q2, q3⟩ := h5 (by simp)
      have h13 : ∀ S, S ρ = some (rdA s') → VCalls Tryz.prog 37 [.ref ρ 0, .s (bs [80, 82, 73, 77, 65, 82, 89])] S _ := fun S hS => c13 ρ _ [80, 82, 73, 77, 65, 82, 89] S hS h4
      have ha : Q2x (v :: r) s' = s'.pass [[80, 82, 73, 77, 65, 82, 89]] := by unfold Q2x; rw [if_pos ⟨hc, by simp⟩]
      rw [X0r (by simp)]
      have hl2 : r.length + 1 ≤ 8 := by
        have e9 : (v :: r).length = r.length + 1 := rfl
        have : ¬ (v :: r).length = 9 := fun h => h2 h hc
        omega
      have hV : ((v :: r).map coA).length = r.length + 1 := by simp
      have hA : Q1t ((v :: r).map coA) 4 = True := eq_true (fun e he => by
        obtain ⟨w, _, rfl⟩ := List.mem_map.1 he
        rfl)
      by_cases hp : s'.has [80, 82, 73, 77, 65, 82, 89] = true
      · have hm : Q2f (v :: r) s' = false := by unfold Q2f; rw [hp, decide_eq_true hc]; rfl
        have hR : crC s = (v :: r, s'.pass [[80, 82, 73, 77, 65, 82, 89]]) := by rw [← h3, colsL_end hm, ha]
        simp only [hp] at h13
        have eD : crD s = (s'.pass [[80, 82, 73, 77, 65, 82, 89]]).must [[75, 69, 89], [40]] := by show (crC s).2.must _ = _; rw [hR]
        have gX : Gd (s'.pass [[80, 82, 73, 77, 65, 82, 89]]) := Q6p h4
        have h41k : ∀ S es, S ρ = some (rdA (s'.pass [[80, 82, 73, 77, 65, 82, 89]])) → es = strs [[75, 69, 89], [40]] → VCalls Tryz.prog 137 [.ref ρ 0, .sl .full es] S (fun x σ' => x = .tup [] ∧ σ' = S.set ρ (rdA (crD s))) := fun S es hS he => by rw [eD]; exact c41 ρ _ .full [[75, 69, 89], [40]] es S he hS gX (by decide)
        have gD : Gd (crD s) := by rw [eD]; exact Q3t gX
        have h42k := fun S (hS : S ρ = some (rdA (crD s))) => c42 ρ _ S hS gD
        have h41z : ∀ S es, S ρ = some (rdA ((crD s).take 1)) → es = strs [[41], [41]] → VCalls Tryz.prog 137 [.ref ρ 0, .sl .full es] S (fun x σ' => x = .tup [] ∧ σ' = S.set ρ (rdA (((crD s).take 1).must [[41], [41]]))) := fun S es hS he => c41 ρ _ .full [[41], [41]] es S he hS (Q7f (by decide) gD) (by decide)
        rw [hR]
        generalize ((crD s).tok 1).2.1 = pk at *
        generalize ((crD s).take 1).must [[41], [41]] = sz at *
        generalize (crD s).take 1 = sy at *
        generalize crD s = sw at *
        
        generalize s'.pass [[80, 82, 73, 77, 65, 82, 89]] = sX at *
        simp only [grC]
        generalize (v :: r).map coA = V at *
        clear h41 h42 h41b
        (have zz := Bx.mk (j4 ui3 ui4 ui9 (j9 ui42 Q7c ui75 ui37 Z132 h75 hz75 hV hA)); (repeat' (first | with_reducible rfl | exact trivial | (with_reducible first | apply And.intro | apply Q0a | apply Q0b | refine Q0c (by decide +kernel) ?_ | intro _) | refine zaW zz.out ?_ | ((first | (with_reducible refine uc (h20 _ (by exact Go.V.zK)) ?_) | (with_reducible refine uc (h13 _ (by exact Go.V.zK)) ?_) | ((with_reducible refine zR (h41k _ _ (by exact Go.V.zK) (by with_unfolding_all rfl)) ?_); rintro _ S ⟨rfl, rfl⟩) | (with_reducible refine uc (h42k _ (by exact Go.V.zK)) ?_) | (with_reducible refine uc (h41z _ _ (by exact Go.V.zK) (by with_unfolding_all rfl)) ?_) | (refine Q0d (by exact Go.V.zK) ?_) | (refine Q0e (by exact Go.V.zK) ?_)); (try refine zs zz.out ?_)) | refine zo ?_ | omega | refine zt zz.out ?_ | fail)); try (all_goals clear zz))
        refine ⟨_, .refl _, .tok τ 4, .nil, .nil, .nil, .nil, sub3 (by (simp (disch := first | assumption | (apply zM; assumption; assumption) | (apply zP; assumption; assumption; (intro e; cases e; done)) | omega) only [zm, zn, zp, zq, zr]); first | done | rfl) (by (simp (disch := first | assumption | (apply zM; assumption; assumption) | (apply zP; assumption; assumption; (intro e; cases e; done)) | omega) only [zm, zn, zp, zq, zr]); first | done | rfl) ?_⟩; intro y o hy1 hy2 hy; have hy3 := Go.Cert.ne_of hy q1; (simp (disch := first | assumption | (apply zM; assumption; assumption) | (apply zP; assumption; assumption; (intro e; cases e; done)) | omega) only [zm, zn, zp, zq, zr]); exact hy
      · simp only [hp] at h13
        have hp' : s'.has [80, 82, 73, 77, 65, 82, 89] = false := by simpa using hp
        have hm : Q2f (v :: r) s' = true := by unfold Q2f; rw [hp', decide_eq_true hc]; simp
        rw [has_pass hp'] at h13 ha
        by_cases h8 : r.length + 1 = 8
        · have h14 := fun S (hS : S ρ = some (rdA s')) => c14 ρ s' 2 S hS h4
          have h3' : Q5b 0 (v :: r) s' = crC s := by rw [← h3]; congr 1; simp; omega
          rw [colsL_zero hm, ha] at h3'
          have g0 : Gd (s'.fail 2) := Y0o h4
          have hcf := fail_c (s := s') (e := 2) (by decide)
          have h43 := fun S (hS : S ρ = some (rdA (s'.fail 2))) => c43 ρ _ S hS g0
          have g1 : Gd (s'.fail 2).columnOf.2 := X4n Q3g g0
          have hc1 := ((Q3g _ g0.wf).c hcf).1
          have h41c : ∀ S es, S ρ = some (rdA (s'.fail 2).columnOf.2) → es = strs [[44]] → VCalls Tryz.prog 137 [.ref ρ 0, .sl .full es] S _ := fun S es hS he => c41 ρ _ .full [[44]] es S he hS g1 (by decide)
          have g2 : Gd ((s'.fail 2).columnOf.2.must [[44]]) := Q3t g1
          have hc2 : ((s'.fail 2).columnOf.2.must [[44]]).c ≠ 0 := by
            rw [((Q0w [[44]] _ g1.wf).c (by rw [hc1]; exact hcf)).1, hc1]; exact hcf
          generalize (s'.fail 2).columnOf.2.must [[44]] = s3 at *
          generalize (s'.fail 2).columnOf.2 = s2 at *
          generalize (s'.fail 2).columnOf.1 = c at *
          generalize s'.fail 2 = sf at *
          unfold coA at h43
          simp only [grC]
          generalize hV' : (v :: r).map coA = V at *
          clear h41 h42 h41b
          (have zz := Bx.mk (j5 ui3 ui4 ui9 ui42 (j9 Q7c ui75 ui37 Z132 h75 hz75 hV hA h8)); (repeat' (first | with_reducible rfl | exact trivial | (with_reducible first | apply And.intro | apply Q0a | apply Q0b | refine Q0c (by decide +kernel) ?_ | intro _) | ((with_reducible refine .dms (fun β => β = γ) [(0, false), (1, false), (2, false), (3, false), (4, false), (5, false), (6, true), (7, false), (8, true), (9, true), (10, false), (11, true)] (by decide) (by decide +kernel) ?_); (refine zs zz.out ?_)) | refine zaW zz.out ?_ | ((first | (refine Q0j (by intro β h; first | (rcases h with h | h <;> subst h <;> (simp (disch := first | assumption | (apply zM; assumption; assumption) | (apply zP; assumption; assumption; (intro e; cases e; done)) | omega) only [zm, zn, zp, zq, zr])) | (subst h; (simp (disch := first | assumption | (apply zM; assumption; assumption) | (apply zP; assumption; assumption; (intro e; cases e; done)) | omega) only [zm, zn, zp, zq, zr]))) ?_) | (with_reducible refine uc (h20 _ (by exact Go.V.zK)) ?_) | (with_reducible refine uc (h13 _ (by exact Go.V.zK)) ?_) | (with_reducible refine uc (h14 _ (by exact Go.V.zK)) ?_) | (with_reducible refine uc (h43 _ (by exact Go.V.zK)) ?_) | (with_reducible refine uc (h41c _ _ (by exact Go.V.zK) (by with_unfolding_all rfl)) ?_) | (refine Q0d (o' := some (.cells 42 [.i 1, .s (bs t), .sl (.tok τ 4) V, .s (bs []), .sl .nil [], .sl .nil [], .sl .nil [], .s (bs []), .sl .nil [], .sl .nil [], .sl .nil [], .sl .nil [], .b false, .i (-1)])) (Q8r (by assumption) (by exact Go.V.zK)) ?_) | (refine Q0d (by exact Go.V.zK) ?_) | (refine Q0e (by exact Go.V.zK) ?_)); (try refine zs zz.out ?_)) | refine zo ?_ | omega | refine zt zz.out ?_ | fail)); try (all_goals clear zz))
          exact ⟨v :: r ++ [c], s3, _, ⟨⟨by simp; omega, fun _ => hc2, by rw [colsL_bad hc2]; exact h3', g2, fun _ => ⟨‹σ _ = none›, by assumption, by assumption⟩⟩, by simp; omega⟩, by rw [X0r (by simp), List.map_append, hV']; simp only [List.map_cons, List.map_nil, coA]; (exact Go.V.zu)⟩
        · obtain ⟨k, hk⟩ : ∃ k, 8 - (v :: r).length = k + 1 := ⟨8 - (r.length + 1) - 1, by show 8 - (r.length + 1) = _; omega⟩
          rw [hk, X9a hm, ha] at h3
          have h43 := fun S (hS : S ρ = some (rdA s')) => c43 ρ s' S hS h4
          have g1 : Gd s'.columnOf.2 := X4n Q3g h4
          have h41c : ∀ S es, S ρ = some (rdA s'.columnOf.2) → es = strs [[44]] → VCalls Tryz.prog 137 [.ref ρ 0, .sl .full es] S _ := fun S es hS he => c41 ρ _ .full [[44]] es S he hS g1 (by decide)
          have g2 : Gd (s'.columnOf.2.must [[44]]) := Q3t g1
          generalize s'.columnOf.2.must [[44]] = s3 at *
          generalize s'.columnOf.2 = s2 at *
          generalize s'.columnOf.1 = c at *
          unfold coA at h43
          simp only [grC]
          generalize hV' : (v :: r).map coA = V at *
          clear h41 h42 h41b
          (have zz := Bx.mk (j4 ui3 ui4 ui9 (j9 ui42 Q7c ui75 ui37 Z132 h75 hz75 hV hA)); (repeat' (first | with_reducible rfl | exact trivial | (with_reducible first | apply And.intro | apply Q0a | apply Q0b | refine Q0c (by decide +kernel) ?_ | intro _) | ((with_reducible refine .dms (fun β => β = γ) [(0, false), (1, false), (2, false), (3, false), (4, false), (5, false), (6, true), (7, false), (8, true), (9, true), (10, false), (11, true)] (by decide) (by decide +kernel) ?_); (refine zs zz.out ?_)) | refine zaW zz.out ?_ | ((first | (refine Q0j (by intro β h; first | (rcases h with h | h <;> subst h <;> (simp (disch := first | assumption | (apply zM; assumption; assumption) | (apply zP; assumption; assumption; (intro e; cases e; done)) | omega) only [zm, zn, zp, zq, zr])) | (subst h; (simp (disch := first | assumption | (apply zM; assumption; assumption) | (apply zP; assumption; assumption; (intro e; cases e; done)) | omega) only [zm, zn, zp, zq, zr]))) ?_) | (with_reducible refine uc (h20 _ (by exact Go.V.zK)) ?_) | (with_reducible refine uc (h13 _ (by exact Go.V.zK)) ?_) | (with_reducible refine uc (h43 _ (by exact Go.V.zK)) ?_) | (with_reducible refine uc (h41c _ _ (by exact Go.V.zK) (by with_unfolding_all rfl)) ?_) | (refine Q0d (o' := some (.cells 42 [.i 1, .s (bs t), .sl (.tok τ 4) V, .s (bs []), .sl .nil [], .sl .nil [], .sl .nil [], .s (bs []), .sl .nil [], .sl .nil [], .sl .nil [], .sl .nil [], .b false, .i (-1)])) (Q8r (by assumption) (by exact Go.V.zK)) ?_) | (refine Q0d (by exact Go.V.zK) ?_) | (refine Q0e (by exact Go.V.zK) ?_)); (try refine zs zz.out ?_)) | refine zo ?_ | omega | refine zt zz.out ?_ | fail)); try (all_goals clear zz))
          exact ⟨v :: r ++ [c], s3, _, ⟨⟨by simp; omega, fun h => absurd h (by simp; omega), by rw [show 8 - (v :: r ++ [c]).length = k by simp at hk ⊢; omega]; exact h3, g2, fun _ => ⟨‹σ _ = none›, by assumption, by assumption⟩⟩, by simp; omega⟩, by rw [X0r (by simp), List.map_append, hV']; simp only [List.map_cons, List.map_nil, coA]; (exact Go.V.zu)⟩
  · simp only [decide_eq_false hc] at h20
    have hR : crC s = (acc, s') := by rw [← h3, colsL_bad hc]
    have eD : crD s = s'.must [[75, 69, 89], [40]] := by show (crC s).2.must _ = _; rw [hR]
    have gX : Gd s' := h4
    have h41k : ∀ S es, S ρ = some (rdA s') → es = strs [[75, 69, 89], [40]] → VCalls Tryz.prog 137 [.ref ρ 0, .sl .full es] S (fun x σ' => x = .tup [] ∧ σ' = S.set ρ (rdA (crD s))) := fun S es hS he => by rw [eD]; exact c41 ρ _ .full [[75, 69, 89], [40]] es S he hS gX (by decide)
    have gD : Gd (crD s) := by rw [eD]; exact Q3t gX
    have h42k := fun S (hS : S ρ = some (rdA (crD s))) => c42 ρ _ S hS gD
    have h41z : ∀ S es, S ρ = some (rdA ((crD s).take 1)) → es = strs [[41], [41]] → VCalls Tryz.prog 137 [.ref ρ 0, .sl .full es] S (fun x σ' => x = .tup [] ∧ σ' = S.set ρ (rdA (((crD s).take 1).must [[41], [41]]))) := fun S es hS he => c41 ρ _ .full [[41], [41]] es S he hS (Q7f (by decide) gD) (by decide)
    rw [hR]
    generalize ((crD s).tok 1).2.1 = pk at *
    generalize ((crD s).take 1).must [[41], [41]] = sz at *
    generalize (crD s).take 1 = sy at *
    generalize crD s = sw at *
    
    cases acc with
    | nil =>
      rw [stG_nil]
      simp only [grC, List.map_nil]
      clear h41 h42 h41b
      (have zz := Bx.mk (j2 ui3 (j9 ui4 ui9 ui42 Q7c ui75 ui37 Z132 h75 hz75)); (repeat' (first | with_reducible rfl | exact trivial | (with_reducible first | apply And.intro | apply Q0a | apply Q0b | refine Q0c (by decide +kernel) ?_ | intro _) | refine zaW zz.out ?_ | ((first | (with_reducible refine uc (h20 _ (by exact Go.V.zK)) ?_) | ((with_reducible refine zR (h41k _ _ (by exact Go.V.zK) (by with_unfolding_all rfl)) ?_); rintro _ S ⟨rfl, rfl⟩) | (with_reducible refine uc (h42k _ (by exact Go.V.zK)) ?_) | (with_reducible refine uc (h41z _ _ (by exact Go.V.zK) (by with_unfolding_all rfl)) ?_) | (refine Q0d (by exact Go.V.zK) ?_) | (refine Q0e (by exact Go.V.zK) ?_)); (try refine zs zz.out ?_)) | refine zo ?_ | omega | refine zt zz.out ?_ | fail)); try (all_goals clear zz))
      refine ⟨_, .refl _, .nil, .nil, .nil, .nil, .nil, sub3 (by (simp (disch := first | assumption | (apply zM; assumption; assumption) | (apply zP; assumption; assumption; (intro e; cases e; done)) | omega) only [zm, zn, zp, zq, zr]); first | done | rfl) (by (simp (disch := first | assumption | (apply zM; assumption; assumption) | (apply zP; assumption; assumption; (intro e; cases e; done)) | omega) only [zm, zn, zp, zq, zr]); first | done | rfl) ?_⟩; intro y o hy1 hy2 hy; (simp (disch := first | assumption | (apply zM; assumption; assumption) | (apply zP; assumption; assumption; (intro e; cases e; done)) | omega) only [zm, zn, zp, zq, zr]); exact hy
    | cons v r =>
      obtain ⟨q1, q2, q3⟩ := h5 (by simp)
      rw [X0r (by simp)]
      simp only [grC]
      generalize (v :: r).map coA = V at *
      clear h41 h42 h41b
      (have zz := Bx.mk (j2 ui3 (j9 ui4 ui9 ui42 Q7c ui75 ui37 Z132 h75 hz75)); (repeat' (first | with_reducible rfl | exact trivial | (with_reducible first | apply And.intro | apply Q0a | apply Q0b | refine Q0c (by decide +kernel) ?_ | intro _) | refine zaW zz.out ?_ | ((first | (with_reducible refine uc (h20 _ (by exact Go.V.zK)) ?_) | ((with_reducible refine zR (h41k _ _ (by exact Go.V.zK) (by with_unfolding_all rfl)) ?_); rintro _ S ⟨rfl, rfl⟩) | (with_reducible refine uc (h42k _ (by exact Go.V.zK)) ?_) | (with_reducible refine uc (h41z _ _ (by exact Go.V.zK) (by with_unfolding_all rfl)) ?_) | (refine Q0d (by exact Go.V.zK) ?_) | (refine Q0e (by exact Go.V.zK) ?_)); (try refine zs zz.out ?_)) | refine zo ?_ | omega | refine zt zz.out ?_ | fail)); try (all_goals clear zz))
      refine ⟨_, .refl _, .tok τ 4, .nil, .nil, .nil, .nil, sub3 (by (simp (disch := first | assumption | (apply zM; assumption; assumption) | (apply zP; assumption; assumption; (intro e; cases e; done)) | omega) only [zm, zn, zp, zq, zr]); first | done | rfl) (by (simp (disch := first | assumption | (apply zM; assumption; assumption) | (apply zP; assumption; assumption; (intro e; cases e; done)) | omega) only [zm, zn, zp, zq, zr]); first | done | rfl) ?_⟩; intro y o hy1 hy2 hy; have hy3 := Go.Cert.ne_of hy q1; (simp (disch := first | assumption | (apply zM; assumption; assumption) | (apply zP; assumption; assumption; (intro e; cases e; done)) | omega) only [zm, zn, zp, zq, zr]); exact hy
def stmA (x : Stm) : List AV := [.i x.k, .s (bs x.t), .sl .any (x.cols.map coA), .s (bs x.pk), .sl .any (x.rows.map rowA), .sl .any (x.sets.map setA), .sl .any (x.items.map Q3x), .s (bs x.join), .sl .any (exsA x.on), .sl .any (exsA x.wh), .sl .any (exsA x.gr), .sl .any (exsA x.or), .b x.desc, .i x.lim]
theorem AVw.optA (l : List Ex) : AVw (optA l) (.sl .any (exsA l)) := by
  cases l with
  | nil => rw [Q0s]; exact AVw.any _ _
  | cons e r => exact AVw.refl _
theorem AVw.optK (o : Own) (l : List Ex) : AVw (optK o l) (.sl .any (exsA l)) := by
  cases l with
  | nil => rw [Q0s]; exact AVw.any _ _
  | cons e r => exact AVw.any _ _
theorem AVw.stm (oc or os oi oo : Own) (x : Stm) : AVw (.agg (stmC oc or os oi oo x)) (.agg (stmA x)) := by
  refine AVw.agg rfl (fun i y y' h1 h2 => ?_)
  unfold stmC at h1
  unfold stmA at h2
  match i with
  | 0 => cases h1; cases h2; exact AVw.refl _
  | 1 => cases h1; cases h2; exact AVw.refl _
  | 2 => cases h1; cases h2; exact AVw.any _ _
  | 3 => cases h1; cases h2; exact AVw.refl _
  | 4 => cases h1; cases h2; exact AVw.any _ _
  | 5 => cases h1; cases h2; exact AVw.any _ _
  | 6 => cases h1; cases h2; exact AVw.any _ _
  | 7 => cases h1; cases h2; exact AVw.refl _
  | 8 => cases h1; cases h2; exact AVw.optK _ _
  | 9 => cases h1; cases h2; exact AVw.optA _
  | 10 => cases h1; cases h2; exact AVw.optA _
  | 11 => cases h1; cases h2; exact AVw.optA _
  | 12 => cases h1; cases h2; exact AVw.refl _
  | 13 => cases h1; cases h2; exact AVw.refl _
  | i + 14 => simp at h1
theorem X0n (x : Stm) : (stmA x).length = 14 := rfl
theorem lose_stm {f : FuncId} {args : List AV} {x : Stm} {σ S : Sg} (h : VCalls Tryz.prog f args σ (fun y σ' => ∃ oc or os oi oo, y = .agg (stmC oc or os oi oo x) ∧ S.sub σ')) : VCalls Tryz.prog f args σ (fun y σ' => y = .agg (stmA x) ∧ σ' = S) :=
  h.lose fun y σ' hx => by
    obtain ⟨oc, or, os, oi, oo, rfl, hs⟩ := hx
    exact ⟨_, S, AVw.stm _ _ _ _ _ _, hs, rfl, rfl⟩
theorem zero44 : ∃ z, Q0l Tryz.prog 42 = some (some z, 14, 264) ∧ ofValue z = .agg [.i 0, .s (bs []), .sl .nil [], .s (bs []), .sl .nil [], .sl .nil [], .sl .nil [], .s (bs []), .sl .nil [], .sl .nil [], .sl .nil [], .sl .nil [], .b false, .i 0] := ⟨_, info42, by rfl⟩
theorem Q4c (oc or os oi oo : Own) (x : Stm) : (stmC oc or os oi oo x).length = 14 := rfl
theorem Q4d (oc or os oi oo : Own) (x : Stm) : (stmC oc or os oi oo x).all AV.one = true := by
  obtain ⟨k, t, cols, pk, rows, sets, items, join, on, wh, gr, od, desc, lim⟩ := x
  cases on <;> cases wh <;> cases gr <;> cases od <;> rfl
theorem Q3h (oc or os oi oo : Own) (x : Stm) : (stmC oc or os oi oo x).take 14 = stmC oc or os oi oo x := rfl
theorem Q3i (oc or os oi oo : Own) (x : Stm) : (stmC oc or os oi oo x).drop 14 = [] := rfl
theorem c15 (ρ : Nat) (s : Rd) (σ : Sg) (hρ : σ ρ = some (rdA s)) (hg : Gd s) : VCalls Tryz.prog 39 [.ref ρ 0] σ (fun x σ' => x = .agg (stmA (Q1e s).1) ∧ σ' = σ.set ρ (rdA (Q1e s).2)) := by
  obtain ⟨z44, h44, hz44⟩ := zero44
  refine lose_stm ?_
  have h22 : ∀ S es, S ρ = some (rdA s) → es = strs wKinds → VCalls Tryz.prog 87 [.ref ρ 0, .sl .full es] S _ := fun S es hS he => c22 ρ s .full wKinds es S he hS hg (by decide)
  have hlt := Y0c s wKinds
  simp only [List.length_cons, List.length_nil] at hlt
  have g : Gd (s.pass wKinds) := Q6p hg
  unfold Q1e
  generalize s.is wKinds = k at *
  generalize s.pass wKinds = s1 at *
  by_cases hm : k = -1
  · subst hm
    have h14 := fun S (hS : S ρ = some (rdA s1)) => c14 ρ s1 4 S hS g
    have e : Q8y (-1) s1 = (stm0, s1.fail 4) := rfl
    rw [e]
    generalize s1.fail 4 = s2 at *
    (refine vfun (fun _ => .no) Q0h Tryz.func39 (by kernel_rfl) ?_; simp only [Q0f, Tryz.f39, zv])
    repeat' (first | with_reducible rfl | exact .inr trivial | with_reducible apply And.intro | with_reducible apply Q0a | with_reducible apply Q0b | with_reducible refine Q0c (by decide +kernel) ?_ | with_reducible intro _ | ((first | (with_reducible first | refine .rs ?_ | refine .ds (by kernel_rfl) ?_ | refine .dg (by kernel_rfl) ?_ | refine .rg ?_ | refine .ite ?_ | refine .ret ?_ | refine .skip ?_ | refine .exit ?_ | refine .scope ?_ | refine .seq (.label ?_) | refine .block ?_ | refine .seq ?_) | (simp (disch := first | assumption | (apply zM; assumption; assumption) | (apply zP; assumption; assumption; (intro e; cases e; done)) | omega) only [w64, w8, tg_eq, Go.V.n1, Go.V.n2, Go.V.nn, zl, zm, zn, zp, zq, zr]) | (with_reducible refine uc (h22 _ _ (by exact Go.V.zK) (by with_unfolding_all rfl)) ?_) | (with_reducible refine uc (h14 _ (by exact Go.V.zK)) ?_) | (refine Q0d (by exact Go.V.zK) ?_) | (refine Q0e (by exact Go.V.zK) ?_)); (try simp only [vO, vQ, ↓vP, vE, vS, vB, vL, vF, vM, vN, Q0g, zb, zc, zd, ne_eq, not_false_eq_true, ze, zf, zj, zk, Z3, Q2b, Z4, Q5g, Z9, Q2k, Z75, Q4m, Z42, h44, hz44, Q7x, Q7y, Q7z, Q8a, Q7w, stmK, Q4c, Q4d, Q3h, Q3i, vT])) | with_reducible refine Q1h ?_ | with_reducible refine Q0y (fun _ _ => ?_) | with_reducible refine Q1l (fun _ => ?_) (fun _ => ?_) | omega | ((with_reducible first | refine Q5k ?_ | refine Q3l ?_ | refine Q1w ?_ | refine Q3m ?_ | refine Q0x ?_); simp only [vO, vQ, ↓vP, vE, vS, vB, vL, vF, vM, vN, Q0g, zb, zc, zd, ne_eq, not_false_eq_true, ze, zf, zj, zk, Z3, Q2b, Z4, Q5g, Z9, Q2k, Z75, Q4m, Z42, h44, hz44, Q7x, Q7y, Q7z, Q8a, Q7w, stmK, Q4c, Q4d, Q3h, Q3i, vT]))
    all_goals (refine ⟨_, .refl _, .nil, .nil, .nil, .nil, .nil, rfl, ?_⟩; (exact Go.V.zu))
  by_cases h0 : k = 0
  · subst h0
    have e : Q8y 0 s1 = Q6i s1 := rfl
    rw [e]
    have hk : ∀ γ S, S ρ = some (rdA s1) → S γ = some (.cells 42 [.i 1, .s (bs []), .sl .nil [], .s (bs []), .sl .nil [], .sl .nil [], .sl .nil [], .s (bs []), .sl .nil [], .sl .nil [], .sl .nil [], .sl .nil [], .b false, .i (-1)]) → VCalls Tryz.prog 88 [.ref ρ 0, .ref γ 0] S _ := fun γ S h1 h2 => c23 ρ γ s1 S h1 h2 g
    generalize Q6i s1 = R at *
    clear hlt
    (refine vfun (fun _ => .no) Q0h Tryz.func39 (by kernel_rfl) ?_; simp only [Q0f, Tryz.f39, zv])
    repeat' (first | with_reducible rfl | exact .inr trivial | with_reducible apply And.intro | with_reducible apply Q0a | with_reducible apply Q0b | with_reducible refine Q0c (by decide +kernel) ?_ | with_reducible intro _ | ((first | (with_reducible first | refine .rs ?_ | refine .ds (by kernel_rfl) ?_ | refine .dg (by kernel_rfl) ?_ | refine .rg ?_ | refine .ite ?_ | refine .ret ?_ | refine .skip ?_ | refine .exit ?_ | refine .scope ?_ | refine .seq (.label ?_) | refine .block ?_ | refine .seq ?_) | (simp (disch := first | assumption | (apply zM; assumption; assumption) | (apply zP; assumption; assumption; (intro e; cases e; done)) | omega) only [w64, w8, tg_eq, Go.V.n1, Go.V.n2, Go.V.nn, zl, zm, zn, zp, zq, zr]) | (with_reducible refine uc (h22 _ _ (by exact Go.V.zK) (by with_unfolding_all rfl)) ?_) | ((with_reducible refine zR (hk _ _ (by exact Go.V.zK) (by exact Go.V.zK)) ?_); rintro _ S ⟨rfl, oc, or, os, oi, oo, rfl⟩) | (refine Q0d (by exact Go.V.zK) ?_) | (refine Q0e (by exact Go.V.zK) ?_)); (try simp only [vO, vQ, ↓vP, vE, vS, vB, vL, vF, vM, vN, Q0g, zb, zc, zd, ne_eq, not_false_eq_true, ze, zf, zj, zk, Z3, Q2b, Z4, Q5g, Z9, Q2k, Z75, Q4m, Z42, h44, hz44, Q7x, Q7y, Q7z, Q8a, Q7w, stmK, Q4c, Q4d, Q3h, Q3i, vT])) | with_reducible refine Q1h ?_ | with_reducible refine Q0y (fun _ _ => ?_) | with_reducible refine Q1l (fun _ => ?_) (fun _ => ?_) | omega | ((with_reducible first | refine Q5k ?_ | refine Q3l ?_ | refine Q1w ?_ | refine Q3m ?_ | refine Q0x ?_); simp only [vO, vQ, ↓vP, vE, vS, vB, vL, vF, vM, vN, Q0g, zb, zc, zd, ne_eq, not_false_eq_true, ze, zf, zj, zk, Z3, Q2b, Z4, Q5g, Z9, Q2k, Z75, Q4m, Z42, h44, hz44, Q7x, Q7y, Q7z, Q8a, Q7w, stmK, Q4c, Q4d, Q3h, Q3i, vT]))
    all_goals (refine ⟨_, .refl _, oc, or, os, oi, oo, rfl, ?_⟩; (exact Go.V.zu))
  by_cases h1 : k = 1
  · subst h1
    have e : Q8y 1 s1 = X4l s1 := rfl
    rw [e]
    have hk : ∀ γ S, S ρ = some (rdA s1) → S γ = some (.cells 42 [.i 2, .s (bs []), .sl .nil [], .s (bs []), .sl .nil [], .sl .nil [], .sl .nil [], .s (bs []), .sl .nil [], .sl .nil [], .sl .nil [], .sl .nil [], .b false, .i (-1)]) → VCalls Tryz.prog 89 [.ref ρ 0, .ref γ 0] S _ := fun γ S h1 h2 => c24 ρ γ s1 S h1 h2 g
    generalize X4l s1 = R at *
    clear hlt
    (refine vfun (fun _ => .no) Q0h Tryz.func39 (by kernel_rfl) ?_; simp only [Q0f, Tryz.f39, zv])
    repeat' (first | with_reducible rfl | exact .inr trivial | with_reducible apply And.intro | with_reducible apply Q0a | with_reducible apply Q0b | with_reducible refine Q0c (by decide +kernel) ?_ | with_reducible intro _ | ((first | (with_reducible first | refine .rs ?_ | refine .ds (by kernel_rfl) ?_ | refine .dg (by kernel_rfl) ?_ | refine .rg ?_ | refine .ite ?_ | refine .ret ?_ | refine .skip ?_ | refine .exit ?_ | refine .scope ?_ | refine .seq (.label ?_) | refine .block ?_ | refine .seq ?_) | (simp (disch := first | assumption | (apply zM; assumption; assumption) | (apply zP; assumption; assumption; (intro e; cases e; done)) | omega) only [w64, w8, tg_eq, Go.V.n1, Go.V.n2, Go.V.nn, zl, zm, zn, zp, zq, zr]) | (with_reducible refine uc (h22 _ _ (by exact Go.V.zK) (by with_unfolding_all rfl)) ?_) | ((with_reducible refine zR (hk _ _ (by exact Go.V.zK) (by exact Go.V.zK)) ?_); rintro _ S ⟨rfl, oc, or, os, oi, oo, rfl⟩) | (refine Q0d (by exact Go.V.zK) ?_) | (refine Q0e (by exact Go.V.zK) ?_)); (try simp only [vO, vQ, ↓vP, vE, vS, vB, vL, vF, vM, vN, Q0g, zb, zc, zd, ne_eq, not_false_eq_true, ze, zf, zj, zk, Z3, Q2b, Z4, Q5g, Z9, Q2k, Z75, Q4m, Z42, h44, hz44, Q7x, Q7y, Q7z, Q8a, Q7w, stmK, Q4c, Q4d, Q3h, Q3i, vT])) | with_reducible refine Q1h ?_ | with_reducible refine Q0y (fun _ _ => ?_) | with_reducible refine Q1l (fun _ => ?_) (fun _ => ?_) | omega | ((with_reducible first | refine Q5k ?_ | refine Q3l ?_ | refine Q1w ?_ | refine Q3m ?_ | refine Q0x ?_); simp only [vO, vQ, ↓vP, vE, vS, vB, vL, vF, vM, vN, Q0g, zb, zc, zd, ne_eq, not_false_eq_true, ze, zf, zj, zk, Z3, Q2b, Z4, Q5g, Z9, Q2k, Z75, Q4m, Z42, h44, hz44, Q7x, Q7y, Q7z, Q8a, Q7w, stmK, Q4c, Q4d, Q3h, Q3i, vT]))
    all_goals (refine ⟨_, .refl _, oc, or, os, oi, oo, rfl, ?_⟩; (exact Go.V.zu))
  by_cases h2 : k = 2
  · subst h2
    have e : Q8y 2 s1 = Q6j s1 := rfl
    rw [e]
    have hk : ∀ γ S, S ρ = some (rdA s1) → S γ = some (.cells 42 [.i 3, .s (bs []), .sl .nil [], .s (bs []), .sl .nil [], .sl .nil [], .sl .nil [], .s (bs []), .sl .nil [], .sl .nil [], .sl .nil [], .sl .nil [], .b false, .i (-1)]) → VCalls Tryz.prog 90 [.ref ρ 0, .ref γ 0] S _ := fun γ S h1 h2 => c25 ρ γ s1 S h1 h2 g
    generalize Q6j s1 = R at *
    clear hlt
    (refine vfun (fun _ => .no) Q0h Tryz.func39 (by kernel_rfl) ?_; simp only [Q0f, Tryz.f39, zv])
    repeat' (first | with_reducible rfl | exact .inr trivial | with_reducible apply And.intro | with_reducible apply Q0a | with_reducible apply Q0b | with_reducible refine Q0c (by decide +kernel) ?_ | with_reducible intro _ | ((first | (with_reducible first | refine .rs ?_ | refine .ds (by kernel_rfl) ?_ | refine .dg (by kernel_rfl) ?_ | refine .rg ?_ | refine .ite ?_ | refine .ret ?_ | refine .skip ?_ | refine .exit ?_ | refine .scope ?_ | refine .seq (.label ?_) | refine .block ?_ | refine .seq ?_) | (simp (disch := first | assumption | (apply zM; assumption; assumption) | (apply zP; assumption; assumption; (intro e; cases e; done)) | omega) only [w64, w8, tg_eq, Go.V.n1, Go.V.n2, Go.V.nn, zl, zm, zn, zp, zq, zr]) | (with_reducible refine uc (h22 _ _ (by exact Go.V.zK) (by with_unfolding_all rfl)) ?_) | ((with_reducible refine zR (hk _ _ (by exact Go.V.zK) (by exact Go.V.zK)) ?_); rintro _ S ⟨rfl, oc, or, os, oi, oo, rfl⟩) | (refine Q0d (by exact Go.V.zK) ?_) | (refine Q0e (by exact Go.V.zK) ?_)); (try simp only [vO, vQ, ↓vP, vE, vS, vB, vL, vF, vM, vN, Q0g, zb, zc, zd, ne_eq, not_false_eq_true, ze, zf, zj, zk, Z3, Q2b, Z4, Q5g, Z9, Q2k, Z75, Q4m, Z42, h44, hz44, Q7x, Q7y, Q7z, Q8a, Q7w, stmK, Q4c, Q4d, Q3h, Q3i, vT])) | with_reducible refine Q1h ?_ | with_reducible refine Q0y (fun _ _ => ?_) | with_reducible refine Q1l (fun _ => ?_) (fun _ => ?_) | omega | ((with_reducible first | refine Q5k ?_ | refine Q3l ?_ | refine Q1w ?_ | refine Q3m ?_ | refine Q0x ?_); simp only [vO, vQ, ↓vP, vE, vS, vB, vL, vF, vM, vN, Q0g, zb, zc, zd, ne_eq, not_false_eq_true, ze, zf, zj, zk, Z3, Q2b, Z4, Q5g, Z9, Q2k, Z75, Q4m, Z42, h44, hz44, Q7x, Q7y, Q7z, Q8a, Q7w, stmK, Q4c, Q4d, Q3h, Q3i, vT]))
    all_goals (refine ⟨_, .refl _, oc, or, os, oi, oo, rfl, ?_⟩; (exact Go.V.zu))
  by_cases h3 : k = 3
  · subst h3
    have e : Q8y 3 s1 = Q6k s1 := rfl
    rw [e]
    have hk : ∀ γ S, S ρ = some (rdA s1) → S γ = some (.cells 42 [.i 4, .s (bs []), .sl .nil [], .s (bs []), .sl .nil [], .sl .nil [], .sl .nil [], .s (bs []), .sl .nil [], .sl .nil [], .sl .nil [], .sl .nil [], .b false, .i (-1)]) → VCalls Tryz.prog 91 [.ref ρ 0, .ref γ 0] S _ := fun γ S h1 h2 => c26 ρ γ s1 S h1 h2 g
    generalize Q6k s1 = R at *
    clear hlt
    (refine vfun (fun _ => .no) Q0h Tryz.func39 (by kernel_rfl) ?_; simp only [Q0f, Tryz.f39, zv])
    repeat' (first | with_reducible rfl | exact .inr trivial | with_reducible apply And.intro | with_reducible apply Q0a | with_reducible apply Q0b | with_reducible refine Q0c (by decide +kernel) ?_ | with_reducible intro _ | ((first | (with_reducible first | refine .rs ?_ | refine .ds (by kernel_rfl) ?_ | refine .dg (by kernel_rfl) ?_ | refine .rg ?_ | refine .ite ?_ | refine .ret ?_ | refine .skip ?_ | refine .exit ?_ | refine .scope ?_ | refine .seq (.label ?_) | refine .block ?_ | refine .seq ?_) | (simp (disch := first | assumption | (apply zM; assumption; assumption) | (apply zP; assumption; assumption; (intro e; cases e; done)) | omega) only [w64, w8, tg_eq, Go.V.n1, Go.V.n2, Go.V.nn, zl, zm, zn, zp, zq, zr]) | (with_reducible refine uc (h22 _ _ (by exact Go.V.zK) (by with_unfolding_all rfl)) ?_) | ((with_reducible refine zR (hk _ _ (by exact Go.V.zK) (by exact Go.V.zK)) ?_); rintro _ S ⟨rfl, oc, or, os, oi, oo, rfl⟩) | (refine Q0d (by exact Go.V.zK) ?_) | (refine Q0e (by exact Go.V.zK) ?_)); (try simp only [vO, vQ, ↓vP, vE, vS, vB, vL, vF, vM, vN, Q0g, zb, zc, zd, ne_eq, not_false_eq_true, ze, zf, zj, zk, Z3, Q2b, Z4, Q5g, Z9, Q2k, Z75, Q4m, Z42, h44, hz44, Q7x, Q7y, Q7z, Q8a, Q7w, stmK, Q4c, Q4d, Q3h, Q3i, vT])) | with_reducible refine Q1h ?_ | with_reducible refine Q0y (fun _ _ => ?_) | with_reducible refine Q1l (fun _ => ?_) (fun _ => ?_) | omega | ((with_reducible first | refine Q5k ?_ | refine Q3l ?_ | refine Q1w ?_ | refine Q3m ?_ | refine Q0x ?_); simp only [vO, vQ, ↓vP, vE, vS, vB, vL, vF, vM, vN, Q0g, zb, zc, zd, ne_eq, not_false_eq_true, ze, zf, zj, zk, Z3, Q2b, Z4, Q5g, Z9, Q2k, Z75, Q4m, Z42, h44, hz44, Q7x, Q7y, Q7z, Q8a, Q7w, stmK, Q4c, Q4d, Q3h, Q3i, vT]))
    all_goals (refine ⟨_, .refl _, oc, or, os, oi, oo, rfl, ?_⟩; (exact Go.V.zu))
  by_cases h4 : k = 4
  · subst h4
    have e : Q8y 4 s1 = Q6l s1 := rfl
    rw [e]
    have hk : ∀ γ S, S ρ = some (rdA s1) → S γ = some (.cells 42 [.i 5, .s (bs []), .sl .nil [], .s (bs []), .sl .nil [], .sl .nil [], .sl .nil [], .s (bs []), .sl .nil [], .sl .nil [], .sl .nil [], .sl .nil [], .b false, .i (-1)]) → VCalls Tryz.prog 92 [.ref ρ 0, .ref γ 0] S _ := fun γ S h1 h2 => c27 ρ γ s1 S h1 h2 g
    generalize Q6l s1 = R at *
    clear hlt
    (refine vfun (fun _ => .no) Q0h Tryz.func39 (by kernel_rfl) ?_; simp only [Q0f, Tryz.f39, zv])
    repeat' (first | with_reducible rfl | exact .inr trivial | with_reducible apply And.intro | with_reducible apply Q0a | with_reducible apply Q0b | with_reducible refine Q0c (by decide +kernel) ?_ | with_reducible intro _ | ((first | (with_reducible first | refine .rs ?_ | refine .ds (by kernel_rfl) ?_ | refine .dg (by kernel_rfl) ?_ | refine .rg ?_ | refine .ite ?_ | refine .ret ?_ | refine .skip ?_ | refine .exit ?_ | refine .scope ?_ | refine .seq (.label ?_) | refine .block ?_ | refine .seq ?_) | (simp (disch := first | assumption | (apply zM; assumption; assumption) | (apply zP; assumption; assumption; (intro e; cases e; done)) | omega) only [w64, w8, tg_eq, Go.V.n1, Go.V.n2, Go.V.nn, zl, zm, zn, zp, zq, zr]) | (with_reducible refine uc (h22 _ _ (by exact Go.V.zK) (by with_unfolding_all rfl)) ?_) | ((with_reducible refine zR (hk _ _ (by exact Go.V.zK) (by exact Go.V.zK)) ?_); rintro _ S ⟨rfl, oc, or, os, oi, oo, rfl⟩) | (refine Q0d (by exact Go.V.zK) ?_) | (refine Q0e (by exact Go.V.zK) ?_)); (try simp only [vO, vQ, ↓vP, vE, vS, vB, vL, vF, vM, vN, Q0g, zb, zc, zd, ne_eq, not_false_eq_true, ze, zf, zj, zk, Z3, Q2b, Z4, Q5g, Z9, Q2k, Z75, Q4m, Z42, h44, hz44, Q7x, Q7y, Q7z, Q8a, Q7w, stmK, Q4c, Q4d, Q3h, Q3i, vT])) | with_reducible refine Q1h ?_ | with_reducible refine Q0y (fun _ _ => ?_) | with_reducible refine Q1l (fun _ => ?_) (fun _ => ?_) | omega | ((with_reducible first | refine Q5k ?_ | refine Q3l ?_ | refine Q1w ?_ | refine Q3m ?_ | refine Q0x ?_); simp only [vO, vQ, ↓vP, vE, vS, vB, vL, vF, vM, vN, Q0g, zb, zc, zd, ne_eq, not_false_eq_true, ze, zf, zj, zk, Z3, Q2b, Z4, Q5g, Z9, Q2k, Z75, Q4m, Z42, h44, hz44, Q7x, Q7y, Q7z, Q8a, Q7w, stmK, Q4c, Q4d, Q3h, Q3i, vT]))
    all_goals (refine ⟨_, .refl _, oc, or, os, oi, oo, rfl, ?_⟩; (exact Go.V.zu))
  by_cases h5 : k = 5
  · subst h5
    have e : Q8y 5 s1 = Q6m s1 := rfl
    rw [e]
    have hk : ∀ γ S, S ρ = some (rdA s1) → S γ = some (.cells 42 [.i 6, .s (bs []), .sl .nil [], .s (bs []), .sl .nil [], .sl .nil [], .sl .nil [], .s (bs []), .sl .nil [], .sl .nil [], .sl .nil [], .sl .nil [], .b false, .i (-1)]) → VCalls Tryz.prog 93 [.ref ρ 0, .ref γ 0] S _ := fun γ S h1 h2 => c28 ρ γ s1 S h1 h2 g
    generalize Q6m s1 = R at *
    clear hlt
    (refine vfun (fun _ => .no) Q0h Tryz.func39 (by kernel_rfl) ?_; simp only [Q0f, Tryz.f39, zv])
    repeat' (first | with_reducible rfl | exact .inr trivial | with_reducible apply And.intro | with_reducible apply Q0a | with_reducible apply Q0b | with_reducible refine Q0c (by decide +kernel) ?_ | with_reducible intro _ | ((first | (with_reducible first | refine .rs ?_ | refine .ds (by kernel_rfl) ?_ | refine .dg (by kernel_rfl) ?_ | refine .rg ?_ | refine .ite ?_ | refine .ret ?_ | refine .skip ?_ | refine .exit ?_ | refine .scope ?_ | refine .seq (.label ?_) | refine .block ?_ | refine .seq ?_) | (simp (disch := first | assumption | (apply zM; assumption; assumption) | (apply zP; assumption; assumption; (intro e; cases e; done)) | omega) only [w64, w8, tg_eq, Go.V.n1, Go.V.n2, Go.V.nn, zl, zm, zn, zp, zq, zr]) | (with_reducible refine uc (h22 _ _ (by exact Go.V.zK) (by with_unfolding_all rfl)) ?_) | ((with_reducible refine zR (hk _ _ (by exact Go.V.zK) (by exact Go.V.zK)) ?_); rintro _ S ⟨rfl, oc, or, os, oi, oo, rfl⟩) | (refine Q0d (by exact Go.V.zK) ?_) | (refine Q0e (by exact Go.V.zK) ?_)); (try simp only [vO, vQ, ↓vP, vE, vS, vB, vL, vF, vM, vN, Q0g, zb, zc, zd, ne_eq, not_false_eq_true, ze, zf, zj, zk, Z3, Q2b, Z4, Q5g, Z9, Q2k, Z75, Q4m, Z42, h44, hz44, Q7x, Q7y, Q7z, Q8a, Q7w, stmK, Q4c, Q4d, Q3h, Q3i, vT])) | with_reducible refine Q1h ?_ | with_reducible refine Q0y (fun _ _ => ?_) | with_reducible refine Q1l (fun _ => ?_) (fun _ => ?_) | omega | ((with_reducible first | refine Q5k ?_ | refine Q3l ?_ | refine Q1w ?_ | refine Q3m ?_ | refine Q0x ?_); simp only [vO, vQ, ↓vP, vE, vS, vB, vL, vF, vM, vN, Q0g, zb, zc, zd, ne_eq, not_false_eq_true, ze, zf, zj, zk, Z3, Q2b, Z4, Q5g, Z9, Q2k, Z75, Q4m, Z42, h44, hz44, Q7x, Q7y, Q7z, Q8a, Q7w, stmK, Q4c, Q4d, Q3h, Q3i, vT]))
    all_goals (refine ⟨_, .refl _, oc, or, os, oi, oo, rfl, ?_⟩; (exact Go.V.zu))
  omega
theorem keepAll {ρ : Nat} {S σ' : Sg} {o : Option Ob} (h : Keep (fun _ => True) S σ') (hS : S ρ = o) : σ' ρ = o := (h ρ trivial).trans hS
theorem lose_script {f : FuncId} {args : List AV} {l : List Stm} {c a : Int} {σ S : Sg} (h : VCalls Tryz.prog f args σ (fun x σ' => ∃ o, x = .tup [.sl o (l.map stmA), .agg [.i c, .i a]] ∧ S.sub σ')) : VCalls Tryz.prog f args σ (fun x σ' => x = .tup [.sl .any (l.map stmA), .agg [.i c, .i a]] ∧ σ' = S) :=
  h.lose fun x σ' hx => by
    obtain ⟨o, rfl, hs⟩ := hx
    exact ⟨_, S, (AVw.any o _).tup2 (AVw.refl _), hs, rfl, rfl⟩
theorem X2a (x : Stm) : (stmA x).all AV.one = true := rfl
theorem Q8i (x : Stm) : (stmA x).take 14 = stmA x := rfl
theorem Q9u (x : Stm) : (stmA x).drop 14 = [] := rfl
theorem grow00 {τ sz : Nat} : grow τ sz 0 = .nil := rfl
theorem grow_ne {τ sz n : Nat} (h : n ≠ 0) : grow τ sz n = .tok τ sz := if_neg h
def stS (σ : Sg) (ρ : Nat) (τ : Nat) (acc : List Stm) (s : Rd) : Sg := tset (σ.set ρ (rdA s)) τ acc.length 42
def okM (σ : Sg) (ρ x3 x5 : Nat) (τ : Nat) (acc : List Stm) : Prop := acc ≠ [] → σ τ = none ∧ τ ≠ ρ ∧ τ ≠ x3 ∧ τ ≠ x5
theorem stS_ne {σ : Sg} {ρ τ : Nat} {acc : List Stm} {s : Rd} (h : acc ≠ []) : stS σ ρ τ acc s = (σ.set ρ (rdA s)).set τ (.tok (some 42)) := by
  cases acc with
  | nil => exact absurd rfl h
  | cons v r => unfold stS; rw [List.length_cons, tset1]
def More (R : List Stm × Rd) (acc : List Stm) (s : Rd) (b : Bool) : Prop := if b then acc.length ≤ 8 ∧ Q2w Q1e [59] (8 - acc.length) acc s = R else acc.length ≤ 9 ∧ acc ≠ [] ∧ R = (acc, s)
theorem scriptR_eq (l : List Tk) : Q9k l = if ((Q2w Q1e [59] 8 [] (rd0 l)).2.fin).c = 0 then ((Q2w Q1e [59] 8 [] (rd0 l)).1, 0, 0) else ([], ((Q2w Q1e [59] 8 [] (rd0 l)).2.fin).c, ((Q2w Q1e [59] 8 [] (rd0 l)).2.fin).a) := rfl
theorem c8 (b : List UInt8) (σ : Sg) : VCalls Tryz.prog 18 [.s (bs b)] σ (fun x σ' => x = .tup [.sl .any ((Q0r b).1.map stmA), .agg [.i (Q0r b).2.1, .i (Q0r b).2.2]] ∧ σ' = σ) := by
  refine lose_script ?_
  obtain ⟨z30, h30, hz30⟩ := zero30
  have h9 := p9 b
  unfold Q0r
  cases hl : Q6c b with
  | error q =>
    obtain ⟨e, a⟩ := q
    have he := X7i hl
    simp only [hl] at h9
    simp only [List.map_nil]
    (refine vfun (fun _ => .no) Q0h Tryz.func18 (by kernel_rfl) ?_; simp only [Q0f, Tryz.f18, zv])
    (have zz := Bx.mk (j7 ui3 ui4 ui30 Z47 h30 hz30 ui9); (repeat' (first | with_reducible rfl | exact trivial | (with_reducible first | apply And.intro | apply Q0a | apply Q0b | refine Q0c (by decide +kernel) ?_ | intro _) | ((with_reducible refine .dms (fun _ => True) [(0, false), (1, false), (2, true)] (by decide) (by decide +kernel) ?_); (refine zs zz.out ?_)) | refine zaW zz.out ?_ | ((first | ((with_reducible refine (h9 _).mono ?_); rintro _ S ⟨rfl, rfl⟩) | (refine Q0d (o' := some (.cells 47 [.i e, .i a])) (keepAll (by assumption) (by exact Go.V.zK)) ?_) | (refine Q0d (by exact Go.V.zK) ?_) | (refine Q0e (by exact Go.V.zK) ?_)); (try refine zs zz.out ?_)) | refine zo ?_ | omega | refine zt zz.out ?_ | fail)); try (all_goals clear zz))
    all_goals (refine ⟨_, .refl _, _, rfl, ?_⟩; (first | exact Sg.sub.refl _ | ((repeat (first | exact Sg.sub.refl _ | refine Sg.sub.set_both ?_ | refine Sg.sub.set_fresh ?_ (by first | assumption | exact Sg.set_none (by assumption) (by first | assumption | (apply Go.Cert.ne_of2a; assumption; assumption))))); done) | (intro y p hy; simp only [Sg.set_apply, Sg.del_apply] at hy ⊢; grind)))
  | ok l =>
    simp only [hl] at h9
    have hw := toks_wf hl
    have hg : Gd (rd0 l) := ⟨hw, rfl⟩
    have h0 : rdA (rd0 l) = .cells 80 [.sl .any (tksA l), .i 0, .i 0, .i 0] := rfl
    simp only [scriptR_eq]
    generalize hR : Q2w Q1e [59] 8 [] (rd0 l) = R
    (refine vfun (fun _ => .no) Q0h Tryz.func18 (by kernel_rfl) ?_; simp only [Q0f, Tryz.f18, zv])
    (have zz := Bx.mk (j9 ui3 ui4 ui30 Z47 h30 hz30 ui9 ui80 Q6b); (repeat' (first | with_reducible rfl | exact trivial | (with_reducible first | apply And.intro | apply Q0a | apply Q0b | refine Q0c (by decide +kernel) ?_ | intro _) | refine zaW zz.out ?_ | ((first | ((with_reducible refine (h9 _).mono ?_); rintro _ S ⟨rfl, rfl⟩) | (refine Q0d (by exact Go.V.zK) ?_) | (refine Q0e (by exact Go.V.zK) ?_)); (try refine zs zz.out ?_)) | refine zo ?_ | omega | refine zt zz.out ?_ | fail)); try (all_goals clear zz))
    rename_i x3 hx3 x5 hx5 n53 ρ hxρ nρ3 nρ5
    obtain ⟨z44, h44, hz44⟩ := zero44
    generalize hB : (σ.set x3 (.cells 47 [.i 0, .i 0])).set x5 (.cells 47 [.i 0, .i 0]) = σB
    have e3 : σB x3 = some (.cells 47 [.i 0, .i 0]) := by rw [← hB]; (simp (disch := first | assumption | (apply zM; assumption; assumption) | (apply zP; assumption; assumption; (intro e; cases e; done)) | omega) only [zm, zn, zp, zq, zr])
    have e5 : σB x5 = some (.cells 47 [.i 0, .i 0]) := by rw [← hB]; (simp (disch := first | assumption | (apply zM; assumption; assumption) | (apply zP; assumption; assumption; (intro e; cases e; done)) | omega) only [zm, zn, zp, zq, zr])
    have eσ : σ.sub σB := by rw [← hB]; exact Sg.sub.set_fresh (Sg.sub.set_fresh (.refl _) hx3) hx5
    have eN : ∀ τ, σB τ = none → σ τ = none ∧ τ ≠ x3 ∧ τ ≠ x5 := by
      intro τ h
      refine ⟨?_, ?_, ?_⟩
      · cases hh : σ τ with
        | none => rfl
        | some o => rw [eσ τ o hh] at h; cases h
      · intro e; rw [e, e3] at h; cases h
      · intro e; rw [e, e5] at h; cases h
    refine VW.loop3 ([] : List Stm) (rd0 l) (true, (0 : Nat)) (fun acc s' p => More R acc s' p.1 ∧ Gd s' ∧ okM σB ρ x3 x5 p.2 acc) (fun acc _ p => [(2, .sl .nil []), (3, .ref x3 0), (5, .ref x5 0), (6, .ref ρ 0), (7, .sl (grow p.2 14 acc.length) (acc.map stmA)), (8, .b p.1)]) (fun acc s' p => stS σB ρ p.2 acc s') (fun acc _ p => if p.1 then 20 - acc.length else 0) ⟨⟨by simp, hR⟩, hg, fun h => absurd rfl h⟩ (.refl _) ?_ ?_
    · simp only [vO, vQ, ↓vP, vE, vS, vB, vL, vF, vM, vN, Q0g, zb, zc, zd, ne_eq, not_false_eq_true, ze, zf, zj, zk, vT]
      all_goals rfl
    rintro acc s' ⟨bb, τ⟩ ⟨h1, g0, h3⟩
    simp only at h1 h3
    cases bb with
    | true =>
      obtain ⟨hl8, hM⟩ : acc.length ≤ 8 ∧ Q2w Q1e [59] (8 - acc.length) acc s' = R := h1
      cases acc with
      | nil =>
        have hM' : Q2w Q1e [59] 8 [] s' = R := hM
        have e1 : stS σB ρ τ [] s' = σB.set ρ (rdA s') := rfl
        rw [e1]
        have hmk : More R [(Q1e s').1] ((Q1e s').2.pass [[59]]) ((Q1e s').2.has [59]) := by
          unfold More
          rw [Q2w] at hM'
          cases hb : (Q1e s').2.has [59] with
          | true => rw [hb] at hM'; exact ⟨by simp, hM'⟩
          | false => rw [hb] at hM'; exact ⟨by simp, by simp, hM'.symm⟩
        have h15 := fun S (hS : S ρ = some (rdA s')) => c15 ρ _ S hS g0
        have g1 : Gd (Q1e s').2 := X4n Q9s g0
        have h13 : ∀ S, S ρ = some (rdA (Q1e s').2) → VCalls Tryz.prog 37 [.ref ρ 0, .s (bs [59])] S _ := fun S hS => c13 ρ _ [59] S hS g1
        have g2 : Gd ((Q1e s').2.pass [[59]]) := Q6p g1
        generalize (Q1e s').1 = x at *
        generalize (Q1e s').2 = s2 at *
        (have zz := Bx.mk (j8 ui3 ui4 ui30 Z47 h30 hz30 ui9 (j9 ui35 Z42 h44 hz44 @X0n @X2a @Q8i @Q9u @grow00)); (repeat' (first | with_reducible rfl | exact trivial | (with_reducible first | apply And.intro | apply Q0a | apply Q0b | refine Q0c (by decide +kernel) ?_ | intro _) | refine zaW zz.out ?_ | ((first | ((with_reducible refine zR (h15 _ (by exact Go.V.zK)) ?_); rintro _ S ⟨rfl, rfl⟩) | ((with_reducible refine zR (h13 _ (by exact Go.V.zK)) ?_); rintro _ S ⟨rfl, rfl⟩) | (refine Q0d (by exact Go.V.zK) ?_) | (refine Q0e (by exact Go.V.zK) ?_)); (try refine zs zz.out ?_)) | refine zo ?_ | omega | refine zt zz.out ?_ | fail)); try (all_goals clear zz))
        exact ⟨[x], s2.pass [[59]], (s2.has [59], _), ⟨⟨hmk, g2, fun _ => ⟨‹σB _ = none›, by assumption, (eN _ ‹σB _ = none›).2.1, (eN _ ‹σB _ = none›).2.2⟩⟩, by simp; split <;> omega⟩, by rw [stS_ne (by simp)]; (exact Go.V.zu), rfl, rfl⟩
      | cons v r =>
        obtain ⟨q1, q2, q3, q4⟩ := h3 (by simp)
        have hl2 : r.length + 1 ≤ 8 := hl8
        have hV : ((v :: r).map stmA).length = r.length + 1 := by simp
        have hA : Q1t ((v :: r).map stmA) 14 = True := eq_true (fun e he => by
          obtain ⟨w, _, rfl⟩ := List.mem_map.1 he
          rfl)
        have hVx : ∀ x, (v :: r ++ [x]).map stmA = (v :: r).map stmA ++ [stmA x] := fun x => by rw [List.map_append]; rfl
        rw [stS_ne (by simp)]
        by_cases h8 : r.length + 1 = 8
        · have gf : Gd (s'.fail 2) := Y0o g0
          have h14 := fun S (hS : S ρ = some (rdA s')) => c14 ρ s' 2 S hS g0
          have hcf := fail_c (s := s') (e := 2) (by decide)
          have hM' : Q2w Q1e [59] 0 (v :: r) s' = R := by rw [← hM]; congr 1; simp; omega
          have hmk : More R (v :: r ++ [(Q1e (s'.fail 2)).1]) ((Q1e (s'.fail 2)).2.pass [[59]]) ((Q1e (s'.fail 2)).2.has [59]) := by
            have hb : (Q1e (s'.fail 2)).2.has [59] = false := bad_has (by rw [((Q9s _ gf.wf).c hcf).1]; exact hcf)
            rw [hb]
            exact ⟨by simp; omega, by simp, hM'.symm⟩
          have gfx : (v :: r).length = 8 := h8
          clear hM hM'
          generalize hV' : (v :: r).map stmA = V at *
          have h15 := fun S (hS : S ρ = some (rdA (s'.fail 2))) => c15 ρ _ S hS gf
          have g1 : Gd (Q1e (s'.fail 2)).2 := X4n Q9s gf
          have h13 : ∀ S, S ρ = some (rdA (Q1e (s'.fail 2)).2) → VCalls Tryz.prog 37 [.ref ρ 0, .s (bs [59])] S _ := fun S hS => c13 ρ _ [59] S hS g1
          have g2 : Gd ((Q1e (s'.fail 2)).2.pass [[59]]) := Q6p g1
          generalize (Q1e (s'.fail 2)).1 = x at *
          generalize (Q1e (s'.fail 2)).2 = s2 at *
          (have zz := Bx.mk (j4 ui3 ui4 ui30 (j9 Z47 h30 hz30 ui9 ui35 Z42 h44 hz44 (j9 @X0n @X2a @Q8i @Q9u hV hA h8 gfx @grow1))); (repeat' (first | with_reducible rfl | exact trivial | (with_reducible first | apply And.intro | apply Q0a | apply Q0b | refine Q0c (by decide +kernel) ?_ | intro _) | refine zaW zz.out ?_ | ((first | ((with_reducible refine zR (h15 _ (by exact Go.V.zK)) ?_); rintro _ S ⟨rfl, rfl⟩) | ((with_reducible refine zR (h13 _ (by exact Go.V.zK)) ?_); rintro _ S ⟨rfl, rfl⟩) | (with_reducible refine uc (h14 _ (by exact Go.V.zK)) ?_) | (refine Q0d (by exact Go.V.zK) ?_) | (refine Q0e (by exact Go.V.zK) ?_)); (try refine zs zz.out ?_)) | refine zo ?_ | omega | refine zt zz.out ?_ | fail)); try (all_goals clear zz))
          exact ⟨v :: r ++ [x], s2.pass [[59]], (s2.has [59], _), ⟨⟨hmk, g2, fun _ => ⟨‹σB _ = none›, by assumption, (eN _ ‹σB _ = none›).2.1, (eN _ ‹σB _ = none›).2.2⟩⟩, by simp; split <;> omega⟩, by rw [stS_ne (by simp)]; (exact Go.V.zu), by rw [hVx, grow_ne (by simp)], rfl⟩
        · obtain ⟨k, hk⟩ : ∃ k, 8 - (v :: r).length = k + 1 := ⟨8 - (r.length + 1) - 1, by show 8 - (r.length + 1) = _; omega⟩
          rw [hk] at hM
          have hmk : More R (v :: r ++ [(Q1e s').1]) ((Q1e s').2.pass [[59]]) ((Q1e s').2.has [59]) := by
            unfold More
            rw [Q2w] at hM
            have hkk : 8 - (v :: r ++ [(Q1e s').1]).length = k := by simp at hk ⊢; omega
            cases hb : (Q1e s').2.has [59] with
            | true => rw [hb] at hM; exact ⟨by simp; omega, by rw [hkk]; exact hM⟩
            | false => rw [hb] at hM; exact ⟨by simp; omega, by simp, hM.symm⟩
          clear hM
          generalize hV' : (v :: r).map stmA = V at *
          have h15 := fun S (hS : S ρ = some (rdA s')) => c15 ρ _ S hS g0
          have g1 : Gd (Q1e s').2 := X4n Q9s g0
          have h13 : ∀ S, S ρ = some (rdA (Q1e s').2) → VCalls Tryz.prog 37 [.ref ρ 0, .s (bs [59])] S _ := fun S hS => c13 ρ _ [59] S hS g1
          have g2 : Gd ((Q1e s').2.pass [[59]]) := Q6p g1
          generalize (Q1e s').1 = x at *
          generalize (Q1e s').2 = s2 at *
          (have zz := Bx.mk (j2 ui3 (j9 ui4 ui30 Z47 h30 hz30 ui9 ui35 Z42 (j9 h44 hz44 @X0n @X2a @Q8i @Q9u hV hA @grow1))); (repeat' (first | with_reducible rfl | exact trivial | (with_reducible first | apply And.intro | apply Q0a | apply Q0b | refine Q0c (by decide +kernel) ?_ | intro _) | refine zaW zz.out ?_ | ((first | ((with_reducible refine zR (h15 _ (by exact Go.V.zK)) ?_); rintro _ S ⟨rfl, rfl⟩) | ((with_reducible refine zR (h13 _ (by exact Go.V.zK)) ?_); rintro _ S ⟨rfl, rfl⟩) | (refine Q0d (by exact Go.V.zK) ?_) | (refine Q0e (by exact Go.V.zK) ?_)); (try refine zs zz.out ?_)) | refine zo ?_ | omega | refine zt zz.out ?_ | fail)); try (all_goals clear zz))
          exact ⟨v :: r ++ [x], s2.pass [[59]], (s2.has [59], _), ⟨⟨hmk, g2, fun _ => ⟨‹σB _ = none›, by assumption, (eN _ ‹σB _ = none›).2.1, (eN _ ‹σB _ = none›).2.2⟩⟩, by simp; split <;> omega⟩, by rw [stS_ne (by simp)]; (exact Go.V.zu), by rw [hVx, grow_ne (by simp)], rfl⟩
    | false =>
      obtain ⟨hl9, hne, rfl⟩ : acc.length ≤ 9 ∧ acc ≠ [] ∧ R = (acc, s') := h1
      obtain ⟨q1, q2, q3, q4⟩ := h3 hne
      rw [stS_ne hne]
      have h11 := fun S (hS : S ρ = some (rdA s')) => p11 ρ s' S hS g0.wf
      have hgr : grow τ 14 acc.length = .tok τ 14 := by
        cases acc with
        | nil => exact absurd rfl hne
        | cons v r => rw [List.length_cons, grow1]
      simp only
      generalize s'.fin = sF at *
      generalize hV' : acc.map stmA = V at *
      by_cases hc : sF.c = 0
      · simp only [if_pos hc]
        rw [hV']
        (have zz := Bx.mk (j8 ui3 ui4 ui30 Z47 h30 hz30 ui9 (j9 ui35 Z42 h44 hz44 @X0n @X2a @Q8i @Q9u hgr)); (repeat' (first | with_reducible rfl | exact trivial | (with_reducible first | apply And.intro | apply Q0a | apply Q0b | refine Q0c (by decide +kernel) ?_ | intro _) | ((with_reducible refine .dms (fun _ => True) [(0, false), (1, false), (2, true)] (by decide) (by decide +kernel) ?_); (refine zs zz.out ?_)) | refine zaW zz.out ?_ | ((first | (with_reducible refine uc (h11 _ (by exact Go.V.zK)) ?_) | (refine Q0d (by exact Go.V.zK) ?_) | (refine Q0e (by exact Go.V.zK) ?_)); (try refine zs zz.out ?_)) | refine zo ?_ | omega | refine zt zz.out ?_ | fail)); try (all_goals clear zz))
        all_goals (refine ⟨_, .refl _, _, rfl, ?_⟩; intro y p hy; have hy1 := Go.Cert.ne_of hy hx3; have hy2 := Go.Cert.ne_of hy hx5; have hy3 := Go.Cert.ne_of (eσ y p hy) q1; have hy4 := Go.Cert.ne_of hy hxρ; have hy5 := eσ y p hy; (simp (disch := first | assumption | (apply zM; assumption; assumption) | (apply zP; assumption; assumption; (intro e; cases e; done)) | omega) only [zm, zn, zp, zq, zr]); exact hy5)
      · simp only [if_neg hc, List.map_nil]
        (have zz := Bx.mk (j8 ui3 ui4 ui30 Z47 h30 hz30 ui9 (j9 ui35 Z42 h44 hz44 @X0n @X2a @Q8i @Q9u hgr)); (repeat' (first | with_reducible rfl | exact trivial | (with_reducible first | apply And.intro | apply Q0a | apply Q0b | refine Q0c (by decide +kernel) ?_ | intro _) | ((with_reducible refine .dms (fun _ => True) [(0, false), (1, false), (2, true)] (by decide) (by decide +kernel) ?_); (refine zs zz.out ?_)) | refine zaW zz.out ?_ | ((first | (with_reducible refine uc (h11 _ (by exact Go.V.zK)) ?_) | (refine Q0d (o' := some (.cells 47 [.i sF.c, .i sF.a])) (keepAll (by assumption) (by exact Go.V.zK)) ?_) | (refine Q0d (by exact Go.V.zK) ?_) | (refine Q0e (by exact Go.V.zK) ?_)); (try refine zs zz.out ?_)) | refine zo ?_ | omega | refine zt zz.out ?_ | fail)); try (all_goals clear zz))
        all_goals (refine ⟨_, .refl _, _, rfl, ?_⟩; intro y p hy; have hy1 := Go.Cert.ne_of hy hx3; have hy2 := Go.Cert.ne_of hy hx5; have hy3 := Go.Cert.ne_of (eσ y p hy) q1; have hy4 := Go.Cert.ne_of hy hxρ; have hy5 := eσ y p hy; (simp (disch := first | assumption | (apply zM; assumption; assumption) | (apply zP; assumption; assumption; (intro e; cases e; done)) | omega) only [zm, zn, zp, zq, zr]); exact hy5)
end Go.Proofs.YtjdapkelojdefaaGreatDoor
