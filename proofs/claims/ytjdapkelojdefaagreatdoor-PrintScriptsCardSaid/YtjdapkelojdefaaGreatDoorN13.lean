/- Part 13 of the proof: G16, G17, W39, G18, W40, W41, W42, W43, W55, W47, W48, W49, W50. -/
import Derived.Test.YtjdapkelojdefaaGreatDoorN12
import Derived.Test.YtjdapkelojdefaaGreatDoorN7
import Derived.Test.YtjdapkelojdefaaGreatDoorN11

set_option linter.all false
set_option maxRecDepth 100000
set_option maxHeartbeats 4000000
open Nat renaming reduceEqDiff → zb, reduceAdd → zd, reduceLeDiff → ze, reduceMul → zf, reduceSub → zg
open Int renaming toNat_zero → zk, reduceToNat → zl
open Go.V.Sg renaming set_same → zn, set_ne → zp, set_ne' → zq, del_ne → zr, del_ne' → zv
open Option renaming getD_some → zw
open List renaming length_append → zx, length_cons → zy, length_nil → zA, length_map → zB, nil_append → zG
open Go.Cert renaming ne_of2 → zP, ne_ob → zQ
open Go.V.VCalls renaming mono → zS
open Go.Proofs.Tryz renaming underlying3 → Z3, underlying9 → Z9
namespace Go.Print
open Go.V Go.Lex Go.Parse Go.Proofs.YtjdapkelojdefaaGreatDoor
structure AllX (N : Nat) (x : Stm) : Prop where
  sets : ∀ s ∈ x.sets, (toTr s.2).tk.length ≤ N
  items : ∀ y ∈ x.items, ∀ e ∈ y.2, (toTr e).tk.length ≤ N
  on : ∀ e ∈ x.on, (toTr e).tk.length ≤ N
  wh : ∀ e ∈ x.wh, (toTr e).tk.length ≤ N
  gr : ∀ e ∈ x.gr, (toTr e).tk.length ≤ N
  or : ∀ e ∈ x.or, (toTr e).tk.length ≤ N
theorem Q9p {β : Type} {one : β → List Tk} {M : Nat} : ∀ {l : List β}, (∀ x ∈ l, (one x).length ≤ M) → (sepT one l).length ≤ (M + 1) * l.length
  | [], _ => by simp [sepT]
  | [x], h => by have := h x (by simp); show (one x).length ≤ (M + 1) * 1; omega
  | x :: y :: r, h => by
    have h1 := h x (by simp)
    have ih := Q9p (l := y :: r) (fun z hz => h z (List.mem_cons_of_mem _ hz))
    show (one x ++ wd [44] :: sepT one (y :: r)).length ≤ (M + 1) * ((y :: r).length + 1)
    rw [zx, zy, Nat.mul_succ]
    omega
theorem maxD_bd {β : Type} {f : β → Nat} {M : Nat} : ∀ {l : List β}, (∀ x ∈ l, f x ≤ M) → maxD f l ≤ M
  | [], _ => Nat.zero_le _
  | x :: r, h => by
    have h1 := h x (by simp)
    have h2 := maxD_bd (f := f) (l := r) (fun y hy => h y (List.mem_cons_of_mem _ hy))
    show max (f x) (maxD f r) ≤ M
    omega
theorem Q7y {N : Nat} (ws : List By) {l : List Ex} (h : ∀ e ∈ l, (toTr e).tk.length ≤ N) : (expT ws l).length ≤ ws.length + N := by
  cases l with
  | nil => exact Nat.zero_le _
  | cons e r =>
    have := h e (by simp)
    show (wds ws ++ (toTr e).tk).length ≤ _
    rw [zx, Q1k]; omega
theorem Q9q {N : Nat} {l : List Ex} (h : ∀ e ∈ l, (toTr e).tk.length ≤ N) : expD l ≤ N := by
  cases l with
  | nil => exact Nat.zero_le _
  | cons e r =>
    have := h e (by simp)
    have := Q8d (toTr e)
    show (toTr e).dp ≤ N
    omega
theorem itemT_len {N : Nat} {x : It} (h : ∀ e ∈ x.2, (toTr e).tk.length ≤ N) : (Q2t x).length ≤ N + 4 := by
  unfold Q2t
  split
  · simp [wds]
  · split
    · simp [wds]
    · split
      · have := Q7y [] h; simp at this; omega
      · rw [zx]
        have := Q7y [(if x.1 = 4 then [67, 79, 85, 78, 84] else if x.1 = 5 then [83, 85, 77] else if x.1 = 6 then [77, 73, 78] else [77, 65, 88]), [40]] h
        simp at this ⊢
        omega
theorem st_len {x : Stm} {N : Nat} (hf : fitB x = true) (h : AllX N x) : (stT x).length ≤ 24 * N + 1000 ∧ stD x ≤ N := by
  obtain ⟨p1, p2, p3, p4, p5, p6, p7⟩ := Q7p hf
  have hk : x.k = 1 ∨ x.k = 2 ∨ x.k = 3 ∨ x.k = 4 ∨ x.k = 5 ∨ x.k = 6 := by omega
  have ew := Q7y [[87, 72, 69, 82, 69]] h.wh
  have dw := Q9q h.wh
  unfold stT stD
  rcases hk with hk | hk | hk | hk | hk | hk <;> rw [hk] <;> simp only [Int.reduceEq, if_true, if_false]
  · have a := (p4 hk).1
    unfold Q9n at a
    simp only [Bool.and_eq_true, decide_eq_true_eq] at a
    have := X1g x.cols x.cols.length
    rw [List.take_length] at this
    refine ⟨?_, Nat.zero_le _⟩
    unfold X0m
    simp only [zx, zy, Q1k, zA]
    omega
  · exact ⟨by unfold dropT; simp [wds], Nat.zero_le _⟩
  · have a := p5 hk
    unfold Q9o at a
    simp only [Bool.and_eq_true, decide_eq_true_eq] at a
    have h1 : ∀ r ∈ x.rows, (rowT r).length ≤ 26 := fun r hr => by
      have hb := List.all_eq_true.1 a.1 r hr
      unfold rowB at hb
      simp only [Bool.and_eq_true, decide_eq_true_eq] at hb
      have h2 := Q9p (one := litT) (M := 2) (l := r) (fun v _ => (X1d v).2)
      unfold rowT
      simp only [zx, zy, zA]
      omega
    have h3 := Q9p (one := rowT) h1
    refine ⟨?_, Nat.zero_le _⟩
    unfold Q6t
    simp only [zx, zy, Q1k, zA]
    omega
  · have a := p6 hk
    unfold Q8z at a
    simp only [Bool.and_eq_true, decide_eq_true_eq] at a
    have h1 : ∀ s ∈ x.sets, (setT s).length ≤ N + 2 := fun s hs => by
      have := h.sets s hs
      unfold setT
      simp only [zy]
      omega
    have h3 := Q9p (one := setT) h1
    have h4 := maxD_bd (f := fun s : Se => (toTr s.2).dp) (l := x.sets) (M := N) (fun s hs => by
      have := h.sets s hs
      have := Q8d (toTr s.2)
      try dsimp only
      omega)
    have h5 : (N + 2 + 1) * x.sets.length ≤ (N + 2 + 1) * 8 := Nat.mul_le_mul_left _ a.2.2
    refine ⟨?_, by omega⟩
    unfold Q6u
    simp only [zx, zy, zA] at ew ⊢
    omega
  · refine ⟨?_, dw⟩
    unfold removeT
    simp only [zx, zy, Q1k, zA] at ew ⊢
    omega
  · obtain ⟨s1, s2, s3, s4, s5⟩ := Q7q (p7 hk)
    unfold Q5c at s1
    simp only [Bool.and_eq_true, decide_eq_true_eq] at s1
    have h3 := Q9p (one := Q2t) (l := x.items) (M := N + 4) (fun y hy => itemT_len (h.items y hy))
    have h4 := maxD_bd (f := fun y : It => expD y.2) (l := x.items) (M := N) (fun y hy => Q9q (h.items y hy))
    have h5 : (N + 4 + 1) * x.items.length ≤ (N + 4 + 1) * 8 := Nat.mul_le_mul_left _ s1.2.2
    have e1 := Q7y [[79, 78]] h.on
    have e2 := Q7y [[71, 82, 79, 85, 80], [66, 89]] h.gr
    have e3 := Q7y [[79, 82, 68, 69, 82], [66, 89]] h.or
    have d1 := Q9q h.on
    have d2 := Q9q h.gr
    have d3 := Q9q h.or
    have hj : (joinT x).length ≤ N + 4 := by
      unfold joinT
      split
      · simp
      · simp only [zy, zA] at e1 ⊢; omega
    refine ⟨?_, ?_⟩
    · unfold Q5u
      have l1 : (if x.desc then [wd [68, 69, 83, 67]] else []).length ≤ 1 := by split <;> simp
      have l2 : (if 0 ≤ x.lim then [wd [76, 73, 77, 73, 84], iT x.lim] else []).length ≤ 2 := by split <;> simp
      simp only [zx, zy, zA] at ew e2 e3 ⊢
      omega
    · split <;> omega
end Go.Print
namespace Go.Proofs.YtjdapkelojdefaaGreatDoor
open Go Go.V Go.Lex Go.Parse Go.Print
theorem ws_sub0 {σ : Sg} {ω τ β : Nat} {l : List Tk} {d m : Int} {o o' : Ob} (h : σ β = none) : (WS σ ω τ l d m).sub (WS ((σ.set ω o).set β o') ω τ l d m) := by
  intro y p hy
  simp only [WS, Q8c, Sg.set_apply] at hy ⊢
  grind
structure ScX (l : List Stm) : Prop where
  len : l.length ≤ 9223372036854775807
  lim : ∀ x ∈ l, LimX x
  sum : ∀ x ∈ l, x.items.length + x.on.length + x.gr.length + x.or.length ≤ 9223372036854775807
  big : l.length ≤ 8 → ∀ x ∈ l, fitB x = true → (stT x).length ≤ 2 ^ 26 ∧ stD x ≤ 2 ^ 26
theorem w_Script (l : List Stm) (hX : ScX l) (o : Own) (σ : Sg) : VCalls Tryz.prog 15 [.sl o (l.map stmA)] σ (fun x σ' => x = .tup [.s (bs (Q5v l).1), .i (Q5v l).2] ∧ σ' = σ) := by
  have a1 : (l.map stmA).length = l.length := zB ..
  have a2 := Q1r (f := stmA) (n := 14) l (fun _ => rfl)
  have a3 := fun k (h : k < l.length) => Q1q (f := stmA) h
  have hll := hX.len
  unfold Q5v
  by_cases h8 : 8 < l.length
  · rw [if_pos h8]
    generalize l.map stmA = L at *
    (refine vfun (fun _ => .no) Q0k Tryz.func15 (by kernel_rfl) ?_; simp only [Q0f, Tryz.f15, zw])
    (have zz := Bx.mk (j2 ui0 (j9 ui3 ui4 ui9 ui22 ui23 ui24 ui25 ui26 (j9 ui30 ui31 ui35 ui37 ui38 ui39 ui40 ui41 (j9 ui42 ui55 ui56 ui57 ui58 ui59 ui67 ui68 (j9 ui70 ui71 ui75 Q0q Q0r Q0t Q0u Q0v a1))))); (repeat' (first | exact zc | (with_reducible first | apply And.intro | apply Q0a | apply Q0b | refine Q0c (by decide +kernel) ?_ | intro _) | refine zaY zz.out ?_ | ((first | (with_reducible refine uc (Q6f _ (by assumption) (by assumption) _) ?_) | ((with_reducible refine zS (Q0n _ _ _ _ _ _ _ _ (by repeat (first | exact Q0j | refine Q0g ?_ (by simp))) (by exact zO) (by exact zN)) ?_); rintro _ S ⟨rfl, τ1, ⟨f1, n1⟩, rfl⟩; have n1s := n1.symm) | (refine Q0d (by exact zK) ?_) | (refine Q0e (by exact zK) ?_)); (try refine zsY zz.out ?_)) | refine zo ?_ | omega | refine ztY zz.out ?_ | fail)); try (all_goals clear zz))
    all_goals first | exact ⟨_, .refl _, rfl⟩ | (exfalso; omega)
  rw [if_neg h8]
  by_cases h0 : l = []
  · subst h0
    rw [if_pos rfl]
    simp only [zA] at a1
    generalize List.map stmA [] = L at *
    (refine vfun (fun _ => .no) Q0k Tryz.func15 (by kernel_rfl) ?_; simp only [Q0f, Tryz.f15, zw])
    (have zz := Bx.mk (j2 ui0 (j9 ui3 ui4 ui9 ui22 ui23 ui24 ui25 ui26 (j9 ui30 ui31 ui35 ui37 ui38 ui39 ui40 ui41 (j9 ui42 ui55 ui56 ui57 ui58 ui59 ui67 ui68 (j9 ui70 ui71 ui75 Q0q Q0r Q0t Q0u Q0v a1))))); (repeat' (first | exact zc | (with_reducible first | apply And.intro | apply Q0a | apply Q0b | refine Q0c (by decide +kernel) ?_ | intro _) | refine zaY zz.out ?_ | ((first | (with_reducible refine uc (Q6f _ (by assumption) (by assumption) _) ?_) | ((with_reducible refine zS (Q0n _ _ _ _ _ _ _ _ (by repeat (first | exact Q0j | refine Q0g ?_ (by simp))) (by exact zO) (by exact zN)) ?_); rintro _ S ⟨rfl, τ1, ⟨f1, n1⟩, rfl⟩; have n1s := n1.symm) | (refine Q0d (by exact zK) ?_) | (refine Q0e (by exact zK) ?_)); (try refine zsY zz.out ?_)) | refine zo ?_ | omega | refine ztY zz.out ?_ | fail)); try (all_goals clear zz))
    all_goals first | exact ⟨_, .refl _, rfl⟩ | (exfalso; omega)
  rw [if_neg h0]
  have hl0 : 0 < l.length := List.length_pos_iff.2 h0
  generalize hL : l.map stmA = L at *
  (refine vfun (fun _ => .no) Q0k Tryz.func15 (by kernel_rfl) ?_; simp only [Q0f, Tryz.f15, zw])
  (have zz := Bx.mk (j2 ui0 (j9 ui3 ui4 ui9 ui22 ui23 ui24 ui25 ui26 (j9 ui30 ui31 ui35 ui37 ui38 ui39 ui40 ui41 (j9 ui42 ui55 ui56 ui57 ui58 ui59 ui67 ui68 (j9 ui70 ui71 ui75 Q0q Q0r Q0t Q0u Q0v a1))))); (repeat' (first | exact zc | (with_reducible first | apply And.intro | apply Q0a | apply Q0b | refine Q0c (by decide +kernel) ?_ | intro _) | refine zaY zz.out ?_ | ((first | (with_reducible refine uc (Q6f _ (by assumption) (by assumption) _) ?_) | ((with_reducible refine zS (Q0n _ _ _ _ _ _ _ _ (by repeat (first | exact Q0j | refine Q0g ?_ (by simp))) (by exact zO) (by exact zN)) ?_); rintro _ S ⟨rfl, τ1, ⟨f1, n1⟩, rfl⟩; have n1s := n1.symm) | (refine Q0d (by exact zK) ?_) | (refine Q0e (by exact zK) ?_)); (try refine zsY zz.out ?_)) | refine zo ?_ | omega | refine ztY zz.out ?_ | fail)); try (all_goals clear zz))
  all_goals try (exfalso; omega)
  rename_i ω hω
  refine VW.loop3 (0 : Nat) (0 : Nat) () (fun k τ _ => k ≤ l.length ∧ (∀ x ∈ l.take k, fitB x = true) ∧ (k ≠ 0 → σ τ = none ∧ τ ≠ ω)) (fun k _ _ => [(2, .s (bs [])), (3, .i 0), (4, .ref ω 0), (17, .sl o L), (18, .i l.length), (19, .i k)]) (fun k τ _ => if k = 0 then σ.set ω (.cells 59 [.sl .nil [], .i 0, .i 0]) else WS σ ω τ (scT (l.take k)) 0 ((scD (l.take k) : Nat) : Int)) (fun k _ _ => l.length - k) ⟨Nat.zero_le _, fun x hx => (by simp at hx), fun h => absurd rfl h⟩ (.refl _) ?_ ?_
  · simp only [vO, vQ, ↓vP, vE, vS, vB, vL, vF, vM, vN, Q0i, zb, zd, ze, ne_eq, not_false_eq_true, zf, zg, zk, zl, vT]
    all_goals first | rfl | exact ⟨rfl, rfl⟩
  rintro k τ _ ⟨hk, hfit, hτ⟩
  rcases Nat.lt_or_ge k l.length with hk2 | hk2
  · have hg := a3 k hk2
    have hmem : l[k] ∈ l := List.getElem_mem hk2
    have iF := Q6f l[k] (hX.lim _ hmem).s (hX.sum _ hmem)
    have hbig := hX.big (by omega) _ hmem
    have hlm := hX.lim _ hmem
    have q1 := X4a l[k]
    have q2 := X4b l[k]
    have q3 := X2d l[k]
    have q4 := X2e l[k]
    have hpre := X0o (l := l) (N := 2 ^ 26) k (fun x hx => (hX.big (by omega) x (List.mem_of_mem_take hx) (hfit x hx)).1)
    have hpd : scD (l.take k) ≤ 2 ^ 26 := scD_le (fun x hx => (hX.big (by omega) x (List.mem_of_mem_take hx) (hfit x hx)).2)
    have hst := X4d hk2
    have hsd : scD (l.take (k + 1)) = max (scD (l.take k)) (stD l[k]) := Q6g stD hk2
    have hnx : fitB l[k] = true → ∀ x ∈ l.take (k + 1), fitB x = true := fun hb x hx => by
      rw [List.take_succ_eq_append_getElem hk2] at hx
      rcases List.mem_append.1 hx with hx | hx
      · exact hfit x hx
      · rw [List.mem_singleton.1 hx]; exact hb
    have hall : fitB l[k] = false → l.all fitB = false := fun hb => by
      rw [List.all_eq_false]
      exact ⟨l[k], hmem, by rw [hb]; decide⟩
    cases hb : fitB l[k] with
    | false =>
      rw [hb] at iF
      rw [hall hb]
      generalize stmA l[k] = D at *
      clear hbig hst hsd hnx hall hpre hpd hfit
      by_cases hz : k = 0
      · subst hz
        simp only [↓reduceIte]
        (have zz := Bx.mk (j8 ui0 ui3 ui4 ui9 ui22 ui23 ui24 (j9 ui25 ui26 ui30 ui31 ui35 ui37 ui38 ui39 (j9 ui40 ui41 ui42 ui55 ui56 ui57 ui58 ui59 (j9 ui67 ui68 ui70 ui71 ui75 Q0q Q0r Q0t (j9 Q0u Q0v a1 a2 hg q1 q2 q3 q4))))); (repeat' (first | exact zc | (with_reducible first | apply And.intro | apply Q0a | apply Q0b | refine Q0c (by decide +kernel) ?_ | intro _) | refine zaY zz.out ?_ | ((first | (with_reducible refine uc (iF _) ?_) | (with_reducible refine uc (Q6f _ (by assumption) (by assumption) _) ?_) | ((with_reducible refine zS (Q0n _ _ _ _ _ _ _ _ (by repeat (first | exact Q0j | refine Q0g ?_ (by simp))) (by exact zO) (by exact zN)) ?_); rintro _ S ⟨rfl, τ1, ⟨f1, n1⟩, rfl⟩; have n1s := n1.symm) | (refine Q0d (by exact zK) ?_) | (refine Q0e (by exact zK) ?_)); (try refine zsY zz.out ?_)) | refine zo ?_ | omega | refine ztY zz.out ?_ | fail)); try (all_goals clear zz))
        all_goals first | exact ⟨σ, by (exact zu), rfl, rfl⟩ | exact ⟨σ, by (exact zu), rfl⟩
      · rw [if_neg hz]
        obtain ⟨f1, n1⟩ := hτ hz
        (have zz := Bx.mk (j8 ui0 ui3 ui4 ui9 ui22 ui23 ui24 (j9 ui25 ui26 ui30 ui31 ui35 ui37 ui38 ui39 (j9 ui40 ui41 ui42 ui55 ui56 ui57 ui58 ui59 (j9 ui67 ui68 ui70 ui71 ui75 Q0q Q0r Q0t (j9 Q0u Q0v a1 a2 hg q1 q2 q3 q4))))); (repeat' (first | exact zc | (with_reducible first | apply And.intro | apply Q0a | apply Q0b | refine Q0c (by decide +kernel) ?_ | intro _) | refine zaY zz.out ?_ | ((first | (with_reducible refine uc (iF _) ?_) | (with_reducible refine uc (Q6f _ (by assumption) (by assumption) _) ?_) | ((with_reducible refine zS (Q0n _ _ _ _ _ _ _ _ (by repeat (first | exact Q0j | refine Q0g ?_ (by simp))) (by exact zO) (by exact zN)) ?_); rintro _ S ⟨rfl, τ1, ⟨f1, n1⟩, rfl⟩; have n1s := n1.symm) | (refine Q0d (by exact zK) ?_) | (refine Q0e (by exact zK) ?_)); (try refine zsY zz.out ?_)) | refine zo ?_ | omega | refine ztY zz.out ?_ | fail)); try (all_goals clear zz))
        all_goals first | exact ⟨σ, by (exact zu), rfl, rfl⟩ | exact ⟨σ, by (exact zu), rfl⟩
    | true =>
      rw [hb] at iF
      have hnx := hnx hb
      obtain ⟨b1, b2⟩ := hbig hb
      have hW := w_state ω l[k] hb hlm
      clear hall hbig
      generalize stT l[k] = TT at *
      generalize stD l[k] = DD at *
      generalize stmA l[k] = D at *
      by_cases hz : k = 0
      · subst hz
        have e0 : scT (l.take 0) = [] := rfl
        have e1 : scD (l.take 0) = 0 := rfl
        rw [e0, if_pos rfl, zG, zG] at hst
        rw [e1] at hsd
        have hS0 : ∀ (S : Sg), S ω = some (.cells 59 [.sl .nil [], .i 0, .i 0]) → VCalls Tryz.prog 30 [.ref ω 0, .agg D] S (fun x σ' => x = .tup [] ∧ ∃ τ', Print.okS S ω τ' ∧ σ' = WS S ω τ' TT 0 (DD : Nat)) := fun S hS => by
          refine VCalls.tok0 (e := 102) 0 4 hS rfl (fun τ hτ hne => ?_)
          have := hW S τ [] 0 0 ⟨hτ, hne⟩ (by omega) (by omega) (by omega) (by omega) (by simp; omega)
          rw [zG] at this
          refine zS this (fun x σ' hx => ?_)
          obtain ⟨rfl, τ', ok, rfl⟩ := hx
          exact ⟨rfl, τ', ok, Q2g rfl rfl (by omega)⟩
        simp only [↓reduceIte]
        (have zz := Bx.mk (j8 ui0 ui3 ui4 ui9 ui22 ui23 ui24 (j9 ui25 ui26 ui30 ui31 ui35 ui37 ui38 ui39 (j9 ui40 ui41 ui42 ui55 ui56 ui57 ui58 ui59 (j9 ui67 ui68 ui70 ui71 ui75 Q0q Q0r Q0t (j9 Q0u Q0v a1 a2 hg q1 q2 q3 q4))))); (repeat' (first | exact zc | (with_reducible first | apply And.intro | apply Q0a | apply Q0b | refine Q0c (by decide +kernel) ?_ | intro _) | refine zaY zz.out ?_ | ((first | (with_reducible first | refine Q5x ?_ | refine Q4c (fun β hβ => ?_)) | (with_reducible refine uc (iF _) ?_) | ((with_reducible refine zS (hS0 _ (by exact zK)) ?_); rintro _ S ⟨rfl, τ1, hok, rfl⟩) | (with_reducible refine uc (Q6f _ (by assumption) (by assumption) _) ?_) | ((with_reducible refine zS (Q0n _ _ _ _ _ _ _ _ (by repeat (first | exact Q0j | refine Q0g ?_ (by simp))) (by exact zO) (by exact zN)) ?_); rintro _ S ⟨rfl, τ1, ⟨f1, n1⟩, rfl⟩; have n1s := n1.symm) | (refine Q0d (by exact zK) ?_) | (refine Q0e (by exact zK) ?_)); (try refine zsY zz.out ?_)) | refine zo ?_ | omega | refine ztY zz.out ?_ | fail)); try (all_goals clear zz))
        all_goals try (exfalso; omega)
        obtain ⟨nb, f2⟩ := Sg.none_set hok.free
        obtain ⟨nw, f3⟩ := Sg.none_set f2
        refine ⟨1, τ1, (), ⟨⟨hk2, hnx, fun _ => ⟨f3, hok.ne⟩⟩, by omega⟩, ?_, rfl⟩
        rw [if_neg (by decide), hst, hsd, Nat.zero_max]
        exact ws_sub0 hβ
      · rw [if_neg hz]
        obtain ⟨f1, n1⟩ := hτ hz
        have n1s := n1.symm
        rw [if_neg hz] at hst
        have hA1 : (scT (l.take k)).length ≤ 2 ^ 30 := by omega
        have hW := fun B => hW B
        generalize hA : scT (l.take k) = A at *
        generalize hM : scD (l.take k) = M at *
        (have zz := Bx.mk (j9 ui0 ui3 ui4 ui9 ui22 ui23 ui24 ui25 (j9 ui26 ui30 ui31 ui35 ui37 ui38 ui39 ui40 (j9 ui41 ui42 ui55 ui56 ui57 ui58 ui59 ui67 (j9 ui68 ui70 ui71 ui75 Q0q Q0r Q0t Q0u (j9 Q0v a1 a2 hg q1 q2 q3 q4 WLg))))); (repeat' (first | exact zc | (with_reducible first | apply And.intro | apply Q0a | apply Q0b | refine Q0c (by decide +kernel) ?_ | intro _) | refine zaY zz.out ?_ | ((first | (with_reducible first | refine Q5x ?_ | refine Q4c (fun β hβ => ?_)) | (with_reducible refine uc (iF _) ?_) | (rw [wb_set (by assumption) (by assumption)]) | ((with_reducible refine zS (Q0n _ _ _ _ _ _ _ _ (by repeat (first | exact Q0j | refine Q0g ?_ (by simp))) ⟨Sg.set_none (by assumption) (by first | assumption | (apply Ne.symm; assumption)), by assumption⟩ (by exact zN)) ?_); rintro _ S ⟨rfl, τ1, ⟨f2, n1⟩, rfl⟩; have n1s := n1.symm; obtain ⟨nb, f1⟩ := Sg.none_set f2; have nbs := nb.symm) | ((with_reducible refine zS (hW _ _ _ _ _ ⟨Sg.set_none (by assumption) (by first | assumption | (apply Ne.symm; assumption)), by assumption⟩ (by omega) (by omega) (by omega) (by omega) (by exact zN)) ?_); rintro _ S ⟨rfl, τ1, ⟨f2, n1⟩, rfl⟩; have n1s := n1.symm; obtain ⟨nb, f1⟩ := Sg.none_set f2; have nbs := nb.symm) | (with_reducible refine uc (Q6f _ (by assumption) (by assumption) _) ?_) | ((with_reducible refine zS (Q0n _ _ _ _ _ _ _ _ (by repeat (first | exact Q0j | refine Q0g ?_ (by simp))) (by exact zO) (by exact zN)) ?_); rintro _ S ⟨rfl, τ1, ⟨f1, n1⟩, rfl⟩; have n1s := n1.symm) | (refine Q0d (by exact zK) ?_) | (refine Q0e (by exact zK) ?_)); (try refine zsY zz.out ?_)) | refine zo ?_ | omega | refine ztY zz.out ?_ | fail)); try (all_goals clear zz))
        all_goals try (exfalso; omega)
        refine ⟨k + 1, τ1, (), ⟨⟨hk2, hnx, fun _ => ⟨f1, n1⟩⟩, by omega⟩, ?_, rfl⟩
        rw [if_neg (by omega)]
        exact (Q4f (Q2g (by rw [hst]; simp) rfl (by rw [hsd]; omega))).trans (wb_sub hβ)
  · have hkl : k = l.length := by omega
    have hz : k ≠ 0 := by omega
    rw [if_neg hz]
    obtain ⟨f1, n1⟩ := hτ hz
    rw [List.take_of_length_le hk2] at hfit ⊢
    rw [if_pos (List.all_eq_true.2 hfit)]
    have hpre := X0o (l := l) (N := 2 ^ 26) l.length (fun x hx => (hX.big (by omega) x (List.mem_of_mem_take hx) (hfit x (List.mem_of_mem_take hx))).1)
    rw [List.take_length] at hpre
    have hgd : AG (scT l) := sc_good (fun x hx => st_good (hfit x hx) (hX.lim x hx))
    have hE := w_end σ σ ω τ (scT l) 0 (scD l) (by intro y p hy; show (WS _ ω τ _ _ _) y = some p; simp only [WS, Q8c, Sg.set_apply]; grind) hgd (by omega)
    generalize fin (scT l) (scD l) = R at *
    generalize scT l = A at *
    generalize scD l = M at *
    (have zz := Bx.mk (j2 ui0 (j9 ui3 ui4 ui9 ui22 ui23 ui24 ui25 ui26 (j9 ui30 ui31 ui35 ui37 ui38 ui39 ui40 ui41 (j9 ui42 ui55 ui56 ui57 ui58 ui59 ui67 ui68 (j9 ui70 ui71 ui75 Q0q Q0r Q0t Q0u Q0v a1))))); (repeat' (first | exact zc | (with_reducible first | apply And.intro | apply Q0a | apply Q0b | refine Q0c (by decide +kernel) ?_ | intro _) | refine zaY zz.out ?_ | ((first | (with_reducible refine uc (hE) ?_) | (with_reducible refine uc (Q6f _ (by assumption) (by assumption) _) ?_) | ((with_reducible refine zS (Q0n _ _ _ _ _ _ _ _ (by repeat (first | exact Q0j | refine Q0g ?_ (by simp))) (by exact zO) (by exact zN)) ?_); rintro _ S ⟨rfl, τ1, ⟨f1, n1⟩, rfl⟩; have n1s := n1.symm) | (refine Q0d (by exact zK) ?_) | (refine Q0e (by exact zK) ?_)); (try refine zsY zz.out ?_)) | refine zo ?_ | omega | refine ztY zz.out ?_ | fail)); try (all_goals clear zz))
    all_goals exact ⟨_, .refl _, rfl⟩
end Go.Proofs.YtjdapkelojdefaaGreatDoor
namespace Go.Print
open Go.V Go.Lex Go.Parse Go.Proofs.YtjdapkelojdefaaGreatDoor
end Go.Print
namespace Go.Proofs.YtjdapkelojdefaaGreatDoor
open Go Go.V Go.Lex Go.Parse Go.Print
def Q4n (l : List Ex) : Bool := (l.take 20).all (fewB 12)
theorem Q9r (l : List Ex) (hl : l.length ≤ 9223372036854775807) (σ : Sg) : VCalls Tryz.prog 27 [.sl .any (exsA l)] σ (fun x σ' => x = .b (Q4n l) ∧ σ' = σ) := by
  have hn := Q1c l
  have hall := Q9l l
  have hgt := fun k (h : k < l.length) => X3x (l := l) h
  have hf : ∀ e σ, VCalls Tryz.prog 9 [.agg (exA e), .i 12] σ _ := fun e σ => x_few 12 (by decide) e σ
  unfold Q4n
  generalize exsA l = L at *
  (refine vfun (fun _ => .no) Q0k Tryz.func27 (by kernel_rfl) ?_; simp only [Q0f, Tryz.f27, zw])
  (have zz := Bx.mk (j3 ui0 ui3 (j9 ui4 ui9 ui22 ui23 ui24 ui25 ui26 hn hall)); (repeat' (first | exact zc | (with_reducible first | apply And.intro | apply Q0a | apply Q0b | refine Q0c (by decide +kernel) ?_ | intro _) | refine zaY zz.out ?_ | ((first | (refine Q0d (by exact zK) ?_) | (refine Q0e (by exact zK) ?_)); (try refine zsY zz.out ?_)) | refine zo ?_ | omega | refine ztY zz.out ?_ | fail)); try (all_goals clear zz))
  refine VW.loop3 (0 : Nat) () () (fun k _ _ => k ≤ l.length ∧ k ≤ 20 ∧ (l.take 20).all (fewB 12) = ((l.take 20).drop k).all (fewB 12)) (fun k _ _ => [(0, .sl .any L), (3, .i k)]) (fun _ _ _ => σ) (fun k _ _ => 20 - k) ⟨Nat.zero_le _, Nat.zero_le _, rfl⟩ (.refl _) ?_ ?_
  · simp only [vO, vQ, ↓vP, vE, vS, vB, vL, vF, vM, vN, Q0i, zb, zd, ze, ne_eq, not_false_eq_true, zf, zg, zk, zl, vT]
    all_goals rfl
  rintro k _ _ ⟨hk, hk20, hr⟩
  by_cases hk2 : k < l.length ∧ k < 20
  · obtain ⟨hk2, hk3⟩ := hk2
    have hg := hgt k hk2
    have hp := hf l[k]
    have hlt : k < (l.take 20).length := by rw [List.length_take]; omega
    have hge : (l.take 20)[k] = l[k] := List.getElem_take
    have hdr : ((l.take 20).drop k).all (fewB 12) = (fewB 12 l[k] && ((l.take 20).drop (k + 1)).all (fewB 12)) := by rw [List.drop_eq_getElem_cons hlt, List.all_cons, hge]
    have hFl := Q1a l[k]
    have hFt := Q1b l[k]
    generalize exA l[k] = E at *
    generalize fewB 12 l[k] = b at *
    clear hf hge hgt
    cases b with
    | false =>
      rw [hr, hdr]
      (have zz := Bx.mk (j6 ui0 ui3 ui4 ui9 ui22 (j9 ui23 ui24 ui25 ui26 hn hall hg hFl hFt)); (repeat' (first | exact zc | (with_reducible first | apply And.intro | apply Q0a | apply Q0b | refine Q0c (by decide +kernel) ?_ | intro _) | refine zaY zz.out ?_ | ((first | (with_reducible refine uc (hp _) ?_) | (refine Q0d (by exact zK) ?_) | (refine Q0e (by exact zK) ?_)); (try refine zsY zz.out ?_)) | refine zo ?_ | omega | refine ztY zz.out ?_ | fail)); try (all_goals clear zz))
      all_goals first | exact ⟨_, .refl _, rfl⟩ | exact ⟨_, .refl _, rfl, rfl⟩ | (exfalso; omega)
    | true =>
      (have zz := Bx.mk (j6 ui0 ui3 ui4 ui9 ui22 (j9 ui23 ui24 ui25 ui26 hn hall hg hFl hFt)); (repeat' (first | exact zc | (with_reducible first | apply And.intro | apply Q0a | apply Q0b | refine Q0c (by decide +kernel) ?_ | intro _) | refine zaY zz.out ?_ | ((first | (with_reducible refine uc (hp _) ?_) | (refine Q0d (by exact zK) ?_) | (refine Q0e (by exact zK) ?_)); (try refine zsY zz.out ?_)) | refine zo ?_ | omega | refine ztY zz.out ?_ | fail)); try (all_goals clear zz))
      all_goals first | exact ⟨k + 1, (), (), ⟨⟨hk2, hk3, by rw [hr, hdr]; rfl⟩, by omega⟩, .refl _, rfl⟩ | (exfalso; omega)
  · have hdn : (l.take 20).drop k = [] := List.drop_of_length_le (by rw [List.length_take]; omega)
    rw [hr, hdn]
    (have zz := Bx.mk (j3 ui0 ui3 (j9 ui4 ui9 ui22 ui23 ui24 ui25 ui26 hn hall)); (repeat' (first | exact zc | (with_reducible first | apply And.intro | apply Q0a | apply Q0b | refine Q0c (by decide +kernel) ?_ | intro _) | refine zaY zz.out ?_ | ((first | (refine Q0d (by exact zK) ?_) | (refine Q0e (by exact zK) ?_)); (try refine zsY zz.out ?_)) | refine zo ?_ | omega | refine ztY zz.out ?_ | fail)); try (all_goals clear zz))
    all_goals first | exact ⟨_, .refl _, rfl⟩ | exact ⟨_, .refl _, rfl, rfl⟩ | (exfalso; omega)
structure FewS (x : Stm) : Prop where
  sets : (x.sets.take 20).all (fun s => fewB 12 s.2) = true
  items : (x.items.take 20).all (fun y => Q4n y.2) = true
  on : Q4n x.on = true
  wh : Q4n x.wh = true
  gr : Q4n x.gr = true
  or : Q4n x.or = true
theorem Q7z (x : Stm) (h : LimS x) (σ : Sg) : VCalls Tryz.prog 14 [.agg (stmA x)] σ (fun y σ' => ∃ b, (b = true → FewS x) ∧ y = .b b ∧ σ' = σ) := by
  have i1 := Q9r x.on h.on.1
  have i2 := Q9r x.wh h.wh.1
  have i3 := Q9r x.gr h.gr.1
  have i4 := Q9r x.or h.or.1
  have hf : ∀ e σ, VCalls Tryz.prog 9 [.agg (exA e), .i 12] σ _ := fun e σ => x_few 12 (by decide) e σ
  have hA : ∀ k (hk : k < x.items.length) σ, _ := fun k hk σ => Q9r x.items[k].2 (h.item _ (List.getElem_mem hk)).1 σ
  have hFew : (x.sets.take 20).all (fun s => fewB 12 s.2) = true → (x.items.take 20).all (fun y => Q4n y.2) = true → Q4n x.on = true → Q4n x.wh = true → Q4n x.gr = true → Q4n x.or = true → FewS x := fun a b c d e f => ⟨a, b, c, d, e, f⟩
  have a1 : (x.sets.map setA).length = x.sets.length := zB ..
  have a2 := Q1r (f := setA) (n := 9) x.sets (fun x => by simp [setA, Q1a])
  have a3 : ∀ i (hi : i < x.sets.length), (x.sets.map setA).getD i [] = .s (bs x.sets[i].1) :: exA x.sets[i].2 := fun i hi => Q1q (f := setA) hi
  have c1 : (x.items.map Q2e).length = x.items.length := zB ..
  have c2 := Q1r (f := Q2e) (n := 2) x.items (fun _ => rfl)
  have c3 : ∀ i (hi : i < x.items.length), (x.items.map Q2e).getD i [] = [.i x.items[i].1, .sl .any (exsA x.items[i].2)] := fun i hi => Q1q (f := Q2e) hi
  have d1 : (x.rows.map rowA).length = x.rows.length := zB ..
  have hs1 := h.sets
  have hs2 := h.items
  have hs3 := h.rows
  have z1 := Q4h x.t
  have z2 := Q4h x.join
  have z3 := Q4h x.pk
  unfold stmA
  generalize Q4n x.on = b1 at *
  generalize Q4n x.wh = b2 at *
  generalize Q4n x.gr = b3 at *
  generalize Q4n x.or = b4 at *
  generalize x.sets.map setA = L7 at *
  generalize x.items.map Q2e = L8 at *
  generalize x.rows.map rowA = L6 at *
  obtain ⟨C, hC⟩ : ∃ C : List AV, C = [.i x.k, .s (bs x.t), .sl .any (x.cols.map coA), .s (bs x.pk), .sl .any L6, .sl .any L7, .sl .any L8, .s (bs x.join), .sl .any (exsA x.on), .sl .any (exsA x.wh), .sl .any (exsA x.gr), .sl .any (exsA x.or), .b x.desc, .i x.lim] := ⟨_, rfl⟩
  (refine vfun (fun _ => .ro) Q0k Tryz.func14 (by kernel_rfl) ?_; simp only [Q0f, Tryz.f14, zw])
  (have zz := Bx.mk (j7 ui0 ui3 ui4 ui9 ui22 ui23 (j9 ui24 ui25 ui26 ui37 ui38 ui39 ui40 ui41 (j9 ui42 ui67 ui68 ui70 ui71 Q0t Q0u Q0v a1))); (repeat' (first | exact zc | (with_reducible first | apply And.intro | apply Q0a | apply Q0b | refine Q0c (by decide +kernel) ?_ | intro _) | refine zaY zz.out ?_ | ((first | (refine Q0d (by exact zK) ?_) | (refine Q0e (by exact zK) ?_)); (try refine zsY zz.out ?_)) | refine zo ?_ | omega | refine ztY zz.out ?_ | fail)); try (all_goals clear zz))
  refine VW.loop3 (0 : Nat) () () (fun k _ _ => k ≤ x.sets.length ∧ k ≤ 20 ∧ ((x.sets.take 20).drop k).all (fun s => fewB 12 s.2) = (x.sets.take 20).all (fun s => fewB 12 s.2)) (fun k _ _ => [(1, .ro C), (3, .i k)]) (fun _ _ _ => σ) (fun k _ _ => 20 - k) ⟨Nat.zero_le _, Nat.zero_le _, rfl⟩ (.refl _) ?_ ?_
  · subst hC
    simp only [vO, vQ, ↓vP, vE, vS, vB, vL, vF, vM, vN, Q0i, zb, zd, ze, ne_eq, not_false_eq_true, zf, zg, zk, zl, vT]
    all_goals first | rfl | exact ⟨rfl, rfl⟩
  rintro k _ _ ⟨hk, hk20, hr⟩
  by_cases hk2 : k < x.sets.length ∧ k < 20
  · obtain ⟨hk2, hk3⟩ := hk2
    have hg := a3 k hk2
    have hp := hf x.sets[k].2
    have hlt : k < (x.sets.take 20).length := by rw [List.length_take]; omega
    have hge : (x.sets.take 20)[k] = x.sets[k] := List.getElem_take
    have hdr : ((x.sets.take 20).drop k).all (fun s => fewB 12 s.2) = (fewB 12 x.sets[k].2 && ((x.sets.take 20).drop (k + 1)).all (fun s => fewB 12 s.2)) := by rw [List.drop_eq_getElem_cons hlt, List.all_cons, hge]
    have hFl := Q1a x.sets[k].2
    have hFt := Q1b x.sets[k].2
    have hFd := Q2q x.sets[k].2
    have hFo := Q3r x.sets[k].2
    clear hA hFew a3 c3 i1 i2 i3 i4 hf hge
    subst hC
    generalize exA x.sets[k].2 = E at *
    generalize fewB 12 x.sets[k].2 = b at *
    generalize x.sets[k].1 = nm at *
    cases b with
    | false =>
      (have zz := Bx.mk (j5 ui0 ui3 ui4 ui9 (j9 ui22 ui23 ui24 ui25 ui26 ui37 ui38 ui39 (j9 ui40 ui41 ui42 ui67 ui68 ui70 ui71 Q0t (j9 Q0u Q0v a1 a2 hg hFl hFt hFd hFo)))); (repeat' (first | exact zc | (with_reducible first | apply And.intro | apply Q0a | apply Q0b | refine Q0c (by decide +kernel) ?_ | intro _) | refine zaY zz.out ?_ | ((first | (with_reducible refine uc (hp _) ?_) | (refine Q0d (by exact zK) ?_) | (refine Q0e (by exact zK) ?_)); (try refine zsY zz.out ?_)) | refine zo ?_ | omega | refine ztY zz.out ?_ | fail)); try (all_goals clear zz))
      all_goals first | exact ⟨_, .refl _, false, (fun q => absurd q Bool.false_ne_true), rfl, rfl⟩ | (exfalso; omega)
    | true =>
      rw [Bool.true_and] at hdr
      (have zz := Bx.mk (j5 ui0 ui3 ui4 ui9 (j9 ui22 ui23 ui24 ui25 ui26 ui37 ui38 ui39 (j9 ui40 ui41 ui42 ui67 ui68 ui70 ui71 Q0t (j9 Q0u Q0v a1 a2 hg hFl hFt hFd hFo)))); (repeat' (first | exact zc | (with_reducible first | apply And.intro | apply Q0a | apply Q0b | refine Q0c (by decide +kernel) ?_ | intro _) | refine zaY zz.out ?_ | ((first | (with_reducible refine uc (hp _) ?_) | (refine Q0d (by exact zK) ?_) | (refine Q0e (by exact zK) ?_)); (try refine zsY zz.out ?_)) | refine zo ?_ | omega | refine ztY zz.out ?_ | fail)); try (all_goals clear zz))
      all_goals first | exact ⟨k + 1, (), (), ⟨⟨hk2, hk3, hdr.symm.trans hr⟩, by omega⟩, .refl _, rfl⟩ | (exfalso; omega)
  have hdn : (x.sets.take 20).drop k = [] := List.drop_of_length_le (by rw [List.length_take]; omega)
  rw [hdn] at hr
  have hFew := hFew hr.symm
  clear hdn hf a2 a3
  have hkn : ¬ ((k : Int) < x.sets.length ∧ (k : Int) < 20) := by omega
  subst hC
  (have zz := Bx.mk (j8 ui0 ui3 ui4 ui9 ui22 ui23 ui24 (j9 ui25 ui26 ui37 ui38 ui39 ui40 ui41 ui42 (j9 ui67 ui68 ui70 ui71 Q0t Q0u Q0v a1 c1))); (repeat' (first | exact zc | (with_reducible first | apply And.intro | apply Q0a | apply Q0b | refine Q0c (by decide +kernel) ?_ | intro _) | refine zaY zz.out ?_ | ((first | (refine Q0d (by exact zK) ?_) | (refine Q0e (by exact zK) ?_)); (try refine zsY zz.out ?_)) | refine zo ?_ | omega | refine ztY zz.out ?_ | fail)); try (all_goals clear zz))
  all_goals try (exfalso; omega)
  all_goals
    obtain ⟨C, hC⟩ : ∃ C : List AV, C = [.i x.k, .s (bs x.t), .sl .any (x.cols.map coA), .s (bs x.pk), .sl .any L6, .sl .any L7, .sl .any L8, .s (bs x.join), .sl .any (exsA x.on), .sl .any (exsA x.wh), .sl .any (exsA x.gr), .sl .any (exsA x.or), .b x.desc, .i x.lim] := ⟨_, rfl⟩
    refine VW.loop3 (0 : Nat) () () (fun k _ _ => k ≤ x.items.length ∧ k ≤ 20 ∧ ((x.items.take 20).drop k).all (fun y => Q4n y.2) = (x.items.take 20).all (fun y => Q4n y.2)) (fun k _ _ => [(1, .ro C), (5, .i k)]) (fun _ _ _ => σ) (fun k _ _ => 20 - k) ⟨Nat.zero_le _, Nat.zero_le _, rfl⟩ (.refl _) ?_ ?_
    · subst hC
      simp only [vO, vQ, ↓vP, vE, vS, vB, vL, vF, vM, vN, Q0i, zb, zd, ze, ne_eq, not_false_eq_true, zf, zg, zk, zl, vT]
      all_goals first | rfl | exact ⟨rfl, rfl⟩
    rintro k _ _ ⟨hk, hk20, hr⟩
    by_cases hk2 : k < x.items.length ∧ k < 20
    · obtain ⟨hk2, hk3⟩ := hk2
      have hg := c3 k hk2
      have hp := hA k hk2
      have hlt : k < (x.items.take 20).length := by rw [List.length_take]; omega
      have hge : (x.items.take 20)[k] = x.items[k] := List.getElem_take
      have hdr : ((x.items.take 20).drop k).all (fun y => Q4n y.2) = (Q4n x.items[k].2 && ((x.items.take 20).drop (k + 1)).all (fun y => Q4n y.2)) := by rw [List.drop_eq_getElem_cons hlt, List.all_cons, hge]
      clear hA hFew c3 i1 i2 i3 i4 hge
      subst hC
      generalize exsA x.items[k].2 = E at *
      generalize Q4n x.items[k].2 = b at *
      generalize x.items[k].1 = nm at *
      cases b with
      | false =>
        (have zz := Bx.mk (j9 ui0 ui3 ui4 ui9 ui22 ui23 ui24 ui25 (j9 ui26 ui37 ui38 ui39 ui40 ui41 ui42 ui67 (j9 ui68 ui70 ui71 Q0t Q0u Q0v c1 c2 hg))); (repeat' (first | exact zc | (with_reducible first | apply And.intro | apply Q0a | apply Q0b | refine Q0c (by decide +kernel) ?_ | intro _) | refine zaY zz.out ?_ | ((first | (with_reducible refine uc (hp _) ?_) | (refine Q0d (by exact zK) ?_) | (refine Q0e (by exact zK) ?_)); (try refine zsY zz.out ?_)) | refine zo ?_ | omega | refine ztY zz.out ?_ | fail)); try (all_goals clear zz))
        all_goals first | exact ⟨_, .refl _, false, (fun q => absurd q Bool.false_ne_true), rfl, rfl⟩ | (exfalso; omega)
      | true =>
        rw [Bool.true_and] at hdr
        (have zz := Bx.mk (j9 ui0 ui3 ui4 ui9 ui22 ui23 ui24 ui25 (j9 ui26 ui37 ui38 ui39 ui40 ui41 ui42 ui67 (j9 ui68 ui70 ui71 Q0t Q0u Q0v c1 c2 hg))); (repeat' (first | exact zc | (with_reducible first | apply And.intro | apply Q0a | apply Q0b | refine Q0c (by decide +kernel) ?_ | intro _) | refine zaY zz.out ?_ | ((first | (with_reducible refine uc (hp _) ?_) | (refine Q0d (by exact zK) ?_) | (refine Q0e (by exact zK) ?_)); (try refine zsY zz.out ?_)) | refine zo ?_ | omega | refine ztY zz.out ?_ | fail)); try (all_goals clear zz))
        all_goals first | exact ⟨k + 1, (), (), ⟨⟨hk2, hk3, hdr.symm.trans hr⟩, by omega⟩, .refl _, rfl⟩ | (exfalso; omega)
    have hdn : (x.items.take 20).drop k = [] := List.drop_of_length_le (by rw [List.length_take]; omega)
    rw [hdn] at hr
    have hFew := hFew hr.symm
    clear hdn hA c3
    have hkn : ¬ ((k : Int) < x.items.length ∧ (k : Int) < 20) := by omega
    subst hC
    (have zz := Bx.mk (j3 ui0 ui3 (j9 ui4 ui9 ui22 ui23 ui24 ui25 ui26 ui37 (j9 ui38 ui39 ui40 ui41 ui42 ui67 ui68 ui70 (j9 ui71 Q0t Q0u Q0v c1 d1 z1 z2 z3)))); (repeat' (first | exact zc | (with_reducible first | apply And.intro | apply Q0a | apply Q0b | refine Q0c (by decide +kernel) ?_ | intro _) | refine zaY zz.out ?_ | ((first | (with_reducible refine uc (i1 _) ?_) | (with_reducible refine uc (i2 _) ?_) | (with_reducible refine uc (i3 _) ?_) | (with_reducible refine uc (i4 _) ?_) | (refine Q0d (by exact zK) ?_) | (refine Q0e (by exact zK) ?_)); (try refine zsY zz.out ?_)) | refine zo ?_ | omega | refine ztY zz.out ?_ | fail)); try (all_goals clear zz))
    all_goals first | (exfalso; omega) | exact ⟨_, .refl _, _, (fun q => absurd q Bool.false_ne_true), rfl, rfl⟩ | exact ⟨_, .refl _, _, (fun q => hFew (by assumption) (by assumption) (by assumption) q), rfl, rfl⟩ | trace_state
end Go.Proofs.YtjdapkelojdefaaGreatDoor
namespace Go.Print
open Go.V Go.Lex Go.Parse Go.Proofs.YtjdapkelojdefaaGreatDoor
theorem few_len {e : Ex} (hr : rt e = true) (h : fewB 12 e = true) : (toTr e).tk.length ≤ 65536 := by
  have := X1w 12 (toTr e) (by rw [(Q7j e hr).1]; exact h)
  omega
theorem X2k {l : List Ex} (ho : oneB l = true) (h : Q4n l = true) : ∀ e ∈ l, (toTr e).tk.length ≤ 65536 := fun e he => by
  have hl := (one_len ho).1
  unfold Q4n at h
  rw [List.take_of_length_le (by omega)] at h
  exact few_len ((one_len ho).2 e he) (List.all_eq_true.1 h e he)
theorem all_few {x : Stm} (hf : fitB x = true) (h : FewS x) : AllX 65536 x := by
  obtain ⟨p1, p2, p3, p4, p5, p6, p7⟩ := Q7p hf
  obtain ⟨b1, b2, b3, b4, b5⟩ := bare_parts hf
  have hs : ∀ y ∈ x.sets, (toTr y.2).tk.length ≤ 65536 := by
    rcases b3 with q | q
    · have := p6 q
      unfold Q8z at this
      simp only [Bool.and_eq_true, decide_eq_true_eq] at this
      have h1 := h.sets
      rw [List.take_of_length_le (by omega)] at h1
      intro y hy
      have h2 := List.all_eq_true.1 this.1 y hy
      unfold Q6c at h2
      rw [Bool.and_eq_true] at h2
      exact few_len h2.2 (List.all_eq_true.1 h1 y hy)
    · rw [q]; exact fun y hy => by cases hy
  rcases b4 with q | ⟨q1, q2, q3, q4, _⟩
  · obtain ⟨s1, s2, s3, s4, s5⟩ := Q7q (p7 q)
    unfold Q5c at s1
    simp only [Bool.and_eq_true, decide_eq_true_eq] at s1
    have h1 := h.items
    rw [List.take_of_length_le (by omega)] at h1
    refine ⟨hs, fun y hy e he => ?_, X2k s2 h.on, X2k p3 h.wh, X2k (Q7o s3) h.gr, X2k (Q7o s4) h.or⟩
    have hi := List.all_eq_true.1 s1.1 y hy
    have hj := List.all_eq_true.1 h1 y hy
    rcases Q7n hi with ⟨_, ha⟩ | ⟨_, f, ha, hr⟩
    · rw [ha] at he; cases he
    · rw [ha] at he
      try dsimp only at hj
      unfold Q4n at hj
      rw [ha] at hj
      rw [List.mem_singleton.1 he]
      exact few_len hr (by simpa using hj)
  · exact ⟨hs, (fun y hy => by rw [q1] at hy; cases hy), (fun e he => by rw [q2] at he; cases he), X2k p3 h.wh, (fun e he => by rw [q3] at he; cases he), (fun e he => by rw [q4] at he; cases he)⟩
end Go.Print
namespace Go.Proofs.YtjdapkelojdefaaGreatDoor
open Go Go.V Go.Lex Go.Parse Go.Print
structure ScI (l : List Stm) : Prop where
  len : l.length ≤ 9223372036854775807
  lim : ∀ x ∈ l, LimX x
  sum : ∀ x ∈ l, x.items.length + x.on.length + x.gr.length + x.or.length ≤ 9223372036854775807
theorem scx_few {l : List Stm} (h : ScI l) (hf : ∀ x ∈ l.take 10, FewS x) : ScX l := by
  refine ⟨h.len, h.lim, h.sum, fun h8 x hx hfit => ?_⟩
  obtain ⟨a, b⟩ := st_len hfit (all_few hfit (hf x (by rw [List.take_of_length_le (by omega)]; exact hx)))
  exact ⟨by omega, by omega⟩
theorem cw_map {β : Type} {f : β → List AV} {Q : β → Prop} {es : List (List AV)} (h : ∀ x ∈ es, ∃ b, Q b ∧ CW x (f b)) : ∃ l : List β, l.length = es.length ∧ (∀ b ∈ l, Q b) ∧ AVw (.sl .any es) (.sl .any (l.map f)) := by
  have : ∃ l : List β, l.length = es.length ∧ (∀ b ∈ l, Q b) ∧ ∀ (i : Nat) (e e' : List AV), es[i]? = some e → (l.map f)[i]? = some e' → CW e e' := by
    induction es with
    | nil => exact ⟨[], rfl, fun e he => (by cases he), fun i e e' h1 => (by simp at h1)⟩
    | cons x r ih =>
      obtain ⟨l, h1, h2, h3⟩ := ih (fun y hy => h y (List.mem_cons_of_mem _ hy))
      obtain ⟨e, h4, h5⟩ := h x (List.mem_cons_self ..)
      refine ⟨e :: l, by simp [h1], fun f hf => ?_, fun i a b q1 q2 => ?_⟩
      · rcases List.mem_cons.1 hf with rfl | hf
        · exact h4
        · exact h2 f hf
      · rw [List.map_cons] at q2
        cases i with
        | zero => simp at q1 q2; subst q1 q2; exact h5
        | succ i => exact h3 i a b (by simpa using q1) (by simpa using q2)
  obtain ⟨l, h1, h2, h3⟩ := this
  exact ⟨l, h1, h2, AVw.els (by rw [zB, h1]) h3⟩
theorem Q6h {β : Type} {f : β → List AV} {Q : β → Prop} {t e : TypeId} {cs : List AV} (hu : Tryz.prog.underlying t = some (.slice e)) (h : AT Tryz.prog t cs) (hd : ∀ x, AT Tryz.prog e x → ∃ b, Q b ∧ CW x (f b)) :
    ∃ (l : List β) (y : AV), cs = [y] ∧ l.length ≤ reachBytes ∧ (∀ b ∈ l, Q b) ∧ AVw y (.sl .any (l.map f)) := by
  rcases AT.inv_slice hu h with rfl | ⟨es, rfl, h1, h2⟩
  · exact ⟨[], _, rfl, Nat.zero_le _, fun b hb => (by cases hb), AVw.any _ _⟩
  · obtain ⟨l, g1, g2, g3⟩ := cw_map (f := f) (Q := Q) (fun x hx => hd x (h2 x hx))
    exact ⟨l, _, rfl, by omega, g2, fun κ v hr => g3 κ v (AVw.any _ _ κ v hr)⟩
theorem cw_one {y x : AV} (h : AVw y x) : CW [y] [x] := ⟨rfl, fun i a b h1 h2 => by
  cases i with
  | zero => cases h1; cases h2; exact h
  | succ i => simp at h1⟩
theorem dec_col {cs : List AV} (h : AT Tryz.prog 132 cs) : ∃ c : Co, True ∧ CW cs (coA c) := by
  obtain ⟨hl, hf⟩ := AT.inv_struct Tryz.underlying132 h
  have c3 : Tryz.prog.cellsOf 3 = 1 := by kernel_rfl
  have c4 : Tryz.prog.cellsOf 4 = 1 := by kernel_rfl
  have c9 : Tryz.prog.cellsOf 9 = 1 := by kernel_rfl
  have c0 : Tryz.prog.cellsOf 132 = 4 := by kernel_rfl
  rw [c0] at hl
  simp only [List.forall_mem_cons, c3, c4, c9] at hf
  obtain ⟨f0, f1, f2, f3, _⟩ := hf
  match cs, hl with
  | [a, b, c, d], _ =>
    obtain ⟨s, hs, _⟩ := AT.inv_str Z9 f0
    obtain ⟨k, hk, _⟩ := AT.inv_int Z3 f1
    obtain ⟨u, hu⟩ := AT.inv_bool Tryz.underlying4 f2
    obtain ⟨w, hw⟩ := AT.inv_bool Tryz.underlying4 f3
    simp only [List.drop_zero, List.drop_succ_cons, List.take_succ_cons, List.take_zero, List.cons.injEq, and_true] at hs hk hu hw
    subst hs hk hu hw
    refine ⟨(s.data.toList, k, u, w), trivial, ?_⟩
    unfold coA
    dsimp only
    rw [X1p]
    exact ⟨rfl, fun i z z' g1 g2 => by rw [g1] at g2; cases g2; exact AVw.refl _⟩
theorem dec_vals {cs : List AV} (h : AT Tryz.prog 107 cs) : ∃ r : List Vl, (r.length ≤ reachBytes ∧ ∀ v ∈ r, inR v.2.1) ∧ CW cs (rowA r) := by
  obtain ⟨l, y, rfl, h1, h2, h3⟩ := Q6h (f := valA) (Q := fun v => inR v.2.1) Tryz.underlying107 h (fun x hx => by
    obtain ⟨k, n, s, rfl, r1, r2⟩ := dec_val hx
    refine ⟨(k, n, s.data.toList), r2, ?_⟩
    unfold valA
    dsimp only
    rw [X1p]
    exact ⟨rfl, fun i z z' g1 g2 => by rw [g1] at g2; cases g2; exact AVw.refl _⟩)
  exact ⟨l, ⟨h1, h2⟩, cw_one h3⟩
theorem dec_set {cs : List AV} (h : AT Tryz.prog 68 cs) : ∃ x : Se, Lim x.2 ∧ CW cs (setA x) := by
  obtain ⟨hl, hf⟩ := AT.inv_struct Tryz.underlying68 h
  have c9 : Tryz.prog.cellsOf 9 = 1 := by kernel_rfl
  have c27 : Tryz.prog.cellsOf tE = 8 := by kernel_rfl
  have c0 : Tryz.prog.cellsOf 68 = 9 := by kernel_rfl
  rw [c0] at hl
  simp only [List.forall_mem_cons, c9, c27] at hf
  obtain ⟨f0, f1, _⟩ := hf
  match cs, hl with
  | a :: r, hl =>
    obtain ⟨s, hs, _⟩ := AT.inv_str Z9 f0
    have f1 : AT Tryz.prog tE ((r.drop 0).take 8) := f1
    rw [List.drop_zero, List.take_of_length_le (by simp at hl; omega)] at f1
    obtain ⟨e, hE, hc⟩ := (X3b f1).1 rfl
    simp only [List.drop_zero, List.take_succ_cons, List.take_zero, List.cons.injEq, and_true] at hs
    subst hs
    refine ⟨(s.data.toList, e), hE, ?_⟩
    unfold setA
    dsimp only
    rw [X1p]
    refine ⟨by simp [hc.1], fun i z z' g1 g2 => ?_⟩
    cases i with
    | zero => cases g1; cases g2; exact AVw.refl _
    | succ i => exact hc.2 i z z' (by simpa using g1) (by simpa using g2)
theorem dec_item {cs : List AV} (h : AT Tryz.prog 71 cs) : ∃ x : It, LimL x.2 ∧ CW cs (Q2e x) := by
  obtain ⟨hl, hf⟩ := AT.inv_struct Tryz.underlying71 h
  have c3 : Tryz.prog.cellsOf 3 = 1 := by kernel_rfl
  have c28 : Tryz.prog.cellsOf tS = 1 := by kernel_rfl
  have c0 : Tryz.prog.cellsOf 71 = 2 := by kernel_rfl
  rw [c0] at hl
  simp only [List.forall_mem_cons, c3, c28] at hf
  obtain ⟨f0, f1, _⟩ := hf
  match cs, hl with
  | [a, b], hl =>
    obtain ⟨k, hk, _⟩ := AT.inv_int Z3 f0
    obtain ⟨l, y, hy, hll, hL, hw⟩ := (X3b f1).2 rfl
    simp only [List.drop_zero, List.drop_succ_cons, List.take_succ_cons, List.take_zero, List.cons.injEq, and_true] at hk hy
    subst hk hy
    refine ⟨(k, l), ⟨Nat.le_trans hll (by decide), hL⟩, rfl, fun i z z' g1 g2 => ?_⟩
    match i, g1, g2 with
    | 0, g1, g2 => cases g1; cases g2; exact AVw.refl _
    | 1, g1, g2 => cases g1; cases g2; exact hw
theorem reach_eq : reachBytes = 140737488351232 := rfl
theorem dec_stm {cs : List AV} (h : AT Tryz.prog 42 cs) : ∃ x : Stm, (LimX x ∧ x.items.length + x.on.length + x.gr.length + x.or.length ≤ 9223372036854775807) ∧ CW cs (stmA x) := by
  obtain ⟨hl, hf⟩ := AT.inv_struct Tryz.underlying42 h
  have c3 : Tryz.prog.cellsOf 3 = 1 := by kernel_rfl
  have c4 : Tryz.prog.cellsOf 4 = 1 := by kernel_rfl
  have c9 : Tryz.prog.cellsOf 9 = 1 := by kernel_rfl
  have c28 : Tryz.prog.cellsOf tS = 1 := by kernel_rfl
  have c37 : Tryz.prog.cellsOf 37 = 1 := by kernel_rfl
  have c38 : Tryz.prog.cellsOf 38 = 1 := by kernel_rfl
  have c39 : Tryz.prog.cellsOf 39 = 1 := by kernel_rfl
  have c40 : Tryz.prog.cellsOf 40 = 1 := by kernel_rfl
  have c0 : Tryz.prog.cellsOf 42 = 14 := by kernel_rfl
  rw [c0] at hl
  simp only [List.forall_mem_cons, c3, c4, c9, c28, c37, c38, c39, c40] at hf
  obtain ⟨f0, f1, f2, f3, f4, f5, f6, f7, f8, f9, f10, f11, f12, f13, _⟩ := hf
  match cs, hl with
  | [x0, x1, x2, x3, x4, x5, x6, x7, x8, x9, x10, x11, x12, x13], _ =>
    obtain ⟨k, e0, r0⟩ := AT.inv_int Z3 f0
    obtain ⟨t, e1, _⟩ := AT.inv_str Z9 f1
    obtain ⟨cols, y2, e2, l2, _, w2⟩ := Q6h (f := coA) (Q := fun _ => True) Tryz.underlying37 f2 (fun x hx => dec_col hx)
    obtain ⟨pk, e3, _⟩ := AT.inv_str Z9 f3
    obtain ⟨rows, y4, e4, l4, q4, w4⟩ := Q6h (f := rowA) (Q := fun r => r.length ≤ reachBytes ∧ ∀ v ∈ r, inR v.2.1) Tryz.underlying38 f4 (fun x hx => dec_vals hx)
    obtain ⟨sets, y5, e5, l5, q5, w5⟩ := Q6h (f := setA) (Q := fun x => Lim x.2) Tryz.underlying39 f5 (fun x hx => dec_set hx)
    obtain ⟨items, y6, e6, l6, q6, w6⟩ := Q6h (f := Q2e) (Q := fun x => LimL x.2) Tryz.underlying40 f6 (fun x hx => dec_item hx)
    obtain ⟨join, e7, _⟩ := AT.inv_str Z9 f7
    obtain ⟨on, y8, e8, l8, q8, w8⟩ := (X3b f8).2 rfl
    obtain ⟨wh, y9, e9, l9, q9, w9⟩ := (X3b f9).2 rfl
    obtain ⟨gr, y10, e10, l10, q10, w10⟩ := (X3b f10).2 rfl
    obtain ⟨or, y11, e11, l11, q11, w11⟩ := (X3b f11).2 rfl
    obtain ⟨desc, e12⟩ := AT.inv_bool Tryz.underlying4 f12
    obtain ⟨lim, e13, r13⟩ := AT.inv_int Z3 f13
    simp only [List.drop_zero, List.drop_succ_cons, List.take_succ_cons, List.take_zero, List.cons.injEq, and_true] at e0 e1 e2 e3 e4 e5 e6 e7 e8 e9 e10 e11 e12 e13
    subst e0 e1 e2 e3 e4 e5 e6 e7 e8 e9 e10 e11 e12 e13
    rw [reach_eq] at l2 l4 q4 l5 l6 l8 l9 l10 l11
    refine ⟨⟨k, t.data.toList, cols, pk.data.toList, rows, sets, items, join.data.toList, on, wh, gr, or, desc, lim⟩, ⟨⟨⟨X3a r0, X3a r13, by dsimp only; omega, by dsimp only; omega, fun r hr => by have := (q4 r hr).1; omega, by dsimp only; omega, q5, by dsimp only; omega, q6, ⟨by dsimp only; omega, q8⟩, ⟨by dsimp only; omega, q9⟩, ⟨by dsimp only; omega, q10⟩, ⟨by dsimp only; omega, q11⟩⟩, fun r hr => (q4 r hr).2⟩, by dsimp only; omega⟩, ?_⟩
    unfold stmA
    dsimp only
    simp only [X1p]
    refine ⟨rfl, fun i z z' g1 g2 => ?_⟩
    match i, g1, g2 with
    | 0, g1, g2 | 1, g1, g2 | 3, g1, g2 | 7, g1, g2 | 12, g1, g2 | 13, g1, g2 => cases g1; cases g2; exact AVw.refl _
    | 2, g1, g2 => cases g1; cases g2; exact w2
    | 4, g1, g2 => cases g1; cases g2; exact w4
    | 5, g1, g2 => cases g1; cases g2; exact w5
    | 6, g1, g2 => cases g1; cases g2; exact w6
    | 8, g1, g2 => cases g1; cases g2; exact w8
    | 9, g1, g2 => cases g1; cases g2; exact w9
    | 10, g1, g2 => cases g1; cases g2; exact w10
    | 11, g1, g2 => cases g1; cases g2; exact w11
theorem dec_stms {x : AV} (h : AT Tryz.prog 35 [x]) : ∃ l : List Stm, ScI l ∧ AVw x (.sl .any (l.map stmA)) := by
  obtain ⟨l, y, e, h1, h2, h3⟩ := Q6h (f := stmA) (Q := fun x => LimX x ∧ x.items.length + x.on.length + x.gr.length + x.or.length ≤ 9223372036854775807) Tryz.underlying35 h (fun x hx => dec_stm hx)
  cases e
  exact ⟨l, ⟨by rw [reach_eq] at h1; omega, fun x hx => (h2 x hx).1, fun x hx => (h2 x hx).2⟩, h3⟩
theorem law_scripts (l : List Stm) (hl : ScI l) (hD : ScX l → ∀ σ, VCalls Tryz.prog 16 [.sl .any (l.map stmA)] σ (fun x σ' => x = .tup [.s (bs (Q5v l).1), .i (Q5v l).2] ∧ σ' = σ)) (σ : Sg) :
    VCalls Tryz.prog 4 [.sl .any (l.map stmA)] σ (fun x σ' => x = .b true ∧ σ' = σ) := by
  have a1 : (l.map stmA).length = l.length := zB ..
  have a2 := Q1r (f := stmA) (n := 14) l (fun _ => rfl)
  have a3 := fun k (h : k < l.length) => Q1q (f := stmA) h
  have hll := hl.len
  generalize hLA : l.map stmA = L at *
  (refine vfun (fun _ => .no) Q0k Tryz.func4 (by kernel_rfl) ?_; simp only [Q0f, Tryz.f4, zw])
  (have zz := Bx.mk (j2 ui0 (j9 ui3 ui4 ui9 ui22 ui23 ui24 ui25 ui26 (j9 ui30 ui31 ui35 ui37 ui38 ui39 ui40 ui41 (j9 ui42 ui67 ui68 ui70 ui71 Q0t Q0u Q0v a1)))); (repeat' (first | exact zc | (with_reducible first | apply And.intro | apply Q0a | apply Q0b | refine Q0c (by decide +kernel) ?_ | intro _) | refine zaY zz.out ?_ | ((first | (with_reducible refine uc (z_small _) ?_) | ((with_reducible refine zS (Q7z _ (by assumption) _) ?_); rintro _ S ⟨b, hb, rfl, rfl⟩) | (refine Q0d (by exact zK) ?_) | (refine Q0e (by exact zK) ?_)); (try refine zsY zz.out ?_)) | refine zo ?_ | omega | refine ztY zz.out ?_ | fail)); try (all_goals clear zz))
  refine VW.loop3 (0 : Nat) () () (fun k _ _ => k ≤ l.length ∧ k ≤ 10 ∧ ∀ x ∈ l.take k, FewS x) (fun k _ _ => [(0, .sl .any L), (2, .b false), (3, .b true), (4, .i k)]) (fun _ _ _ => σ) (fun k _ _ => 10 - k) ⟨Nat.zero_le _, Nat.zero_le _, fun x hx => by simp at hx⟩ (.refl _) ?_ ?_
  · simp only [vO, vQ, ↓vP, vE, vS, vB, vL, vF, vM, vN, Q0i, zb, zd, ze, ne_eq, not_false_eq_true, zf, zg, zk, zl, vT]
    all_goals first | rfl | exact ⟨rfl, rfl⟩
  rintro k _ _ ⟨hk, hk10, hfw⟩
  by_cases hgo : k < l.length ∧ k < 10
  · obtain ⟨hk2, hk3⟩ := hgo
    have hg := a3 k hk2
    have hmem : l[k] ∈ l := List.getElem_mem hk2
    have hS := (hl.lim _ hmem).s
    have iS := Q7z l[k] hS
    have q1 := X4a l[k]
    have q2 := X4b l[k]
    have q3 := X2d l[k]
    have q4 := X2e l[k]
    have hnx : FewS l[k] → ∀ x ∈ l.take (k + 1), FewS x := fun hb x hx => by
      rw [List.take_succ_eq_append_getElem hk2] at hx
      rcases List.mem_append.1 hx with hx | hx
      · exact hfw x hx
      · rw [List.mem_singleton.1 hx]; exact hb
    generalize stmA l[k] = D at *
    clear hfw hD
    (have zz := Bx.mk (j8 ui0 ui3 ui4 ui9 ui22 ui23 ui24 (j9 ui25 ui26 ui30 ui31 ui35 ui37 ui38 ui39 (j9 ui40 ui41 ui42 ui67 ui68 ui70 ui71 Q0t (j9 Q0u Q0v a1 a2 hg q1 q2 q3 q4)))); (repeat' (first | exact zc | (with_reducible first | apply And.intro | apply Q0a | apply Q0b | refine Q0c (by decide +kernel) ?_ | intro _) | refine zaY zz.out ?_ | ((first | ((with_reducible refine zS (iS _) ?_); rintro _ S ⟨b, hb, rfl, rfl⟩) | (with_reducible refine uc (z_small _) ?_) | ((with_reducible refine zS (Q7z _ (by assumption) _) ?_); rintro _ S ⟨b, hb, rfl, rfl⟩) | (refine Q0d (by exact zK) ?_) | (refine Q0e (by exact zK) ?_)); (try refine zsY zz.out ?_)) | refine zo ?_ | omega | refine ztY zz.out ?_ | fail)); try (all_goals clear zz))
    all_goals first | exact ⟨_, .refl _, rfl⟩ | exact ⟨k + 1, (), (), ⟨⟨hk2, hk3, hnx (hb (by assumption))⟩, by omega⟩, .refl _, rfl⟩ | (exfalso; omega) | trace_state
  · have hfew : ∀ x ∈ l.take 10, FewS x := by
      rcases Nat.lt_or_ge k l.length with q | q
      · have : k = 10 := by omega
        rw [← this]; exact hfw
      · rw [List.take_of_length_le (by omega)] at hfw
        exact fun x hx => hfw x (List.mem_of_mem_take hx)
    have hkn : ¬ ((k : Int) < l.length ∧ (k : Int) < 10) := fun q => hgo ⟨by omega, by omega⟩
    have hX := scx_few hl hfew
    have k1 := fun S => w_Script l hX .any S
    have k2 := hD hX
    rw [hLA] at k1
    clear hfew hfw hX hD a3 a2 hl
    generalize (Q5v l).1 = T at *
    generalize (Q5v l).2 = c at *
    (have zz := Bx.mk (j2 ui0 (j9 ui3 ui4 ui9 ui22 ui23 ui24 ui25 ui26 (j9 ui30 ui31 ui35 ui37 ui38 ui39 ui40 ui41 (j9 ui42 ui67 ui68 ui70 ui71 Q0t Q0u Q0v a1)))); (repeat' (first | exact zc | (with_reducible first | apply And.intro | apply Q0a | apply Q0b | refine Q0c (by decide +kernel) ?_ | intro _) | refine zaY zz.out ?_ | ((first | (with_reducible refine uc (k1 _) ?_) | (with_reducible refine uc (k2 _) ?_) | (with_reducible refine uc (z_small _) ?_) | ((with_reducible refine zS (Q7z _ (by assumption) _) ?_); rintro _ S ⟨b, hb, rfl, rfl⟩) | (refine Q0d (by exact zK) ?_) | (refine Q0e (by exact zK) ?_)); (try refine zsY zz.out ?_)) | refine zo ?_ | omega | refine ztY zz.out ?_ | fail)); try (all_goals clear zz))
    all_goals first | (exact zE) | (exfalso; omega) | (exfalso; simp_all; done) | trace_state
theorem Q2l (m : Int) (B : Sg) (ω τ : Nat) (l : List Tk) (s : By) (h : Print.okS B ω τ) (hl : l.length < 2 ^ 40) : VCalls Tryz.prog 76 [.ref ω 0, .s (bs s)] (WB TW [.i m] B ω τ l) (fun x σ' => x = .tup [] ∧ ∃ τ', Print.okS B ω τ' ∧ σ' = WB TW [.i m] B ω τ' (l ++ [nT s])) := by
  obtain ⟨h1, h2⟩ := h
  have h2' := h2.symm
  rw [Q8c]
  have hlen := Q2p l
  have hall := Q3e l
  (refine vfun (fun _ => .no) Q0k Tryz.func76 (by kernel_rfl) ?_; simp only [Q0f, Tryz.f76, zw])
  (have zz := Bx.mk (j4 ui0 ui3 ui9 (j9 ui56 ui62 ui63 ui64 Q0q Q0r hlen hall @Q5q)); (repeat' (first | exact zc | (with_reducible first | apply And.intro | apply Q0a | apply Q0b | refine Q0c (by decide +kernel) ?_ | intro _) | ((with_reducible first | refine .dms (fun x => x = ω) [(0, false), (1, false), (2, false), (3, false), (4, false), (5, true), (6, false), (7, false), (8, true), (9, true), (10, true), (11, true)] (by decide) (by decide +kernel) ?_ | refine .dm (fun x => x = ω) [(0, false), (1, false), (2, false), (3, false), (4, false), (5, true), (6, false), (7, false), (8, true), (9, true), (10, true), (11, true)] (by decide) (by decide +kernel) ?_); (refine zsR zz.out ?_)) | refine zaR zz.out ?_ | refine zkK zz.out ?_ | ((first | (refine Q0l (by intro β h; first | (rcases h with h | h <;> subst h <;> (simp (disch := first | assumption | (apply zP; assumption; assumption) | (apply zQ; assumption; assumption; (intro e; cases e; done)) | omega) only [zn, zp, zq, zr, zv])) | (subst h; (simp (disch := first | assumption | (apply zP; assumption; assumption) | (apply zQ; assumption; assumption; (intro e; cases e; done)) | omega) only [zn, zp, zq, zr, zv]))) ?_) | (with_reducible refine uc (Q6x _ _) ?_) | (refine Q0d (by exact zK) ?_) | (refine Q0e (by exact zK) ?_)); (try refine zsR zz.out ?_)) | refine zmR zz.out ?_ | refine zo ?_ | omega | refine ztR zz.out ?_ | fail)); try (all_goals clear zz))
  all_goals first | (exact ⟨_, Q8k ‹B _ = none› (by assumption), _, ⟨‹B _ = none›, by assumption⟩, Q6r rfl⟩) | trace_state
theorem dw_words (m : Int) (B : Sg) (ω τ : Nat) (l : List Tk) (o : Own) (ws : List By) (es : List (List AV)) (he : es = strs ws) (h : Print.okS B ω τ) (hl : l.length + ws.length < 2 ^ 40) (hw : ∀ w ∈ ws, w ≠ []) : VCalls Tryz.prog 32 [.ref ω 0, .sl o es] (WB TW [.i m] B ω τ l) (fun x σ' => x = .tup [] ∧ ∃ τ', Print.okS B ω τ' ∧ σ' = WB TW [.i m] B ω τ' (l ++ wds ws)) := by
  subst he
  have hsl := Q6q ws
  (refine vfun (fun _ => .no) Q0k Tryz.func32 (by kernel_rfl) ?_; simp only [Q0f, Tryz.f32, zw])
  (have zz := Bx.mk (j5 ui0 ui3 ui4 ui5 (j9 ui9 ui56 ui62 ui63 ui64 ui75 Q0q Q0r hsl)); (repeat' (first | exact zc | (with_reducible first | apply And.intro | apply Q0a | apply Q0b | refine Q0c (by decide +kernel) ?_ | intro _) | refine zaY zz.out ?_ | ((first | (with_reducible refine uc (Q3v _ _) ?_) | (with_reducible refine uc (Q3m _ _) ?_) | (refine Q0d (by exact zK) ?_) | (refine Q0e (by exact zK) ?_)); (try refine zsY zz.out ?_)) | refine zo ?_ | omega | refine ztY zz.out ?_ | fail)); try (all_goals clear zz))
  refine VW.loop3 (0 : Nat) τ () (fun k τ' _ => k ≤ ws.length ∧ Print.okS B ω τ') (fun k _ _ => [(0, .ref ω 0), (1, .sl o (strs ws)), (4, .i k)]) (fun k τ' _ => WB TW [.i m] B ω τ' (l ++ wds (ws.take k))) (fun k _ _ => ws.length - k) ⟨Nat.zero_le _, h⟩ (by simp [wds]; exact .refl _) ?_ ?_
  · simp only [vO, vQ, ↓vP, vE, vS, vB, vL, vF, vM, vN, Q0i, zb, zd, ze, ne_eq, not_false_eq_true, zf, zg, zk, zl, vT]
    all_goals rfl
  rintro k τ' _ ⟨hk, h1, h2⟩
  have h2' := h2.symm
  rw [Q8c]
  rcases Nat.lt_or_ge k ws.length with hk2 | hk2
  · have hg := Q7u hk2
    have hwk : ws.getD k [] ≠ [] := hw _ (by simp [List.getD_eq_getElem?_getD, List.getElem?_eq_getElem hk2])
    have hwl : 0 < (ws.getD k []).length := List.length_pos_iff.2 hwk
    have hst := wds_step hk2
    have hwd : wd (ws.getD k []) = if 65 ≤ ((ws.getD k []).getD 0 0).toNat ∧ ((ws.getD k []).getD 0 0).toNat ≤ 90 then wT (ws.getD k []) else sT (ws.getD k []) := rfl
    generalize ws.getD k [] = w at *
    have hall := Q3e (l ++ wds (ws.take k))
    have hlen : (tksA (l ++ wds (ws.take k))).length = l.length + k := by rw [Q2p, zx]; simp [wds]; omega
    generalize hL : l ++ wds (ws.take k) = L at *
    (have zz := Bx.mk (j9 ui0 ui3 ui4 ui5 ui9 ui56 ui62 ui63 (j9 ui64 ui75 Q0q Q0r hsl hg hall hlen @Q5q)); (repeat' (first | exact zc | (with_reducible first | apply And.intro | apply Q0a | apply Q0b | refine Q0c (by decide +kernel) ?_ | intro _) | ((with_reducible first | refine .dms (fun x => x = ω) [(0, false), (1, false), (2, false), (3, false), (4, false), (5, false), (6, true), (7, true), (8, true), (9, false), (10, false), (11, true), (12, true), (13, true), (14, true)] (by decide) (by decide +kernel) ?_ | refine .dm (fun x => x = ω) [(0, false), (1, false), (2, false), (3, false), (4, false), (5, false), (6, true), (7, true), (8, true), (9, false), (10, false), (11, true), (12, true), (13, true), (14, true)] (by decide) (by decide +kernel) ?_); (refine zsR zz.out ?_)) | ((with_reducible first | refine .dms (fun x => x = ω) [(0, false), (1, false), (2, false), (3, false), (4, false), (5, false), (6, true), (7, true), (8, true), (9, false), (10, false), (11, true), (12, true), (13, true), (14, true)] (by decide) (by decide +kernel) ?_ | refine .dm (fun x => x = ω) [(0, false), (1, false), (2, false), (3, false), (4, false), (5, false), (6, true), (7, true), (8, true), (9, false), (10, false), (11, true), (12, true), (13, true), (14, true)] (by decide) (by decide +kernel) ?_); (refine zsR zz.out ?_)) | refine zaR zz.out ?_ | refine zkK zz.out ?_ | ((first | (refine Q0l (by intro β h; first | (rcases h with h | h <;> subst h <;> (simp (disch := first | assumption | (apply zP; assumption; assumption) | (apply zQ; assumption; assumption; (intro e; cases e; done)) | omega) only [zn, zp, zq, zr, zv])) | (subst h; (simp (disch := first | assumption | (apply zP; assumption; assumption) | (apply zQ; assumption; assumption; (intro e; cases e; done)) | omega) only [zn, zp, zq, zr, zv]))) ?_) | (with_reducible refine uc (Q3v _ _) ?_) | (with_reducible refine uc (Q3m _ _) ?_) | (refine Q0d (by exact zK) ?_) | (refine Q0e (by exact zK) ?_)); (try refine zsR zz.out ?_)) | refine zmR zz.out ?_ | refine zo ?_ | omega | refine ztR zz.out ?_ | fail)); try (all_goals clear zz))
    · rename_i τ2 q1 _ q2
      exact ⟨k + 1, τ2, (), ⟨⟨hk2, q1, q2⟩, by omega⟩, by rw [hst, ← List.append_assoc, hL, hwd, if_pos ⟨by omega, by omega⟩, ← Q6r (m := [wT w]) rfl]; exact Q8k q1 h1, rfl⟩
    all_goals rename_i τ2 q1 _ q2
    all_goals exact ⟨k + 1, τ2, (), ⟨⟨hk2, q1, q2⟩, by omega⟩, by rw [hst, ← List.append_assoc, hL, hwd, if_neg (by omega), ← Q6r (m := [sT w]) rfl]; exact Q8k q1 h1, rfl⟩
  · (have zz := Bx.mk (j5 ui0 ui3 ui4 ui5 (j9 ui9 ui56 ui62 ui63 ui64 ui75 Q0q Q0r hsl)); (repeat' (first | exact zc | (with_reducible first | apply And.intro | apply Q0a | apply Q0b | refine Q0c (by decide +kernel) ?_ | intro _) | refine zaY zz.out ?_ | ((first | (with_reducible refine uc (Q3v _ _) ?_) | (with_reducible refine uc (Q3m _ _) ?_) | (refine Q0d (by exact zK) ?_) | (refine Q0e (by exact zK) ?_)); (try refine zsY zz.out ?_)) | refine zo ?_ | omega | refine ztY zz.out ?_ | fail)); try (all_goals clear zz))
    rw [List.take_of_length_le hk2]
    all_goals exact ⟨_, .refl _, τ', ⟨h1, h2⟩, rfl⟩
theorem Q0s (m : Int) (B : Sg) (ω τ : Nat) (l : List Tk) (o : Own) (es : List (List AV)) (he : okW es) (h : Print.okS B ω τ) (hl : l.length + es.length < 2 ^ 40) : VCalls Tryz.prog 32 [.ref ω 0, .sl o es] (WB TW [.i m] B ω τ l) (fun x σ' => x = .tup [] ∧ ∃ τ', Print.okS B ω τ' ∧ σ' = WB TW [.i m] B ω τ' (l ++ wdsE es)) := by
  obtain ⟨ws, rfl, hw⟩ := he
  rw [Q6q] at hl
  rw [wdsE_strs]
  exact dw_words m B ω τ l o ws _ rfl h hl hw
theorem Q3z {B : Sg} {ω τ : Nat} {l l' : List Tk} {m m' : Int} (h1 : l = l') (h3 : m = m') : WB TW [.i m] B ω τ l = WB TW [.i m'] B ω τ l' := by rw [h1, h3]
def mxi (a : Int) (b : Nat) : Int := max a (b : Int)
theorem mxi_0 {m : Int} (h : 0 ≤ m) : mxi m 0 = m := by unfold mxi; omega
theorem mxi_if (m : Int) (D : Nat) : (if m < (D : Int) then (D : Int) else m) = mxi m D := by unfold mxi; split <;> omega
theorem mxi_ge {m : Int} (h : 0 ≤ m) (D : Nat) : 0 ≤ mxi m D := by unfold mxi; omega
theorem Q9a (m : Int) (a b : Nat) : mxi (mxi m a) b = mxi m (max a b) := by unfold mxi; omega
def Df (ω : Nat) (f : FuncId) (va : List AV) (tk : List Tk) (dp : Nat) : Prop := ∀ (B : Sg) (τ : Nat) (l : List Tk) (m : Int), Print.okS B ω τ → 0 ≤ m → l.length + tk.length ≤ 2 ^ 36 →
  VCalls Tryz.prog f va (WB TW [.i m] B ω τ l) (fun x σ' => x = .tup [] ∧ ∃ τ', Print.okS B ω τ' ∧ σ' = WB TW [.i (mxi m dp)] B ω τ' (l ++ tk))
theorem Q5l (ω : Nat) (x : List Ex) (hx : oneB x = true) (hL : ∀ e ∈ x, Lim e) (o o2 : Own) (es : List (List AV)) (he : okW es) : Df ω 24 [.ref ω 0, .sl o2 es, .sl o (exsA x)] (expW es x) (expD x) := by
  intro B τ l m h h0 h4
  cases x with
  | nil =>
    rw [Q1h]
    have hz0 : (((0 : Nat) : Int) = 0) = True := by simp
    (refine vfun (fun _ => .no) Q0k Tryz.func24 (by kernel_rfl) ?_; simp only [Q0f, Tryz.f24, zw])
    (have zz := Bx.mk (j2 ui0 (j9 ui3 ui4 ui9 ui22 ui23 ui24 ui25 ui26 (j9 ui56 ui62 ui63 ui64 ui75 ui94 Q0q Q0r hz0))); (repeat' (first | exact zc | (with_reducible first | apply And.intro | apply Q0a | apply Q0b | refine Q0c (by decide +kernel) ?_ | intro _) | refine zaY zz.out ?_ | ((first | ((with_reducible refine zS (Q0s _ _ _ _ _ _ _ (by repeat (first | exact Q0j | refine Q0g ?_ (by simp))) (by exact zO) (by exact zN)) ?_); rintro _ S ⟨rfl, τ1, ⟨f1, n1⟩, rfl⟩; have n1s := n1.symm) | (refine Q0d (by exact zK) ?_) | (refine Q0e (by exact zK) ?_)); (try refine zsY zz.out ?_)) | refine zo ?_ | omega | refine ztY zz.out ?_ | fail)); try (all_goals clear zz))
    all_goals first | exact ⟨_, .refl _, τ, h, Q3z (by simp [expW]) (mxi_0 h0).symm⟩ | (exfalso; omega)
  | cons e r =>
    obtain ⟨g1, g2⟩ : (e :: r).length ≤ 1 ∧ rts (e :: r) = true := by
      unfold oneB at hx; simpa only [Bool.and_eq_true, decide_eq_true_eq] using hx
    have hr : r = [] := by cases r with | nil => rfl | cons => simp at g1
    subst hr
    have g2 : rt e = true := by rw [Q3b] at g2; exact (Bool.and_eq_true _ _ ▸ g2).1
    obtain ⟨q1, q2⟩ := Q7j e g2
    have ew : expW es [e] = wdsE es ++ (toTr e).tk := rfl
    have ed : expD [e] = (toTr e).dp := rfl
    have ewl : (wdsE es).length = es.length := zB ..
    rw [ew] at h4 ⊢
    rw [ed]
    rw [zx] at h4
    have hX := Q6y (toTr e) q2 (Q9k (toTr e) (by rw [q1]; exact hL e (by simp))) (by omega)
    unfold NewD at hX
    rw [q1] at hX
    have hel := Q1a e
    have het := Q1b e
    have hed := Q2q e
    have heo := Q3r e
    rw [Q1j, Q1h]
    have hl0 := Q2p (toTr e).tk
    have hall := Q3e (toTr e).tk
    generalize (toTr e).tk = TT at *
    generalize (toTr e).dp = D at *
    generalize exA e = E at *
    (refine vfun (fun _ => .no) Q0k Tryz.func24 (by kernel_rfl) ?_; simp only [Q0f, Tryz.f24, zw])
    (have zz := Bx.mk (j7 ui0 ui3 ui4 ui9 ui22 ui23 (j9 ui24 ui25 ui26 ui56 ui62 ui63 ui64 ui75 (j9 ui94 Q0q Q0r @Q1t @Q1u @Q1n @Q1o @Q1v (j9 @Q1w hel het hed heo ewl hl0 hall WLg)))); (repeat' (first | exact zc | (with_reducible first | apply And.intro | apply Q0a | apply Q0b | refine Q0c (by decide +kernel) ?_ | intro _) | refine zaR zz.out ?_ | refine zkK zz.out ?_ | ((first | (refine Q0l (by intro β h; first | (rcases h with h | h <;> subst h <;> (simp (disch := first | assumption | (apply zP; assumption; assumption) | (apply zQ; assumption; assumption; (intro e; cases e; done)) | omega) only [zn, zp, zq, zr, zv])) | (subst h; (simp (disch := first | assumption | (apply zP; assumption; assumption) | (apply zQ; assumption; assumption; (intro e; cases e; done)) | omega) only [zn, zp, zq, zr, zv]))) ?_) | ((with_reducible refine zS (Q0s _ _ _ _ _ _ _ he (by exact zO) (by exact zN)) ?_); rintro _ S ⟨rfl, τ1, ⟨f1, n1⟩, rfl⟩; have n1s := n1.symm) | ((with_reducible refine VCalls.fr (hX _) ?_)) | ((with_reducible refine zS (Q0s _ _ _ _ _ _ _ (by repeat (first | exact Q0j | refine Q0g ?_ (by simp))) (by exact zO) (by exact zN)) ?_); rintro _ S ⟨rfl, τ1, ⟨f1, n1⟩, rfl⟩; have n1s := n1.symm) | (refine Q0d (by exact zK) ?_) | (refine Q0e (by exact zK) ?_)); (try refine zsR zz.out ?_)) | refine zmR zz.out ?_ | refine zo ?_ | omega | refine ztR zz.out ?_ | fail)); try (all_goals clear zz))
    rename_i τ2 q1 q2 q3 q4
    refine ⟨WB TW [.i (mxi m D)] B ω τ2 (l ++ (wdsE es ++ TT)), ?_, τ2, ⟨q1, q3⟩, rfl⟩
    have e : tksA (l ++ wdsE es) ++ tksA TT = tksA (l ++ (wdsE es ++ TT)) := by simp only [X1c, List.append_assoc]
    rw [mxi_if, e, Q8c, Q8c]
    clear h hX hL hx e
    generalize tksA (l ++ (wdsE es ++ TT)) = T9 at *
    generalize tksA (l ++ wdsE es) = T8 at *
    intro y p hy
    simp only [Sg.set_apply, Sg.del_apply] at hy ⊢
    grind
theorem Q2i (ω : Nat) (i : Nat) (B : Sg) (τ : Nat) (l : List Tk) (m : Int) (h : Print.okS B ω τ) (h4 : l.length + 1 ≤ 2 ^ 36) : VCalls Tryz.prog 78 [.ref ω 0, .i i] (WB TW [.i m] B ω τ l) (fun x σ' => x = .tup [] ∧ ∃ τ', Print.okS B ω τ' ∧ σ' = WB TW [.i m] B ω τ' (l ++ (if i = 0 then [] else [wd [44]]))) := by
  by_cases hi : i = 0
  · rw [if_pos hi]
    (refine vfun (fun _ => .no) Q0k Tryz.func78 (by kernel_rfl) ?_; simp only [Q0f, Tryz.f78, zw])
    (have zz := Bx.mk (j3 ui0 ui3 (j9 ui4 ui9 ui56 ui62 ui63 ui64 ui75 Q0q Q0r)); (repeat' (first | exact zc | (with_reducible first | apply And.intro | apply Q0a | apply Q0b | refine Q0c (by decide +kernel) ?_ | intro _) | refine zaY zz.out ?_ | ((first | ((with_reducible refine zS (Q0s _ _ _ _ _ _ _ (by repeat (first | exact Q0j | refine Q0g ?_ (by simp))) (by exact zO) (by exact zN)) ?_); rintro _ S ⟨rfl, τ1, ⟨f1, n1⟩, rfl⟩; have n1s := n1.symm) | (refine Q0d (by exact zK) ?_) | (refine Q0e (by exact zK) ?_)); (try refine zsY zz.out ?_)) | refine zo ?_ | omega | refine ztY zz.out ?_ | fail)); try (all_goals clear zz))
    all_goals first | exact ⟨_, .refl _, τ, h, Q3z (by simp) rfl⟩ | (exfalso; omega)
  · rw [if_neg hi]
    (refine vfun (fun _ => .no) Q0k Tryz.func78 (by kernel_rfl) ?_; simp only [Q0f, Tryz.f78, zw])
    (have zz := Bx.mk (j4 ui0 ui3 ui4 (j9 ui9 ui56 ui62 ui63 ui64 ui75 Q0q Q0r WLg)); (repeat' (first | exact zc | (with_reducible first | apply And.intro | apply Q0a | apply Q0b | refine Q0c (by decide +kernel) ?_ | intro _) | refine zaY zz.out ?_ | ((first | ((with_reducible refine zS (Q0s _ _ _ _ _ _ _ (by repeat (first | exact Q0j | refine Q0g ?_ (by simp))) (by exact zO) (by exact zN)) ?_); rintro _ S ⟨rfl, τ1, ⟨f1, n1⟩, rfl⟩; have n1s := n1.symm) | (refine Q0d (by exact zK) ?_) | (refine Q0e (by exact zK) ?_)); (try refine zsY zz.out ?_)) | refine zo ?_ | omega | refine ztY zz.out ?_ | fail)); try (all_goals clear zz))
    all_goals first | exact ⟨_, .refl _, τ1, ⟨f1, n1⟩, Q3z rfl rfl⟩ | (exfalso; omega)
def X4e (x : Stm) : List Tk := wd [40] :: ((x.cols.map colT).flatten ++ (wds [[80, 82, 73, 77, 65, 82, 89], [75, 69, 89], [40]] ++ (nT x.pk :: wds [[41], [41]])))
theorem zD {p : Prop} (h : p := by first | assumption | (repeat' (first | assumption | refine mxi_ge ?_ _)) | fail) : p := h
theorem df_create (ω : Nat) (x : Stm) (hb : Q9n x.cols = true) :
    Df ω 77 [.ref ω 0, .agg (stmA x)] (X4e x) 0 := by
  obtain ⟨g1, g2⟩ : x.cols.all Q7m = true ∧ (1 ≤ x.cols.length ∧ x.cols.length ≤ 8) := by
    unfold Q9n at hb; simpa only [Bool.and_eq_true, decide_eq_true_eq] using hb
  intro B τ l m h h0 h4
  rw [mxi_0 h0]
  have a1 : (x.cols.map coA).length = x.cols.length := zB ..
  have a2 := Q1r (f := coA) (n := 4) x.cols (fun _ => rfl)
  have a3 := fun k (h : k < x.cols.length) => Q1q (f := coA) h
  have b4 : X4e x = wd [40] :: ((x.cols.map colT).flatten ++ (wds [[80, 82, 73, 77, 65, 82, 89], [75, 69, 89], [40]] ++ (nT x.pk :: wds [[41], [41]]))) := rfl
  have hcl := X1g x.cols
  rw [b4] at h4 ⊢
  simp only [zx, zy, zA, Q1k] at h4
  clear b4 hb g1
  unfold stmA
  generalize x.cols.map coA = L5 at *
  obtain ⟨C, hC⟩ : ∃ C : List AV, C = [.i x.k, .s (bs x.t), .sl .any L5, .s (bs x.pk), .sl .any (x.rows.map rowA), .sl .any (x.sets.map setA), .sl .any (x.items.map Q2e), .s (bs x.join), .sl .any (exsA x.on), .sl .any (exsA x.wh), .sl .any (exsA x.gr), .sl .any (exsA x.or), .b x.desc, .i x.lim] := ⟨_, rfl⟩
  (refine vfun (fun i => if i = 3 then .ro else .no) Q0k Tryz.func77 (by kernel_rfl) ?_; simp only [Q0f, Tryz.f77, zw])
  (have zz := Bx.mk (j7 ui0 ui3 ui4 ui9 ui22 ui23 (j9 ui24 ui25 ui26 ui37 ui38 ui39 ui40 ui41 (j9 ui42 ui56 ui62 ui63 ui64 ui67 ui68 ui70 (j9 ui71 ui75 Q0q Q0r Q0t Q0u Q0v a1 WLg)))); (repeat' (first | exact zc | (with_reducible first | apply And.intro | apply Q0a | apply Q0b | refine Q0c (by decide +kernel) ?_ | intro _) | refine zaY zz.out ?_ | ((first | ((with_reducible refine zS (Q0s _ _ _ _ _ _ _ (by repeat (first | exact Q0j | refine Q0g ?_ (by simp))) (by exact zO) (by exact zN)) ?_); rintro _ S ⟨rfl, τ1, ⟨f1, n1⟩, rfl⟩; have n1s := n1.symm) | ((with_reducible refine zS (Q2l _ _ _ _ _ _ (by exact zO) (by exact zN)) ?_); rintro _ S ⟨rfl, τ1, ⟨f1, n1⟩, rfl⟩; have n1s := n1.symm) | (refine Q0d (by exact zK) ?_) | (refine Q0e (by exact zK) ?_)); (try refine zsY zz.out ?_)) | refine zo ?_ | omega | refine ztY zz.out ?_ | fail)); try (all_goals clear zz))
  refine VW.loop3 (0 : Nat) τ1 () (fun k τ' _ => k ≤ x.cols.length ∧ Print.okS B ω τ') (fun k _ _ => [(0, .ref ω 0), (3, .ro C), (4, .i k)]) (fun k τ' _ => WB TW [.i m] B ω τ' (l ++ [wd [40]] ++ ((x.cols.take k).map colT).flatten)) (fun k _ _ => x.cols.length - k) ⟨Nat.zero_le _, ⟨by assumption, by assumption⟩⟩ (Q4f (Q3z (by simp [wds]) rfl)) ?_ ?_
  · subst hC
    simp only [vO, vQ, ↓vP, vE, vS, vB, vL, vF, vM, vN, Q0i, zb, zd, ze, ne_eq, not_false_eq_true, zf, zg, zk, zl, vT]
    all_goals first | rfl | exact ⟨rfl, rfl⟩ | trace_state
  clear f1 n1 n1s
  rintro k τ' _ ⟨hk, f1, n1⟩
  have n1s := n1.symm
  have hck := hcl k
  generalize hA : l ++ [wd [40]] ++ ((x.cols.take k).map colT).flatten = A at *
  rcases Nat.lt_or_ge k x.cols.length with hk2 | hk2
  · have hg := a3 k hk2
    have hg2 : coA x.cols[k] = [.s (bs x.cols[k].1), .i x.cols[k].2.1, .b x.cols[k].2.2.1, .b x.cols[k].2.2.2] := rfl
    rw [hg2] at hg
    have hst := X2j hk2
    have hct : colT x.cols[k] = nT x.cols[k].1 :: wd (if x.cols[k].2.1 = 1 then [73, 78, 84] else [84, 69, 88, 84]) :: ((if x.cols[k].2.2.1 = true then wds [[78, 79, 84], [78, 85, 76, 76]] else []) ++ ((if x.cols[k].2.2.2 = true then wds [[85, 78, 73, 81, 85, 69]] else []) ++ [wd [44]])) := rfl
    rw [hct] at hst
    have hAl : A.length ≤ 2 ^ 36 + 100 := by rw [← hA]; simp only [zx, zy, zA, Q1k]; omega
    clear hg2 hct a3 hcl
    generalize x.cols[k].1 = va at *
    generalize x.cols[k].2.1 = vb at *
    generalize x.cols[k].2.2.1 = vc at *
    generalize x.cols[k].2.2.2 = vd at *
    subst hC
    (have zz := Bx.mk (j9 ui0 ui3 ui4 ui9 ui22 ui23 ui24 ui25 (j9 ui26 ui37 ui38 ui39 ui40 ui41 ui42 ui56 (j9 ui62 ui63 ui64 ui67 ui68 ui70 ui71 ui75 (j9 Q0q Q0r Q0t Q0u Q0v a1 a2 hg WLg)))); (repeat' (first | exact zc | (with_reducible first | apply And.intro | apply Q0a | apply Q0b | refine Q0c (by decide +kernel) ?_ | intro _) | refine zaY zz.out ?_ | ((first | (with_reducible first | refine Q5x ?_ | refine Q4c (fun β hβ => ?_)) | (rw [wb_set (by assumption) (by assumption)]) | ((with_reducible refine zS (Q2l _ _ _ _ _ _ ⟨Sg.set_none (by assumption) (by first | assumption | (apply Ne.symm; assumption)), by assumption⟩ (by exact zN)) ?_); rintro _ S ⟨rfl, τ1, ⟨f2, n1⟩, rfl⟩; have n1s := n1.symm; obtain ⟨nb, f1⟩ := Sg.none_set f2; have nbs := nb.symm) | ((with_reducible refine zS (Q0s _ _ _ _ _ _ _ (by repeat (first | exact Q0j | refine Q0g ?_ (by simp))) ⟨Sg.set_none (by assumption) (by first | assumption | (apply Ne.symm; assumption)), by assumption⟩ (by exact zN)) ?_); rintro _ S ⟨rfl, τ1, ⟨f2, n1⟩, rfl⟩; have n1s := n1.symm; obtain ⟨nb, f1⟩ := Sg.none_set f2; have nbs := nb.symm) | ((with_reducible refine zS (Q0s _ _ _ _ _ _ _ (by repeat (first | exact Q0j | refine Q0g ?_ (by simp))) (by exact zO) (by exact zN)) ?_); rintro _ S ⟨rfl, τ1, ⟨f1, n1⟩, rfl⟩; have n1s := n1.symm) | ((with_reducible refine zS (Q2l _ _ _ _ _ _ (by exact zO) (by exact zN)) ?_); rintro _ S ⟨rfl, τ1, ⟨f1, n1⟩, rfl⟩; have n1s := n1.symm) | (refine Q0d (by exact zK) ?_) | (refine Q0e (by exact zK) ?_)); (try refine zsY zz.out ?_)) | refine zo ?_ | omega | refine ztY zz.out ?_ | fail)); try (all_goals clear zz))
    all_goals first | exact ⟨k + 1, τ1, (), ⟨⟨hk2, f1, n1⟩, by omega⟩, (Q4f (Q3z (by rw [hst, ← hA]; (first | rw [if_pos (show vb = 1 by assumption)] | rw [if_neg (show ¬ vb = 1 by assumption)]); (first | rw [if_pos (show vc = true by assumption)] | rw [if_neg (show ¬ vc = true by assumption)]); (first | rw [if_pos (show vd = true by assumption)] | rw [if_neg (show ¬ vd = true by assumption)]); simp [wds]) rfl)).trans (wb_sub hβ), rfl⟩ | trace_state
  · subst hC
    rw [List.take_of_length_le hk2] at hA
    have hAl : A.length ≤ l.length + 1 + ((x.cols.map colT).flatten).length := by rw [← hA]; simp only [zx, zy, zA, Q1k]; omega
    (have zz := Bx.mk (j7 ui0 ui3 ui4 ui9 ui22 ui23 (j9 ui24 ui25 ui26 ui37 ui38 ui39 ui40 ui41 (j9 ui42 ui56 ui62 ui63 ui64 ui67 ui68 ui70 (j9 ui71 ui75 Q0q Q0r Q0t Q0u Q0v a1 WLg)))); (repeat' (first | exact zc | (with_reducible first | apply And.intro | apply Q0a | apply Q0b | refine Q0c (by decide +kernel) ?_ | intro _) | refine zaY zz.out ?_ | ((first | ((with_reducible refine zS (Q0s _ _ _ _ _ _ _ (by repeat (first | exact Q0j | refine Q0g ?_ (by simp))) (by exact zO) (by exact zN)) ?_); rintro _ S ⟨rfl, τ1, ⟨f1, n1⟩, rfl⟩; have n1s := n1.symm) | ((with_reducible refine zS (Q2l _ _ _ _ _ _ (by exact zO) (by exact zN)) ?_); rintro _ S ⟨rfl, τ1, ⟨f1, n1⟩, rfl⟩; have n1s := n1.symm) | (refine Q0d (by exact zK) ?_) | (refine Q0e (by exact zK) ?_)); (try refine zsY zz.out ?_)) | refine zo ?_ | omega | refine ztY zz.out ?_ | fail)); try (all_goals clear zz))
    all_goals first | exact ⟨_, .refl _, τ1, ⟨f1, n1⟩, Q3z (by rw [← hA]; simp [wds]) rfl⟩ | trace_state
theorem df_item (ω : Nat) (x : It) (hx : Q3c x = true) (hL : ∀ e ∈ x.2, Lim e) : Df ω 127 [.ref ω 0, .agg (Q2e x)] (Q2t x) (expD x.2) := by
  obtain ⟨k, a⟩ := x
  unfold Q2e
  rcases Q7n hx with ⟨hk, ha⟩ | ⟨hk, e, ha, hr⟩
  · dsimp only at hk ha hL ⊢
    subst ha
    rw [Q1h]
    rcases hk with rfl | rfl
    · intro B τ l m h h0 h4
      have e1 : Q2t (1, []) = wds [[42]] := rfl
      have e2 : expD [] = 0 := rfl
      rw [e1, e2, mxi_0 h0] at *
      (refine vfun (fun i => if i = 3 then .ro else .no) Q0k Tryz.func127 (by kernel_rfl) ?_; simp only [Q0f, Tryz.f127, zw])
      (have zz := Bx.mk (j3 ui0 ui3 (j9 ui4 ui9 ui22 ui23 ui24 ui25 ui26 ui56 (j9 ui62 ui63 ui64 ui70 ui71 ui75 Q0q Q0r WLg))); (repeat' (first | exact zc | (with_reducible first | apply And.intro | apply Q0a | apply Q0b | refine Q0c (by decide +kernel) ?_ | intro _) | refine zaY zz.out ?_ | ((first | ((with_reducible refine zS (Q0s _ _ _ _ _ _ _ (by repeat (first | exact Q0j | refine Q0g ?_ (by simp))) (by exact zO) (by exact zN)) ?_); rintro _ S ⟨rfl, τ1, ⟨f1, n1⟩, rfl⟩; have n1s := n1.symm) | (refine Q0d (by exact zK) ?_) | (refine Q0e (by exact zK) ?_)); (try refine zsY zz.out ?_)) | refine zo ?_ | omega | refine ztY zz.out ?_ | fail)); try (all_goals clear zz))
      all_goals exact ⟨_, .refl _, τ1, ⟨f1, n1⟩, rfl⟩
    · intro B τ l m h h0 h4
      have e1 : Q2t (3, []) = wds [[67, 79, 85, 78, 84], [40], [42], [41]] := rfl
      have e2 : expD [] = 0 := rfl
      rw [e1, e2, mxi_0 h0] at *
      (refine vfun (fun i => if i = 3 then .ro else .no) Q0k Tryz.func127 (by kernel_rfl) ?_; simp only [Q0f, Tryz.f127, zw])
      (have zz := Bx.mk (j3 ui0 ui3 (j9 ui4 ui9 ui22 ui23 ui24 ui25 ui26 ui56 (j9 ui62 ui63 ui64 ui70 ui71 ui75 Q0q Q0r WLg))); (repeat' (first | exact zc | (with_reducible first | apply And.intro | apply Q0a | apply Q0b | refine Q0c (by decide +kernel) ?_ | intro _) | refine zaY zz.out ?_ | ((first | ((with_reducible refine zS (Q0s _ _ _ _ _ _ _ (by repeat (first | exact Q0j | refine Q0g ?_ (by simp))) (by exact zO) (by exact zN)) ?_); rintro _ S ⟨rfl, τ1, ⟨f1, n1⟩, rfl⟩; have n1s := n1.symm) | (refine Q0d (by exact zK) ?_) | (refine Q0e (by exact zK) ?_)); (try refine zsY zz.out ?_)) | refine zo ?_ | omega | refine ztY zz.out ?_ | fail)); try (all_goals clear zz))
      all_goals exact ⟨_, .refl _, τ1, ⟨f1, n1⟩, rfl⟩
  · dsimp only at hk ha hL ⊢
    subst ha
    have ho : oneB [e] = true := by unfold oneB; rw [Q3b, hr]; rfl
    have hE := Q5l ω [e] ho hL .any
    have e2 : Q2t (k, [e]) = if k = 2 then (toTr e).tk else wds [(if k = 4 then [67, 79, 85, 78, 84] else if k = 5 then [83, 85, 77] else if k = 6 then [77, 73, 78] else [77, 65, 88]), [40]] ++ (toTr e).tk ++ [wd [41]] := by
      rcases hk with rfl | rfl | rfl | rfl | rfl <;> rfl
    have ew : ∀ es, expW es [e] = wdsE es ++ (toTr e).tk := fun _ => rfl
    rw [e2]
    simp only [ew] at hE
    clear e2 hL hr hx ho ew
    generalize (toTr e).tk = TT at *
    generalize expD [e] = D at *
    generalize exsA [e] = E at *
    rcases hk with rfl | hk
    · simp only [if_true]
      intro B τ l m h h0 h4
      have hE := fun B => hE .nil [] Q0j B
      rw [show wdsE [] = [] from rfl, zG] at hE
      (refine vfun (fun i => if i = 3 then .ro else .no) Q0k Tryz.func127 (by kernel_rfl) ?_; simp only [Q0f, Tryz.f127, zw])
      (have zz := Bx.mk (j3 ui0 ui3 (j9 ui4 ui9 ui22 ui23 ui24 ui25 ui26 ui56 (j9 ui62 ui63 ui64 ui70 ui71 ui75 Q0q Q0r WLg))); (repeat' (first | exact zc | (with_reducible first | apply And.intro | apply Q0a | apply Q0b | refine Q0c (by decide +kernel) ?_ | intro _) | refine zaY zz.out ?_ | ((first | ((with_reducible refine zS (hE _ _ _ _ (by exact zO) (by exact zD) (by exact zN)) ?_); rintro _ S ⟨rfl, τ1, ⟨f1, n1⟩, rfl⟩; have n1s := n1.symm) | ((with_reducible refine zS (Q0s _ _ _ _ _ _ _ (by repeat (first | exact Q0j | refine Q0g ?_ (by simp))) (by exact zO) (by exact zN)) ?_); rintro _ S ⟨rfl, τ1, ⟨f1, n1⟩, rfl⟩; have n1s := n1.symm) | (refine Q0d (by exact zK) ?_) | (refine Q0e (by exact zK) ?_)); (try refine zsY zz.out ?_)) | refine zo ?_ | omega | refine ztY zz.out ?_ | fail)); try (all_goals clear zz))
      all_goals exact ⟨_, .refl _, τ1, ⟨f1, n1⟩, rfl⟩
    · have s4 : (4 : Int) - 4 = 0 := rfl
      have s5 : (5 : Int) - 4 = 1 := rfl
      have s6 : (6 : Int) - 4 = 2 := rfl
      have s7 : (7 : Int) - 4 = 3 := rfl
      have hE2 := fun w (hw : w ≠ []) B => hE .full [[.s (bs w)], [.s (bs [40])]] (Q0g (Q0g Q0j (by simp)) hw) B
      simp only [Q3d, Q4q, List.cons_append, zG] at hE2
      clear hE
      rcases hk with rfl | rfl | rfl | rfl <;> simp only [Int.reduceEq, if_true, if_false]
      all_goals
        intro B τ l m h h0 h4
        rw [zx, zx, Q1k] at h4
        simp only [zy, zA] at h4
        (refine vfun (fun i => if i = 3 then .ro else .no) Q0k Tryz.func127 (by kernel_rfl) ?_; simp only [Q0f, Tryz.f127, zw])
        (have zz := Bx.mk (j7 ui0 ui3 ui4 ui9 ui22 ui23 (j9 ui24 ui25 ui26 ui56 ui62 ui63 ui64 ui70 (j9 ui71 ui75 Q0q Q0r s4 s5 s6 s7 WLg))); (repeat' (first | exact zc | (with_reducible first | apply And.intro | apply Q0a | apply Q0b | refine Q0c (by decide +kernel) ?_ | intro _) | ((with_reducible first | refine .dms (fun x => False) [(0, false), (1, false), (2, false), (3, false), (4, false), (5, false), (6, false), (7, false), (8, true), (9, false), (10, true)] (by decide) (by decide +kernel) ?_ | refine .dm (fun x => False) [(0, false), (1, false), (2, false), (3, false), (4, false), (5, false), (6, false), (7, false), (8, true), (9, false), (10, true)] (by decide) (by decide +kernel) ?_); (refine zsR zz.out ?_)) | refine zaR zz.out ?_ | refine zkN zz.out ?_ | ((first | (refine Q0l (by intro β h; first | (rcases h with h | h <;> subst h <;> (simp (disch := first | assumption | (apply zP; assumption; assumption) | (apply zQ; assumption; assumption; (intro e; cases e; done)) | omega) only [zn, zp, zq, zr, zv])) | (subst h; (simp (disch := first | assumption | (apply zP; assumption; assumption) | (apply zQ; assumption; assumption; (intro e; cases e; done)) | omega) only [zn, zp, zq, zr, zv]))) ?_) | ((with_reducible refine zS (hE2 _ (by simp) _ _ _ _ (by exact zO) (by exact zD) (by exact zN)) ?_); rintro _ S ⟨rfl, τ1, ⟨f1, n1⟩, rfl⟩; have n1s := n1.symm) | ((with_reducible refine zS (Q0s _ _ _ _ _ _ _ (by repeat (first | exact Q0j | refine Q0g ?_ (by simp))) (by exact zO) (by exact zN)) ?_); rintro _ S ⟨rfl, τ1, ⟨f1, n1⟩, rfl⟩; have n1s := n1.symm) | (refine Q0d (by exact zK) ?_) | (refine Q0e (by exact zK) ?_)); (try refine zsR zz.out ?_)) | refine zmR zz.out ?_ | refine zo ?_ | omega | refine ztR zz.out ?_ | fail)); try (all_goals clear zz))
        all_goals exact ⟨_, .refl _, τ1, ⟨f1, n1⟩, Q3z (by simp [wds]) rfl⟩
theorem sep_at {β : Type} (one : β → List Tk) {l : List β} {k : Nat} (h : k < l.length) (A : List Tk) : A ++ sepT one (l.take k) ++ (if k = 0 then [] else [wd [44]]) ++ one l[k] = A ++ sepT one (l.take (k + 1)) := by
  rw [Q5e one h]; simp
theorem wb_app {B : Sg} {ω τ τ2 : Nat} {L M : List Tk} {m : Int} {r : List AV} {es : List (List AV)} (he : es = tksA M) (h : B τ2 = none) (h0 : B τ = none) : (WB TW [.i m] B ω τ2 (L ++ M)).sub ((((WB TW r B ω τ L).del τ).set τ2 (.tok (some 102))).set ω (.cells TW [.sl (.tok τ2 4) (tksA L ++ es), .i m])) := by
  rw [he, X1c]
  exact Q8k h h0
theorem df_choose (ω : Nat) (x : Stm) (hb : Q5c x.items = true) (hg : ∀ y ∈ x.items, ∀ e ∈ y.2, Lim e) (ho : oneB x.on = true) (hol : ∀ e ∈ x.on, Lim e) (hw : oneB x.wh = true) (hwl : ∀ e ∈ x.wh, Lim e)
    (hgr : oneB x.gr = true) (hgl : ∀ e ∈ x.gr, Lim e) (hor : oneB x.or = true) (hrl : ∀ e ∈ x.or, Lim e) (hlim : inR x.lim) (hlim2 : -1 ≤ x.lim) :
    Df ω 80 [.ref ω 0, .agg (stmA x)] (Q5u x) (max (maxD (fun y => expD y.2) x.items) (max (if x.join = [] then 0 else expD x.on) (max (expD x.wh) (max (expD x.gr) (expD x.or))))) := by
  obtain ⟨g1, g2⟩ : x.items.all Q3c = true ∧ (1 ≤ x.items.length ∧ x.items.length ≤ 8) := by
    unfold Q5c at hb; simpa only [Bool.and_eq_true, decide_eq_true_eq] using hb
  have g1 := List.all_eq_true.1 g1
  have hI := fun k (hk : k < x.items.length) => df_item ω x.items[k] (g1 _ (List.getElem_mem hk)) (hg _ (List.getElem_mem hk))
  have hle := X2h Q2t x.items
  have hM1 := Q5l ω x.on ho hol .any .full [[.s (bs [79, 78])]] (Q0g Q0j (by simp))
  have hM2 := Q5l ω x.wh hw hwl .any .full [[.s (bs [87, 72, 69, 82, 69])]] (Q0g Q0j (by simp))
  have hM3 := Q5l ω x.gr hgr hgl .any .full [[.s (bs [71, 82, 79, 85, 80])], [.s (bs [66, 89])]] (Q0g (Q0g Q0j (by simp)) (by simp))
  have hM4 := Q5l ω x.or hor hrl .any .full [[.s (bs [79, 82, 68, 69, 82])], [.s (bs [66, 89])]] (Q0g (Q0g Q0j (by simp)) (by simp))
  rw [show expW [[.s (bs [79, 78])]] x.on = expT [[79, 78]] x.on from expW1 _ _] at hM1
  rw [show expW [[.s (bs [87, 72, 69, 82, 69])]] x.wh = expT [[87, 72, 69, 82, 69]] x.wh from expW1 _ _] at hM2
  rw [show expW [[.s (bs [71, 82, 79, 85, 80])], [.s (bs [66, 89])]] x.gr = expT [[71, 82, 79, 85, 80], [66, 89]] x.gr from expW2 _ _ _] at hM3
  rw [show expW [[.s (bs [79, 82, 68, 69, 82])], [.s (bs [66, 89])]] x.or = expT [[79, 82, 68, 69, 82], [66, 89]] x.or from expW2 _ _ _] at hM4
  intro B τ l m h h0 h4
  have hM1 := hM1 B
  have hM2 := hM2 B
  have hM3 := hM3 B
  have hM4 := hM4 B
  have a1 : (x.items.map Q2e).length = x.items.length := zB ..
  have a2 := Q1r (f := Q2e) (n := 2) x.items (fun _ => rfl)
  have a3 : ∀ k (h : k < x.items.length), (x.items.map Q2e).getD k [] = [.i x.items[k].1, .sl .any (exsA x.items[k].2)] := fun k h => Q1q (f := Q2e) h
  have a4 : ∀ k (h : k < x.items.length), Q2e x.items[k] = [.i x.items[k].1, .sl .any (exsA x.items[k].2)] := fun k h => rfl
  have b4 : Q5u x = wd [83, 69, 76, 69, 67, 84] :: (sepT Q2t x.items ++ (wd [70, 82, 79, 77] :: nT x.t :: ((if x.join = [] then [] else wd [74, 79, 73, 78] :: nT x.join :: expT [[79, 78]] x.on) ++ (expT [[87, 72, 69, 82, 69]] x.wh ++ (expT [[71, 82, 79, 85, 80], [66, 89]] x.gr ++ (expT [[79, 82, 68, 69, 82], [66, 89]] x.or ++
    ((if x.desc = true then [wd [68, 69, 83, 67]] else []) ++ (if 0 ≤ x.lim then [wd [76, 73, 77, 73, 84], iT x.lim] else [])))))))) := rfl
  rw [b4] at h4 ⊢
  simp only [zx, zy, zA, Q1k] at h4
  have hsm := fun k (h : k < x.items.length) => sep_at Q2t h
  have hmm := fun k (h : k < x.items.length) => Q6g (fun y : It => expD y.2) (l := x.items) (k := k) h
  have hlast : sepT Q2t (x.items.take x.items.length) = sepT Q2t x.items := by rw [List.take_length]
  have hlastm : maxD (fun y : It => expD y.2) (x.items.take x.items.length) = maxD (fun y : It => expD y.2) x.items := by rw [List.take_length]
  clear g1 hg hb b4 hw hwl ho hol hgr hgl hor hrl
  unfold stmA
  generalize expT [[79, 78]] x.on = T1 at *
  generalize expT [[87, 72, 69, 82, 69]] x.wh = T2 at *
  generalize expT [[71, 82, 79, 85, 80], [66, 89]] x.gr = T3 at *
  generalize expT [[79, 82, 68, 69, 82], [66, 89]] x.or = T4 at *
  generalize expD x.on = D1 at *
  generalize expD x.wh = D2 at *
  generalize expD x.gr = D3 at *
  generalize expD x.or = D4 at *
  generalize x.items.map Q2e = L0 at *
  generalize exsA x.on = L1 at *
  generalize exsA x.wh = L2 at *
  generalize exsA x.gr = L3 at *
  generalize exsA x.or = L4 at *
  generalize x.join = join at *
  generalize x.desc = desc at *
  generalize x.lim = lim at *
  obtain ⟨C, hC⟩ : ∃ C : List AV, C = [.i x.k, .s (bs x.t), .sl .any (x.cols.map coA), .s (bs x.pk), .sl .any (x.rows.map rowA), .sl .any (x.sets.map setA), .sl .any L0, .s (bs join), .sl .any L1, .sl .any L2, .sl .any L3, .sl .any L4, .b desc, .i lim] := ⟨_, rfl⟩
  (refine vfun (fun i => if i = 3 then .ro else .no) Q0k Tryz.func80 (by kernel_rfl) ?_; simp only [Q0f, Tryz.f80, zw])
  (have zz := Bx.mk (j7 ui0 ui3 ui4 ui9 ui22 ui23 (j9 ui24 ui25 ui26 ui37 ui38 ui39 ui40 ui41 (j9 ui42 ui56 ui62 ui63 ui64 ui67 ui68 ui70 (j9 ui71 ui75 Q0q Q0r Q0t Q0u Q0v a1 WLg)))); (repeat' (first | exact zc | (with_reducible first | apply And.intro | apply Q0a | apply Q0b | refine Q0c (by decide +kernel) ?_ | intro _) | refine zaY zz.out ?_ | ((first | ((with_reducible refine zS (Q0s _ _ _ _ _ _ _ (by repeat (first | exact Q0j | refine Q0g ?_ (by simp))) (by exact zO) (by exact zN)) ?_); rintro _ S ⟨rfl, τ1, ⟨f1, n1⟩, rfl⟩; have n1s := n1.symm) | ((with_reducible refine zS (Q2l _ _ _ _ _ _ (by exact zO) (by exact zN)) ?_); rintro _ S ⟨rfl, τ1, ⟨f1, n1⟩, rfl⟩; have n1s := n1.symm) | ((with_reducible refine zS (Q2i _ _ _ _ _ _ (by exact zO) (by exact zN)) ?_); rintro _ S ⟨rfl, τ1, ⟨f1, n1⟩, rfl⟩; have n1s := n1.symm) | (refine Q0d (by exact zK) ?_) | (refine Q0e (by exact zK) ?_)); (try refine zsY zz.out ?_)) | refine zo ?_ | omega | refine ztY zz.out ?_ | fail)); try (all_goals clear zz))
  refine VW.loop3 (0 : Nat) τ1 () (fun k τ' _ => k ≤ x.items.length ∧ Print.okS B ω τ') (fun k _ _ => [(0, .ref ω 0), (3, .ro C), (4, .i k)]) (fun k τ' _ => WB TW [.i (mxi m (maxD (fun y => expD y.2) (x.items.take k)))] B ω τ' (l ++ [wd [83, 69, 76, 69, 67, 84]] ++ sepT Q2t (x.items.take k))) (fun k _ _ => x.items.length - k) ⟨Nat.zero_le _, ⟨by assumption, by assumption⟩⟩ (Q4f (Q3z (by simp [wds, sepT]) (by exact mxi_0 h0))) ?_ ?_
  · subst hC
    simp only [vO, vQ, ↓vP, vE, vS, vB, vL, vF, vM, vN, Q0i, zb, zd, ze, ne_eq, not_false_eq_true, zf, zg, zk, zl, vT]
    all_goals first | rfl | exact ⟨rfl, rfl⟩ | trace_state
  clear f1 n1 n1s
  rintro k τ' _ ⟨hk, f1, n1⟩
  have n1s := n1.symm
  have hlk := hle k
  rcases Nat.lt_or_ge k x.items.length with hk2 | hk2
  · have hX := hI k hk2 B
    have hgk := a3 k hk2
    rw [a4 k hk2] at hX
    have hs1 := hsm k hk2 (l ++ [wd [83, 69, 76, 69, 67, 84]])
    have hm1 := hmm k hk2
    have hl1 := hle (k + 1)
    rw [Q5e Q2t hk2, zx, zx] at hl1
    have hAl : (l ++ [wd [83, 69, 76, 69, 67, 84]] ++ sepT Q2t (x.items.take k)).length + 1 + (Q2t x.items[k]).length ≤ 2 ^ 36 := by simp only [zx, zy, zA]; omega
    generalize l ++ [wd [83, 69, 76, 69, 67, 84]] ++ sepT Q2t (x.items.take k) = A at *
    generalize maxD (fun y : It => expD y.2) (x.items.take k) = M at *
    generalize Q2t x.items[k] = TT at *
    generalize expD x.items[k].2 = D at *
    generalize exsA x.items[k].2 = E at *
    generalize x.items[k].1 = N at *
    have hM0 := mxi_ge h0 M
    have hcl : ∀ k : Nat, ((if k = 0 then [] else [wd [44]]) : List Tk).length ≤ 1 := fun k => by split <;> simp
    have hck := hcl k
    subst hC
    (have zz := Bx.mk (j9 ui0 ui3 ui4 ui9 ui22 ui23 ui24 ui25 (j9 ui26 ui37 ui38 ui39 ui40 ui41 ui42 ui56 (j9 ui62 ui63 ui64 ui67 ui68 ui70 ui71 ui75 (j9 Q0q Q0r Q0t Q0u Q0v a1 a2 hgk WLg)))); (repeat' (first | exact zc | (with_reducible first | apply And.intro | apply Q0a | apply Q0b | refine Q0c (by decide +kernel) ?_ | intro _) | refine zaY zz.out ?_ | ((first | ((with_reducible refine zS (hX _ _ _ (by exact zO) (by exact zD) (by exact zN)) ?_); rintro _ S ⟨rfl, τ1, ⟨f1, n1⟩, rfl⟩; have n1s := n1.symm) | ((with_reducible refine zS (Q0s _ _ _ _ _ _ _ (by repeat (first | exact Q0j | refine Q0g ?_ (by simp))) (by exact zO) (by exact zN)) ?_); rintro _ S ⟨rfl, τ1, ⟨f1, n1⟩, rfl⟩; have n1s := n1.symm) | ((with_reducible refine zS (Q2l _ _ _ _ _ _ (by exact zO) (by exact zN)) ?_); rintro _ S ⟨rfl, τ1, ⟨f1, n1⟩, rfl⟩; have n1s := n1.symm) | ((with_reducible refine zS (Q2i _ _ _ _ _ _ (by exact zO) (by exact zN)) ?_); rintro _ S ⟨rfl, τ1, ⟨f1, n1⟩, rfl⟩; have n1s := n1.symm) | (refine Q0d (by exact zK) ?_) | (refine Q0e (by exact zK) ?_)); (try refine zsY zz.out ?_)) | refine zo ?_ | omega | refine ztY zz.out ?_ | fail)); try (all_goals clear zz))
    all_goals first | exact ⟨k + 1, τ1, (), ⟨⟨hk2, f1, n1⟩, by omega⟩, Q4f (Q3z hs1.symm (by rw [Q9a, hm1])), rfl⟩ | (exfalso; omega) | trace_state
  · rw [List.take_of_length_le hk2]
    clear hI hsm hmm hle hlk
    have hnt : 0 ≤ lim → numT lim = [iT lim] := fun h => by unfold numT; rw [if_neg (by omega)]
    have hAl : (l ++ [wd [83, 69, 76, 69, 67, 84]] ++ sepT Q2t x.items).length = l.length + (sepT Q2t x.items).length + 1 := by simp only [zx, zy, zA]; omega
    have hAe : ∀ R : List Tk, l ++ [wd [83, 69, 76, 69, 67, 84]] ++ sepT Q2t x.items ++ R = l ++ (wd [83, 69, 76, 69, 67, 84] :: (sepT Q2t x.items ++ R)) := fun R => by simp
    have hlt := iT_A (n := lim)
    generalize hA : l ++ [wd [83, 69, 76, 69, 67, 84]] ++ sepT Q2t x.items = A at *
    generalize sepT Q2t x.items = TT at *
    generalize maxD (fun y : It => expD y.2) x.items = M at *
    have hM0 := mxi_ge h0 M
    by_cases hj : join = []
    · rw [if_pos hj] at h4 ⊢
      rw [if_pos hj]
      subst hj
      simp only [zA] at h4
      subst hC
      (have zz := Bx.mk (j7 ui0 ui3 ui4 ui9 ui22 ui23 (j9 ui24 ui25 ui26 ui37 ui38 ui39 ui40 ui41 (j9 ui42 ui56 ui62 ui63 ui64 ui67 ui68 ui70 (j9 ui71 ui75 Q0q Q0r Q0t Q0u Q0v a1 WLg)))); (repeat' (first | exact zc | (with_reducible first | apply And.intro | apply Q0a | apply Q0b | refine Q0c (by decide +kernel) ?_ | intro _) | ((with_reducible first | refine .dms (fun x => x = ω) [(0, false), (1, false), (2, false), (3, false), (4, false), (5, true), (6, true), (7, true), (8, false), (9, true), (10, true), (11, true), (12, true)] (by decide) (by decide +kernel) ?_ | refine .dm (fun x => x = ω) [(0, false), (1, false), (2, false), (3, false), (4, false), (5, true), (6, true), (7, true), (8, false), (9, true), (10, true), (11, true), (12, true)] (by decide) (by decide +kernel) ?_); (refine zsR zz.out ?_)) | refine zaR zz.out ?_ | refine zkK zz.out ?_ | ((first | (refine Q0l (by intro β h; first | (rcases h with h | h <;> subst h <;> (simp (disch := first | assumption | (apply zP; assumption; assumption) | (apply zQ; assumption; assumption; (intro e; cases e; done)) | omega) only [zn, zp, zq, zr, zv])) | (subst h; (simp (disch := first | assumption | (apply zP; assumption; assumption) | (apply zQ; assumption; assumption; (intro e; cases e; done)) | omega) only [zn, zp, zq, zr, zv]))) ?_) | ((with_reducible refine zS (hM2 _ _ _ (by exact zO) (by exact zD) (by exact zN)) ?_); rintro _ S ⟨rfl, τ1, ⟨f1, n1⟩, rfl⟩; have n1s := n1.symm) | ((with_reducible refine zS (hM3 _ _ _ (by exact zO) (by exact zD) (by exact zN)) ?_); rintro _ S ⟨rfl, τ1, ⟨f1, n1⟩, rfl⟩; have n1s := n1.symm) | ((with_reducible refine zS (hM4 _ _ _ (by exact zO) (by exact zD) (by exact zN)) ?_); rintro _ S ⟨rfl, τ1, ⟨f1, n1⟩, rfl⟩; have n1s := n1.symm) | ((with_reducible refine zS (Q0s _ _ _ _ _ _ _ (by repeat (first | exact Q0j | refine Q0g ?_ (by simp))) (by exact zO) (by exact zN)) ?_); rintro _ S ⟨rfl, τ1, ⟨f1, n1⟩, rfl⟩; have n1s := n1.symm) | ((with_reducible refine zS (Q2l _ _ _ _ _ _ (by exact zO) (by exact zN)) ?_); rintro _ S ⟨rfl, τ1, ⟨f1, n1⟩, rfl⟩; have n1s := n1.symm) | ((with_reducible refine zS (Q2i _ _ _ _ _ _ (by exact zO) (by exact zN)) ?_); rintro _ S ⟨rfl, τ1, ⟨f1, n1⟩, rfl⟩; have n1s := n1.symm) | (refine Q0d (by exact zK) ?_) | (refine Q0e (by exact zK) ?_)); (try refine zsR zz.out ?_)) | refine zmR zz.out ?_ | refine zo ?_ | omega | refine ztR zz.out ?_ | fail)); try (all_goals clear zz))
      all_goals first
        | (refine ⟨_, .refl _, τ1, ⟨f1, n1⟩, Q3z ?_ ?_⟩; (rw [← hA, if_neg (show ¬ 0 ≤ lim by omega)]; (first | rw [if_pos (show desc = true by assumption)] | rw [if_neg (show ¬ desc = true by assumption)]); simp); simp only [Q9a]; congr 1; omega; done)
        | (rename_i τ2 g1 g2 g3; refine ⟨_, wb_app (hlt (by omega)) g1 f1, τ2, ⟨g1, g3⟩, Q3z ?_ ?_⟩; (rw [← hA, if_pos (show 0 ≤ lim by omega)]; (first | rw [if_pos (show desc = true by assumption)] | rw [if_neg (show ¬ desc = true by assumption)]); simp); simp only [Q9a]; congr 1; omega; done)
        | trace_state
    · rw [if_neg hj] at h4 ⊢
      rw [if_neg hj]
      simp only [zy, zA] at h4
      subst hC
      (have zz := Bx.mk (j7 ui0 ui3 ui4 ui9 ui22 ui23 (j9 ui24 ui25 ui26 ui37 ui38 ui39 ui40 ui41 (j9 ui42 ui56 ui62 ui63 ui64 ui67 ui68 ui70 (j9 ui71 ui75 Q0q Q0r Q0t Q0u Q0v a1 WLg)))); (repeat' (first | exact zc | (with_reducible first | apply And.intro | apply Q0a | apply Q0b | refine Q0c (by decide +kernel) ?_ | intro _) | ((with_reducible first | refine .dms (fun x => x = ω) [(0, false), (1, false), (2, false), (3, false), (4, false), (5, true), (6, true), (7, true), (8, false), (9, true), (10, true), (11, true), (12, true)] (by decide) (by decide +kernel) ?_ | refine .dm (fun x => x = ω) [(0, false), (1, false), (2, false), (3, false), (4, false), (5, true), (6, true), (7, true), (8, false), (9, true), (10, true), (11, true), (12, true)] (by decide) (by decide +kernel) ?_); (refine zsR zz.out ?_)) | refine zaR zz.out ?_ | refine zkK zz.out ?_ | ((first | (refine Q0l (by intro β h; first | (rcases h with h | h <;> subst h <;> (simp (disch := first | assumption | (apply zP; assumption; assumption) | (apply zQ; assumption; assumption; (intro e; cases e; done)) | omega) only [zn, zp, zq, zr, zv])) | (subst h; (simp (disch := first | assumption | (apply zP; assumption; assumption) | (apply zQ; assumption; assumption; (intro e; cases e; done)) | omega) only [zn, zp, zq, zr, zv]))) ?_) | ((with_reducible refine zS (hM1 _ _ _ (by exact zO) (by exact zD) (by exact zN)) ?_); rintro _ S ⟨rfl, τ1, ⟨f1, n1⟩, rfl⟩; have n1s := n1.symm) | ((with_reducible refine zS (hM2 _ _ _ (by exact zO) (by exact zD) (by exact zN)) ?_); rintro _ S ⟨rfl, τ1, ⟨f1, n1⟩, rfl⟩; have n1s := n1.symm) | ((with_reducible refine zS (hM3 _ _ _ (by exact zO) (by exact zD) (by exact zN)) ?_); rintro _ S ⟨rfl, τ1, ⟨f1, n1⟩, rfl⟩; have n1s := n1.symm) | ((with_reducible refine zS (hM4 _ _ _ (by exact zO) (by exact zD) (by exact zN)) ?_); rintro _ S ⟨rfl, τ1, ⟨f1, n1⟩, rfl⟩; have n1s := n1.symm) | ((with_reducible refine zS (Q0s _ _ _ _ _ _ _ (by repeat (first | exact Q0j | refine Q0g ?_ (by simp))) (by exact zO) (by exact zN)) ?_); rintro _ S ⟨rfl, τ1, ⟨f1, n1⟩, rfl⟩; have n1s := n1.symm) | ((with_reducible refine zS (Q2l _ _ _ _ _ _ (by exact zO) (by exact zN)) ?_); rintro _ S ⟨rfl, τ1, ⟨f1, n1⟩, rfl⟩; have n1s := n1.symm) | ((with_reducible refine zS (Q2i _ _ _ _ _ _ (by exact zO) (by exact zN)) ?_); rintro _ S ⟨rfl, τ1, ⟨f1, n1⟩, rfl⟩; have n1s := n1.symm) | (refine Q0d (by exact zK) ?_) | (refine Q0e (by exact zK) ?_)); (try refine zsR zz.out ?_)) | refine zmR zz.out ?_ | refine zo ?_ | omega | refine ztR zz.out ?_ | fail)); try (all_goals clear zz))
      all_goals try (exfalso; first | exact hj ‹join = []› | (simp_all; done))
      all_goals first
        | (refine ⟨_, .refl _, τ1, ⟨f1, n1⟩, Q3z ?_ ?_⟩; (rw [← hA, if_neg (show ¬ 0 ≤ lim by omega)]; (first | rw [if_pos (show desc = true by assumption)] | rw [if_neg (show ¬ desc = true by assumption)]); simp); simp only [Q9a]; congr 1; omega; done)
        | (rename_i τ2 g1 g2 g3; refine ⟨_, wb_app (hlt (by omega)) g1 f1, τ2, ⟨g1, g3⟩, Q3z ?_ ?_⟩; (rw [← hA, if_pos (show 0 ≤ lim by omega)]; (first | rw [if_pos (show desc = true by assumption)] | rw [if_neg (show ¬ desc = true by assumption)]); simp); simp only [Q9a]; congr 1; omega; done)
        | trace_state
end Go.Proofs.YtjdapkelojdefaaGreatDoor
