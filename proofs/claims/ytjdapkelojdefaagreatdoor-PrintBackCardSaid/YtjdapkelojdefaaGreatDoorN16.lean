/- Part 16 of the proof: G13, G14, G15, G16, G17, W39, G18, W40, W41, W42, W43. -/
import Derived.Test.YtjdapkelojdefaaGreatDoorN14
import Derived.Test.YtjdapkelojdefaaGreatDoorN15
import Derived.Test.YtjdapkelojdefaaGreatDoorN7
import Derived.Test.YtjdapkelojdefaaGreatDoorN12

set_option linter.all false
set_option maxRecDepth 100000
set_option maxHeartbeats 4000000
open Nat renaming reduceEqDiff → zb, reduceLeDiff → ze
open Int renaming reduceToNat → zl
open Option renaming getD_some → zw
open List renaming length_append → zx, length_cons → zy, length_nil → zA, length_map → zB, nil_append → zH
open Go.V.VCalls renaming mono → zU
open Go.Proofs.Tryz renaming underlying3 → Z3, underlying9 → Z9
namespace Go.Print
open Go.V Go.Lex Go.Parse Go.Proofs.YtjdapkelojdefaaGreatDoor
def AG (l : List Tk) : Prop := ∀ x ∈ l, GoodT x
theorem Q8a : AG [] := fun x h => by cases h
theorem Q2d {x : Tk} {l : List Tk} (h : GoodT x) (hl : AG l) : AG (x :: l) := fun y hy => by
  rcases List.mem_cons.1 hy with rfl | hy
  · exact h
  · exact hl y hy
theorem Q5g {l m : List Tk} (h : AG l) (hm : AG m) : AG (l ++ m) := fun y hy => (List.mem_append.1 hy).elim (h y) (hm y)
theorem ag_sep {β : Type} {one : β → List Tk} : ∀ {l : List β}, (∀ y ∈ l, AG (one y)) → AG (sepT one l)
  | [], _ => Q8a
  | [x], h => h x (by simp)
  | x :: y :: r, h => Q5g (h x (by simp)) (Q2d (.inr (.inr (.inr (.inr ⟨rfl, by decide, rfl⟩)))) (ag_sep (l := y :: r) fun z hz => h z (List.mem_cons_of_mem _ hz)))
theorem ag_flat {β : Type} {one : β → List Tk} {l : List β} (h : ∀ y ∈ l, AG (one y)) : AG (l.map one).flatten := fun x hx => by
  obtain ⟨m, hm, hx⟩ := List.mem_flatten.1 hx
  obtain ⟨y, hy, rfl⟩ := List.mem_map.1 hm
  exact h y hy x hx
theorem wd2 (w : By) : (wd w).2 = (w, 0, 0) := by unfold wd; split <;> rfl
theorem Q4k {w : By} (h : ((Q7p w && decide ((wd w).1 = 2)) || (signs.contains w && decide ((wd w).1 = 5))) = true) : GoodT (wd w) := by
  simp only [Bool.or_eq_true, Bool.and_eq_true, decide_eq_true_eq] at h
  rcases h with ⟨a, b⟩ | ⟨a, b⟩
  · exact .inr (.inl ⟨b, by rw [wd2]; exact a, by rw [wd2]⟩)
  · exact .inr (.inr (.inr (.inr ⟨b, by rw [wd2]; simpa using a, by rw [wd2]⟩)))
theorem Q8b {ws : List By} (h : ws.all (fun w => (Q7p w && decide ((wd w).1 = 2)) || (signs.contains w && decide ((wd w).1 = 5))) = true) : AG (wds ws) := fun x hx => by
  obtain ⟨w, hw, rfl⟩ := List.mem_map.1 hx
  exact Q4k (List.all_eq_true.1 h w hw)
theorem ag_tr {e : Ex} (hr : rt e = true) (hL : Lim e) : AG (toTr e).tk := by
  obtain ⟨q1, q2⟩ := Q7r e hr
  exact Q5x (toTr e) q2 (X2a (toTr e) (by rw [q1]; exact hL))
theorem X9j {ws : List By} {l : List Ex} (hw : AG (wds ws)) (h : oneB l = true) (hL : ∀ e ∈ l, Lim e) : AG (expT ws l) := by
  cases l with
  | nil => exact Q8a
  | cons e r =>
    have h2 : rt e = true := by
      unfold oneB at h
      rw [Bool.and_eq_true, Q6y, Bool.and_eq_true] at h
      exact h.2.1
    exact Q5g hw (ag_tr h2 (hL e (by simp)))
theorem ag_col {c : Co} (h : X4p c = true) : AG (colT c) := by
  unfold X4p at h
  rw [Bool.and_eq_true] at h
  unfold colT
  refine Q2d (gN h.1) (Q2d ?_ (Q5g ?_ (Q5g ?_ (Q2d (Q4k (by decide +kernel)) Q8a))))
  · split <;> exact Q4k (by decide +kernel)
  · split
    · exact Q8b (by decide +kernel)
    · exact Q8a
  · split
    · exact Q8b (by decide +kernel)
    · exact Q8a
theorem ag_row {r : List Vl} (h : rowB r = true) (hv : ∀ v ∈ r, inR v.2.1) : AG (rowT r) := by
  unfold rowB at h
  rw [Bool.and_eq_true] at h
  have h1 := List.all_eq_true.1 h.1
  exact Q2d (Q4k (by decide +kernel)) (Q5g (ag_sep fun v hv' => good_lit (h1 v hv') (hv v hv')) (Q2d (Q4k (by decide +kernel)) Q8a))
theorem ag_set {s : Se} (h : X3m s = true) (hL : Lim s.2) : AG (setT s) := by
  unfold X3m at h
  rw [Bool.and_eq_true] at h
  exact Q2d (gN h.1) (Q2d (Q4k (by decide +kernel)) (ag_tr h.2 hL))
theorem ag_item {x : It} (h : Q6u x = true) (hL : ∀ e ∈ x.2, Lim e) : AG (Q7y x) := by
  have ho : oneB x.2 = true := by
    unfold Q6u at h
    simp only [Bool.and_eq_true, decide_eq_true_eq] at h
    unfold oneB
    simp only [Bool.and_eq_true, decide_eq_true_eq]
    refine ⟨?_, h.2.2⟩
    rw [h.2.1]
    split <;> omega
  unfold Q7y
  split
  · exact Q8b (by decide +kernel)
  · split
    · exact Q8b (by decide +kernel)
    · split
      · exact X9j Q8a ho hL
      · refine Q5g (X9j ?_ ho hL) (Q2d (Q4k (by decide +kernel)) Q8a)
        repeat' split
        all_goals exact Q8b (by decide +kernel)
theorem st_good {x : Stm} (hf : fitB x = true) (hL : LimX x) : AG (stT x) := by
  obtain ⟨p1, p2, p3, p4, p5, p6, p7⟩ := Q9n hf
  have hw : AG (expT [[87, 72, 69, 82, 69]] x.wh) := X9j (Q8b (by decide +kernel)) p3 hL.s.wh.2
  have hk : x.k = 1 ∨ x.k = 2 ∨ x.k = 3 ∨ x.k = 4 ∨ x.k = 5 ∨ x.k = 6 := by omega
  unfold stT
  rcases hk with hk | hk | hk | hk | hk | hk <;> rw [hk] <;> simp only [Int.reduceEq, if_true, if_false]
  · obtain ⟨a, b⟩ := p4 hk
    unfold X7p at a
    rw [Bool.and_eq_true] at a
    exact Q5g (Q8b (by decide +kernel)) (Q2d (gN p2) (Q2d (Q4k (by decide +kernel)) (Q5g (ag_flat fun c hc => ag_col (List.all_eq_true.1 a.1 c hc)) (Q5g (Q8b (by decide +kernel)) (Q2d (gN b) (Q8b (by decide +kernel)))))))
  · exact Q5g (Q8b (by decide +kernel)) (Q2d (gN p2) Q8a)
  · have a := p5 hk
    unfold X7q at a
    rw [Bool.and_eq_true] at a
    exact Q5g (Q8b (by decide +kernel)) (Q2d (gN p2) (Q2d (Q4k (by decide +kernel)) (ag_sep fun r hr => ag_row (List.all_eq_true.1 a.1 r hr) (hL.v r hr))))
  · have a := p6 hk
    unfold X5l at a
    rw [Bool.and_eq_true] at a
    exact Q2d (Q4k (by decide +kernel)) (Q2d (gN p2) (Q2d (Q4k (by decide +kernel)) (Q5g (ag_sep fun s hs => ag_set (List.all_eq_true.1 a.1 s hs) (hL.s.set s hs)) hw)))
  · exact Q5g (Q8b (by decide +kernel)) (Q2d (gN p2) hw)
  · obtain ⟨s1, s2, s3, s4, s5⟩ := Q9o (p7 hk)
    have hj : joinB x = true := by have := p7 hk; unfold selB at this; exact (Bool.and_eq_true _ _ ▸ this).1
    unfold X0j at s1
    rw [Bool.and_eq_true] at s1
    refine Q2d (Q4k (by decide +kernel)) (Q5g (ag_sep fun y hy => ag_item (List.all_eq_true.1 s1.1 y hy) (hL.s.item y hy).2) (Q2d (Q4k (by decide +kernel)) (Q2d (gN p2) (Q5g ?_ (Q5g hw (Q5g ?_ (Q5g ?_ (Q5g ?_ ?_))))))))
    · unfold joinT
      split
      · exact Q8a
      · rename_i hne
        unfold joinB at hj
        simp only [Bool.or_eq_true, Bool.and_eq_true, decide_eq_true_eq] at hj
        have hn : isNm x.join = true := hj.elim (fun q => absurd q.1 hne) (fun q => q.1)
        exact Q2d (Q4k (by decide +kernel)) (Q2d (gN hn) (X9j (Q8b (by decide +kernel)) s2 hL.s.on.2))
    · exact X9j (Q8b (by decide +kernel)) (Q5o s3) hL.s.gr.2
    · exact X9j (Q8b (by decide +kernel)) (Q5o s4) hL.s.or.2
    · split
      · exact Q2d (Q4k (by decide +kernel)) Q8a
      · exact Q8a
    · split
      · have := hL.s.lim
        unfold inR at this
        exact Q2d (Q4k (by decide +kernel)) (Q2d (gI (by omega)) Q8a)
      · exact Q8a
theorem sc_good {l : List Stm} (h : ∀ x ∈ l, AG (stT x)) : AG (scT l) := by
  cases l with
  | nil => exact Q8a
  | cons x r => exact Q5g (h x (by simp)) (ag_flat fun y hy => Q2d (Q4k (by decide +kernel)) (h y (List.mem_cons_of_mem _ hy)))
theorem scT_take {l : List Stm} {k : Nat} (h : k < l.length) : scT (l.take (k + 1)) = scT (l.take k) ++ ((if k = 0 then [] else [wd [59]]) ++ stT l[k]) := by
  cases l with
  | nil => exact absurd h (by simp)
  | cons x r =>
    cases k with
    | zero => simp [scT]
    | succ k =>
      have hk : k < r.length := by simpa using h
      have e1 : (x :: r).take (k + 1 + 1) = x :: r.take (k + 1) := rfl
      have e2 : (x :: r).take (k + 1) = x :: r.take k := rfl
      have e3 : (x :: r)[k + 1] = r[k] := rfl
      rw [e1, e2, e3, if_neg (by omega)]
      show stT x ++ ((r.take (k + 1)).map _).flatten = (stT x ++ ((r.take k).map _).flatten) ++ _
      rw [List.take_succ_eq_append_getElem hk, List.map_append, List.flatten_append]
      simp
theorem Y1a {l : List Stm} {N : Nat} : ∀ k, (∀ x ∈ l.take k, (stT x).length ≤ N) → (scT (l.take k)).length ≤ (N + 1) * k
  | 0, _ => by simp [scT]
  | k + 1, h => by
    rcases Nat.lt_or_ge k l.length with hk | hk
    · have ih := Y1a (l := l) k (fun x hx => h x (by rw [List.take_succ_eq_append_getElem hk]; exact List.mem_append_left _ hx))
      have h2 := h l[k] (by rw [List.take_succ_eq_append_getElem hk]; exact List.mem_append_right _ (List.mem_singleton.2 rfl))
      rw [scT_take hk, zx, zx, Nat.mul_succ]
      have : (if k = 0 then ([] : List Tk) else [wd [59]]).length ≤ 1 := by split <;> simp
      omega
    · have e : l.take (k + 1) = l.take k := by rw [List.take_of_length_le hk, List.take_of_length_le (by omega)]
      rw [e] at h ⊢
      have ih := Y1a (l := l) k h
      rw [Nat.mul_succ]
      omega
theorem scD_le {l : List Stm} {N : Nat} (h : ∀ x ∈ l, stD x ≤ N) : scD l ≤ N := by
  unfold scD
  induction l with
  | nil => exact Nat.zero_le _
  | cons x r ih =>
    have h1 := h x (by simp)
    have h2 := ih (fun y hy => h y (List.mem_cons_of_mem _ hy))
    show max (stD x) (maxD stD r) ≤ N
    omega
def Nx (ws : List By) (r : List Tk) : Prop := WF r ∧ ((hd r).1 = 6 ∨ ∃ w ∈ ws, hd r = wd w)
theorem X4r {ws : List By} {w : By} {r : List Tk} (hw : w ∈ ws) (hr : WF r) : Nx ws (wd w :: r) := ⟨Q3p hr, .inr ⟨w, hw, rfl⟩⟩
theorem Nx.mono {ws vs : List By} {r : List Tk} (h : Nx ws r) (hs : ∀ w ∈ ws, w ∈ vs) : Nx vs r := ⟨h.1, h.2.imp id fun ⟨w, hw, e⟩ => ⟨w, hs w hw, e⟩⟩
theorem Q1i (w : By) : isW (wd w) w = true := by unfold isW wd; split <;> simp [wT, sT]
theorem isW_ne {w v : By} (h : w ≠ v) : isW (wd w) v = false := by unfold isW wd; split <;> simp [wT, sT, h]
theorem hd_ne {w v : By} {r : List Tk} (h : w ≠ v) : isW (hd (wd w :: r)) v = false := isW_ne h
theorem isW_k {x : Tk} (h : x.1 = 6 ∨ x.1 = 1 ∨ x.1 = 3 ∨ x.1 = 4) (v : By) : isW x v = false := decide_eq_false (fun ⟨q, _⟩ => by omega)
theorem Nx.no {ws : List By} {r : List Tk} (h : Nx ws r) {v : By} (hv : v ∉ ws) : isW (hd r) v = false := by
  rcases h.2 with h | ⟨w, hw, e⟩
  · exact isW_k (.inl h) v
  · rw [e]; exact isW_ne (fun q => hv (q ▸ hw))
theorem Nx.stop {ws : List By} {r : List Tk} (h : Nx ws r) (ho : ∀ w ∈ ws, w ∉ opsF 1) : Stop 1 r := fun v hv => h.no (fun q => ho v q hv)
structure XB (e : Ex) : Prop where
  rt : Go.Print.rt e = true
  lim : Lim e
  dp : (toTr e).dp ≤ 10
theorem rd_e {e : Ex} {r : List Tk} (h : XB e) (hr : WF r) (hs : Stop 1 r) : exp (stR ((toTr e).tk ++ r) 0) = (e, stR r 0) := by
  obtain ⟨q1, q2⟩ := Q7r e h.rt
  have := rd_exp (r := r) q2 (X2a _ (by rw [q1]; exact h.lim)) h.dp hr hs
  rw [q1] at this
  exact this
theorem nx_exp {w : By} {vs ws : List By} {r : List Tk} {l : List Ex} (hN : Nx ws r) : Nx (w :: ws) (expT (w :: vs) l ++ r) := by
  cases l with
  | nil => exact hN.mono fun v hv => List.mem_cons_of_mem _ hv
  | cons e t => exact X4r (r := (wds vs ++ (toTr e).tk) ++ r) (by simp) (X8s _ hN.1)
theorem Y1b {w : By} {ws : List By} {r : List Tk} {l : List Ex} (h1 : l.length ≤ 1) (hl : ∀ e ∈ l, XB e) (hN : Nx ws r) (hw : w ∉ ws) (ho : ∀ v ∈ ws, v ∉ opsF 1) : Q3t w (stR (expT [w] l ++ r) 0) = (l, stR r 0) := by
  match l, h1, hl with
  | [], _, _ =>
    show Q3t w (stR r 0) = _
    unfold Q3t
    rw [Q7t (hN.no hw), Q7u (hN.no hw)]; rfl
  | [e], _, hl =>
    show Q3t w (stR (wd w :: ((toTr e).tk ++ r)) 0) = _
    unfold Q3t
    rw [Q4p (Q1i w), Q4t (Q1i w), rd_e (hl e (by simp)) hN.1 (hN.stop ho)]
    rfl
theorem col_of {e : Ex} (hr : rt e = true) (hk : e.kd = 2) : ∃ t n, e = .mk 2 0 t n v0 [] := by
  cases e with
  | mk k op t n v l =>
    have hk : k = 2 := hk
    subst hk
    rw [rt_mk, Bool.and_eq_true] at hr
    rcases rtN_cases hr.1 with ⟨q, _⟩ | ⟨_, _, _, rfl, rfl, hl⟩ | ⟨q, _⟩ | ⟨q, _⟩
    · cases q
    · exact ⟨t, n, by rw [List.length_eq_zero_iff.1 hl]⟩
    · cases q
    · omega
theorem rd_by {w : By} {ws : List By} {r : List Tk} {l : List Ex} (h1 : l.length ≤ 1) (hl : ∀ e ∈ l, XB e) (hc : ∀ e ∈ l, e.kd = 2) (hN : Nx ws r) (hw : w ∉ ws) (hd : [46] ∉ ws) : byL w (stR (expT [w, [66, 89]] l ++ r) 0) = (l, stR r 0) := by
  match l, h1, hl, hc with
  | [], _, _, _ =>
    show byL w (stR r 0) = _
    unfold byL
    rw [Q7t (hN.no hw), Q7u (hN.no hw)]; rfl
  | [e], _, hl, hc =>
    obtain ⟨t, n, rfl⟩ := col_of (hl e (by simp)).rt (hc e (by simp))
    have e1 : toTr (.mk 2 0 t n v0 []) = .col t n := by rw [toTr_mk, X6r]; rfl
    show byL w (stR (wd w :: wd [66, 89] :: ((toTr (.mk 2 0 t n v0 [])).tk ++ r)) 0) = _
    unfold byL
    rw [Q4p (Q1i w), Q4t (Q1i w), Q1c [] (Q1i [66, 89]), Q2x, e1]
    by_cases ht : t = []
    · have htk : (Tr.col t n).tk = [nT n] := by rw [Tr.tk, if_pos ht]
      rw [htk]
      subst ht
      have h3 : Rd.column (stR ([nT n] ++ r) 0) = (.mk 2 0 [] n v0 [], stR r 0) := X8t (n := n) (d := 0) (hN.no hd)
      rw [h3]; rfl
    · have htk : (Tr.col t n).tk = [nT t, sT [46], nT n] := by rw [Tr.tk, if_neg ht]
      rw [htk]
      have h3 : Rd.column (stR ([nT t, sT [46], nT n] ++ r) 0) = (.mk 2 0 t n v0 [], stR r 0) := X8u (t := t) (n := n) (r := r) (d := 0)
      rw [h3]; rfl
def sepG {β : Type} (sep : By) (one : β → List Tk) : List β → List Tk
  | [] => []
  | [x] => one x
  | x :: y :: r => one x ++ wd sep :: sepG sep one (y :: r)
theorem X7t {β : Type} (one : β → List Tk) : ∀ l : List β, sepT one l = sepG [44] one l
  | [] => rfl
  | [x] => rfl
  | x :: y :: r => by show one x ++ wd [44] :: sepT one (y :: r) = _; rw [X7t one (y :: r)]; rfl
theorem scT_eq : ∀ l : List Stm, scT l = sepG [59] stT l
  | [] => rfl
  | [x] => by show stT x ++ [] = stT x; simp
  | x :: y :: r => by
    have ih := scT_eq (y :: r)
    show stT x ++ ((wd [59] :: stT y) ++ (r.map fun s => wd [59] :: stT s).flatten) = stT x ++ wd [59] :: sepG [59] stT (y :: r)
    rw [← ih]; rfl
theorem X4s {β : Type} {one : Rd → β × Rd} {sep : By} {tok : β → List Tk} {ws : List By} {r : List Tk} (hN : Nx ws r) (hsep : sep ∉ ws) : ∀ (l : List β) (k : Nat) (acc : List β), l ≠ [] → l.length ≤ k → (∀ x ∈ l, ∀ r', Nx (sep :: ws) r' → one (stR (tok x ++ r') 0) = (x, stR r' 0)) →
    Q3s one sep k acc (stR (sepG sep tok l ++ r) 0) = (acc ++ l, stR r 0)
  | [], _, _, h, _, _ => absurd rfl h
  | _ :: _, 0, _, _, h, _ => by simp at h
  | [x], k + 1, acc, _, _, h => by
    have e := h x (by simp) r (hN.mono fun w hw => List.mem_cons_of_mem _ hw)
    show Q3s one sep (k + 1) acc (stR (tok x ++ r) 0) = _
    unfold Q3s
    simp only [e, Q7t (hN.no hsep), Q7u (hN.no hsep), Bool.false_eq_true, if_false]
  | x :: y :: t, k + 1, acc, _, hk, h => by
    have e := h x (by simp) (wd sep :: (sepG sep tok (y :: t) ++ r)) (X4r (by simp) (X8s _ hN.1))
    have ex : sepG sep tok (x :: y :: t) ++ r = tok x ++ wd sep :: (sepG sep tok (y :: t) ++ r) := by
      show (tok x ++ wd sep :: sepG sep tok (y :: t)) ++ r = _
      simp
    rw [ex]
    unfold Q3s
    simp only [e, Q4p (Q1i sep), Q4t (Q1i sep), if_true]
    rw [X4s hN hsep (y :: t) k (acc ++ [x]) (by simp) (by simpa using hk) (fun z hz => h z (List.mem_cons_of_mem _ hz))]
    simp
theorem coKind_1 (r : List Tk) : Q9g (stR (wd [73, 78, 84] :: r) 0) = (1, stR r 0) := by
  have h : (stR (wd [73, 78, 84] :: r) 0).is X5i = 0 := Q4o (.inl rfl) (by decide)
  unfold Q9g Rd.pass
  rw [h]; rfl
theorem coKind_2 (r : List Tk) : Q9g (stR (wd [84, 69, 88, 84] :: r) 0) = (2, stR r 0) := by
  have h : (stR (wd [84, 69, 88, 84] :: r) 0).is X5i = 1 := Q4o (.inl rfl) (by decide)
  unfold Q9g Rd.pass
  rw [h]; rfl
theorem coNull_1 (r : List Tk) : Q8l (stR (wd [78, 79, 84] :: wd [78, 85, 76, 76] :: r) 0) = (true, stR r 0) := by
  unfold Q8l
  rw [Q4p (Q1i _), Q4t (Q1i _), Q1c [] (Q1i _)]; rfl
theorem coNull_0 {r : List Tk} (h : isW (hd r) [78, 79, 84] = false) : Q8l (stR r 0) = (false, stR r 0) := by
  unfold Q8l
  rw [Q7t h, Q7u h]; rfl
theorem rd_col1 {c : Co} (h : X4p c = true) (r : List Tk) : (stR (colT c ++ r) 0).columnOf = (c, stR (wd [44] :: r) 0) := by
  obtain ⟨n, kd, nn, un⟩ := c
  unfold X4p at h
  simp only [Bool.and_eq_true, decide_eq_true_eq] at h
  have u1 : ∀ r, Q8l (stR (wd [85, 78, 73, 81, 85, 69] :: r) 0) = (false, stR (wd [85, 78, 73, 81, 85, 69] :: r) 0) := fun r => coNull_0 (hd_ne (by decide))
  have u2 : ∀ r, Q8l (stR (wd [44] :: r) 0) = (false, stR (wd [44] :: r) 0) := fun r => coNull_0 (hd_ne (by decide))
  have v1 : ∀ r, (stR (wd [85, 78, 73, 81, 85, 69] :: r) 0).has [85, 78, 73, 81, 85, 69] = true := fun r => Q4p (Q1i _)
  have v2 : ∀ r, (stR (wd [44] :: r) 0).has [85, 78, 73, 81, 85, 69] = false := fun r => Q7t (hd_ne (by decide))
  have w1 : ∀ r, (stR (wd [85, 78, 73, 81, 85, 69] :: r) 0).pass [[85, 78, 73, 81, 85, 69]] = stR r 0 := fun r => Q4t (Q1i _)
  have w2 : ∀ r, (stR (wd [44] :: r) 0).pass [[85, 78, 73, 81, 85, 69]] = stR (wd [44] :: r) 0 := fun r => Q7u (hd_ne (by decide))
  have t1 : ∀ r, (stR (nT n :: r) 0).take 1 = stR r 0 := fun r => Q5m rfl
  have t2 : ∀ r, ((stR (nT n :: r) 0).tok 1).2.1 = n := fun r => by rw [Q8j (k := 1) (x := nT n) rfl]; rfl
  rcases h.2 with rfl | rfl <;> cases nn <;> cases un <;> simp [colT, wds, Rd.columnOf, t1, t2, coKind_1, coKind_2, coNull_1, u1, u2, v1, v2, w1, w2]
theorem rd_cols {r : List Tk} (hr : WF r) : ∀ (l : List Co) (k : Nat) (acc : List Co), l.length ≤ k → (acc ≠ [] ∨ l ≠ []) → (∀ c ∈ l, X4p c = true) → Q6p k acc (stR ((l.map colT).flatten ++ wd [80, 82, 73, 77, 65, 82, 89] :: r) 0) = (acc ++ l, stR r 0)
  | [], k, acc, _, ha, _ => by
    have ha : acc ≠ [] := ha.resolve_right (fun h => h rfl)
    have hm : Q2j acc (stR (wd [80, 82, 73, 77, 65, 82, 89] :: r) 0) = false := by
      unfold Q2j; rw [Q4p (Q1i _)]; simp [ha]
    have hat : Q3l acc (stR (wd [80, 82, 73, 77, 65, 82, 89] :: r) 0) = stR r 0 := by
      unfold Q3l; rw [if_pos ⟨rfl, ha⟩, Q4t (Q1i _)]
    show Q6p k acc (stR (wd [80, 82, 73, 77, 65, 82, 89] :: r) 0) = _
    cases k <;> unfold Q6p <;> rw [hm, hat] <;> simp
  | c :: l, 0, _, h, _, _ => by simp at h
  | c :: l, k + 1, acc, hk, _, hc => by
    have e : ((c :: l).map colT).flatten ++ wd [80, 82, 73, 77, 65, 82, 89] :: r = colT c ++ ((l.map colT).flatten ++ wd [80, 82, 73, 77, 65, 82, 89] :: r) := by simp
    rw [e]
    have hn : isW (hd (colT c ++ ((l.map colT).flatten ++ wd [80, 82, 73, 77, 65, 82, 89] :: r))) [80, 82, 73, 77, 65, 82, 89] = false := isW_k (x := nT c.1) (.inr (.inl rfl)) _
    have hm : Q2j acc (stR (colT c ++ ((l.map colT).flatten ++ wd [80, 82, 73, 77, 65, 82, 89] :: r)) 0) = true := by
      unfold Q2j; rw [Q7t hn]; simp [stR]
    have hat : Q3l acc (stR (colT c ++ ((l.map colT).flatten ++ wd [80, 82, 73, 77, 65, 82, 89] :: r)) 0) = stR (colT c ++ ((l.map colT).flatten ++ wd [80, 82, 73, 77, 65, 82, 89] :: r)) 0 := by
      unfold Q3l; rw [Q7u hn]; split <;> rfl
    unfold Q6p
    rw [hm, hat, rd_col1 (hc c (by simp))]
    simp only [if_true]
    rw [Q1c [] (Q1i _), Q2x, rd_cols hr l k (acc ++ [c]) (by simpa using hk) (.inl (by simp)) (fun d hd => hc d (List.mem_cons_of_mem _ hd))]
    simp
theorem rd_lit {v : Vl} {r : List Tk} (hw : okV v = true) (hr : inR v.2.1) : litV (stR (litT v ++ r) 0) = (v, stR r 0) := by
  have h : (stR (litT v ++ r) 0).lit = (v, true, stR r 0) := by
    have h1 := rd_val (r := r) (d := 0) (D := ⟨fun s => (ex0, s.fail 4), fun s => (ex0, s.fail 4), fun s => (ex0, s.fail 4)⟩) hw hr
    unfold facL at h1
    generalize (stR (litT v ++ r) 0).lit = L at *
    obtain ⟨a, b, c⟩ := L
    cases b with
    | true =>
      simp only [if_true, Prod.mk.injEq, Ex.mk.injEq, true_and, and_true] at h1
      rw [h1.1, h1.2]
    | false =>
      simp only [Bool.false_eq_true, if_false] at h1
      exfalso
      revert h1
      split
      · intro h; have := congrArg Prod.fst h; cases this
      · split
        · unfold Q2i
          split
          · intro h; have := congrArg Prod.fst h; cases this
          · intro h; have := congrArg Prod.fst h; cases this
        · unfold Rd.column
          split
          · intro h; have := congrArg Prod.fst h; cases this
          · intro h; have := congrArg Prod.fst h; cases this
  unfold litV
  rw [h]; rfl
theorem rd_tuple {x : List Vl} (h : rowB x = true) (hv : ∀ v ∈ x, inR v.2.1) {r : List Tk} (hr : WF r) : Q6t (stR (rowT x ++ r) 0) = (x, stR r 0) := by
  unfold rowB at h
  simp only [Bool.and_eq_true, decide_eq_true_eq] at h
  have h1 := List.all_eq_true.1 h.1
  have hne : x ≠ [] := fun e => by rw [e] at h; simp at h
  have e : rowT x ++ r = wd [40] :: (sepG [44] litT x ++ wd [41] :: r) := by
    show (wd [40] :: (sepT litT x ++ [wd [41]])) ++ r = _
    rw [X7t]; simp
  rw [e]
  unfold Q6t many
  rw [Q1c [] (Q1i _), Q2x, X4s (ws := [[41]]) (X4r (by simp) hr) (by decide) x 8 [] hne h.2.2 (fun v hv' r' hr' => rd_lit (h1 v hv') (hv v hv'))]
  simp only [zH]
  rw [Q1c [] (Q1i _)]; rfl
theorem rd_set {x : Se} (h : isNm x.1 = true) (hx : XB x.2) {r : List Tk} (hr : WF r) (hs : Stop 1 r) : setL (stR (setT x ++ r) 0) = (x, stR r 0) := by
  show setL (stR (nT x.1 :: wd [61] :: ((toTr x.2).tk ++ r)) 0) = _
  unfold setL
  rw [Q5m (k := 1) (x := nT x.1) rfl, Q8j (k := 1) (x := nT x.1) rfl, Q1c [] (Q1i _), Q2x, rd_e hx hr hs]
  rfl
theorem noItem : ∀ t : Tr, t.wf → ∀ w ∈ Q2o, isW (hd t.tk) w = false := by
  have hLP : ∀ w ∈ Q2o, isW (sT [40]) w = false := by decide +kernel
  have hN : ∀ w ∈ Q2o, isW (wT [78, 79, 84]) w = false := by decide +kernel
  have hM : ∀ w ∈ Q2o, isW (sT [45]) w = false := by decide +kernel
  have hU : ∀ w ∈ Q2o, isW (wT [78, 85, 76, 76]) w = false := by decide +kernel
  intro t
  induction t with
  | val v =>
    intro _ w hw
    show isW (hd (litT v)) w = false
    unfold litT numT
    repeat' split
    · exact hU w hw
    · exact isW_k (.inr (.inr (.inr rfl))) w
    · exact hM w hw
    · exact isW_k (.inr (.inr (.inl rfl))) w
  | col t n =>
    intro _ w hw
    rw [Tr.tk]
    split <;> exact isW_k (.inr (.inl rfl)) w
  | null e ih =>
    intro h w hw
    rw [X0a, X1e (Y0k (X8f e))]
    exact hd_br (P := fun x => isW x w = false) (hLP w hw) (fun _ => ih h w hw)
  | neg e ih => intro _ w hw; rw [X3f]; exact hM w hw
  | not e ih =>
    intro h w hw
    cases he : e.isNull with
    | false => rw [X1c he]; exact hN w hw
    | true =>
      cases e <;> first | (cases he; done) | skip
      rename_i y
      have h2 := ih h w hw
      rw [X0a, X1e (Y0k (X8f y))] at h2
      rw [Q5d, X1e (Y0k (X8f y))]
      exact h2
  | op k a b iha ihb =>
    intro h w hw
    rw [Y0g, X1e (Y0k (X8f a))]
    exact hd_br (P := fun x => isW x w = false) (hLP w hw) (fun _ => iha h.2.1 w hw)
theorem rd_item {x : It} (h : Q6u x = true) (hx : ∀ e ∈ x.2, XB e) {r : List Tk} (hN : Nx [[44], [70, 82, 79, 77]] r) : Q9h (stR (Q7y x ++ r) 0) = (x, stR r 0) := by
  obtain ⟨k, a⟩ := x
  rcases Q8o h with ⟨hk, ha⟩ | ⟨hk, e, ha, hr⟩
  · dsimp only at hk ha hx ⊢
    subst ha
    rcases hk with rfl | rfl
    · show Q9h (stR (wd [42] :: r) 0) = _
      have hi : (stR (wd [42] :: r) 0).is Q2o = 4 := Q4o (.inr rfl) (by decide)
      unfold Q9h Rd.pass
      rw [hi]; rfl
    · show Q9h (stR (wd [67, 79, 85, 78, 84] :: wd [40] :: wd [42] :: wd [41] :: r) 0) = _
      have hi : (stR (wd [67, 79, 85, 78, 84] :: wd [40] :: wd [42] :: wd [41] :: r) 0).is Q2o = 0 := Q4o (.inl rfl) (by decide)
      have hp : (stR (wd [67, 79, 85, 78, 84] :: wd [40] :: wd [42] :: wd [41] :: r) 0).pass Q2o = stR (wd [40] :: wd [42] :: wd [41] :: r) 0 := by unfold Rd.pass; rw [hi]; rfl
      unfold Q9h
      rw [hi, hp, Q1c [] (Q1i _), Q2x]
      simp only [Int.reduceLT, if_false, Int.reduceEq]
      unfold X7h
      rw [Q4p (Q1i _), Q4t (Q1i _), Q1c [] (Q1i _)]; rfl
  · dsimp only at hk ha hx ⊢
    subst ha
    have hX := hx e (by simp)
    obtain ⟨q1, q2⟩ := Q7r e hr
    have hno := noItem (toTr e) q2
    have hst : Stop 1 r := hN.stop (by decide)
    have hE := rd_e hX hN.1 hst
    have hE2 := rd_e (r := wd [41] :: r) hX (Q3p hN.1) (stop_rp 1 r)
    have hne := X8f (toTr e)
    rcases hk with rfl | rfl | rfl | rfl | rfl
    · show Q9h (stR ((toTr e).tk ++ r) 0) = _
      have hi : (stR ((toTr e).tk ++ r) 0).is Q2o = -1 := is_no (by rw [X1e hne]; exact hno)
      have hp : (stR ((toTr e).tk ++ r) 0).pass Q2o = stR ((toTr e).tk ++ r) 0 := by unfold Rd.pass; rw [hi]; rfl
      unfold Q9h
      rw [hi, hp, hE]; rfl
    · have e1 : Q7y (4, [e]) ++ r = wd [67, 79, 85, 78, 84] :: wd [40] :: ((toTr e).tk ++ wd [41] :: r) := by
        show (wds [[67, 79, 85, 78, 84], [40]] ++ (toTr e).tk ++ [wd [41]]) ++ r = _
        simp [wds]
      rw [e1]
      have hi : (stR (wd [67, 79, 85, 78, 84] :: wd [40] :: ((toTr e).tk ++ wd [41] :: r)) 0).is Q2o = 0 := Q4o (.inl rfl) (by decide)
      have hp : (stR (wd [67, 79, 85, 78, 84] :: wd [40] :: ((toTr e).tk ++ wd [41] :: r)) 0).pass Q2o = stR (wd [40] :: ((toTr e).tk ++ wd [41] :: r)) 0 := by unfold Rd.pass; rw [hi]; rfl
      have hs : isW (hd ((toTr e).tk ++ wd [41] :: r)) [42] = false := by rw [X1e hne]; exact hno _ (by decide)
      unfold Q9h
      rw [hi, hp, Q1c [] (Q1i _), Q2x]
      simp only [Int.reduceLT, if_false, Int.reduceEq]
      unfold X7h
      rw [Q7t hs, Q7u hs, hE2]
      simp only [Int.reduceLT, if_false, Bool.false_eq_true]
      rw [Q1c [] (Q1i _)]; rfl
    · have e1 : Q7y (5, [e]) ++ r = wd [83, 85, 77] :: wd [40] :: ((toTr e).tk ++ wd [41] :: r) := by
        show (wds [[83, 85, 77], [40]] ++ (toTr e).tk ++ [wd [41]]) ++ r = _
        simp [wds]
      rw [e1]
      have hi : (stR (wd [83, 85, 77] :: wd [40] :: ((toTr e).tk ++ wd [41] :: r)) 0).is Q2o = 1 := Q4o (.inl rfl) (by decide)
      have hp : (stR (wd [83, 85, 77] :: wd [40] :: ((toTr e).tk ++ wd [41] :: r)) 0).pass Q2o = stR (wd [40] :: ((toTr e).tk ++ wd [41] :: r)) 0 := by unfold Rd.pass; rw [hi]; rfl
      unfold Q9h
      rw [hi, hp, Q1c [] (Q1i _), Q2x]
      simp only [Int.reduceLT, if_false, Int.reduceEq]
      unfold X7h
      rw [hE2]
      simp only [Int.reduceLT, if_true]
      rw [Q1c [] (Q1i _)]; rfl
    · have e1 : Q7y (6, [e]) ++ r = wd [77, 73, 78] :: wd [40] :: ((toTr e).tk ++ wd [41] :: r) := by
        show (wds [[77, 73, 78], [40]] ++ (toTr e).tk ++ [wd [41]]) ++ r = _
        simp [wds]
      rw [e1]
      have hi : (stR (wd [77, 73, 78] :: wd [40] :: ((toTr e).tk ++ wd [41] :: r)) 0).is Q2o = 2 := Q4o (.inl rfl) (by decide)
      have hp : (stR (wd [77, 73, 78] :: wd [40] :: ((toTr e).tk ++ wd [41] :: r)) 0).pass Q2o = stR (wd [40] :: ((toTr e).tk ++ wd [41] :: r)) 0 := by unfold Rd.pass; rw [hi]; rfl
      unfold Q9h
      rw [hi, hp, Q1c [] (Q1i _), Q2x]
      simp only [Int.reduceLT, if_false, Int.reduceEq]
      unfold X7h
      rw [hE2]
      simp only [Int.reduceLT, if_true]
      rw [Q1c [] (Q1i _)]; rfl
    · have e1 : Q7y (7, [e]) ++ r = wd [77, 65, 88] :: wd [40] :: ((toTr e).tk ++ wd [41] :: r) := by
        show (wds [[77, 65, 88], [40]] ++ (toTr e).tk ++ [wd [41]]) ++ r = _
        simp [wds]
      rw [e1]
      have hi : (stR (wd [77, 65, 88] :: wd [40] :: ((toTr e).tk ++ wd [41] :: r)) 0).is Q2o = 3 := Q4o (.inl rfl) (by decide)
      have hp : (stR (wd [77, 65, 88] :: wd [40] :: ((toTr e).tk ++ wd [41] :: r)) 0).pass Q2o = stR (wd [40] :: ((toTr e).tk ++ wd [41] :: r)) 0 := by unfold Rd.pass; rw [hi]; rfl
      unfold Q9h
      rw [hi, hp, Q1c [] (Q1i _), Q2x]
      simp only [Int.reduceLT, if_false, Int.reduceEq]
      unfold X7h
      rw [hE2]
      simp only [Int.reduceLT, if_true]
      rw [Q1c [] (Q1i _)]; rfl
structure StB (x : Stm) : Prop where
  fit : fitB x = true
  lim : LimX x
  dp : stD x ≤ 10
theorem X4t {x : Stm} (h : fitB x = true) : (x.k = 1 ∨ (x.cols = [] ∧ x.pk = [])) ∧ (x.k = 3 ∨ x.rows = []) ∧ (x.k = 4 ∨ x.sets = []) ∧ (x.k = 6 ∨ (x.items = [] ∧ x.on = [] ∧ x.gr = [] ∧ x.or = [] ∧ x.join = [] ∧ x.desc = false ∧ x.lim = -1)) ∧ (4 ≤ x.k ∨ x.wh = []) := by
  unfold fitB bareB creates chooses at h
  simp only [Bool.and_eq_true, Bool.or_eq_true, decide_eq_true_eq, Bool.not_eq_true', Bool.or_eq_false_iff, decide_eq_false_iff_not, List.length_eq_zero_iff] at h
  obtain ⟨⟨_, _, h1, h2, h3, h4, h5⟩, _⟩ := h
  refine ⟨h1.imp id fun q => ⟨List.length_eq_zero_iff.1 (by omega), Classical.byContradiction fun r => q.2 r⟩, h2, h3, h4.imp id fun q => ?_, h5⟩
  obtain ⟨a, b, c, d⟩ := q
  exact ⟨List.length_eq_zero_iff.1 (by omega), List.length_eq_zero_iff.1 (by omega), List.length_eq_zero_iff.1 (by omega), List.length_eq_zero_iff.1 (by omega), Classical.byContradiction fun r => b r, c, Classical.byContradiction fun r => d r⟩
theorem X4u {w : By} {r : List Tk} {n : Nat} (h : (stR (wd w :: r) 0).is X2c = (n : Int)) : Q1g (stR (wd w :: r) 0) = Q9i n (stR r 0) := by
  unfold Q1g Rd.pass
  rw [h, if_pos (by omega)]; rfl
theorem Q5p {l : List Ex} (h : oneB l = true) : l.length ≤ 1 ∧ ∀ e ∈ l, rt e = true := by
  unfold oneB at h
  simp only [Bool.and_eq_true, decide_eq_true_eq] at h
  refine ⟨h.1, fun e he => ?_⟩
  match l, h.1, he, h.2 with
  | [x], _, he, h2 =>
    rw [List.mem_singleton.1 he]
    rw [Q6y, Bool.and_eq_true] at h2; exact h2.1
theorem expD_le {l : List Ex} (h : l.length ≤ 1) {e : Ex} (he : e ∈ l) : (toTr e).dp = expD l := by
  match l, h, he with
  | [x], _, he => rw [List.mem_singleton.1 he]; rfl
theorem xb_of {l : List Ex} (h : oneB l = true) (hL : ∀ e ∈ l, Lim e) (hd : expD l ≤ 10) : ∀ e ∈ l, XB e := fun e he => ⟨(Q5p h).2 e he, hL e he, by rw [expD_le (Q5p h).1 he]; exact hd⟩
theorem X6a {β : Type} {f : β → Nat} : ∀ {l : List β} {x : β}, x ∈ l → f x ≤ maxD f l
  | y :: r, x, h => by
    show f x ≤ max (f y) (maxD f r)
    rcases List.mem_cons.1 h with rfl | h
    · omega
    · have := X6a (f := f) h; omega
theorem rd_state {x : Stm} (h : StB x) {r : List Tk} (hN : Nx [[59]] r) : Q1g (stR (stT x ++ r) 0) = (x, stR r 0) := by
  obtain ⟨p1, p2, p3, p4, p5, p6, p7⟩ := Q9n h.fit
  obtain ⟨b1, b2, b3, b4, b5⟩ := X4t h.fit
  have hD := h.dp
  have hL := h.lim
  have hk : x.k = 1 ∨ x.k = 2 ∨ x.k = 3 ∨ x.k = 4 ∨ x.k = 5 ∨ x.k = 6 := by omega
  obtain ⟨k, t, cols, pk, rows, sets, items, join, on, wh, gr, or, desc, lim⟩ := x
  dsimp only at p1 p2 p3 p4 p5 p6 p7 b1 b2 b3 b4 b5 hk
  rcases hk with rfl | rfl | rfl | rfl | rfl | rfl
  · obtain rfl := b2.resolve_left (by decide)
    obtain rfl := b3.resolve_left (by decide)
    obtain ⟨rfl, rfl, rfl, rfl, rfl, rfl, rfl⟩ := b4.resolve_left (by decide)
    obtain rfl := b5.resolve_left (by decide)
    obtain ⟨c1, c2⟩ := p4 rfl
    unfold X7p at c1
    simp only [Bool.and_eq_true, decide_eq_true_eq] at c1
    have hne : cols ≠ [] := fun e => by rw [e] at c1; simp at c1
    have e1 : stT ⟨1, t, cols, pk, [], [], [], [], [], [], [], [], false, -1⟩ ++ r = wd [67, 82, 69, 65, 84, 69] :: wd [84, 65, 66, 76, 69] :: nT t :: wd [40] :: ((cols.map colT).flatten ++ wd [80, 82, 73, 77, 65, 82, 89] :: wd [75, 69, 89] :: wd [40] :: nT pk :: wd [41] :: wd [41] :: r) := by
      show (wds [[67, 82, 69, 65, 84, 69], [84, 65, 66, 76, 69]] ++ (nT t :: wd [40] :: ((cols.map colT).flatten ++ (wds [[80, 82, 73, 77, 65, 82, 89], [75, 69, 89], [40]] ++ (nT pk :: wds [[41], [41]]))))) ++ r = _
      simp [wds]
    rw [e1, X4u (n := 0) (Q4o (.inl rfl) (by decide))]
    show Q8x _ = _
    have q1 : crA (stR (wd [84, 65, 66, 76, 69] :: nT t :: wd [40] :: ((cols.map colT).flatten ++ wd [80, 82, 73, 77, 65, 82, 89] :: wd [75, 69, 89] :: wd [40] :: nT pk :: wd [41] :: wd [41] :: r)) 0) = stR (nT t :: wd [40] :: ((cols.map colT).flatten ++ wd [80, 82, 73, 77, 65, 82, 89] :: wd [75, 69, 89] :: wd [40] :: nT pk :: wd [41] :: wd [41] :: r)) 0 := Q1c [] (Q1i _)
    have hW : WF (wd [75, 69, 89] :: wd [40] :: nT pk :: wd [41] :: wd [41] :: r) := Q3p (Q3p (Q3p (Q3p (Q3p hN.1))))
    have q2 : crC (stR (wd [84, 65, 66, 76, 69] :: nT t :: wd [40] :: ((cols.map colT).flatten ++ wd [80, 82, 73, 77, 65, 82, 89] :: wd [75, 69, 89] :: wd [40] :: nT pk :: wd [41] :: wd [41] :: r)) 0) = (cols, stR (wd [75, 69, 89] :: wd [40] :: nT pk :: wd [41] :: wd [41] :: r) 0) := by
      unfold crC crB
      rw [q1, Q5m (k := 1) (x := nT t) rfl, Q1c [] (Q1i _), Q2x, rd_cols hW cols 8 [] c1.2.2 (.inr hne) (fun c hc => List.all_eq_true.1 c1.1 c hc)]
      rfl
    unfold Q8x crD
    rw [q2, q1, Q1c _ (Q1i _), Q1c [] (Q1i _), Q2x, Q8j (k := 1) (x := nT t) rfl, Q8j (k := 1) (x := nT pk) rfl, Q5m (k := 1) (x := nT pk) rfl, Q1c _ (Q1i _), Q1c [] (Q1i _), Q2x]
    rfl
  · obtain ⟨rfl, rfl⟩ := b1.resolve_left (by decide)
    obtain rfl := b2.resolve_left (by decide)
    obtain rfl := b3.resolve_left (by decide)
    obtain ⟨rfl, rfl, rfl, rfl, rfl, rfl, rfl⟩ := b4.resolve_left (by decide)
    obtain rfl := b5.resolve_left (by decide)
    show Q1g (stR (wd [68, 82, 79, 80] :: wd [84, 65, 66, 76, 69] :: nT t :: r) 0) = _
    rw [X4u (n := 1) (Q4o (.inl rfl) (by decide))]
    show X8i _ = _
    unfold X8i
    rw [Q1c [] (Q1i _), Q2x, Q8j (k := 1) (x := nT t) rfl, Q5m (k := 1) (x := nT t) rfl]
    rfl
  · obtain ⟨rfl, rfl⟩ := b1.resolve_left (by decide)
    obtain rfl := b3.resolve_left (by decide)
    obtain ⟨rfl, rfl, rfl, rfl, rfl, rfl, rfl⟩ := b4.resolve_left (by decide)
    obtain rfl := b5.resolve_left (by decide)
    have c1 := p5 rfl
    unfold X7q at c1
    simp only [Bool.and_eq_true, decide_eq_true_eq] at c1
    have hne : rows ≠ [] := fun e => by rw [e] at c1; simp at c1
    have e1 : stT ⟨3, t, [], [], rows, [], [], [], [], [], [], [], false, -1⟩ ++ r = wd [73, 78, 83, 69, 82, 84] :: wd [73, 78, 84, 79] :: nT t :: wd [86, 65, 76, 85, 69, 83] :: (sepG [44] rowT rows ++ r) := by
      show (wds [[73, 78, 83, 69, 82, 84], [73, 78, 84, 79]] ++ (nT t :: wd [86, 65, 76, 85, 69, 83] :: sepT rowT rows)) ++ r = _
      rw [X7t]; simp [wds]
    rw [e1, X4u (n := 2) (Q4o (.inl rfl) (by decide))]
    show Q8y _ = _
    have q1 : inA (stR (wd [73, 78, 84, 79] :: nT t :: wd [86, 65, 76, 85, 69, 83] :: (sepG [44] rowT rows ++ r)) 0) = stR (nT t :: wd [86, 65, 76, 85, 69, 83] :: (sepG [44] rowT rows ++ r)) 0 := Q1c [] (Q1i _)
    have q2 : inB (stR (wd [73, 78, 84, 79] :: nT t :: wd [86, 65, 76, 85, 69, 83] :: (sepG [44] rowT rows ++ r)) 0) = (rows, stR r 0) := by
      unfold inB many
      rw [q1, Q5m (k := 1) (x := nT t) rfl, Q1c [] (Q1i _), Q2x, X4s hN (by decide) rows 16 [] hne c1.2.2 (fun y hy r' hr' => rd_tuple (List.all_eq_true.1 c1.1 y hy) (hL.v y hy) hr'.1)]
      rfl
    unfold Q8y
    rw [q2, q1, Q8j (k := 1) (x := nT t) rfl]
    rfl
  · obtain ⟨rfl, rfl⟩ := b1.resolve_left (by decide)
    obtain rfl := b2.resolve_left (by decide)
    obtain ⟨rfl, rfl, rfl, rfl, rfl, rfl, rfl⟩ := b4.resolve_left (by decide)
    have c1 := p6 rfl
    unfold X5l at c1
    simp only [Bool.and_eq_true, decide_eq_true_eq] at c1
    have hne : sets ≠ [] := fun e => by rw [e] at c1; simp at c1
    have hD : max (maxD (fun s : Se => (toTr s.2).dp) sets) (expD wh) ≤ 10 := hD
    have e1 : stT ⟨4, t, [], [], [], sets, [], [], [], wh, [], [], false, -1⟩ ++ r = wd [85, 80, 68, 65, 84, 69] :: nT t :: wd [83, 69, 84] :: (sepG [44] setT sets ++ (expT [[87, 72, 69, 82, 69]] wh ++ r)) := by
      show (wd [85, 80, 68, 65, 84, 69] :: nT t :: wd [83, 69, 84] :: (sepT setT sets ++ expT [[87, 72, 69, 82, 69]] wh)) ++ r = _
      rw [X7t]; simp
    rw [e1, X4u (n := 3) (Q4o (.inl rfl) (by decide))]
    show Q8z _ = _
    have hN2 : Nx [[87, 72, 69, 82, 69], [59]] (expT [[87, 72, 69, 82, 69]] wh ++ r) := nx_exp hN
    have q2 : upA (stR (nT t :: wd [83, 69, 84] :: (sepG [44] setT sets ++ (expT [[87, 72, 69, 82, 69]] wh ++ r))) 0) = (sets, stR (expT [[87, 72, 69, 82, 69]] wh ++ r) 0) := by
      unfold upA many
      rw [Q5m (k := 1) (x := nT t) rfl, Q1c [] (Q1i _), Q2x, X4s hN2 (by decide) sets 8 [] hne c1.2.2 (fun y hy r' hr' => by
        have := List.all_eq_true.1 c1.1 y hy
        unfold X3m at this
        rw [Bool.and_eq_true] at this
        have hm := X6a (f := fun s : Se => (toTr s.2).dp) hy
        exact rd_set this.1 ⟨this.2, hL.s.set y hy, by (try dsimp only at hm); omega⟩ hr'.1 (hr'.stop (by decide)))]
      rfl
    unfold Q8z
    rw [q2, Q8j (k := 1) (x := nT t) rfl]
    dsimp only
    rw [Y1b (Q5p p3).1 (xb_of p3 hL.s.wh.2 (by omega)) hN (by decide) (by decide)]
    rfl
  · obtain ⟨rfl, rfl⟩ := b1.resolve_left (by decide)
    obtain rfl := b2.resolve_left (by decide)
    obtain rfl := b3.resolve_left (by decide)
    obtain ⟨rfl, rfl, rfl, rfl, rfl, rfl, rfl⟩ := b4.resolve_left (by decide)
    have hD : expD wh ≤ 10 := hD
    show Q1g (stR (wd [68, 69, 76, 69, 84, 69] :: wd [70, 82, 79, 77] :: nT t :: (expT [[87, 72, 69, 82, 69]] wh ++ r)) 0) = _
    rw [X4u (n := 4) (Q4o (.inl rfl) (by decide))]
    show Q9a _ = _
    unfold Q9a
    rw [Q1c [] (Q1i _), Q2x, Q8j (k := 1) (x := nT t) rfl, Q5m (k := 1) (x := nT t) rfl, Y1b (Q5p p3).1 (xb_of p3 hL.s.wh.2 hD) hN (by decide) (by decide)]
    rfl
  · obtain ⟨rfl, rfl⟩ := b1.resolve_left (by decide)
    obtain rfl := b2.resolve_left (by decide)
    obtain rfl := b3.resolve_left (by decide)
    have hsel := p7 rfl
    obtain ⟨s1, s2, s3, s4, s5⟩ := Q9o hsel
    unfold selB joinB at hsel
    simp only [Bool.and_eq_true, Bool.or_eq_true, decide_eq_true_eq, Bool.not_eq_true'] at hsel
    obtain ⟨j1, _, _, _, _, j2, _⟩ := hsel
    dsimp only at s1 s2 s3 s4 s5 j1 j2
    unfold X0j at s1
    simp only [Bool.and_eq_true, decide_eq_true_eq] at s1
    have hne : items ≠ [] := fun e => by rw [e] at s1; simp at s1
    have hD : max (maxD (fun y : It => expD y.2) items) (max (if join = [] then 0 else expD on) (max (expD wh) (max (expD gr) (expD or)))) ≤ 10 := hD
    have hgk : ∀ e ∈ gr, e.kd = 2 := fun e he => by
      match gr, (Q5p (Q5o s3)).1, he, s3 with
      | [y], _, he, s3 =>
        rw [List.mem_singleton.1 he]
        unfold colB at s3
        simp only [Bool.and_eq_true, decide_eq_true_eq] at s3
        exact s3.2
    have hok : ∀ e ∈ or, e.kd = 2 := fun e he => by
      match or, (Q5p (Q5o s4)).1, he, s4 with
      | [y], _, he, s4 =>
        rw [List.mem_singleton.1 he]
        unfold colB at s4
        simp only [Bool.and_eq_true, decide_eq_true_eq] at s4
        exact s4.2
    -- what stands behind, from the end
    obtain ⟨R6, hR6⟩ : ∃ R, R = (if 0 ≤ lim then [wd [76, 73, 77, 73, 84], iT lim] else []) ++ r := ⟨_, rfl⟩
    obtain ⟨R5, hR5⟩ : ∃ R, R = (if desc = true then [wd [68, 69, 83, 67]] else []) ++ R6 := ⟨_, rfl⟩
    obtain ⟨R4, hR4⟩ : ∃ R, R = expT [[79, 82, 68, 69, 82], [66, 89]] or ++ R5 := ⟨_, rfl⟩
    obtain ⟨R3, hR3⟩ : ∃ R, R = expT [[71, 82, 79, 85, 80], [66, 89]] gr ++ R4 := ⟨_, rfl⟩
    obtain ⟨R2, hR2⟩ : ∃ R, R = expT [[87, 72, 69, 82, 69]] wh ++ R3 := ⟨_, rfl⟩
    obtain ⟨R1, hR1⟩ : ∃ R, R = (if join = [] then [] else wd [74, 79, 73, 78] :: nT join :: expT [[79, 78]] on) ++ R2 := ⟨_, rfl⟩
    have n6 : Nx [[76, 73, 77, 73, 84], [59]] R6 := by
      rw [hR6]; split
      · exact X4r (by simp) (Q3p hN.1)
      · exact hN.mono (by simp)
    have n5 : Nx [[68, 69, 83, 67], [76, 73, 77, 73, 84], [59]] R5 := by
      rw [hR5]; split
      · exact X4r (by simp) n6.1
      · exact n6.mono (by simp)
    have n4 : Nx [[79, 82, 68, 69, 82], [68, 69, 83, 67], [76, 73, 77, 73, 84], [59]] R4 := by rw [hR4]; exact nx_exp n5
    have n3 : Nx [[71, 82, 79, 85, 80], [79, 82, 68, 69, 82], [68, 69, 83, 67], [76, 73, 77, 73, 84], [59]] R3 := by rw [hR3]; exact nx_exp n4
    have n2 : Nx [[87, 72, 69, 82, 69], [71, 82, 79, 85, 80], [79, 82, 68, 69, 82], [68, 69, 83, 67], [76, 73, 77, 73, 84], [59]] R2 := by rw [hR2]; exact nx_exp n3
    have w1 : WF R1 := by rw [hR1]; exact X8s _ n2.1
    have e1 : stT ⟨6, t, [], [], [], [], items, join, on, wh, gr, or, desc, lim⟩ ++ r = wd [83, 69, 76, 69, 67, 84] :: (sepG [44] Q7y items ++ wd [70, 82, 79, 77] :: nT t :: R1) := by
      rw [hR1, hR2, hR3, hR4, hR5, hR6]
      show (wd [83, 69, 76, 69, 67, 84] :: (sepT Q7y items ++ (wd [70, 82, 79, 77] :: nT t :: ((if join = [] then [] else wd [74, 79, 73, 78] :: nT join :: expT [[79, 78]] on) ++ (expT [[87, 72, 69, 82, 69]] wh ++ (expT [[71, 82, 79, 85, 80], [66, 89]] gr ++ (expT [[79, 82, 68, 69, 82], [66, 89]] or ++
        ((if desc = true then [wd [68, 69, 83, 67]] else []) ++ (if 0 ≤ lim then [wd [76, 73, 77, 73, 84], iT lim] else []))))))))) ++ r = _
      rw [X7t]; simp
    rw [e1, X4u (n := 5) (Q4o (.inl rfl) (by decide))]
    show Q9b _ = _
    obtain ⟨S, hS⟩ : ∃ S, S = stR (sepG [44] Q7y items ++ wd [70, 82, 79, 77] :: nT t :: R1) 0 := ⟨_, rfl⟩
    rw [← hS]
    have qA : seA S = (items, stR (wd [70, 82, 79, 77] :: nT t :: R1) 0) := by
      rw [hS]
      unfold seA many
      rw [X4s (ws := [[70, 82, 79, 77]]) (X4r (by simp) (Q3p w1)) (by decide) items 8 [] hne s1.2.2 (fun y hy r' hr' => by
        have hi := List.all_eq_true.1 s1.1 y hy
        have hm := X6a (f := fun y : It => expD y.2) hy
        have ho : oneB y.2 = true := by
          unfold Q6u at hi
          simp only [Bool.and_eq_true, decide_eq_true_eq] at hi
          unfold oneB
          simp only [Bool.and_eq_true, decide_eq_true_eq]
          refine ⟨?_, hi.2.2⟩
          rw [hi.2.1]
          split <;> omega
        exact rd_item hi (xb_of ho (hL.s.item y hy).2 (by (try dsimp only at hm); omega)) hr')]
      rfl
    have qB : seB S = stR (nT t :: R1) 0 := by
      unfold seB; rw [qA]; exact Q1c [] (Q1i _)
    have qC : seC S = (join, on, stR R2 0) := by
      unfold seC
      rw [qB, Q5m (k := 1) (x := nT t) rfl, hR1]
      by_cases hj : join = []
      · have ho : on = [] := j1.elim (fun q => List.length_eq_zero_iff.1 q.2) (fun q => by rw [hj] at q; cases q.1)
        rw [if_pos hj, zH]
        unfold X7i
        rw [Q7t (n2.no (by decide)), Q7u (n2.no (by decide)), hj, ho]
        rfl
      · have ho : on.length = 1 := j1.elim (fun q => absurd q.1 hj) (fun q => q.2)
        rw [if_neg hj] at hD ⊢
        match on, ho, s2, hL, hD with
        | [e], _, s2, hL, hD =>
          have hX : XB e := xb_of s2 hL.s.on.2 (by omega) e (by simp)
          show X7i (stR (wd [74, 79, 73, 78] :: nT join :: wd [79, 78] :: ((toTr e).tk ++ R2)) 0) = _
          have hb : Go.Parse.joinB (stR (wd [74, 79, 73, 78] :: nT join :: wd [79, 78] :: ((toTr e).tk ++ R2)) 0) = stR ((toTr e).tk ++ R2) 0 := by
            unfold Go.Parse.joinB
            rw [Q4t (Q1i _), Q5m (k := 1) (x := nT join) rfl, Q1c [] (Q1i _), Q2x]
          unfold X7i
          rw [Q4p (Q1i _), hb, Q4t (Q1i _), Q8j (k := 1) (x := nT join) rfl, rd_e hX n2.1 (n2.stop (by decide))]
          rfl
    have qD : seD S = (wh, stR R3 0) := by
      unfold seD; rw [qC]; dsimp only
      rw [hR2, Y1b (Q5p p3).1 (xb_of p3 hL.s.wh.2 (by omega)) n3 (by decide) (by decide)]
    have qE : seE S = (gr, stR R4 0) := by
      unfold seE; rw [qD]; dsimp only
      rw [hR3, rd_by (Q5p (Q5o s3)).1 (xb_of (Q5o s3) hL.s.gr.2 (by omega)) hgk n4 (by decide) (by decide)]
    have qF : seF S = (or, stR R5 0) := by
      unfold seF; rw [qE]; dsimp only
      rw [hR4, rd_by (Q5p (Q5o s4)).1 (xb_of (Q5o s4) hL.s.or.2 (by omega)) hok n5 (by decide) (by decide)]
    have qG : seG S = (desc, stR R6 0) := by
      unfold seG; rw [qF]; dsimp only
      unfold descL
      by_cases ho : or = []
      · have hd : desc = false := j2.elim (fun q => by rw [ho] at q; cases q) id
        rw [if_pos ho, hR5, hd]; rfl
      · rw [if_neg ho, hR5]
        cases desc with
        | true =>
          show ((stR (wd [68, 69, 83, 67] :: R6) 0).has _, (stR (wd [68, 69, 83, 67] :: R6) 0).pass _) = _
          rw [Q4p (Q1i _), Q4t (Q1i _)]
        | false =>
          show ((stR R6 0).has _, (stR R6 0).pass _) = _
          rw [Q7t (n6.no (by decide)), Q7u (n6.no (by decide))]
    have qH : seH S = (lim, stR r 0) := by
      unfold seH; rw [qG]; dsimp only
      rw [hR6]
      unfold limL
      by_cases hl : 0 ≤ lim
      · rw [if_pos hl]
        show (if (stR (wd [76, 73, 77, 73, 84] :: iT lim :: r) 0).has [76, 73, 77, 73, 84] = true then ((((((stR (wd [76, 73, 77, 73, 84] :: iT lim :: r) 0).pass [[76, 73, 77, 73, 84]]).tok 3).2.2.1 : Nat) : Int), ((stR (wd [76, 73, 77, 73, 84] :: iT lim :: r) 0).pass [[76, 73, 77, 73, 84]]).take 3) else (-1, (stR (wd [76, 73, 77, 73, 84] :: iT lim :: r) 0).pass [[76, 73, 77, 73, 84]])) = _
        rw [Q4p (Q1i _), Q4t (Q1i _), Q8j (k := 3) (x := iT lim) rfl, Q5m (k := 3) (x := iT lim) rfl, if_pos rfl]
        show (((lim.toNat : Nat) : Int), stR r 0) = _
        rw [show ((lim.toNat : Nat) : Int) = lim by omega]
      · rw [if_neg hl, zH, Q7t (hN.no (by decide)), Q7u (hN.no (by decide))]
        rw [show lim = -1 by omega]; rfl
    unfold Q9b
    rw [qA, qB, qC, qD, qE, qF, qG, qH, Q8j (k := 1) (x := nT t) rfl]
    rfl
theorem sc_back {l : List Stm} (hne : l ≠ []) (h8 : l.length ≤ 8) (h : ∀ x ∈ l, StB x) (hl : (Q5j (scT l)).length ≤ 2000) : (Q7v (Q5j (scT l))).1 = l ∧ (Q7v (Q5j (scT l))).2.1 = 0 := by
  have hgd : AG (scT l) := sc_good (fun x hx => st_good (h x hx).fit (h x hx).lim)
  obtain ⟨m, hm, hn⟩ := X7b (scT l) 0 hgd
  rw [X7o hgd] at hl ⊢
  have h2 := X3d (by omega) hm
  have hf : (m ++ [(6, [], 0, 0 + (Q4s ((scT l).map txt)).length)]).map fT = (scT l ++ [(6, [], 0, 0)]).map fT := by
    rw [List.map_append, List.map_append, fT_of hn]; rfl
  have q2 := script_alike hf
  unfold Q7v
  rw [h2]
  simp only
  rw [q2.1, q2.2]
  have h3 := X4s (one := Q1g) (sep := [59]) (tok := stT) (ws := []) (r := [(6, [], 0, 0)]) ⟨rfl, .inl rfl⟩ (by simp) l 8 [] hne h8 (fun x hx r' hr' => rd_state (h x hx) hr')
  rw [← scT_eq] at h3
  have e : rd0 (scT l ++ [(6, [], 0, 0)]) = stR (scT l ++ [(6, [], 0, 0)]) 0 := rfl
  have e2 : Q5a (scT l ++ [(6, [], 0, 0)]) = (l, stR [(6, [], 0, 0)] 0) := by
    unfold Q5a
    rw [e, h3]
    rfl
  unfold X1f
  rw [e2]
  exact ⟨rfl, rfl⟩
structure AllX (N : Nat) (x : Stm) : Prop where
  sets : ∀ s ∈ x.sets, (toTr s.2).tk.length ≤ N
  items : ∀ y ∈ x.items, ∀ e ∈ y.2, (toTr e).tk.length ≤ N
  on : ∀ e ∈ x.on, (toTr e).tk.length ≤ N
  wh : ∀ e ∈ x.wh, (toTr e).tk.length ≤ N
  gr : ∀ e ∈ x.gr, (toTr e).tk.length ≤ N
  or : ∀ e ∈ x.or, (toTr e).tk.length ≤ N
theorem X3n {β : Type} {one : β → List Tk} {M : Nat} : ∀ {l : List β}, (∀ x ∈ l, (one x).length ≤ M) → (sepT one l).length ≤ (M + 1) * l.length
  | [], _ => by simp [sepT]
  | [x], h => by have := h x (by simp); show (one x).length ≤ (M + 1) * 1; omega
  | x :: y :: r, h => by
    have h1 := h x (by simp)
    have ih := X3n (l := y :: r) (fun z hz => h z (List.mem_cons_of_mem _ hz))
    show (one x ++ wd [44] :: sepT one (y :: r)).length ≤ (M + 1) * ((y :: r).length + 1)
    rw [zx, zy, Nat.mul_succ]
    omega
theorem maxD_bd {β : Type} {f : β → Nat} {M : Nat} : ∀ {l : List β}, (∀ x ∈ l, f x ≤ M) → maxD f l ≤ M
  | [], _ => Nat.zero_le _
  | x :: r, h => by
    have h1 := h x (by simp)
    have h2 := maxD_bd (f := f) (l := r) (fun y hy => h y (List.mem_cons_of_mem _ hy))
    show max (f x) (maxD f r) ≤ M
    omega
theorem X1t {N : Nat} (ws : List By) {l : List Ex} (h : ∀ e ∈ l, (toTr e).tk.length ≤ N) : (expT ws l).length ≤ ws.length + N := by
  cases l with
  | nil => exact Nat.zero_le _
  | cons e r =>
    have := h e (by simp)
    show (wds ws ++ (toTr e).tk).length ≤ _
    rw [zx, Q3o]; omega
theorem X3o {N : Nat} {l : List Ex} (h : ∀ e ∈ l, (toTr e).tk.length ≤ N) : expD l ≤ N := by
  cases l with
  | nil => exact Nat.zero_le _
  | cons e r =>
    have := h e (by simp)
    have := X4e (toTr e)
    show (toTr e).dp ≤ N
    omega
theorem itemT_len {N : Nat} {x : It} (h : ∀ e ∈ x.2, (toTr e).tk.length ≤ N) : (Q7y x).length ≤ N + 4 := by
  unfold Q7y
  split
  · simp [wds]
  · split
    · simp [wds]
    · split
      · have := X1t [] h; simp at this; omega
      · rw [zx]
        have := X1t [(if x.1 = 4 then [67, 79, 85, 78, 84] else if x.1 = 5 then [83, 85, 77] else if x.1 = 6 then [77, 73, 78] else [77, 65, 88]), [40]] h
        simp at this ⊢
        omega
theorem st_len {x : Stm} {N : Nat} (hf : fitB x = true) (h : AllX N x) : (stT x).length ≤ 24 * N + 1000 ∧ stD x ≤ N := by
  obtain ⟨p1, p2, p3, p4, p5, p6, p7⟩ := Q9n hf
  have hk : x.k = 1 ∨ x.k = 2 ∨ x.k = 3 ∨ x.k = 4 ∨ x.k = 5 ∨ x.k = 6 := by omega
  have ew := X1t [[87, 72, 69, 82, 69]] h.wh
  have dw := X3o h.wh
  unfold stT stD
  rcases hk with hk | hk | hk | hk | hk | hk <;> rw [hk] <;> simp only [Int.reduceEq, if_true, if_false]
  · have a := (p4 hk).1
    unfold X7p at a
    simp only [Bool.and_eq_true, decide_eq_true_eq] at a
    have := Y0z x.cols x.cols.length
    rw [List.take_length] at this
    refine ⟨?_, Nat.zero_le _⟩
    unfold X4l
    simp only [zx, zy, Q3o, zA]
    omega
  · exact ⟨by unfold dropT; simp [wds], Nat.zero_le _⟩
  · have a := p5 hk
    unfold X7q at a
    simp only [Bool.and_eq_true, decide_eq_true_eq] at a
    have h1 : ∀ r ∈ x.rows, (rowT r).length ≤ 26 := fun r hr => by
      have hb := List.all_eq_true.1 a.1 r hr
      unfold rowB at hb
      simp only [Bool.and_eq_true, decide_eq_true_eq] at hb
      have h2 := X3n (one := litT) (M := 2) (l := r) (fun v _ => (X3h v).2)
      unfold rowT
      simp only [zx, zy, zA]
      omega
    have h3 := X3n (one := rowT) h1
    refine ⟨?_, Nat.zero_le _⟩
    unfold X4m
    simp only [zx, zy, Q3o, zA]
    omega
  · have a := p6 hk
    unfold X5l at a
    simp only [Bool.and_eq_true, decide_eq_true_eq] at a
    have h1 : ∀ s ∈ x.sets, (setT s).length ≤ N + 2 := fun s hs => by
      have := h.sets s hs
      unfold setT
      simp only [zy]
      omega
    have h3 := X3n (one := setT) h1
    have h4 := maxD_bd (f := fun s : Se => (toTr s.2).dp) (l := x.sets) (M := N) (fun s hs => by
      have := h.sets s hs
      have := X4e (toTr s.2)
      try dsimp only
      omega)
    have h5 : (N + 2 + 1) * x.sets.length ≤ (N + 2 + 1) * 8 := Nat.mul_le_mul_left _ a.2.2
    refine ⟨?_, by omega⟩
    unfold X4n
    simp only [zx, zy, zA] at ew ⊢
    omega
  · refine ⟨?_, dw⟩
    unfold removeT
    simp only [zx, zy, Q3o, zA] at ew ⊢
    omega
  · obtain ⟨s1, s2, s3, s4, s5⟩ := Q9o (p7 hk)
    unfold X0j at s1
    simp only [Bool.and_eq_true, decide_eq_true_eq] at s1
    have h3 := X3n (one := Q7y) (l := x.items) (M := N + 4) (fun y hy => itemT_len (h.items y hy))
    have h4 := maxD_bd (f := fun y : It => expD y.2) (l := x.items) (M := N) (fun y hy => X3o (h.items y hy))
    have h5 : (N + 4 + 1) * x.items.length ≤ (N + 4 + 1) * 8 := Nat.mul_le_mul_left _ s1.2.2
    have e1 := X1t [[79, 78]] h.on
    have e2 := X1t [[71, 82, 79, 85, 80], [66, 89]] h.gr
    have e3 := X1t [[79, 82, 68, 69, 82], [66, 89]] h.or
    have d1 := X3o h.on
    have d2 := X3o h.gr
    have d3 := X3o h.or
    have hj : (joinT x).length ≤ N + 4 := by
      unfold joinT
      split
      · simp
      · simp only [zy, zA] at e1 ⊢; omega
    refine ⟨?_, ?_⟩
    · unfold X4o
      have l1 : (if x.desc then [wd [68, 69, 83, 67]] else []).length ≤ 1 := by split <;> simp
      have l2 : (if 0 ≤ x.lim then [wd [76, 73, 77, 73, 84], iT x.lim] else []).length ≤ 2 := by split <;> simp
      simp only [zx, zy, zA] at ew e2 e3 ⊢
      omega
    · split <;> omega
structure R0 (s : Rd) : Prop where
  wf : WF s.l
  gl : GL s.l
  d : s.d = 0
  len : s.l.length ≤ 2001
theorem R0.ok {s s' : Rd} (h : R0 s) (o : Ok s s') : R0 s' := ⟨o.wf, h.gl.suf o.suf, o.d.trans h.d, Nat.le_trans o.le h.len⟩
structure XR (e : Ex) : Prop where
  rt : Go.Print.rt e = true
  lim : Lim e
  len : (toTr e).tk.length ≤ 20000
def OL (l : List Ex) : Prop := oneB l = true ∧ ∀ e ∈ l, XR e
theorem OL.lim {l : List Ex} (h : OL l) : LimL l := ⟨by have := (Q5p h.1).1; omega, fun e he => (h.2 e he).lim⟩
theorem fail_c {s : Rd} {e : Int} (he : e ≠ 0) : (s.fail e).c ≠ 0 := by
  unfold Rd.fail
  split
  · exact he
  · assumption
end Go.Print
namespace Go.Proofs.YtjdapkelojdefaaGreatDoor
open Go Go.V Go.Lex Go.Parse Go.Print
theorem ws_sub0 {σ : Sg} {ω τ β : Nat} {l : List Tk} {d m : Int} {o o' : Ob} (h : σ β = none) : (WS σ ω τ l d m).sub (WS ((σ.set ω o).set β o') ω τ l d m) := by
  intro y p hy
  simp only [WS, Y0i, Sg.set_apply] at hy ⊢
  grind
structure ScX (l : List Stm) : Prop where
  len : l.length ≤ 9223372036854775807
  lim : ∀ x ∈ l, LimX x
  sum : ∀ x ∈ l, x.items.length + x.on.length + x.gr.length + x.or.length ≤ 9223372036854775807
  big : l.length ≤ 8 → ∀ x ∈ l, fitB x = true → (stT x).length ≤ 2 ^ 26 ∧ stD x ≤ 2 ^ 26
theorem w_Script (l : List Stm) (hX : ScX l) (o : Own) (σ : Sg) : VCalls Tryz.prog 15 [.sl o (l.map stmA)] σ (fun x σ' => x = .tup [.s (bs (X1j l).1), .i (X1j l).2] ∧ σ' = σ) := by
  have a1 : (l.map stmA).length = l.length := zB ..
  have a2 := Q3d (f := stmA) (n := 14) l (fun _ => rfl)
  have a3 := fun k (h : k < l.length) => Q3c (f := stmA) h
  have hll := hX.len
  unfold X1j
  by_cases h8 : 8 < l.length
  · rw [if_pos h8]
    generalize l.map stmA = L at *
    (refine vfun (fun _ => .no) Q0h Tryz.func15 (by kernel_rfl) ?_; simp only [Q0f, Tryz.f15, zw])
    (have zz := Bx.mk (j2 ui0 (j9 ui3 ui4 ui9 ui22 ui23 ui24 ui25 ui26 (j9 ui30 ui31 ui35 ui37 ui38 ui39 ui40 ui41 (j9 ui42 ui55 ui56 ui57 ui58 ui59 ui67 ui68 (j9 ui70 ui71 ui75 Q1k Q0u Q1e Q1r Q1s a1))))); (repeat' (first | exact zc | (with_reducible first | apply And.intro | apply Q0a | apply Q0b | refine Q0c (by decide +kernel) ?_ | intro _) | refine zaY zz.out ?_ | ((first | (with_reducible refine uc (Q9m _ (by assumption) (by assumption) _) ?_) | ((with_reducible refine zU (Q0m _ _ _ _ _ _ _ _ (by repeat (first | exact Q0p | refine Q0k ?_ (by simp))) (by exact zO) (by exact zN)) ?_); rintro _ S ⟨rfl, τ1, ⟨f1, n1⟩, rfl⟩; have n1s := n1.symm) | (refine Q0d (by exact zK) ?_) | (refine Q0e (by exact zK) ?_)); (try refine zsY zz.out ?_)) | refine zo ?_ | omega | refine ztY zz.out ?_ | fail)); try (all_goals clear zz))
    all_goals first | exact ⟨_, .refl _, rfl⟩ | (exfalso; omega)
  rw [if_neg h8]
  by_cases h0 : l = []
  · subst h0
    rw [if_pos rfl]
    simp only [zA] at a1
    generalize List.map stmA [] = L at *
    (refine vfun (fun _ => .no) Q0h Tryz.func15 (by kernel_rfl) ?_; simp only [Q0f, Tryz.f15, zw])
    (have zz := Bx.mk (j2 ui0 (j9 ui3 ui4 ui9 ui22 ui23 ui24 ui25 ui26 (j9 ui30 ui31 ui35 ui37 ui38 ui39 ui40 ui41 (j9 ui42 ui55 ui56 ui57 ui58 ui59 ui67 ui68 (j9 ui70 ui71 ui75 Q1k Q0u Q1e Q1r Q1s a1))))); (repeat' (first | exact zc | (with_reducible first | apply And.intro | apply Q0a | apply Q0b | refine Q0c (by decide +kernel) ?_ | intro _) | refine zaY zz.out ?_ | ((first | (with_reducible refine uc (Q9m _ (by assumption) (by assumption) _) ?_) | ((with_reducible refine zU (Q0m _ _ _ _ _ _ _ _ (by repeat (first | exact Q0p | refine Q0k ?_ (by simp))) (by exact zO) (by exact zN)) ?_); rintro _ S ⟨rfl, τ1, ⟨f1, n1⟩, rfl⟩; have n1s := n1.symm) | (refine Q0d (by exact zK) ?_) | (refine Q0e (by exact zK) ?_)); (try refine zsY zz.out ?_)) | refine zo ?_ | omega | refine ztY zz.out ?_ | fail)); try (all_goals clear zz))
    all_goals first | exact ⟨_, .refl _, rfl⟩ | (exfalso; omega)
  rw [if_neg h0]
  have hl0 : 0 < l.length := List.length_pos_iff.2 h0
  generalize hL : l.map stmA = L at *
  (refine vfun (fun _ => .no) Q0h Tryz.func15 (by kernel_rfl) ?_; simp only [Q0f, Tryz.f15, zw])
  (have zz := Bx.mk (j2 ui0 (j9 ui3 ui4 ui9 ui22 ui23 ui24 ui25 ui26 (j9 ui30 ui31 ui35 ui37 ui38 ui39 ui40 ui41 (j9 ui42 ui55 ui56 ui57 ui58 ui59 ui67 ui68 (j9 ui70 ui71 ui75 Q1k Q0u Q1e Q1r Q1s a1))))); (repeat' (first | exact zc | (with_reducible first | apply And.intro | apply Q0a | apply Q0b | refine Q0c (by decide +kernel) ?_ | intro _) | refine zaY zz.out ?_ | ((first | (with_reducible refine uc (Q9m _ (by assumption) (by assumption) _) ?_) | ((with_reducible refine zU (Q0m _ _ _ _ _ _ _ _ (by repeat (first | exact Q0p | refine Q0k ?_ (by simp))) (by exact zO) (by exact zN)) ?_); rintro _ S ⟨rfl, τ1, ⟨f1, n1⟩, rfl⟩; have n1s := n1.symm) | (refine Q0d (by exact zK) ?_) | (refine Q0e (by exact zK) ?_)); (try refine zsY zz.out ?_)) | refine zo ?_ | omega | refine ztY zz.out ?_ | fail)); try (all_goals clear zz))
  all_goals try (exfalso; omega)
  rename_i ω hω
  refine VW.loop3 (0 : Nat) (0 : Nat) () (fun k τ _ => k ≤ l.length ∧ (∀ x ∈ l.take k, fitB x = true) ∧ (k ≠ 0 → σ τ = none ∧ τ ≠ ω)) (fun k _ _ => [(2, .s (bs [])), (3, .i 0), (4, .ref ω 0), (17, .sl o L), (18, .i l.length), (19, .i k)]) (fun k τ _ => if k = 0 then σ.set ω (.cells 59 [.sl .nil [], .i 0, .i 0]) else WS σ ω τ (scT (l.take k)) 0 ((scD (l.take k) : Nat) : Int)) (fun k _ _ => l.length - k) ⟨Nat.zero_le _, fun x hx => (by simp at hx), fun h => absurd rfl h⟩ (.refl _) ?_ ?_
  · simp only [vO, vQ, ↓vP, vE, vS, vB, vL, vF, vM, vN, Q0g, zb, Nat.reduceAdd, ze, ne_eq, not_false_eq_true, Nat.reduceMul, Nat.reduceSub, Int.toNat_zero, zl, vT]
    all_goals first | rfl | exact ⟨rfl, rfl⟩
  rintro k τ _ ⟨hk, hfit, hτ⟩
  rcases Nat.lt_or_ge k l.length with hk2 | hk2
  · have hg := a3 k hk2
    have hmem : l[k] ∈ l := List.getElem_mem hk2
    have iF := Q9m l[k] (hX.lim _ hmem).s (hX.sum _ hmem)
    have hbig := hX.big (by omega) _ hmem
    have hlm := hX.lim _ hmem
    have q1 := Q8n l[k]
    have q2 := X0f l[k]
    have q3 := Q6e l[k]
    have q4 := Q7x l[k]
    have hpre := Y1a (l := l) (N := 2 ^ 26) k (fun x hx => (hX.big (by omega) x (List.mem_of_mem_take hx) (hfit x hx)).1)
    have hpd : scD (l.take k) ≤ 2 ^ 26 := scD_le (fun x hx => (hX.big (by omega) x (List.mem_of_mem_take hx) (hfit x hx)).2)
    have hst := scT_take hk2
    have hsd : scD (l.take (k + 1)) = max (scD (l.take k)) (stD l[k]) := X7r stD hk2
    have hnx : fitB l[k] = true → ∀ x ∈ l.take (k + 1), fitB x = true := fun hb x hx => by
      rw [List.take_succ_eq_append_getElem hk2] at hx
      rcases List.mem_append.1 hx with hx | hx
      · exact hfit x hx
      · rw [List.mem_singleton.1 hx]; exact hb
    have hall : fitB l[k] = false → l.all fitB = false := fun hb => by
      rw [List.all_eq_false]
      exact ⟨l[k], hmem, by rw [hb]; decide⟩
    cases hb : fitB l[k] with
    | false =>
      rw [hb] at iF
      rw [hall hb]
      generalize stmA l[k] = D at *
      clear hbig hst hsd hnx hall hpre hpd hfit
      by_cases hz : k = 0
      · subst hz
        simp only [↓reduceIte]
        (have zz := Bx.mk (j8 ui0 ui3 ui4 ui9 ui22 ui23 ui24 (j9 ui25 ui26 ui30 ui31 ui35 ui37 ui38 ui39 (j9 ui40 ui41 ui42 ui55 ui56 ui57 ui58 ui59 (j9 ui67 ui68 ui70 ui71 ui75 Q1k Q0u Q1e (j9 Q1r Q1s a1 a2 hg q1 q2 q3 q4))))); (repeat' (first | exact zc | (with_reducible first | apply And.intro | apply Q0a | apply Q0b | refine Q0c (by decide +kernel) ?_ | intro _) | refine zaY zz.out ?_ | ((first | (with_reducible refine uc (iF _) ?_) | (with_reducible refine uc (Q9m _ (by assumption) (by assumption) _) ?_) | ((with_reducible refine zU (Q0m _ _ _ _ _ _ _ _ (by repeat (first | exact Q0p | refine Q0k ?_ (by simp))) (by exact zO) (by exact zN)) ?_); rintro _ S ⟨rfl, τ1, ⟨f1, n1⟩, rfl⟩; have n1s := n1.symm) | (refine Q0d (by exact zK) ?_) | (refine Q0e (by exact zK) ?_)); (try refine zsY zz.out ?_)) | refine zo ?_ | omega | refine ztY zz.out ?_ | fail)); try (all_goals clear zz))
        all_goals first | exact ⟨σ, by (exact zu), rfl, rfl⟩ | exact ⟨σ, by (exact zu), rfl⟩
      · rw [if_neg hz]
        obtain ⟨f1, n1⟩ := hτ hz
        (have zz := Bx.mk (j8 ui0 ui3 ui4 ui9 ui22 ui23 ui24 (j9 ui25 ui26 ui30 ui31 ui35 ui37 ui38 ui39 (j9 ui40 ui41 ui42 ui55 ui56 ui57 ui58 ui59 (j9 ui67 ui68 ui70 ui71 ui75 Q1k Q0u Q1e (j9 Q1r Q1s a1 a2 hg q1 q2 q3 q4))))); (repeat' (first | exact zc | (with_reducible first | apply And.intro | apply Q0a | apply Q0b | refine Q0c (by decide +kernel) ?_ | intro _) | refine zaY zz.out ?_ | ((first | (with_reducible refine uc (iF _) ?_) | (with_reducible refine uc (Q9m _ (by assumption) (by assumption) _) ?_) | ((with_reducible refine zU (Q0m _ _ _ _ _ _ _ _ (by repeat (first | exact Q0p | refine Q0k ?_ (by simp))) (by exact zO) (by exact zN)) ?_); rintro _ S ⟨rfl, τ1, ⟨f1, n1⟩, rfl⟩; have n1s := n1.symm) | (refine Q0d (by exact zK) ?_) | (refine Q0e (by exact zK) ?_)); (try refine zsY zz.out ?_)) | refine zo ?_ | omega | refine ztY zz.out ?_ | fail)); try (all_goals clear zz))
        all_goals first | exact ⟨σ, by (exact zu), rfl, rfl⟩ | exact ⟨σ, by (exact zu), rfl⟩
    | true =>
      rw [hb] at iF
      have hnx := hnx hb
      obtain ⟨b1, b2⟩ := hbig hb
      have hW := w_state ω l[k] hb hlm
      clear hall hbig
      generalize stT l[k] = TT at *
      generalize stD l[k] = DD at *
      generalize stmA l[k] = D at *
      by_cases hz : k = 0
      · subst hz
        have e0 : scT (l.take 0) = [] := rfl
        have e1 : scD (l.take 0) = 0 := rfl
        rw [e0, if_pos rfl, zH, zH] at hst
        rw [e1] at hsd
        have hS0 : ∀ (S : Sg), S ω = some (.cells 59 [.sl .nil [], .i 0, .i 0]) → VCalls Tryz.prog 30 [.ref ω 0, .agg D] S (fun x σ' => x = .tup [] ∧ ∃ τ', Print.okS S ω τ' ∧ σ' = WS S ω τ' TT 0 (DD : Nat)) := fun S hS => by
          refine VCalls.tok0 (e := 102) 0 4 hS rfl (fun τ hτ hne => ?_)
          have := hW S τ [] 0 0 ⟨hτ, hne⟩ (by omega) (by omega) (by omega) (by omega) (by simp; omega)
          rw [zH] at this
          refine zU this (fun x σ' hx => ?_)
          obtain ⟨rfl, τ', ok, rfl⟩ := hx
          exact ⟨rfl, τ', ok, Q2y rfl rfl (by omega)⟩
        simp only [↓reduceIte]
        (have zz := Bx.mk (j8 ui0 ui3 ui4 ui9 ui22 ui23 ui24 (j9 ui25 ui26 ui30 ui31 ui35 ui37 ui38 ui39 (j9 ui40 ui41 ui42 ui55 ui56 ui57 ui58 ui59 (j9 ui67 ui68 ui70 ui71 ui75 Q1k Q0u Q1e (j9 Q1r Q1s a1 a2 hg q1 q2 q3 q4))))); (repeat' (first | exact zc | (with_reducible first | apply And.intro | apply Q0a | apply Q0b | refine Q0c (by decide +kernel) ?_ | intro _) | refine zaY zz.out ?_ | ((first | (with_reducible first | refine Q1h ?_ | refine Q0w (fun β hβ => ?_)) | (with_reducible refine uc (iF _) ?_) | ((with_reducible refine zU (hS0 _ (by exact zK)) ?_); rintro _ S ⟨rfl, τ1, hok, rfl⟩) | (with_reducible refine uc (Q9m _ (by assumption) (by assumption) _) ?_) | ((with_reducible refine zU (Q0m _ _ _ _ _ _ _ _ (by repeat (first | exact Q0p | refine Q0k ?_ (by simp))) (by exact zO) (by exact zN)) ?_); rintro _ S ⟨rfl, τ1, ⟨f1, n1⟩, rfl⟩; have n1s := n1.symm) | (refine Q0d (by exact zK) ?_) | (refine Q0e (by exact zK) ?_)); (try refine zsY zz.out ?_)) | refine zo ?_ | omega | refine ztY zz.out ?_ | fail)); try (all_goals clear zz))
        all_goals try (exfalso; omega)
        obtain ⟨nb, f2⟩ := Sg.none_set hok.free
        obtain ⟨nw, f3⟩ := Sg.none_set f2
        refine ⟨1, τ1, (), ⟨⟨hk2, hnx, fun _ => ⟨f3, hok.ne⟩⟩, by omega⟩, ?_, rfl⟩
        rw [if_neg (by decide), hst, hsd, Nat.zero_max]
        exact ws_sub0 hβ
      · rw [if_neg hz]
        obtain ⟨f1, n1⟩ := hτ hz
        have n1s := n1.symm
        rw [if_neg hz] at hst
        have hA1 : (scT (l.take k)).length ≤ 2 ^ 30 := by omega
        have hW := fun B => hW B
        generalize hA : scT (l.take k) = A at *
        generalize hM : scD (l.take k) = M at *
        (have zz := Bx.mk (j9 ui0 ui3 ui4 ui9 ui22 ui23 ui24 ui25 (j9 ui26 ui30 ui31 ui35 ui37 ui38 ui39 ui40 (j9 ui41 ui42 ui55 ui56 ui57 ui58 ui59 ui67 (j9 ui68 ui70 ui71 ui75 Q1k Q0u Q1e Q1r (j9 Q1s a1 a2 hg q1 q2 q3 q4 WLg))))); (repeat' (first | exact zc | (with_reducible first | apply And.intro | apply Q0a | apply Q0b | refine Q0c (by decide +kernel) ?_ | intro _) | refine zaY zz.out ?_ | ((first | (with_reducible first | refine Q1h ?_ | refine Q0w (fun β hβ => ?_)) | (with_reducible refine uc (iF _) ?_) | (rw [wb_set (by assumption) (by assumption)]) | ((with_reducible refine zU (Q0m _ _ _ _ _ _ _ _ (by repeat (first | exact Q0p | refine Q0k ?_ (by simp))) ⟨Sg.set_none (by assumption) (by first | assumption | (apply Ne.symm; assumption)), by assumption⟩ (by exact zN)) ?_); rintro _ S ⟨rfl, τ1, ⟨f2, n1⟩, rfl⟩; have n1s := n1.symm; obtain ⟨nb, f1⟩ := Sg.none_set f2; have nbs := nb.symm) | ((with_reducible refine zU (hW _ _ _ _ _ ⟨Sg.set_none (by assumption) (by first | assumption | (apply Ne.symm; assumption)), by assumption⟩ (by omega) (by omega) (by omega) (by omega) (by exact zN)) ?_); rintro _ S ⟨rfl, τ1, ⟨f2, n1⟩, rfl⟩; have n1s := n1.symm; obtain ⟨nb, f1⟩ := Sg.none_set f2; have nbs := nb.symm) | (with_reducible refine uc (Q9m _ (by assumption) (by assumption) _) ?_) | ((with_reducible refine zU (Q0m _ _ _ _ _ _ _ _ (by repeat (first | exact Q0p | refine Q0k ?_ (by simp))) (by exact zO) (by exact zN)) ?_); rintro _ S ⟨rfl, τ1, ⟨f1, n1⟩, rfl⟩; have n1s := n1.symm) | (refine Q0d (by exact zK) ?_) | (refine Q0e (by exact zK) ?_)); (try refine zsY zz.out ?_)) | refine zo ?_ | omega | refine ztY zz.out ?_ | fail)); try (all_goals clear zz))
        all_goals try (exfalso; omega)
        refine ⟨k + 1, τ1, (), ⟨⟨hk2, hnx, fun _ => ⟨f1, n1⟩⟩, by omega⟩, ?_, rfl⟩
        rw [if_neg (by omega)]
        exact (X9i (Q2y (by rw [hst]; simp) rfl (by rw [hsd]; omega))).trans (wb_sub hβ)
  · have hkl : k = l.length := by omega
    have hz : k ≠ 0 := by omega
    rw [if_neg hz]
    obtain ⟨f1, n1⟩ := hτ hz
    rw [List.take_of_length_le hk2] at hfit ⊢
    rw [if_pos (List.all_eq_true.2 hfit)]
    have hpre := Y1a (l := l) (N := 2 ^ 26) l.length (fun x hx => (hX.big (by omega) x (List.mem_of_mem_take hx) (hfit x (List.mem_of_mem_take hx))).1)
    rw [List.take_length] at hpre
    have hgd : AG (scT l) := sc_good (fun x hx => st_good (hfit x hx) (hX.lim x hx))
    have hE := w_end σ σ ω τ (scT l) 0 (scD l) (by intro y p hy; show (WS _ ω τ _ _ _) y = some p; simp only [WS, Y0i, Sg.set_apply]; grind) hgd (by omega)
    generalize fin (scT l) (scD l) = R at *
    generalize scT l = A at *
    generalize scD l = M at *
    (have zz := Bx.mk (j2 ui0 (j9 ui3 ui4 ui9 ui22 ui23 ui24 ui25 ui26 (j9 ui30 ui31 ui35 ui37 ui38 ui39 ui40 ui41 (j9 ui42 ui55 ui56 ui57 ui58 ui59 ui67 ui68 (j9 ui70 ui71 ui75 Q1k Q0u Q1e Q1r Q1s a1))))); (repeat' (first | exact zc | (with_reducible first | apply And.intro | apply Q0a | apply Q0b | refine Q0c (by decide +kernel) ?_ | intro _) | refine zaY zz.out ?_ | ((first | (with_reducible refine uc (hE) ?_) | (with_reducible refine uc (Q9m _ (by assumption) (by assumption) _) ?_) | ((with_reducible refine zU (Q0m _ _ _ _ _ _ _ _ (by repeat (first | exact Q0p | refine Q0k ?_ (by simp))) (by exact zO) (by exact zN)) ?_); rintro _ S ⟨rfl, τ1, ⟨f1, n1⟩, rfl⟩; have n1s := n1.symm) | (refine Q0d (by exact zK) ?_) | (refine Q0e (by exact zK) ?_)); (try refine zsY zz.out ?_)) | refine zo ?_ | omega | refine ztY zz.out ?_ | fail)); try (all_goals clear zz))
    all_goals exact ⟨_, .refl _, rfl⟩
end Go.Proofs.YtjdapkelojdefaaGreatDoor
namespace Go.Print
open Go.V Go.Lex Go.Parse Go.Proofs.YtjdapkelojdefaaGreatDoor
theorem OL.len {l : List Ex} (h : OL l) : ∀ e ∈ l, (toTr e).tk.length ≤ 20000 := fun e he => (h.2 e he).len
end Go.Print
namespace Go.Proofs.YtjdapkelojdefaaGreatDoor
open Go Go.V Go.Lex Go.Parse Go.Print
theorem fin_cases (t : List Tk) (d : Nat) : (fin t d).2 = 10 ∨ (fin t d).2 = 2 ∨ (fin t d = (Q5j t, 0) ∧ d ≤ 10 ∧ (Q5j t).length ≤ 2000) := by
  unfold fin
  split
  · exact .inl rfl
  · split
    · exact .inr (.inl rfl)
    · exact .inr (.inr ⟨rfl, by omega, by omega⟩)
theorem stD_le {l : List Stm} {x : Stm} (h : x ∈ l) : stD x ≤ scD l := X6a (f := stD) h
def Q6s (l : List Ex) : Bool := (l.take 20).all (fewB 12)
theorem X3p (l : List Ex) (hl : l.length ≤ 9223372036854775807) (σ : Sg) : VCalls Tryz.prog 27 [.sl .any (exsA l)] σ (fun x σ' => x = .b (Q6s l) ∧ σ' = σ) := by
  have hn := Q1y l
  have hall := X5w l
  have hgt := fun k (h : k < l.length) => Y0q (l := l) h
  have hf : ∀ e σ, VCalls Tryz.prog 9 [.agg (exA e), .i 12] σ _ := fun e σ => x_few 12 (by decide) e σ
  unfold Q6s
  generalize exsA l = L at *
  (refine vfun (fun _ => .no) Q0h Tryz.func27 (by kernel_rfl) ?_; simp only [Q0f, Tryz.f27, zw])
  (have zz := Bx.mk (j3 ui0 ui3 (j9 ui4 ui9 ui22 ui23 ui24 ui25 ui26 hn hall)); (repeat' (first | exact zc | (with_reducible first | apply And.intro | apply Q0a | apply Q0b | refine Q0c (by decide +kernel) ?_ | intro _) | refine zaY zz.out ?_ | ((first | (refine Q0d (by exact zK) ?_) | (refine Q0e (by exact zK) ?_)); (try refine zsY zz.out ?_)) | refine zo ?_ | omega | refine ztY zz.out ?_ | fail)); try (all_goals clear zz))
  refine VW.loop3 (0 : Nat) () () (fun k _ _ => k ≤ l.length ∧ k ≤ 20 ∧ (l.take 20).all (fewB 12) = ((l.take 20).drop k).all (fewB 12)) (fun k _ _ => [(0, .sl .any L), (3, .i k)]) (fun _ _ _ => σ) (fun k _ _ => 20 - k) ⟨Nat.zero_le _, Nat.zero_le _, rfl⟩ (.refl _) ?_ ?_
  · simp only [vO, vQ, ↓vP, vE, vS, vB, vL, vF, vM, vN, Q0g, zb, Nat.reduceAdd, ze, ne_eq, not_false_eq_true, Nat.reduceMul, Nat.reduceSub, Int.toNat_zero, zl, vT]
    all_goals rfl
  rintro k _ _ ⟨hk, hk20, hr⟩
  by_cases hk2 : k < l.length ∧ k < 20
  · obtain ⟨hk2, hk3⟩ := hk2
    have hg := hgt k hk2
    have hp := hf l[k]
    have hlt : k < (l.take 20).length := by rw [List.length_take]; omega
    have hge : (l.take 20)[k] = l[k] := List.getElem_take
    have hdr : ((l.take 20).drop k).all (fewB 12) = (fewB 12 l[k] && ((l.take 20).drop (k + 1)).all (fewB 12)) := by rw [List.drop_eq_getElem_cons hlt, List.all_cons, hge]
    have hFl := Q0r l[k]
    have hFt := Q0q l[k]
    generalize exA l[k] = E at *
    generalize fewB 12 l[k] = b at *
    clear hf hge hgt
    cases b with
    | false =>
      rw [hr, hdr]
      (have zz := Bx.mk (j6 ui0 ui3 ui4 ui9 ui22 (j9 ui23 ui24 ui25 ui26 hn hall hg hFl hFt)); (repeat' (first | exact zc | (with_reducible first | apply And.intro | apply Q0a | apply Q0b | refine Q0c (by decide +kernel) ?_ | intro _) | refine zaY zz.out ?_ | ((first | (with_reducible refine uc (hp _) ?_) | (refine Q0d (by exact zK) ?_) | (refine Q0e (by exact zK) ?_)); (try refine zsY zz.out ?_)) | refine zo ?_ | omega | refine ztY zz.out ?_ | fail)); try (all_goals clear zz))
      all_goals first | exact ⟨_, .refl _, rfl⟩ | exact ⟨_, .refl _, rfl, rfl⟩ | (exfalso; omega)
    | true =>
      (have zz := Bx.mk (j6 ui0 ui3 ui4 ui9 ui22 (j9 ui23 ui24 ui25 ui26 hn hall hg hFl hFt)); (repeat' (first | exact zc | (with_reducible first | apply And.intro | apply Q0a | apply Q0b | refine Q0c (by decide +kernel) ?_ | intro _) | refine zaY zz.out ?_ | ((first | (with_reducible refine uc (hp _) ?_) | (refine Q0d (by exact zK) ?_) | (refine Q0e (by exact zK) ?_)); (try refine zsY zz.out ?_)) | refine zo ?_ | omega | refine ztY zz.out ?_ | fail)); try (all_goals clear zz))
      all_goals first | exact ⟨k + 1, (), (), ⟨⟨hk2, hk3, by rw [hr, hdr]; rfl⟩, by omega⟩, .refl _, rfl⟩ | (exfalso; omega)
  · have hdn : (l.take 20).drop k = [] := List.drop_of_length_le (by rw [List.length_take]; omega)
    rw [hr, hdn]
    (have zz := Bx.mk (j3 ui0 ui3 (j9 ui4 ui9 ui22 ui23 ui24 ui25 ui26 hn hall)); (repeat' (first | exact zc | (with_reducible first | apply And.intro | apply Q0a | apply Q0b | refine Q0c (by decide +kernel) ?_ | intro _) | refine zaY zz.out ?_ | ((first | (refine Q0d (by exact zK) ?_) | (refine Q0e (by exact zK) ?_)); (try refine zsY zz.out ?_)) | refine zo ?_ | omega | refine ztY zz.out ?_ | fail)); try (all_goals clear zz))
    all_goals first | exact ⟨_, .refl _, rfl⟩ | exact ⟨_, .refl _, rfl, rfl⟩ | (exfalso; omega)
structure FewS (x : Stm) : Prop where
  sets : (x.sets.take 20).all (fun s => fewB 12 s.2) = true
  items : (x.items.take 20).all (fun y => Q6s y.2) = true
  on : Q6s x.on = true
  wh : Q6s x.wh = true
  gr : Q6s x.gr = true
  or : Q6s x.or = true
theorem Q5h (x : Stm) (h : LimS x) (σ : Sg) : VCalls Tryz.prog 14 [.agg (stmA x)] σ (fun y σ' => ∃ b, (b = true → FewS x) ∧ y = .b b ∧ σ' = σ) := by
  have i1 := X3p x.on h.on.1
  have i2 := X3p x.wh h.wh.1
  have i3 := X3p x.gr h.gr.1
  have i4 := X3p x.or h.or.1
  have hf : ∀ e σ, VCalls Tryz.prog 9 [.agg (exA e), .i 12] σ _ := fun e σ => x_few 12 (by decide) e σ
  have hA : ∀ k (hk : k < x.items.length) σ, _ := fun k hk σ => X3p x.items[k].2 (h.item _ (List.getElem_mem hk)).1 σ
  have hFew : (x.sets.take 20).all (fun s => fewB 12 s.2) = true → (x.items.take 20).all (fun y => Q6s y.2) = true → Q6s x.on = true → Q6s x.wh = true → Q6s x.gr = true → Q6s x.or = true → FewS x := fun a b c d e f => ⟨a, b, c, d, e, f⟩
  have a1 : (x.sets.map setA).length = x.sets.length := zB ..
  have a2 := Q3d (f := setA) (n := 9) x.sets (fun x => by simp [setA, Q0r])
  have a3 : ∀ i (hi : i < x.sets.length), (x.sets.map setA).getD i [] = .s (bs x.sets[i].1) :: exA x.sets[i].2 := fun i hi => Q3c (f := setA) hi
  have c1 : (x.items.map Q2z).length = x.items.length := zB ..
  have c2 := Q3d (f := Q2z) (n := 2) x.items (fun _ => rfl)
  have c3 : ∀ i (hi : i < x.items.length), (x.items.map Q2z).getD i [] = [.i x.items[i].1, .sl .any (exsA x.items[i].2)] := fun i hi => Q3c (f := Q2z) hi
  have d1 : (x.rows.map rowA).length = x.rows.length := zB ..
  have hs1 := h.sets
  have hs2 := h.items
  have hs3 := h.rows
  have z1 := Q6g x.t
  have z2 := Q6g x.join
  have z3 := Q6g x.pk
  unfold stmA
  generalize Q6s x.on = b1 at *
  generalize Q6s x.wh = b2 at *
  generalize Q6s x.gr = b3 at *
  generalize Q6s x.or = b4 at *
  generalize x.sets.map setA = L7 at *
  generalize x.items.map Q2z = L8 at *
  generalize x.rows.map rowA = L6 at *
  obtain ⟨C, hC⟩ : ∃ C : List AV, C = [.i x.k, .s (bs x.t), .sl .any (x.cols.map coA), .s (bs x.pk), .sl .any L6, .sl .any L7, .sl .any L8, .s (bs x.join), .sl .any (exsA x.on), .sl .any (exsA x.wh), .sl .any (exsA x.gr), .sl .any (exsA x.or), .b x.desc, .i x.lim] := ⟨_, rfl⟩
  (refine vfun (fun _ => .ro) Q0h Tryz.func14 (by kernel_rfl) ?_; simp only [Q0f, Tryz.f14, zw])
  (have zz := Bx.mk (j7 ui0 ui3 ui4 ui9 ui22 ui23 (j9 ui24 ui25 ui26 ui37 ui38 ui39 ui40 ui41 (j9 ui42 ui67 ui68 ui70 ui71 Q1e Q1r Q1s a1))); (repeat' (first | exact zc | (with_reducible first | apply And.intro | apply Q0a | apply Q0b | refine Q0c (by decide +kernel) ?_ | intro _) | refine zaY zz.out ?_ | ((first | (refine Q0d (by exact zK) ?_) | (refine Q0e (by exact zK) ?_)); (try refine zsY zz.out ?_)) | refine zo ?_ | omega | refine ztY zz.out ?_ | fail)); try (all_goals clear zz))
  refine VW.loop3 (0 : Nat) () () (fun k _ _ => k ≤ x.sets.length ∧ k ≤ 20 ∧ ((x.sets.take 20).drop k).all (fun s => fewB 12 s.2) = (x.sets.take 20).all (fun s => fewB 12 s.2)) (fun k _ _ => [(1, .ro C), (3, .i k)]) (fun _ _ _ => σ) (fun k _ _ => 20 - k) ⟨Nat.zero_le _, Nat.zero_le _, rfl⟩ (.refl _) ?_ ?_
  · subst hC
    simp only [vO, vQ, ↓vP, vE, vS, vB, vL, vF, vM, vN, Q0g, zb, Nat.reduceAdd, ze, ne_eq, not_false_eq_true, Nat.reduceMul, Nat.reduceSub, Int.toNat_zero, zl, vT]
    all_goals first | rfl | exact ⟨rfl, rfl⟩
  rintro k _ _ ⟨hk, hk20, hr⟩
  by_cases hk2 : k < x.sets.length ∧ k < 20
  · obtain ⟨hk2, hk3⟩ := hk2
    have hg := a3 k hk2
    have hp := hf x.sets[k].2
    have hlt : k < (x.sets.take 20).length := by rw [List.length_take]; omega
    have hge : (x.sets.take 20)[k] = x.sets[k] := List.getElem_take
    have hdr : ((x.sets.take 20).drop k).all (fun s => fewB 12 s.2) = (fewB 12 x.sets[k].2 && ((x.sets.take 20).drop (k + 1)).all (fun s => fewB 12 s.2)) := by rw [List.drop_eq_getElem_cons hlt, List.all_cons, hge]
    have hFl := Q0r x.sets[k].2
    have hFt := Q0q x.sets[k].2
    have hFd := Q0x x.sets[k].2
    have hFo := Q1f x.sets[k].2
    clear hA hFew a3 c3 i1 i2 i3 i4 hf hge
    subst hC
    generalize exA x.sets[k].2 = E at *
    generalize fewB 12 x.sets[k].2 = b at *
    generalize x.sets[k].1 = nm at *
    cases b with
    | false =>
      (have zz := Bx.mk (j5 ui0 ui3 ui4 ui9 (j9 ui22 ui23 ui24 ui25 ui26 ui37 ui38 ui39 (j9 ui40 ui41 ui42 ui67 ui68 ui70 ui71 Q1e (j9 Q1r Q1s a1 a2 hg hFl hFt hFd hFo)))); (repeat' (first | exact zc | (with_reducible first | apply And.intro | apply Q0a | apply Q0b | refine Q0c (by decide +kernel) ?_ | intro _) | refine zaY zz.out ?_ | ((first | (with_reducible refine uc (hp _) ?_) | (refine Q0d (by exact zK) ?_) | (refine Q0e (by exact zK) ?_)); (try refine zsY zz.out ?_)) | refine zo ?_ | omega | refine ztY zz.out ?_ | fail)); try (all_goals clear zz))
      all_goals first | exact ⟨_, .refl _, false, (fun q => absurd q Bool.false_ne_true), rfl, rfl⟩ | (exfalso; omega)
    | true =>
      rw [Bool.true_and] at hdr
      (have zz := Bx.mk (j5 ui0 ui3 ui4 ui9 (j9 ui22 ui23 ui24 ui25 ui26 ui37 ui38 ui39 (j9 ui40 ui41 ui42 ui67 ui68 ui70 ui71 Q1e (j9 Q1r Q1s a1 a2 hg hFl hFt hFd hFo)))); (repeat' (first | exact zc | (with_reducible first | apply And.intro | apply Q0a | apply Q0b | refine Q0c (by decide +kernel) ?_ | intro _) | refine zaY zz.out ?_ | ((first | (with_reducible refine uc (hp _) ?_) | (refine Q0d (by exact zK) ?_) | (refine Q0e (by exact zK) ?_)); (try refine zsY zz.out ?_)) | refine zo ?_ | omega | refine ztY zz.out ?_ | fail)); try (all_goals clear zz))
      all_goals first | exact ⟨k + 1, (), (), ⟨⟨hk2, hk3, hdr.symm.trans hr⟩, by omega⟩, .refl _, rfl⟩ | (exfalso; omega)
  have hdn : (x.sets.take 20).drop k = [] := List.drop_of_length_le (by rw [List.length_take]; omega)
  rw [hdn] at hr
  have hFew := hFew hr.symm
  clear hdn hf a2 a3
  have hkn : ¬ ((k : Int) < x.sets.length ∧ (k : Int) < 20) := by omega
  subst hC
  (have zz := Bx.mk (j8 ui0 ui3 ui4 ui9 ui22 ui23 ui24 (j9 ui25 ui26 ui37 ui38 ui39 ui40 ui41 ui42 (j9 ui67 ui68 ui70 ui71 Q1e Q1r Q1s a1 c1))); (repeat' (first | exact zc | (with_reducible first | apply And.intro | apply Q0a | apply Q0b | refine Q0c (by decide +kernel) ?_ | intro _) | refine zaY zz.out ?_ | ((first | (refine Q0d (by exact zK) ?_) | (refine Q0e (by exact zK) ?_)); (try refine zsY zz.out ?_)) | refine zo ?_ | omega | refine ztY zz.out ?_ | fail)); try (all_goals clear zz))
  all_goals try (exfalso; omega)
  all_goals
    obtain ⟨C, hC⟩ : ∃ C : List AV, C = [.i x.k, .s (bs x.t), .sl .any (x.cols.map coA), .s (bs x.pk), .sl .any L6, .sl .any L7, .sl .any L8, .s (bs x.join), .sl .any (exsA x.on), .sl .any (exsA x.wh), .sl .any (exsA x.gr), .sl .any (exsA x.or), .b x.desc, .i x.lim] := ⟨_, rfl⟩
    refine VW.loop3 (0 : Nat) () () (fun k _ _ => k ≤ x.items.length ∧ k ≤ 20 ∧ ((x.items.take 20).drop k).all (fun y => Q6s y.2) = (x.items.take 20).all (fun y => Q6s y.2)) (fun k _ _ => [(1, .ro C), (5, .i k)]) (fun _ _ _ => σ) (fun k _ _ => 20 - k) ⟨Nat.zero_le _, Nat.zero_le _, rfl⟩ (.refl _) ?_ ?_
    · subst hC
      simp only [vO, vQ, ↓vP, vE, vS, vB, vL, vF, vM, vN, Q0g, zb, Nat.reduceAdd, ze, ne_eq, not_false_eq_true, Nat.reduceMul, Nat.reduceSub, Int.toNat_zero, zl, vT]
      all_goals first | rfl | exact ⟨rfl, rfl⟩
    rintro k _ _ ⟨hk, hk20, hr⟩
    by_cases hk2 : k < x.items.length ∧ k < 20
    · obtain ⟨hk2, hk3⟩ := hk2
      have hg := c3 k hk2
      have hp := hA k hk2
      have hlt : k < (x.items.take 20).length := by rw [List.length_take]; omega
      have hge : (x.items.take 20)[k] = x.items[k] := List.getElem_take
      have hdr : ((x.items.take 20).drop k).all (fun y => Q6s y.2) = (Q6s x.items[k].2 && ((x.items.take 20).drop (k + 1)).all (fun y => Q6s y.2)) := by rw [List.drop_eq_getElem_cons hlt, List.all_cons, hge]
      clear hA hFew c3 i1 i2 i3 i4 hge
      subst hC
      generalize exsA x.items[k].2 = E at *
      generalize Q6s x.items[k].2 = b at *
      generalize x.items[k].1 = nm at *
      cases b with
      | false =>
        (have zz := Bx.mk (j9 ui0 ui3 ui4 ui9 ui22 ui23 ui24 ui25 (j9 ui26 ui37 ui38 ui39 ui40 ui41 ui42 ui67 (j9 ui68 ui70 ui71 Q1e Q1r Q1s c1 c2 hg))); (repeat' (first | exact zc | (with_reducible first | apply And.intro | apply Q0a | apply Q0b | refine Q0c (by decide +kernel) ?_ | intro _) | refine zaY zz.out ?_ | ((first | (with_reducible refine uc (hp _) ?_) | (refine Q0d (by exact zK) ?_) | (refine Q0e (by exact zK) ?_)); (try refine zsY zz.out ?_)) | refine zo ?_ | omega | refine ztY zz.out ?_ | fail)); try (all_goals clear zz))
        all_goals first | exact ⟨_, .refl _, false, (fun q => absurd q Bool.false_ne_true), rfl, rfl⟩ | (exfalso; omega)
      | true =>
        rw [Bool.true_and] at hdr
        (have zz := Bx.mk (j9 ui0 ui3 ui4 ui9 ui22 ui23 ui24 ui25 (j9 ui26 ui37 ui38 ui39 ui40 ui41 ui42 ui67 (j9 ui68 ui70 ui71 Q1e Q1r Q1s c1 c2 hg))); (repeat' (first | exact zc | (with_reducible first | apply And.intro | apply Q0a | apply Q0b | refine Q0c (by decide +kernel) ?_ | intro _) | refine zaY zz.out ?_ | ((first | (with_reducible refine uc (hp _) ?_) | (refine Q0d (by exact zK) ?_) | (refine Q0e (by exact zK) ?_)); (try refine zsY zz.out ?_)) | refine zo ?_ | omega | refine ztY zz.out ?_ | fail)); try (all_goals clear zz))
        all_goals first | exact ⟨k + 1, (), (), ⟨⟨hk2, hk3, hdr.symm.trans hr⟩, by omega⟩, .refl _, rfl⟩ | (exfalso; omega)
    have hdn : (x.items.take 20).drop k = [] := List.drop_of_length_le (by rw [List.length_take]; omega)
    rw [hdn] at hr
    have hFew := hFew hr.symm
    clear hdn hA c3
    have hkn : ¬ ((k : Int) < x.items.length ∧ (k : Int) < 20) := by omega
    subst hC
    (have zz := Bx.mk (j3 ui0 ui3 (j9 ui4 ui9 ui22 ui23 ui24 ui25 ui26 ui37 (j9 ui38 ui39 ui40 ui41 ui42 ui67 ui68 ui70 (j9 ui71 Q1e Q1r Q1s c1 d1 z1 z2 z3)))); (repeat' (first | exact zc | (with_reducible first | apply And.intro | apply Q0a | apply Q0b | refine Q0c (by decide +kernel) ?_ | intro _) | refine zaY zz.out ?_ | ((first | (with_reducible refine uc (i1 _) ?_) | (with_reducible refine uc (i2 _) ?_) | (with_reducible refine uc (i3 _) ?_) | (with_reducible refine uc (i4 _) ?_) | (refine Q0d (by exact zK) ?_) | (refine Q0e (by exact zK) ?_)); (try refine zsY zz.out ?_)) | refine zo ?_ | omega | refine ztY zz.out ?_ | fail)); try (all_goals clear zz))
    all_goals first | (exfalso; omega) | exact ⟨_, .refl _, _, (fun q => absurd q Bool.false_ne_true), rfl, rfl⟩ | exact ⟨_, .refl _, _, (fun q => hFew (by assumption) (by assumption) (by assumption) q), rfl, rfl⟩ | trace_state
end Go.Proofs.YtjdapkelojdefaaGreatDoor
namespace Go.Print
open Go.V Go.Lex Go.Parse Go.Proofs.YtjdapkelojdefaaGreatDoor
theorem sm_tr : ∀ t : Tr, Sm t.ex
  | .val v => .leaf _ _ _ _ _
  | .col t n => .leaf _ _ _ _ _
  | .not e => .one _ _ _ _ _ _ (sm_tr e)
  | .neg e => .one _ _ _ _ _ _ (sm_tr e)
  | .null e => .one _ _ _ _ _ _ (sm_tr e)
  | .op k a b => .two _ _ _ _ _ _ _ (sm_tr a) (sm_tr b)
theorem sm_rt {e : Ex} (h : rt e = true) : Sm e := by
  have := sm_tr (toTr e)
  rwa [(Q7r e h).1] at this
theorem X7u {l : List Ex} (h : oneB l = true) : SmL l := ⟨by have := (Q5p h).1; omega, fun e he => sm_rt ((Q5p h).2 e he)⟩
theorem sms_fit {x : Stm} (h : fitB x = true) : SmS x := by
  obtain ⟨p1, p2, p3, p4, p5, p6, p7⟩ := Q9n h
  obtain ⟨b1, b2, b3, b4, b5⟩ := X4t h
  have hc : x.cols.length ≤ 100 := by
    rcases b1 with q | q
    · have := (p4 q).1
      unfold X7p at this
      simp only [Bool.and_eq_true, decide_eq_true_eq] at this
      omega
    · rw [q.1]; simp
  have hr : x.rows.length ≤ 100 ∧ ∀ r ∈ x.rows, r.length ≤ 100 := by
    rcases b2 with q | q
    · have := p5 q
      unfold X7q at this
      simp only [Bool.and_eq_true, decide_eq_true_eq] at this
      refine ⟨by omega, fun r hr => ?_⟩
      have h2 := List.all_eq_true.1 this.1 r hr
      unfold rowB at h2
      simp only [Bool.and_eq_true, decide_eq_true_eq] at h2
      omega
    · rw [q]; exact ⟨by simp, fun r hr => by cases hr⟩
  have hs : x.sets.length ≤ 100 ∧ ∀ y ∈ x.sets, Sm y.2 := by
    rcases b3 with q | q
    · have := p6 q
      unfold X5l at this
      simp only [Bool.and_eq_true, decide_eq_true_eq] at this
      refine ⟨by omega, fun r hr => ?_⟩
      have h2 := List.all_eq_true.1 this.1 r hr
      unfold X3m at h2
      rw [Bool.and_eq_true] at h2
      exact sm_rt h2.2
    · rw [q]; exact ⟨by simp, fun r hr => by cases hr⟩
  rcases b4 with q | ⟨q1, q2, q3, q4, _⟩
  · obtain ⟨s1, s2, s3, s4, s5⟩ := Q9o (p7 q)
    unfold X0j at s1
    simp only [Bool.and_eq_true, decide_eq_true_eq] at s1
    refine ⟨hc, hr.1, hr.2, hs.1, hs.2, by omega, fun y hy => ?_, X7u s2, X7u p3, X7u (Q5o s3), X7u (Q5o s4)⟩
    have hi := List.all_eq_true.1 s1.1 y hy
    rcases Q8o hi with ⟨_, ha⟩ | ⟨_, e, ha, hr⟩
    · rw [ha]; exact .nil
    · rw [ha]; exact .one (sm_rt hr)
  · exact ⟨hc, hr.1, hr.2, hs.1, hs.2, (by rw [q1]; simp), (fun y hy => by rw [q1] at hy; cases hy), (by rw [q2]; exact .nil), X7u p3, (by rw [q3]; exact .nil), (by rw [q4]; exact .nil)⟩
theorem Y1c {e : Ex} (hr : rt e = true) (h : fewB 12 e = true) : (toTr e).tk.length ≤ 65536 := by
  have := X6u 12 (toTr e) (by rw [(Q7r e hr).1]; exact h)
  omega
theorem X7v {l : List Ex} (ho : oneB l = true) (h : Q6s l = true) : ∀ e ∈ l, (toTr e).tk.length ≤ 65536 := fun e he => by
  have hl := (Q5p ho).1
  unfold Q6s at h
  rw [List.take_of_length_le (by omega)] at h
  exact Y1c ((Q5p ho).2 e he) (List.all_eq_true.1 h e he)
theorem all_few {x : Stm} (hf : fitB x = true) (h : FewS x) : AllX 65536 x := by
  obtain ⟨p1, p2, p3, p4, p5, p6, p7⟩ := Q9n hf
  obtain ⟨b1, b2, b3, b4, b5⟩ := X4t hf
  have hs : ∀ y ∈ x.sets, (toTr y.2).tk.length ≤ 65536 := by
    rcases b3 with q | q
    · have := p6 q
      unfold X5l at this
      simp only [Bool.and_eq_true, decide_eq_true_eq] at this
      have h1 := h.sets
      rw [List.take_of_length_le (by omega)] at h1
      intro y hy
      have h2 := List.all_eq_true.1 this.1 y hy
      unfold X3m at h2
      rw [Bool.and_eq_true] at h2
      exact Y1c h2.2 (List.all_eq_true.1 h1 y hy)
    · rw [q]; exact fun y hy => by cases hy
  rcases b4 with q | ⟨q1, q2, q3, q4, _⟩
  · obtain ⟨s1, s2, s3, s4, s5⟩ := Q9o (p7 q)
    unfold X0j at s1
    simp only [Bool.and_eq_true, decide_eq_true_eq] at s1
    have h1 := h.items
    rw [List.take_of_length_le (by omega)] at h1
    refine ⟨hs, fun y hy e he => ?_, X7v s2 h.on, X7v p3 h.wh, X7v (Q5o s3) h.gr, X7v (Q5o s4) h.or⟩
    have hi := List.all_eq_true.1 s1.1 y hy
    have hj := List.all_eq_true.1 h1 y hy
    rcases Q8o hi with ⟨_, ha⟩ | ⟨_, f, ha, hr⟩
    · rw [ha] at he; cases he
    · rw [ha] at he
      try dsimp only at hj
      unfold Q6s at hj
      rw [ha] at hj
      rw [List.mem_singleton.1 he]
      exact Y1c hr (by simpa using hj)
  · exact ⟨hs, (fun y hy => by rw [q1] at hy; cases hy), (fun e he => by rw [q2] at he; cases he), X7v p3 h.wh, (fun e he => by rw [q3] at he; cases he), (fun e he => by rw [q4] at he; cases he)⟩
end Go.Print
namespace Go.Proofs.YtjdapkelojdefaaGreatDoor
open Go Go.V Go.Lex Go.Parse Go.Print
structure ScI (l : List Stm) : Prop where
  len : l.length ≤ 9223372036854775807
  lim : ∀ x ∈ l, LimX x
  sum : ∀ x ∈ l, x.items.length + x.on.length + x.gr.length + x.or.length ≤ 9223372036854775807
theorem scx_few {l : List Stm} (h : ScI l) (hf : ∀ x ∈ l.take 10, FewS x) : ScX l := by
  refine ⟨h.len, h.lim, h.sum, fun h8 x hx hfit => ?_⟩
  obtain ⟨a, b⟩ := st_len hfit (all_few hfit (hf x (by rw [List.take_of_length_le (by omega)]; exact hx)))
  exact ⟨by omega, by omega⟩
theorem law_back (e : Ex) (hE : Lim e) (l : List Stm) (hl : ScI l) (σ : Sg) : VCalls Tryz.prog 7 [.agg (exA e), .sl .any (l.map stmA)] σ (fun x σ' => x = .b true ∧ σ' = σ) := by
  obtain ⟨zF, hF, hzF⟩ := zero30
  obtain ⟨zX, hEz, hzE⟩ := Q5u
  simp only [ex0, Q3e, Q0s] at hzE
  have hel := Q0r e
  have hoo := Q1f e
  have het := Q0q e
  have hed := Q0x e
  have hf : ∀ σ, VCalls Tryz.prog 9 [.agg (exA e), .i 12] σ _ := fun σ => x_few 12 (by decide) e σ
  have a1 : (l.map stmA).length = l.length := zB ..
  have a2 := Q3d (f := stmA) (n := 14) l (fun _ => rfl)
  have a3 := fun k (h : k < l.length) => Q3c (f := stmA) h
  have hll := hl.len
  generalize hfe : fewB 12 e = fe at *
  generalize hLA : l.map stmA = L at *
  generalize hEA : exA e = E at *
  (refine vfun (fun i => if i = 2 then .ro else .no) Q0h Tryz.func7 (by kernel_rfl) ?_; simp only [Q0f, Tryz.f7, zw])
  (have zz := Bx.mk (j2 ui0 (j9 ui3 ui4 ui9 ui22 ui23 ui24 ui25 ui26 (j9 ui30 ui31 ui35 ui37 ui38 ui39 ui40 ui41 (j9 ui42 ui46 ui47 ui48 ui51 ui67 ui68 ui70 (j9 ui71 Q1e Q1r Q1s hel hoo het hed a1))))); (repeat' (first | exact zc | (with_reducible first | apply And.intro | apply Q0a | apply Q0b | refine Q0c (by decide +kernel) ?_ | intro _) | refine zaY zz.out ?_ | ((first | (with_reducible refine uc (hf _) ?_) | (with_reducible refine uc (X2s _) ?_) | (with_reducible refine uc (X2b _ (by assumption) (by assumption) _) ?_) | (with_reducible refine uc (p7 (by assumption) _) ?_) | ((with_reducible refine zU (Q5h _ (by assumption) _) ?_); rintro _ S ⟨b, hb, rfl, rfl⟩) | (refine Q0d (by exact zK) ?_) | (refine Q0e (by exact zK) ?_)); (try refine zsY zz.out ?_)) | refine zo ?_ | omega | refine ztY zz.out ?_ | fail)); try (all_goals clear zz))
  refine VW.loop3 (0 : Nat) fe () (fun k ok _ => k ≤ l.length ∧ k ≤ 10 ∧ (ok = true → fe = true ∧ ∀ x ∈ l.take k, FewS x)) (fun k ok _ => [(1, .sl .any L), (2, .ro E), (4, .b false), (5, .b true), (6, .b ok), (7, .i k)]) (fun _ _ _ => σ) (fun k _ _ => 10 - k) ⟨Nat.zero_le _, Nat.zero_le _, fun h => ⟨h, fun x hx => by simp at hx⟩⟩ (.refl _) ?_ ?_
  · simp only [vO, vQ, ↓vP, vE, vS, vB, vL, vF, vM, vN, Q0g, zb, Nat.reduceAdd, ze, ne_eq, not_false_eq_true, Nat.reduceMul, Nat.reduceSub, Int.toNat_zero, zl, vT]
    all_goals first | rfl | exact ⟨rfl, rfl⟩
  rintro k ok _ ⟨hk, hk10, hok⟩
  by_cases hgo : k < l.length ∧ k < 10 ∧ ok = true
  · obtain ⟨hk2, hk3, rfl⟩ := hgo
    obtain ⟨hfe1, hfw⟩ := hok rfl
    have hg := a3 k hk2
    have hmem : l[k] ∈ l := List.getElem_mem hk2
    have hS := (hl.lim _ hmem).s
    have iS := Q5h l[k] hS
    have q1 := Q8n l[k]
    have q2 := X0f l[k]
    have q3 := Q6e l[k]
    have q4 := Q7x l[k]
    have hnx : FewS l[k] → ∀ x ∈ l.take (k + 1), FewS x := fun hb x hx => by
      rw [List.take_succ_eq_append_getElem hk2] at hx
      rcases List.mem_append.1 hx with hx | hx
      · exact hfw x hx
      · rw [List.mem_singleton.1 hx]; exact hb
    generalize stmA l[k] = D at *
    clear hok hfw hf
    (have zz := Bx.mk (j8 ui0 ui3 ui4 ui9 ui22 ui23 ui24 (j9 ui25 ui26 ui30 ui31 ui35 ui37 ui38 ui39 (j9 ui40 ui41 ui42 ui46 ui47 ui48 ui51 ui67 (j9 ui68 ui70 ui71 Q1e Q1r Q1s hel hoo (j9 het hed a1 a2 hg q1 q2 q3 q4))))); (repeat' (first | exact zc | (with_reducible first | apply And.intro | apply Q0a | apply Q0b | refine Q0c (by decide +kernel) ?_ | intro _) | refine zaY zz.out ?_ | ((first | ((with_reducible refine zU (iS _) ?_); rintro _ S ⟨b, hb, rfl, rfl⟩) | (with_reducible refine uc (X2s _) ?_) | (with_reducible refine uc (X2b _ (by assumption) (by assumption) _) ?_) | (with_reducible refine uc (p7 (by assumption) _) ?_) | ((with_reducible refine zU (Q5h _ (by assumption) _) ?_); rintro _ S ⟨b, hb, rfl, rfl⟩) | (refine Q0d (by exact zK) ?_) | (refine Q0e (by exact zK) ?_)); (try refine zsY zz.out ?_)) | refine zo ?_ | omega | refine ztY zz.out ?_ | fail)); try (all_goals clear zz))
    all_goals first | exact ⟨k + 1, _, (), ⟨⟨hk2, hk3, fun q => ⟨hfe1, hnx (hb q)⟩⟩, by omega⟩, .refl _, rfl, rfl⟩ | exact ⟨k + 1, _, (), ⟨⟨hk2, hk3, fun q => ⟨hfe1, hnx (hb q)⟩⟩, by omega⟩, .refl _, rfl⟩ | (exfalso; omega) | trace_state
  cases ok with
  | false =>
    clear hf hgo
    (have zz := Bx.mk (j2 ui0 (j9 ui3 ui4 ui9 ui22 ui23 ui24 ui25 ui26 (j9 ui30 ui31 ui35 ui37 ui38 ui39 ui40 ui41 (j9 ui42 ui46 ui47 ui48 ui51 ui67 ui68 ui70 (j9 ui71 Q1e Q1r Q1s hel hoo het hed a1))))); (repeat' (first | exact zc | (with_reducible first | apply And.intro | apply Q0a | apply Q0b | refine Q0c (by decide +kernel) ?_ | intro _) | refine zaY zz.out ?_ | ((first | (with_reducible refine uc (X2s _) ?_) | (with_reducible refine uc (X2b _ (by assumption) (by assumption) _) ?_) | (with_reducible refine uc (p7 (by assumption) _) ?_) | ((with_reducible refine zU (Q5h _ (by assumption) _) ?_); rintro _ S ⟨b, hb, rfl, rfl⟩) | (refine Q0d (by exact zK) ?_) | (refine Q0e (by exact zK) ?_)); (try refine zsY zz.out ?_)) | refine zo ?_ | omega | refine ztY zz.out ?_ | fail)); try (all_goals clear zz))
    all_goals first | exact ⟨_, .refl _, rfl⟩ | (exfalso; omega)
  | true =>
    obtain ⟨rfl, hfw⟩ := hok rfl
    have hfew : ∀ x ∈ l.take 10, FewS x := by
      rcases Nat.lt_or_ge k l.length with q | q
      · have : k = 10 := by
          rcases Nat.lt_or_ge k 10 with q2 | q2
          · exact absurd ⟨q, q2, rfl⟩ hgo
          · omega
        rw [← this]; exact hfw
      · rw [List.take_of_length_le (by omega)] at hfw
        exact fun x hx => hfw x (List.mem_of_mem_take hx)
    have hkn : ¬ ((k : Int) < l.length ∧ (k : Int) < 10) := fun q => hgo ⟨by omega, by omega, rfl⟩
    have hX := scx_few hl hfew
    have hlen : rt e = true → (toTr e).tk.length ≤ 2 ^ 30 := fun hr => by
      have := Y1c hr hfe
      omega
    have k1 := fun S => X2b e hE hlen S
    have k2 := fun S => w_Script l hX .any S
    rw [hEA] at k1
    rw [hLA] at k2
    have hw1 : (Y0h e).2 = 0 → (∀ S, VCalls Tryz.prog 17 [.s (bs (Y0h e).1)] S (fun x σ' => ∃ a, x = .tup [.agg E, .agg [.i 0, .i a]] ∧ σ' = S)) ∧ (∀ S, VCalls Tryz.prog 13 [.agg E, .agg E] S (fun x σ' => x = .b true ∧ σ' = S)) := fun h0 => by
      unfold Y0h at h0 ⊢
      cases hr : rt e with
      | false => rw [hr] at h0; cases h0
      | true =>
        rw [hr] at h0
        simp only [if_true] at h0 ⊢
        rcases fin_cases (toTr e).tk (toTr e).dp with h | h | ⟨h, hd, hl2⟩
        · rw [h] at h0; cases h0
        · rw [h] at h0; cases h0
        · obtain ⟨t1, t2⟩ := Q7r e hr
          obtain ⟨e1, e2⟩ := one_back t2 (X2a _ (by rw [t1]; exact hE)) hd hl2
          rw [h]
          refine ⟨fun S => ?_, ?_⟩
          · have := p6 (Q5j (toTr e).tk) S
            rw [e1, e2, t1, hEA] at this
            exact this.mono fun x σ' hx => ⟨_, hx.1, hx.2⟩
          · have := p7 (sm_rt hr)
            rw [hEA] at this
            exact this
    have hw2 : (X1j l).2 = 0 → (∀ S, VCalls Tryz.prog 18 [.s (bs (X1j l).1)] S (fun x σ' => ∃ a, x = .tup [.sl .any L, .agg [.i 0, .i a]] ∧ σ' = S)) ∧ (∀ S, VCalls Tryz.prog 19 [.sl .any L, .sl .any L] S (fun x σ' => x = .b true ∧ σ' = S)) := fun h0 => by
      unfold X1j at h0 ⊢
      split at h0
      · cases h0
      · rename_i h8
        split at h0
        · cases h0
        · rename_i hne
          split at h0
          · rename_i hall
            rw [if_neg h8, if_neg hne, if_pos hall]
            have hall := List.all_eq_true.1 hall
            rcases fin_cases (scT l) (scD l) with h | h | ⟨h, hd, hl2⟩
            · rw [h] at h0; cases h0
            · rw [h] at h0; cases h0
            · obtain ⟨e1, e2⟩ := sc_back hne (by omega) (fun x hx => ⟨hall x hx, hl.lim x hx, Nat.le_trans (stD_le hx) hd⟩) hl2
              rw [h]
              refine ⟨fun S => ?_, fun S => ?_⟩
              · have := c8 (Q5j (scT l)) S
                rw [e1, e2, hLA] at this
                exact this.mono fun x σ' hx => ⟨_, hx.1, hx.2⟩
              · have := q_all l (by omega) (fun x hx => sms_fit (hall x hx)) S
                rw [hLA] at this
                exact this
          · cases h0
    clear hf hgo hok hfw hfew hX hlen a3 a2 hl hE hfe
    generalize (Y0h e).1 = T1 at *
    generalize (Y0h e).2 = c1 at *
    generalize (X1j l).1 = T2 at *
    generalize (X1j l).2 = c2 at *
    by_cases h1 : c1 = 0
    · obtain ⟨u1, u2⟩ := hw1 h1
      subst h1
      by_cases h2 : c2 = 0
      · obtain ⟨u3, u4⟩ := hw2 h2
        subst h2
        clear hw1 hw2
        (have zz := Bx.mk (j6 ui0 ui3 ui4 ui9 ui22 (j9 ui23 ui24 ui25 ui26 ui30 ui31 ui35 ui37 (j9 ui38 ui39 ui40 ui41 ui42 ui46 ui47 ui48 (j9 ui51 ui67 ui68 ui70 ui71 Q1e Q1r Q1s (j9 hel hoo het hed a1 hF hzF hEz hzE))))); (repeat' (first | exact zc | (with_reducible first | apply And.intro | apply Q0a | apply Q0b | refine Q0c (by decide +kernel) ?_ | intro _) | refine zaY zz.out ?_ | ((first | (with_reducible refine uc (k1 _) ?_) | (with_reducible refine uc (k2 _) ?_) | ((with_reducible refine zU (u1 _) ?_); rintro _ S ⟨a, rfl, rfl⟩) | ((with_reducible refine zU (u3 _) ?_); rintro _ S ⟨a, rfl, rfl⟩) | (with_reducible refine uc (u2 _) ?_) | (with_reducible refine uc (u4 _) ?_) | (with_reducible refine uc (X2s _) ?_) | (with_reducible refine uc (X2b _ (by assumption) (by assumption) _) ?_) | (with_reducible refine uc (p7 (by assumption) _) ?_) | ((with_reducible refine zU (Q5h _ (by assumption) _) ?_); rintro _ S ⟨b, hb, rfl, rfl⟩) | (refine Q0d (by exact zK) ?_) | (refine Q0e (by exact zK) ?_)); (try refine zsY zz.out ?_)) | refine zo ?_ | omega | refine ztY zz.out ?_ | fail)); try (all_goals clear zz))
        all_goals first | (exact zE) | (exfalso; simp_all; done) | trace_state
      · clear hw1 hw2
        (have zz := Bx.mk (j7 ui0 ui3 ui4 ui9 ui22 ui23 (j9 ui24 ui25 ui26 ui30 ui31 ui35 ui37 ui38 (j9 ui39 ui40 ui41 ui42 ui46 ui47 ui48 ui51 (j9 ui67 ui68 ui70 ui71 Q1e Q1r Q1s hel (j9 hoo het hed a1 hF hzF hEz hzE h2))))); (repeat' (first | exact zc | (with_reducible first | apply And.intro | apply Q0a | apply Q0b | refine Q0c (by decide +kernel) ?_ | intro _) | refine zaY zz.out ?_ | ((first | (with_reducible refine uc (k1 _) ?_) | (with_reducible refine uc (k2 _) ?_) | ((with_reducible refine zU (u1 _) ?_); rintro _ S ⟨a, rfl, rfl⟩) | (with_reducible refine uc (u2 _) ?_) | (with_reducible refine uc (X2s _) ?_) | (with_reducible refine uc (X2b _ (by assumption) (by assumption) _) ?_) | (with_reducible refine uc (p7 (by assumption) _) ?_) | ((with_reducible refine zU (Q5h _ (by assumption) _) ?_); rintro _ S ⟨b, hb, rfl, rfl⟩) | (refine Q0d (by exact zK) ?_) | (refine Q0e (by exact zK) ?_)); (try refine zsY zz.out ?_)) | refine zo ?_ | omega | refine ztY zz.out ?_ | fail)); try (all_goals clear zz))
        all_goals first | (exact zE) | (exfalso; simp_all; done) | trace_state
    · by_cases h2 : c2 = 0
      · obtain ⟨u3, u4⟩ := hw2 h2
        subst h2
        clear hw1 hw2
        (have zz := Bx.mk (j7 ui0 ui3 ui4 ui9 ui22 ui23 (j9 ui24 ui25 ui26 ui30 ui31 ui35 ui37 ui38 (j9 ui39 ui40 ui41 ui42 ui46 ui47 ui48 ui51 (j9 ui67 ui68 ui70 ui71 Q1e Q1r Q1s hel (j9 hoo het hed a1 hF hzF hEz hzE h1))))); (repeat' (first | exact zc | (with_reducible first | apply And.intro | apply Q0a | apply Q0b | refine Q0c (by decide +kernel) ?_ | intro _) | refine zaY zz.out ?_ | ((first | (with_reducible refine uc (k1 _) ?_) | (with_reducible refine uc (k2 _) ?_) | ((with_reducible refine zU (u3 _) ?_); rintro _ S ⟨a, rfl, rfl⟩) | (with_reducible refine uc (u4 _) ?_) | (with_reducible refine uc (X2s _) ?_) | (with_reducible refine uc (X2b _ (by assumption) (by assumption) _) ?_) | (with_reducible refine uc (p7 (by assumption) _) ?_) | ((with_reducible refine zU (Q5h _ (by assumption) _) ?_); rintro _ S ⟨b, hb, rfl, rfl⟩) | (refine Q0d (by exact zK) ?_) | (refine Q0e (by exact zK) ?_)); (try refine zsY zz.out ?_)) | refine zo ?_ | omega | refine ztY zz.out ?_ | fail)); try (all_goals clear zz))
        all_goals first | (exact zE) | (exfalso; simp_all; done) | trace_state
      · clear hw1 hw2
        (have zz := Bx.mk (j8 ui0 ui3 ui4 ui9 ui22 ui23 ui24 (j9 ui25 ui26 ui30 ui31 ui35 ui37 ui38 ui39 (j9 ui40 ui41 ui42 ui46 ui47 ui48 ui51 ui67 (j9 ui68 ui70 ui71 Q1e Q1r Q1s hel hoo (j9 het hed a1 hF hzF hEz hzE h1 h2))))); (repeat' (first | exact zc | (with_reducible first | apply And.intro | apply Q0a | apply Q0b | refine Q0c (by decide +kernel) ?_ | intro _) | refine zaY zz.out ?_ | ((first | (with_reducible refine uc (k1 _) ?_) | (with_reducible refine uc (k2 _) ?_) | (with_reducible refine uc (X2s _) ?_) | (with_reducible refine uc (X2b _ (by assumption) (by assumption) _) ?_) | (with_reducible refine uc (p7 (by assumption) _) ?_) | ((with_reducible refine zU (Q5h _ (by assumption) _) ?_); rintro _ S ⟨b, hb, rfl, rfl⟩) | (refine Q0d (by exact zK) ?_) | (refine Q0e (by exact zK) ?_)); (try refine zsY zz.out ?_)) | refine zo ?_ | omega | refine ztY zz.out ?_ | fail)); try (all_goals clear zz))
        all_goals first | (exact zE) | (exfalso; simp_all; done) | trace_state
theorem cw_map {β : Type} {f : β → List AV} {Q : β → Prop} {es : List (List AV)} (h : ∀ x ∈ es, ∃ b, Q b ∧ CW x (f b)) : ∃ l : List β, l.length = es.length ∧ (∀ b ∈ l, Q b) ∧ AVw (.sl .any es) (.sl .any (l.map f)) := by
  have : ∃ l : List β, l.length = es.length ∧ (∀ b ∈ l, Q b) ∧ ∀ (i : Nat) (e e' : List AV), es[i]? = some e → (l.map f)[i]? = some e' → CW e e' := by
    induction es with
    | nil => exact ⟨[], rfl, fun e he => (by cases he), fun i e e' h1 => (by simp at h1)⟩
    | cons x r ih =>
      obtain ⟨l, h1, h2, h3⟩ := ih (fun y hy => h y (List.mem_cons_of_mem _ hy))
      obtain ⟨e, h4, h5⟩ := h x (List.mem_cons_self ..)
      refine ⟨e :: l, by simp [h1], fun f hf => ?_, fun i a b q1 q2 => ?_⟩
      · rcases List.mem_cons.1 hf with rfl | hf
        · exact h4
        · exact h2 f hf
      · rw [List.map_cons] at q2
        cases i with
        | zero => simp at q1 q2; subst q1 q2; exact h5
        | succ i => exact h3 i a b (by simpa using q1) (by simpa using q2)
  obtain ⟨l, h1, h2, h3⟩ := this
  exact ⟨l, h1, h2, AVw.els (by rw [zB, h1]) h3⟩
theorem Q9p {β : Type} {f : β → List AV} {Q : β → Prop} {t e : TypeId} {cs : List AV} (hu : Tryz.prog.underlying t = some (.slice e)) (h : AT Tryz.prog t cs) (hd : ∀ x, AT Tryz.prog e x → ∃ b, Q b ∧ CW x (f b)) :
    ∃ (l : List β) (y : AV), cs = [y] ∧ l.length ≤ reachBytes ∧ (∀ b ∈ l, Q b) ∧ AVw y (.sl .any (l.map f)) := by
  rcases AT.inv_slice hu h with rfl | ⟨es, rfl, h1, h2⟩
  · exact ⟨[], _, rfl, Nat.zero_le _, fun b hb => (by cases hb), AVw.any _ _⟩
  · obtain ⟨l, g1, g2, g3⟩ := cw_map (f := f) (Q := Q) (fun x hx => hd x (h2 x hx))
    exact ⟨l, _, rfl, by omega, g2, fun κ v hr => g3 κ v (AVw.any _ _ κ v hr)⟩
theorem cw_one {y x : AV} (h : AVw y x) : CW [y] [x] := ⟨rfl, fun i a b h1 h2 => by
  cases i with
  | zero => cases h1; cases h2; exact h
  | succ i => simp at h1⟩
theorem dec_col {cs : List AV} (h : AT Tryz.prog 132 cs) : ∃ c : Co, True ∧ CW cs (coA c) := by
  obtain ⟨hl, hf⟩ := AT.inv_struct Tryz.underlying132 h
  have c3 : Tryz.prog.cellsOf 3 = 1 := by kernel_rfl
  have c4 : Tryz.prog.cellsOf 4 = 1 := by kernel_rfl
  have c9 : Tryz.prog.cellsOf 9 = 1 := by kernel_rfl
  have c0 : Tryz.prog.cellsOf 132 = 4 := by kernel_rfl
  rw [c0] at hl
  simp only [List.forall_mem_cons, c3, c4, c9] at hf
  obtain ⟨f0, f1, f2, f3, _⟩ := hf
  match cs, hl with
  | [a, b, c, d], _ =>
    obtain ⟨s, hs, _⟩ := AT.inv_str Z9 f0
    obtain ⟨k, hk, _⟩ := AT.inv_int Z3 f1
    obtain ⟨u, hu⟩ := AT.inv_bool Tryz.underlying4 f2
    obtain ⟨w, hw⟩ := AT.inv_bool Tryz.underlying4 f3
    simp only [List.drop_zero, List.drop_succ_cons, List.take_succ_cons, List.take_zero, List.cons.injEq, and_true] at hs hk hu hw
    subst hs hk hu hw
    refine ⟨(s.data.toList, k, u, w), trivial, ?_⟩
    unfold coA
    dsimp only
    rw [X6i]
    exact ⟨rfl, fun i z z' g1 g2 => by rw [g1] at g2; cases g2; exact AVw.refl _⟩
theorem dec_vals {cs : List AV} (h : AT Tryz.prog 107 cs) : ∃ r : List Vl, (r.length ≤ reachBytes ∧ ∀ v ∈ r, inR v.2.1) ∧ CW cs (rowA r) := by
  obtain ⟨l, y, rfl, h1, h2, h3⟩ := Q9p (f := valA) (Q := fun v => inR v.2.1) Tryz.underlying107 h (fun x hx => by
    obtain ⟨k, n, s, rfl, r1, r2⟩ := dec_val hx
    refine ⟨(k, n, s.data.toList), r2, ?_⟩
    unfold valA
    dsimp only
    rw [X6i]
    exact ⟨rfl, fun i z z' g1 g2 => by rw [g1] at g2; cases g2; exact AVw.refl _⟩)
  exact ⟨l, ⟨h1, h2⟩, cw_one h3⟩
theorem dec_set {cs : List AV} (h : AT Tryz.prog 68 cs) : ∃ x : Se, Lim x.2 ∧ CW cs (setA x) := by
  obtain ⟨hl, hf⟩ := AT.inv_struct Tryz.underlying68 h
  have c9 : Tryz.prog.cellsOf 9 = 1 := by kernel_rfl
  have c27 : Tryz.prog.cellsOf tE = 8 := by kernel_rfl
  have c0 : Tryz.prog.cellsOf 68 = 9 := by kernel_rfl
  rw [c0] at hl
  simp only [List.forall_mem_cons, c9, c27] at hf
  obtain ⟨f0, f1, _⟩ := hf
  match cs, hl with
  | a :: r, hl =>
    obtain ⟨s, hs, _⟩ := AT.inv_str Z9 f0
    have f1 : AT Tryz.prog tE ((r.drop 0).take 8) := f1
    rw [List.drop_zero, List.take_of_length_le (by simp at hl; omega)] at f1
    obtain ⟨e, hE, hc⟩ := (X7g f1).1 rfl
    simp only [List.drop_zero, List.take_succ_cons, List.take_zero, List.cons.injEq, and_true] at hs
    subst hs
    refine ⟨(s.data.toList, e), hE, ?_⟩
    unfold setA
    dsimp only
    rw [X6i]
    refine ⟨by simp [hc.1], fun i z z' g1 g2 => ?_⟩
    cases i with
    | zero => cases g1; cases g2; exact AVw.refl _
    | succ i => exact hc.2 i z z' (by simpa using g1) (by simpa using g2)
theorem dec_item {cs : List AV} (h : AT Tryz.prog 71 cs) : ∃ x : It, LimL x.2 ∧ CW cs (Q2z x) := by
  obtain ⟨hl, hf⟩ := AT.inv_struct Tryz.underlying71 h
  have c3 : Tryz.prog.cellsOf 3 = 1 := by kernel_rfl
  have c28 : Tryz.prog.cellsOf tS = 1 := by kernel_rfl
  have c0 : Tryz.prog.cellsOf 71 = 2 := by kernel_rfl
  rw [c0] at hl
  simp only [List.forall_mem_cons, c3, c28] at hf
  obtain ⟨f0, f1, _⟩ := hf
  match cs, hl with
  | [a, b], hl =>
    obtain ⟨k, hk, _⟩ := AT.inv_int Z3 f0
    obtain ⟨l, y, hy, hll, hL, hw⟩ := (X7g f1).2 rfl
    simp only [List.drop_zero, List.drop_succ_cons, List.take_succ_cons, List.take_zero, List.cons.injEq, and_true] at hk hy
    subst hk hy
    refine ⟨(k, l), ⟨Nat.le_trans hll (by decide), hL⟩, rfl, fun i z z' g1 g2 => ?_⟩
    match i, g1, g2 with
    | 0, g1, g2 => cases g1; cases g2; exact AVw.refl _
    | 1, g1, g2 => cases g1; cases g2; exact hw
theorem reach_eq : reachBytes = 140737488351232 := rfl
theorem dec_stm {cs : List AV} (h : AT Tryz.prog 42 cs) : ∃ x : Stm, (LimX x ∧ x.items.length + x.on.length + x.gr.length + x.or.length ≤ 9223372036854775807) ∧ CW cs (stmA x) := by
  obtain ⟨hl, hf⟩ := AT.inv_struct Tryz.underlying42 h
  have c3 : Tryz.prog.cellsOf 3 = 1 := by kernel_rfl
  have c4 : Tryz.prog.cellsOf 4 = 1 := by kernel_rfl
  have c9 : Tryz.prog.cellsOf 9 = 1 := by kernel_rfl
  have c28 : Tryz.prog.cellsOf tS = 1 := by kernel_rfl
  have c37 : Tryz.prog.cellsOf 37 = 1 := by kernel_rfl
  have c38 : Tryz.prog.cellsOf 38 = 1 := by kernel_rfl
  have c39 : Tryz.prog.cellsOf 39 = 1 := by kernel_rfl
  have c40 : Tryz.prog.cellsOf 40 = 1 := by kernel_rfl
  have c0 : Tryz.prog.cellsOf 42 = 14 := by kernel_rfl
  rw [c0] at hl
  simp only [List.forall_mem_cons, c3, c4, c9, c28, c37, c38, c39, c40] at hf
  obtain ⟨f0, f1, f2, f3, f4, f5, f6, f7, f8, f9, f10, f11, f12, f13, _⟩ := hf
  match cs, hl with
  | [x0, x1, x2, x3, x4, x5, x6, x7, x8, x9, x10, x11, x12, x13], _ =>
    obtain ⟨k, e0, r0⟩ := AT.inv_int Z3 f0
    obtain ⟨t, e1, _⟩ := AT.inv_str Z9 f1
    obtain ⟨cols, y2, e2, l2, _, w2⟩ := Q9p (f := coA) (Q := fun _ => True) Tryz.underlying37 f2 (fun x hx => dec_col hx)
    obtain ⟨pk, e3, _⟩ := AT.inv_str Z9 f3
    obtain ⟨rows, y4, e4, l4, q4, w4⟩ := Q9p (f := rowA) (Q := fun r => r.length ≤ reachBytes ∧ ∀ v ∈ r, inR v.2.1) Tryz.underlying38 f4 (fun x hx => dec_vals hx)
    obtain ⟨sets, y5, e5, l5, q5, w5⟩ := Q9p (f := setA) (Q := fun x => Lim x.2) Tryz.underlying39 f5 (fun x hx => dec_set hx)
    obtain ⟨items, y6, e6, l6, q6, w6⟩ := Q9p (f := Q2z) (Q := fun x => LimL x.2) Tryz.underlying40 f6 (fun x hx => dec_item hx)
    obtain ⟨join, e7, _⟩ := AT.inv_str Z9 f7
    obtain ⟨on, y8, e8, l8, q8, w8⟩ := (X7g f8).2 rfl
    obtain ⟨wh, y9, e9, l9, q9, w9⟩ := (X7g f9).2 rfl
    obtain ⟨gr, y10, e10, l10, q10, w10⟩ := (X7g f10).2 rfl
    obtain ⟨or, y11, e11, l11, q11, w11⟩ := (X7g f11).2 rfl
    obtain ⟨desc, e12⟩ := AT.inv_bool Tryz.underlying4 f12
    obtain ⟨lim, e13, r13⟩ := AT.inv_int Z3 f13
    simp only [List.drop_zero, List.drop_succ_cons, List.take_succ_cons, List.take_zero, List.cons.injEq, and_true] at e0 e1 e2 e3 e4 e5 e6 e7 e8 e9 e10 e11 e12 e13
    subst e0 e1 e2 e3 e4 e5 e6 e7 e8 e9 e10 e11 e12 e13
    rw [reach_eq] at l2 l4 q4 l5 l6 l8 l9 l10 l11
    refine ⟨⟨k, t.data.toList, cols, pk.data.toList, rows, sets, items, join.data.toList, on, wh, gr, or, desc, lim⟩, ⟨⟨⟨X9c r0, X9c r13, by dsimp only; omega, by dsimp only; omega, fun r hr => by have := (q4 r hr).1; omega, by dsimp only; omega, q5, by dsimp only; omega, q6, ⟨by dsimp only; omega, q8⟩, ⟨by dsimp only; omega, q9⟩, ⟨by dsimp only; omega, q10⟩, ⟨by dsimp only; omega, q11⟩⟩, fun r hr => (q4 r hr).2⟩, by dsimp only; omega⟩, ?_⟩
    unfold stmA
    dsimp only
    simp only [X6i]
    refine ⟨rfl, fun i z z' g1 g2 => ?_⟩
    match i, g1, g2 with
    | 0, g1, g2 | 1, g1, g2 | 3, g1, g2 | 7, g1, g2 | 12, g1, g2 | 13, g1, g2 => cases g1; cases g2; exact AVw.refl _
    | 2, g1, g2 => cases g1; cases g2; exact w2
    | 4, g1, g2 => cases g1; cases g2; exact w4
    | 5, g1, g2 => cases g1; cases g2; exact w5
    | 6, g1, g2 => cases g1; cases g2; exact w6
    | 8, g1, g2 => cases g1; cases g2; exact w8
    | 9, g1, g2 => cases g1; cases g2; exact w9
    | 10, g1, g2 => cases g1; cases g2; exact w10
    | 11, g1, g2 => cases g1; cases g2; exact w11
theorem dec_stms {x : AV} (h : AT Tryz.prog 35 [x]) : ∃ l : List Stm, ScI l ∧ AVw x (.sl .any (l.map stmA)) := by
  obtain ⟨l, y, e, h1, h2, h3⟩ := Q9p (f := stmA) (Q := fun x => LimX x ∧ x.items.length + x.on.length + x.gr.length + x.or.length ≤ 9223372036854775807) Tryz.underlying35 h (fun x hx => dec_stm hx)
  cases e
  exact ⟨l, ⟨by rw [reach_eq] at h1; omega, fun x hx => (h2 x hx).1, fun x hx => (h2 x hx).2⟩, h3⟩
end Go.Proofs.YtjdapkelojdefaaGreatDoor
