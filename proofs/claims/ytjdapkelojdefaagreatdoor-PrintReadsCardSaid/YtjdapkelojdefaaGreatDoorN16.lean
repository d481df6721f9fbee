/- Part 16 of the proof: G16, G17, W39, G18, W9, W10, W11, W14, W15, W16, W17, W18, W19, W40, V14, V16, V18, R13. -/
import Derived.Test.YtjdapkelojdefaaGreatDoorN15
import Derived.Test.YtjdapkelojdefaaGreatDoorN7
import Derived.Test.YtjdapkelojdefaaGreatDoorN11
import Derived.Test.YtjdapkelojdefaaGreatDoorN13
import Derived.Test.YtjdapkelojdefaaGreatDoorN8
import Derived.Test.YtjdapkelojdefaaGreatDoorN10
import Derived.Test.YtjdapkelojdefaaGreatDoorN14
import Derived.Test.YtjdapkelojdefaaGreatDoorN4
import Derived.Test.YtjdapkelojdefaaGreatDoorN12
import Derived.Test.YtjdapkelojdefaaGreatDoorN3
import GoSem.ClaimChange
import Derived.Below
import Derived.Carry
import Derived.Test.YtjdapkelojdefaaGreatDoorRows
import Derived.Test.YtjdapkelojdefaaGreatDoorN0
import Derived.WalkKit
import Derived.ProofKit
import Derived.OpenShut
import Derived.LaidMore
import Derived.Lay
import Derived.SevenTiedAt
import Derived.Stop.Joined

set_option linter.all false
set_option maxRecDepth 100000
set_option maxHeartbeats 4000000
open Option renaming getD_some → zv
open List renaming length_append → zw, length_cons → zx, length_nil → zy
open Go.V.VCalls renaming mono → zR
namespace Go.Print
open Go.V Go.Lex Go.Parse Go.Proofs.YtjdapkelojdefaaGreatDoor
structure AllX (N : Nat) (x : Stm) : Prop where
  sets : ∀ s ∈ x.sets, (toTr s.2).tk.length ≤ N
  items : ∀ y ∈ x.items, ∀ e ∈ y.2, (toTr e).tk.length ≤ N
  on : ∀ e ∈ x.on, (toTr e).tk.length ≤ N
  wh : ∀ e ∈ x.wh, (toTr e).tk.length ≤ N
  gr : ∀ e ∈ x.gr, (toTr e).tk.length ≤ N
  or : ∀ e ∈ x.or, (toTr e).tk.length ≤ N
theorem X3v {β : Type} {one : β → List Tk} {M : Nat} : ∀ {l : List β}, (∀ x ∈ l, (one x).length ≤ M) → (sepT one l).length ≤ (M + 1) * l.length
  | [], _ => by simp [sepT]
  | [x], h => by have := h x (by simp); show (one x).length ≤ (M + 1) * 1; omega
  | x :: y :: r, h => by
    have h1 := h x (by simp)
    have ih := X3v (l := y :: r) (fun z hz => h z (List.mem_cons_of_mem _ hz))
    show (one x ++ wd [44] :: sepT one (y :: r)).length ≤ (M + 1) * ((y :: r).length + 1)
    rw [zw, zx, Nat.mul_succ]
    omega
theorem maxD_bd {β : Type} {f : β → Nat} {M : Nat} : ∀ {l : List β}, (∀ x ∈ l, f x ≤ M) → maxD f l ≤ M
  | [], _ => Nat.zero_le _
  | x :: r, h => by
    have h1 := h x (by simp)
    have h2 := maxD_bd (f := f) (l := r) (fun y hy => h y (List.mem_cons_of_mem _ hy))
    show max (f x) (maxD f r) ≤ M
    omega
theorem X2c {N : Nat} (ws : List By) {l : List Ex} (h : ∀ e ∈ l, (toTr e).tk.length ≤ N) : (expT ws l).length ≤ ws.length + N := by
  cases l with
  | nil => exact Nat.zero_le _
  | cons e r =>
    have := h e (by simp)
    show (wds ws ++ (toTr e).tk).length ≤ _
    rw [zw, Q3u]; omega
theorem X3w {N : Nat} {l : List Ex} (h : ∀ e ∈ l, (toTr e).tk.length ≤ N) : expD l ≤ N := by
  cases l with
  | nil => exact Nat.zero_le _
  | cons e r =>
    have := h e (by simp)
    have := X4k (toTr e)
    show (toTr e).dp ≤ N
    omega
theorem itemT_len {N : Nat} {x : It} (h : ∀ e ∈ x.2, (toTr e).tk.length ≤ N) : (Q8j x).length ≤ N + 4 := by
  unfold Q8j
  split
  · simp [wds]
  · split
    · simp [wds]
    · split
      · have := X2c [] h; simp at this; omega
      · rw [zw]
        have := X2c [(if x.1 = 4 then [67, 79, 85, 78, 84] else if x.1 = 5 then [83, 85, 77] else if x.1 = 6 then [77, 73, 78] else [77, 65, 88]), [40]] h
        simp at this ⊢
        omega
theorem st_len {x : Stm} {N : Nat} (hf : fitB x = true) (h : AllX N x) : (stT x).length ≤ 24 * N + 1000 ∧ stD x ≤ N := by
  obtain ⟨p1, p2, p3, p4, p5, p6, p7⟩ := X3t hf
  have hk : x.k = 1 ∨ x.k = 2 ∨ x.k = 3 ∨ x.k = 4 ∨ x.k = 5 ∨ x.k = 6 := by omega
  have ew := X2c [[87, 72, 69, 82, 69]] h.wh
  have dw := X3w h.wh
  unfold stT stD
  rcases hk with hk | hk | hk | hk | hk | hk <;> rw [hk] <;> simp only [Int.reduceEq, if_true, if_false]
  · have a := (p4 hk).1
    unfold X5u at a
    simp only [Bool.and_eq_true, decide_eq_true_eq] at a
    have := Y1b x.cols x.cols.length
    rw [List.take_length] at this
    refine ⟨?_, Nat.zero_le _⟩
    unfold X4s
    simp only [zw, zx, Q3u, zy]
    omega
  · exact ⟨by unfold dropT; simp [wds], Nat.zero_le _⟩
  · have a := p5 hk
    unfold X5v at a
    simp only [Bool.and_eq_true, decide_eq_true_eq] at a
    have h1 : ∀ r ∈ x.rows, (rowT r).length ≤ 26 := fun r hr => by
      have hb := List.all_eq_true.1 a.1 r hr
      unfold rowB at hb
      simp only [Bool.and_eq_true, decide_eq_true_eq] at hb
      have h2 := X3v (one := litT) (M := 2) (l := r) (fun v _ => (X3m v).2)
      unfold rowT
      simp only [zw, zx, zy]
      omega
    have h3 := X3v (one := rowT) h1
    refine ⟨?_, Nat.zero_le _⟩
    unfold X4t
    simp only [zw, zx, Q3u, zy]
    omega
  · have a := p6 hk
    unfold X5w at a
    simp only [Bool.and_eq_true, decide_eq_true_eq] at a
    have h1 : ∀ s ∈ x.sets, (setT s).length ≤ N + 2 := fun s hs => by
      have := h.sets s hs
      unfold setT
      simp only [zx]
      omega
    have h3 := X3v (one := setT) h1
    have h4 := maxD_bd (f := fun s : Se => (toTr s.2).dp) (l := x.sets) (M := N) (fun s hs => by
      have := h.sets s hs
      have := X4k (toTr s.2)
      try dsimp only
      omega)
    have h5 : (N + 2 + 1) * x.sets.length ≤ (N + 2 + 1) * 8 := Nat.mul_le_mul_left _ a.2.2
    refine ⟨?_, by omega⟩
    unfold X4u
    simp only [zw, zx, zy] at ew ⊢
    omega
  · refine ⟨?_, dw⟩
    unfold removeT
    simp only [zw, zx, Q3u, zy] at ew ⊢
    omega
  · obtain ⟨s1, s2, s3, s4, s5⟩ := X3u (p7 hk)
    unfold X0s at s1
    simp only [Bool.and_eq_true, decide_eq_true_eq] at s1
    have h3 := X3v (one := Q8j) (l := x.items) (M := N + 4) (fun y hy => itemT_len (h.items y hy))
    have h4 := maxD_bd (f := fun y : It => expD y.2) (l := x.items) (M := N) (fun y hy => X3w (h.items y hy))
    have h5 : (N + 4 + 1) * x.items.length ≤ (N + 4 + 1) * 8 := Nat.mul_le_mul_left _ s1.2.2
    have e1 := X2c [[79, 78]] h.on
    have e2 := X2c [[71, 82, 79, 85, 80], [66, 89]] h.gr
    have e3 := X2c [[79, 82, 68, 69, 82], [66, 89]] h.or
    have d1 := X3w h.on
    have d2 := X3w h.gr
    have d3 := X3w h.or
    have hj : (joinT x).length ≤ N + 4 := by
      unfold joinT
      split
      · simp
      · simp only [zx, zy] at e1 ⊢; omega
    refine ⟨?_, ?_⟩
    · unfold X4v
      have l1 : (if x.desc then [wd [68, 69, 83, 67]] else []).length ≤ 1 := by split <;> simp
      have l2 : (if 0 ≤ x.lim then [wd [76, 73, 77, 73, 84], iT x.lim] else []).length ≤ 2 := by split <;> simp
      simp only [zw, zx, zy] at ew e2 e3 ⊢
      omega
    · split <;> omega
structure R0 (s : Rd) : Prop where
  wf : WF s.l
  gl : GL s.l
  d : s.d = 0
  len : s.l.length ≤ 2001
theorem R0.ok {s s' : Rd} (h : R0 s) (o : Ok s s') : R0 s' := ⟨o.wf, h.gl.suf o.suf, o.d.trans h.d, Nat.le_trans o.le h.len⟩
structure XR (e : Ex) : Prop where
  rt : Go.Print.rt e = true
  lim : Lim e
  len : (toTr e).tk.length ≤ 20000
theorem xr_of {e : Ex} {n : Nat} (h : TrE e n) (hn : n ≤ 20000) : XR e := by
  obtain ⟨t, h1, h2, rfl, h4⟩ := h
  exact ⟨rt_ex t h1, X8y t h1 h2, by rw [X4r]; omega⟩
theorem r_exp {s : Rd} (h : R0 s) (hc : (exp s).2.c = 0) : XR (exp s).1 := by
  have := (dp_rg 11).ex s ⟨by rw [h.d]; decide, by rw [h.d]; decide⟩ h.wf h.gl hc
  have hl := h.len
  exact xr_of this.2 (by omega)
theorem r_col {s : Rd} (h : R0 s) (hc : s.column.2.c = 0) : XR s.column.1 ∧ s.column.1.kd = 2 := by
  have := rg_column (k := 0) s ⟨by rw [h.d]; decide, by rw [h.d]; decide⟩ h.wf h.gl hc
  have hl := h.len
  refine ⟨xr_of this.2 (by omega), ?_⟩
  unfold Rd.column
  split <;> rfl
def OL (l : List Ex) : Prop := oneB l = true ∧ ∀ e ∈ l, XR e
theorem ol_nil : OL [] := ⟨rfl, fun e h => by cases h⟩
theorem ol_one {e : Ex} (h : XR e) : OL [e] := ⟨by unfold oneB; rw [Q3d, Q5s, h.rt]; rfl, fun f hf => by rw [List.mem_singleton.1 hf]; exact h⟩
theorem OL.lim {l : List Ex} (h : OL l) : LimL l := ⟨by have := (Q5x h.1).1; omega, fun e he => (h.2 e he).lim⟩
theorem r_maybe {w : By} {s : Rd} (h : R0 s) (hc : (Q2r w s).2.c = 0) : OL (Q2r w s).1 := by
  unfold Q2r at hc ⊢
  split
  · rename_i q
    rw [if_pos q] at hc
    exact ol_one (r_exp (h.ok (Q2h h.wf)) hc)
  · exact ol_nil
theorem r_by {w : By} {s : Rd} (h : R0 s) (hc : (byL w s).2.c = 0) : OL (byL w s).1 ∧ colB (byL w s).1 = true := by
  unfold byL at hc ⊢
  split
  · rename_i q
    rw [if_pos q] at hc
    have h2 := h.ok (Q2h (ws := [w]) h.wf)
    have h3 := h2.ok (Q0w [[66, 89]] _ h2.wf)
    obtain ⟨a, b⟩ := r_col h3 hc
    have := ol_one a
    refine ⟨this, ?_⟩
    unfold colB
    rw [this.1]
    exact decide_eq_true b
  · exact ⟨ol_nil, rfl⟩
theorem Q9o {s : Rd} (h : R0 s) (hc : (s.take 1).c = 0) : isNm (s.tok 1).2.1 = true := by
  obtain ⟨a1, a2, a3⟩ := X7g hc
  rw [a3]
  exact Y0j (h.gl.hd h.wf.pos) a1.2
theorem fail_c {s : Rd} {e : Int} (he : e ≠ 0) : (s.fail e).c ≠ 0 := by
  unfold Rd.fail
  split
  · exact he
  · assumption
theorem X9i {β : Type} {one : Rd → β × Rd} {P : β → Prop} (hN : Q6n one) (h : ∀ s, R0 s → (one s).2.c = 0 → P (one s).1) (sep : By) : ∀ (k : Nat) (acc : List β) (s : Rd), R0 s → (Q2w one sep k acc s).2.c = 0 → ∃ l, (Q2w one sep k acc s).1 = acc ++ l ∧ l ≠ [] ∧ l.length ≤ k ∧ ∀ x ∈ l, P x
  | 0, acc, s, hs, hc => by
    exfalso
    have o := Q5r hs.wf 2
    have o2 := hN _ o.wf
    have o3 := Q2h (ws := [sep]) o2.wf
    have : (Q2w one sep 0 acc s).2 = (one (s.fail 2)).2.pass [sep] := rfl
    rw [this] at hc
    exact fail_c (by decide) (Q3f o2 (Q3f o3 hc))
  | k + 1, acc, s, hs, hc => by
    have o2 := hN s hs.wf
    have o3 := Q2h (ws := [sep]) o2.wf
    unfold Q2w at hc ⊢
    split
    · rename_i q
      rw [if_pos q] at hc
      obtain ⟨l, h1, h2, h3, h4⟩ := X9i hN h sep k (acc ++ [(one s).1]) _ ((hs.ok o2).ok o3) hc
      have o4 := Q8g hN sep k (acc ++ [(one s).1]) _ o3.wf
      have hp := h s hs (Q3f o3 (Q3f o4 hc))
      refine ⟨(one s).1 :: l, by rw [h1]; simp, by simp, by simpa using h3, fun x hx => ?_⟩
      rcases List.mem_cons.1 hx with rfl | hx
      · exact hp
      · exact h4 x hx
    · rename_i q
      rw [if_neg q] at hc
      exact ⟨[(one s).1], rfl, by simp, by simp, fun x hx => by rw [List.mem_singleton.1 hx]; exact h s hs (Q3f o3 hc)⟩
theorem r_lit {s : Rd} (h : R0 s) (hc : (litV s).2.c = 0) : okV (litV s).1 = true ∧ inR (litV s).1.2.1 := by
  unfold litV at hc ⊢
  by_cases q : s.lit.2.1 = true
  · rw [if_pos q] at hc
    obtain ⟨_, t, h1, h2, h3, _⟩ := rg_lit s h.wf h.gl hc q
    cases t with
    | val v =>
      have h3 : Ex.mk 1 0 [] [] v [] = .mk 1 0 [] [] s.lit.1 [] := h3
      simp only [Ex.mk.injEq, true_and, and_true] at h3
      dsimp only
      rw [← h3]; exact ⟨h1, h2⟩
    | col t n => cases h3
    | op k a b => cases h3
    | not e => cases h3
    | neg e => cases h3
    | null e => cases h3
  · rw [if_neg q] at hc
    exact absurd hc (fail_c (by decide))
theorem r_tuple {s : Rd} (h : R0 s) (hc : (Q4w s).2.c = 0) : rowB (Q4w s).1 = true ∧ ∀ v ∈ (Q4w s).1, inR v.2.1 := by
  have o := Q0w [[40]] s h.wf
  have o2 := Q8g X1n [44] 8 [] _ o.wf
  have o3 := Q0w [[41]] _ o2.wf
  obtain ⟨l, h1, h2, h3, h4⟩ := X9i (P := fun v => okV v = true ∧ inR v.2.1) X1n (fun s hs hc => r_lit hs hc) [44] 8 [] _ (h.ok o) (Q3f o3 hc)
  have e : (Q4w s).1 = l := by show (Q2w litV [44] 8 [] (s.must [[40]])).1 = l; rw [h1]; rfl
  rw [e]
  refine ⟨?_, fun v hv => (h4 v hv).2⟩
  unfold rowB
  have : 0 < l.length := List.length_pos_iff.2 h2
  simp only [Bool.and_eq_true, decide_eq_true_eq, List.all_eq_true]
  exact ⟨fun v hv => (h4 v hv).1, by omega, h3⟩
theorem r_set {s : Rd} (h : R0 s) (hc : (setL s).2.c = 0) : isNm (setL s).1.1 = true ∧ XR (setL s).1.2 := by
  have o := Q2m (k := 1) h.wf (by decide)
  have o2 := Q0w [[61]] _ o.wf
  have o3 := Q5v _ o2.wf
  exact ⟨Q9o h (Q3f o2 (Q3f o3 hc)), r_exp ((h.ok o).ok o2) hc⟩
theorem r_itemB {k : Int} (hk : 0 ≤ k ∧ k ≤ 3) {s : Rd} (h : R0 s) (hc : (X1m k s).2.c = 0) : Q4o (X1m k s).1 = true ∧ ∀ e ∈ (X1m k s).1.2, XR e := by
  have hone : ∀ (j : Int) (e : Ex), 4 ≤ j → j ≤ 7 → XR e → Q4o (j, [e]) = true ∧ ∀ f ∈ [e], XR f := fun j e h1 h2 hx => by
    refine ⟨?_, fun f hf => by rw [List.mem_singleton.1 hf]; exact hx⟩
    unfold Q4o
    dsimp only
    rw [Q3d, Q5s, hx.rt, if_neg (by omega)]
    simp
    omega
  unfold X1m at hc ⊢
  split
  · rename_i q
    rw [if_pos q] at hc
    have o := Q5v s h.wf
    have o2 := Q0w [[41]] _ o.wf
    exact hone _ _ (by omega) (by omega) (r_exp h (Q3f o2 hc))
  · rename_i q
    rw [if_neg q] at hc
    split
    · exact ⟨rfl, fun e he => by cases he⟩
    · rename_i q2
      rw [if_neg q2] at hc
      have o0 := Q2h (ws := [[42]]) h.wf
      have o := Q5v _ o0.wf
      have o2 := Q0w [[41]] _ o.wf
      exact hone _ _ (by omega) (by omega) (r_exp (h.ok o0) (Q3f o2 hc))
theorem r_item {s : Rd} (h : R0 s) (hc : (Q6h s).2.c = 0) : Q4o (Q6h s).1 = true ∧ ∀ e ∈ (Q6h s).1.2, XR e := by
  have o0 := Q2h (ws := wItems) h.wf
  have hlt := Y0c s wItems
  have hl : wItems.length = 5 := rfl
  unfold Q6h at hc ⊢
  split
  · rename_i q
    rw [if_pos q] at hc
    have hx := r_exp (h.ok o0) hc
    refine ⟨?_, fun f hf => by rw [List.mem_singleton.1 hf]; exact hx⟩
    unfold Q4o
    dsimp only
    rw [Q3d, Q5s, hx.rt]
    rfl
  · rename_i q
    rw [if_neg q] at hc
    split
    · exact ⟨rfl, fun e he => by cases he⟩
    · rename_i q2
      rw [if_neg q2] at hc
      have o1 := Q0w [[40]] _ o0.wf
      exact r_itemB (by omega) ((h.ok o0).ok o1) hc
theorem r_column {s : Rd} (h : R0 s) (hc : s.columnOf.2.c = 0) : X2x s.columnOf.1 = true := by
  have o1 := Q2m (k := 1) h.wf (by decide)
  have o2 := X7k _ o1.wf
  have o3 := X7l _ o2.wf
  have o4 := Q2h (ws := [[85, 78, 73, 81, 85, 69]]) o3.wf
  have hn := Q9o h (Q3f o2 (Q3f o3 (Q3f o4 hc)))
  have hk : (Q6d (s.take 1)).1 = 1 ∨ (Q6d (s.take 1)).1 = 2 := by
    unfold Q6d
    split
    · exact .inl rfl
    · dsimp only
      split
      · exact .inr rfl
      · exact .inl rfl
  show (isNm (s.tok 1).2.1 && decide ((Q6d (s.take 1)).1 = 1 ∨ (Q6d (s.take 1)).1 = 2)) = true
  rw [hn, Bool.true_and]
  exact decide_eq_true hk
theorem r_cols : ∀ (k : Nat) (acc : List Co) (s : Rd), R0 s → (Q5b k acc s).2.c = 0 → ∃ l, (Q5b k acc s).1 = acc ++ l ∧ acc ++ l ≠ [] ∧ l.length ≤ k ∧ ∀ c ∈ l, X2x c = true
  | 0, acc, s, hs, hc => by
    have o := X3r (acc := acc) hs.wf
    unfold Q5b at hc ⊢
    split
    · rename_i q
      rw [if_pos q] at hc
      exfalso
      have o2 := Q5r o.wf 2
      have o3 := Q3g _ o2.wf
      have o4 := Q0w [[44]] _ o3.wf
      exact fail_c (by decide) (Q3f o3 (Q3f o4 hc))
    · rename_i q
      rw [if_neg q] at hc
      refine ⟨[], by simp, ?_, by simp, fun c h => by cases h⟩
      have := Q3f o hc
      unfold Q2f at q
      rw [this] at q
      intro e
      rw [List.append_nil] at e
      rw [e] at q
      simp at q
  | k + 1, acc, s, hs, hc => by
    have o := X3r (acc := acc) hs.wf
    unfold Q5b at hc ⊢
    split
    · rename_i q
      rw [if_pos q] at hc
      have o3 := Q3g _ o.wf
      have o4 := Q0w [[44]] _ o3.wf
      have o5 := Y0n k (acc ++ [(Q2x acc s).columnOf.1]) _ o4.wf
      obtain ⟨l, h1, h2, h3, h4⟩ := r_cols k (acc ++ [(Q2x acc s).columnOf.1]) _ (((hs.ok o).ok o3).ok o4) hc
      have hp := r_column (hs.ok o) (Q3f o4 (Q3f o5 hc))
      refine ⟨(Q2x acc s).columnOf.1 :: l, by rw [h1]; simp, by simp, by simpa using h3, fun c hc' => ?_⟩
      rcases List.mem_cons.1 hc' with rfl | hc'
      · exact hp
      · exact h4 c hc'
    · rename_i q
      rw [if_neg q] at hc
      refine ⟨[], by simp, ?_, by simp, fun c h => by cases h⟩
      have := Q3f o hc
      unfold Q2f at q
      rw [this] at q
      intro e
      rw [List.append_nil] at e
      rw [e] at q
      simp at q
end Go.Print
namespace Go.Proofs.YtjdapkelojdefaaGreatDoor
open Go Go.V Go.Lex Go.Parse Go.Print
theorem ws_sub0 {σ : Sg} {ω τ β : Nat} {l : List Tk} {d m : Int} {o o' : Ob} (h : σ β = none) : (WS σ ω τ l d m).sub (WS ((σ.set ω o).set β o') ω τ l d m) := by
  intro y p hy
  simp only [WS, Y0z, Sg.set_apply] at hy ⊢
  grind
structure ScX (l : List Stm) : Prop where
  len : l.length ≤ 9223372036854775807
  lim : ∀ x ∈ l, LimX x
  sum : ∀ x ∈ l, x.items.length + x.on.length + x.gr.length + x.or.length ≤ 9223372036854775807
  big : l.length ≤ 8 → ∀ x ∈ l, fitB x = true → (stT x).length ≤ 2 ^ 26 ∧ stD x ≤ 2 ^ 26
theorem w_Script (l : List Stm) (hX : ScX l) (o : Own) (σ : Sg) : VCalls Tryz.prog 15 [.sl o (l.map stmA)] σ (fun x σ' => x = .tup [.s (bs (X7s l).1), .i (X7s l).2] ∧ σ' = σ) := by
  have a1 : (l.map stmA).length = l.length := List.length_map ..
  have a2 := Q3z (f := stmA) (n := 14) l (fun _ => rfl)
  have a3 := fun k (h : k < l.length) => Q3y (f := stmA) h
  have hll := hX.len
  unfold X7s
  by_cases h8 : 8 < l.length
  · rw [if_pos h8]
    generalize l.map stmA = L at *
    (refine vfun (fun _ => .no) Q0h Tryz.func15 (by kernel_rfl) ?_; simp only [Q0f, Tryz.f15, zv])
    (have zz := Bx.mk (j2 ui0 (j9 ui3 ui4 ui9 ui22 ui23 ui24 ui25 ui26 (j9 ui30 ui31 ui35 ui37 ui38 ui39 ui40 ui41 (j9 ui42 ui55 ui56 ui57 ui58 ui59 ui67 ui68 (j9 ui70 ui71 ui75 Q1k Q0v Q1p Q2c Q2d a1))))); (repeat' (first | with_reducible rfl | exact trivial | (with_reducible first | apply And.intro | apply Q0a | apply Q0b | refine Q0c (by decide +kernel) ?_ | intro _) | refine zaY zz.out ?_ | ((first | (with_reducible refine uc (Q9x _ (by assumption) (by assumption) _) ?_) | ((with_reducible refine zR (Q0m _ _ _ _ _ _ _ _ (by repeat (first | exact Q0p | refine Q0k ?_ (by simp))) (by exact Go.V.zO) (by exact Go.V.zN)) ?_); rintro _ S ⟨rfl, τ1, ⟨f1, n1⟩, rfl⟩; have n1s := n1.symm) | (refine Q0d (by exact Go.V.zK) ?_) | (refine Q0e (by exact Go.V.zK) ?_)); (try refine zsY zz.out ?_)) | refine zo ?_ | omega | refine ztY zz.out ?_ | fail)); try (all_goals clear zz))
    all_goals first | exact ⟨_, .refl _, rfl⟩ | (exfalso; omega)
  rw [if_neg h8]
  by_cases h0 : l = []
  · subst h0
    rw [if_pos rfl]
    simp only [zy] at a1
    generalize List.map stmA [] = L at *
    (refine vfun (fun _ => .no) Q0h Tryz.func15 (by kernel_rfl) ?_; simp only [Q0f, Tryz.f15, zv])
    (have zz := Bx.mk (j2 ui0 (j9 ui3 ui4 ui9 ui22 ui23 ui24 ui25 ui26 (j9 ui30 ui31 ui35 ui37 ui38 ui39 ui40 ui41 (j9 ui42 ui55 ui56 ui57 ui58 ui59 ui67 ui68 (j9 ui70 ui71 ui75 Q1k Q0v Q1p Q2c Q2d a1))))); (repeat' (first | with_reducible rfl | exact trivial | (with_reducible first | apply And.intro | apply Q0a | apply Q0b | refine Q0c (by decide +kernel) ?_ | intro _) | refine zaY zz.out ?_ | ((first | (with_reducible refine uc (Q9x _ (by assumption) (by assumption) _) ?_) | ((with_reducible refine zR (Q0m _ _ _ _ _ _ _ _ (by repeat (first | exact Q0p | refine Q0k ?_ (by simp))) (by exact Go.V.zO) (by exact Go.V.zN)) ?_); rintro _ S ⟨rfl, τ1, ⟨f1, n1⟩, rfl⟩; have n1s := n1.symm) | (refine Q0d (by exact Go.V.zK) ?_) | (refine Q0e (by exact Go.V.zK) ?_)); (try refine zsY zz.out ?_)) | refine zo ?_ | omega | refine ztY zz.out ?_ | fail)); try (all_goals clear zz))
    all_goals first | exact ⟨_, .refl _, rfl⟩ | (exfalso; omega)
  rw [if_neg h0]
  have hl0 : 0 < l.length := List.length_pos_iff.2 h0
  generalize hL : l.map stmA = L at *
  (refine vfun (fun _ => .no) Q0h Tryz.func15 (by kernel_rfl) ?_; simp only [Q0f, Tryz.f15, zv])
  (have zz := Bx.mk (j2 ui0 (j9 ui3 ui4 ui9 ui22 ui23 ui24 ui25 ui26 (j9 ui30 ui31 ui35 ui37 ui38 ui39 ui40 ui41 (j9 ui42 ui55 ui56 ui57 ui58 ui59 ui67 ui68 (j9 ui70 ui71 ui75 Q1k Q0v Q1p Q2c Q2d a1))))); (repeat' (first | with_reducible rfl | exact trivial | (with_reducible first | apply And.intro | apply Q0a | apply Q0b | refine Q0c (by decide +kernel) ?_ | intro _) | refine zaY zz.out ?_ | ((first | (with_reducible refine uc (Q9x _ (by assumption) (by assumption) _) ?_) | ((with_reducible refine zR (Q0m _ _ _ _ _ _ _ _ (by repeat (first | exact Q0p | refine Q0k ?_ (by simp))) (by exact Go.V.zO) (by exact Go.V.zN)) ?_); rintro _ S ⟨rfl, τ1, ⟨f1, n1⟩, rfl⟩; have n1s := n1.symm) | (refine Q0d (by exact Go.V.zK) ?_) | (refine Q0e (by exact Go.V.zK) ?_)); (try refine zsY zz.out ?_)) | refine zo ?_ | omega | refine ztY zz.out ?_ | fail)); try (all_goals clear zz))
  all_goals try (exfalso; omega)
  rename_i ω hω
  refine VW.loop3 (0 : Nat) (0 : Nat) () (fun k τ _ => k ≤ l.length ∧ (∀ x ∈ l.take k, fitB x = true) ∧ (k ≠ 0 → σ τ = none ∧ τ ≠ ω)) (fun k _ _ => [(2, .s (bs [])), (3, .i 0), (4, .ref ω 0), (17, .sl o L), (18, .i l.length), (19, .i k)]) (fun k τ _ => if k = 0 then σ.set ω (.cells 59 [.sl .nil [], .i 0, .i 0]) else WS σ ω τ (scT (l.take k)) 0 ((scD (l.take k) : Nat) : Int)) (fun k _ _ => l.length - k) ⟨Nat.zero_le _, fun x hx => (by simp at hx), fun h => absurd rfl h⟩ (.refl _) ?_ ?_
  · simp only [vO, vQ, ↓vP, vE, vS, vB, vL, vF, vM, vN, Q0g, Nat.reduceEqDiff, Nat.reduceAdd, Nat.reduceLeDiff, ne_eq, not_false_eq_true, Nat.reduceMul, Nat.reduceSub, Int.toNat_zero, Int.reduceToNat, vT]
    all_goals first | rfl | exact ⟨rfl, rfl⟩
  rintro k τ _ ⟨hk, hfit, hτ⟩
  rcases Nat.lt_or_ge k l.length with hk2 | hk2
  · have hg := a3 k hk2
    have hmem : l[k] ∈ l := List.getElem_mem hk2
    have iF := Q9x l[k] (hX.lim _ hmem).s (hX.sum _ hmem)
    have hbig := hX.big (by omega) _ hmem
    have hlm := hX.lim _ hmem
    have q1 := X0n l[k]
    have q2 := X2a l[k]
    have q3 := Q8i l[k]
    have q4 := Q9u l[k]
    have hpre := Y1c (l := l) (N := 2 ^ 26) k (fun x hx => (hX.big (by omega) x (List.mem_of_mem_take hx) (hfit x hx)).1)
    have hpd : scD (l.take k) ≤ 2 ^ 26 := scD_le (fun x hx => (hX.big (by omega) x (List.mem_of_mem_take hx) (hfit x hx)).2)
    have hst := scT_take hk2
    have hsd : scD (l.take (k + 1)) = max (scD (l.take k)) (stD l[k]) := X7t stD hk2
    have hnx : fitB l[k] = true → ∀ x ∈ l.take (k + 1), fitB x = true := fun hb x hx => by
      rw [List.take_succ_eq_append_getElem hk2] at hx
      rcases List.mem_append.1 hx with hx | hx
      · exact hfit x hx
      · rw [List.mem_singleton.1 hx]; exact hb
    have hall : fitB l[k] = false → l.all fitB = false := fun hb => by
      rw [List.all_eq_false]
      exact ⟨l[k], hmem, by rw [hb]; decide⟩
    cases hb : fitB l[k] with
    | false =>
      rw [hb] at iF
      rw [hall hb]
      generalize stmA l[k] = D at *
      clear hbig hst hsd hnx hall hpre hpd hfit
      by_cases hz : k = 0
      · subst hz
        simp only [↓reduceIte]
        (have zz := Bx.mk (j8 ui0 ui3 ui4 ui9 ui22 ui23 ui24 (j9 ui25 ui26 ui30 ui31 ui35 ui37 ui38 ui39 (j9 ui40 ui41 ui42 ui55 ui56 ui57 ui58 ui59 (j9 ui67 ui68 ui70 ui71 ui75 Q1k Q0v Q1p (j9 Q2c Q2d a1 a2 hg q1 q2 q3 q4))))); (repeat' (first | with_reducible rfl | exact trivial | (with_reducible first | apply And.intro | apply Q0a | apply Q0b | refine Q0c (by decide +kernel) ?_ | intro _) | refine zaY zz.out ?_ | ((first | (with_reducible refine uc (iF _) ?_) | (with_reducible refine uc (Q9x _ (by assumption) (by assumption) _) ?_) | ((with_reducible refine zR (Q0m _ _ _ _ _ _ _ _ (by repeat (first | exact Q0p | refine Q0k ?_ (by simp))) (by exact Go.V.zO) (by exact Go.V.zN)) ?_); rintro _ S ⟨rfl, τ1, ⟨f1, n1⟩, rfl⟩; have n1s := n1.symm) | (refine Q0d (by exact Go.V.zK) ?_) | (refine Q0e (by exact Go.V.zK) ?_)); (try refine zsY zz.out ?_)) | refine zo ?_ | omega | refine ztY zz.out ?_ | fail)); try (all_goals clear zz))
        all_goals first | exact ⟨σ, by (exact Go.V.zu), rfl, rfl⟩ | exact ⟨σ, by (exact Go.V.zu), rfl⟩
      · rw [if_neg hz]
        obtain ⟨f1, n1⟩ := hτ hz
        (have zz := Bx.mk (j8 ui0 ui3 ui4 ui9 ui22 ui23 ui24 (j9 ui25 ui26 ui30 ui31 ui35 ui37 ui38 ui39 (j9 ui40 ui41 ui42 ui55 ui56 ui57 ui58 ui59 (j9 ui67 ui68 ui70 ui71 ui75 Q1k Q0v Q1p (j9 Q2c Q2d a1 a2 hg q1 q2 q3 q4))))); (repeat' (first | with_reducible rfl | exact trivial | (with_reducible first | apply And.intro | apply Q0a | apply Q0b | refine Q0c (by decide +kernel) ?_ | intro _) | refine zaY zz.out ?_ | ((first | (with_reducible refine uc (iF _) ?_) | (with_reducible refine uc (Q9x _ (by assumption) (by assumption) _) ?_) | ((with_reducible refine zR (Q0m _ _ _ _ _ _ _ _ (by repeat (first | exact Q0p | refine Q0k ?_ (by simp))) (by exact Go.V.zO) (by exact Go.V.zN)) ?_); rintro _ S ⟨rfl, τ1, ⟨f1, n1⟩, rfl⟩; have n1s := n1.symm) | (refine Q0d (by exact Go.V.zK) ?_) | (refine Q0e (by exact Go.V.zK) ?_)); (try refine zsY zz.out ?_)) | refine zo ?_ | omega | refine ztY zz.out ?_ | fail)); try (all_goals clear zz))
        all_goals first | exact ⟨σ, by (exact Go.V.zu), rfl, rfl⟩ | exact ⟨σ, by (exact Go.V.zu), rfl⟩
    | true =>
      rw [hb] at iF
      have hnx := hnx hb
      obtain ⟨b1, b2⟩ := hbig hb
      have hW := w_state ω l[k] hb hlm
      clear hall hbig
      generalize stT l[k] = TT at *
      generalize stD l[k] = DD at *
      generalize stmA l[k] = D at *
      by_cases hz : k = 0
      · subst hz
        have e0 : scT (l.take 0) = [] := rfl
        have e1 : scD (l.take 0) = 0 := rfl
        rw [e0, if_pos rfl, List.nil_append, List.nil_append] at hst
        rw [e1] at hsd
        have hS0 : ∀ (S : Sg), S ω = some (.cells 59 [.sl .nil [], .i 0, .i 0]) → VCalls Tryz.prog 30 [.ref ω 0, .agg D] S (fun x σ' => x = .tup [] ∧ ∃ τ', Print.okS S ω τ' ∧ σ' = WS S ω τ' TT 0 (DD : Nat)) := fun S hS => by
          refine VCalls.tok0 (e := 102) 0 4 hS rfl (fun τ hτ hne => ?_)
          have := hW S τ [] 0 0 ⟨hτ, hne⟩ (by omega) (by omega) (by omega) (by omega) (by simp; omega)
          rw [List.nil_append] at this
          refine zR this (fun x σ' hx => ?_)
          obtain ⟨rfl, τ', ok, rfl⟩ := hx
          exact ⟨rfl, τ', ok, Q3j rfl rfl (by omega)⟩
        simp only [↓reduceIte]
        (have zz := Bx.mk (j8 ui0 ui3 ui4 ui9 ui22 ui23 ui24 (j9 ui25 ui26 ui30 ui31 ui35 ui37 ui38 ui39 (j9 ui40 ui41 ui42 ui55 ui56 ui57 ui58 ui59 (j9 ui67 ui68 ui70 ui71 ui75 Q1k Q0v Q1p (j9 Q2c Q2d a1 a2 hg q1 q2 q3 q4))))); (repeat' (first | with_reducible rfl | exact trivial | (with_reducible first | apply And.intro | apply Q0a | apply Q0b | refine Q0c (by decide +kernel) ?_ | intro _) | refine zaY zz.out ?_ | ((first | (with_reducible first | refine Q1h ?_ | refine Q0y (fun β hβ => ?_)) | (with_reducible refine uc (iF _) ?_) | ((with_reducible refine zR (hS0 _ (by exact Go.V.zK)) ?_); rintro _ S ⟨rfl, τ1, hok, rfl⟩) | (with_reducible refine uc (Q9x _ (by assumption) (by assumption) _) ?_) | ((with_reducible refine zR (Q0m _ _ _ _ _ _ _ _ (by repeat (first | exact Q0p | refine Q0k ?_ (by simp))) (by exact Go.V.zO) (by exact Go.V.zN)) ?_); rintro _ S ⟨rfl, τ1, ⟨f1, n1⟩, rfl⟩; have n1s := n1.symm) | (refine Q0d (by exact Go.V.zK) ?_) | (refine Q0e (by exact Go.V.zK) ?_)); (try refine zsY zz.out ?_)) | refine zo ?_ | omega | refine ztY zz.out ?_ | fail)); try (all_goals clear zz))
        all_goals try (exfalso; omega)
        obtain ⟨nb, f2⟩ := Sg.none_set hok.free
        obtain ⟨nw, f3⟩ := Sg.none_set f2
        refine ⟨1, τ1, (), ⟨⟨hk2, hnx, fun _ => ⟨f3, hok.ne⟩⟩, by omega⟩, ?_, rfl⟩
        rw [if_neg (by decide), hst, hsd, Nat.zero_max]
        exact ws_sub0 hβ
      · rw [if_neg hz]
        obtain ⟨f1, n1⟩ := hτ hz
        have n1s := n1.symm
        rw [if_neg hz] at hst
        have hA1 : (scT (l.take k)).length ≤ 2 ^ 30 := by omega
        have hW := fun B => hW B
        generalize hA : scT (l.take k) = A at *
        generalize hM : scD (l.take k) = M at *
        (have zz := Bx.mk (j9 ui0 ui3 ui4 ui9 ui22 ui23 ui24 ui25 (j9 ui26 ui30 ui31 ui35 ui37 ui38 ui39 ui40 (j9 ui41 ui42 ui55 ui56 ui57 ui58 ui59 ui67 (j9 ui68 ui70 ui71 ui75 Q1k Q0v Q1p Q2c (j9 Q2d a1 a2 hg q1 q2 q3 q4 WLg))))); (repeat' (first | with_reducible rfl | exact trivial | (with_reducible first | apply And.intro | apply Q0a | apply Q0b | refine Q0c (by decide +kernel) ?_ | intro _) | refine zaY zz.out ?_ | ((first | (with_reducible first | refine Q1h ?_ | refine Q0y (fun β hβ => ?_)) | (with_reducible refine uc (iF _) ?_) | (rw [wb_set (by assumption) (by assumption)]) | ((with_reducible refine zR (Q0m _ _ _ _ _ _ _ _ (by repeat (first | exact Q0p | refine Q0k ?_ (by simp))) ⟨Sg.set_none (by assumption) (by first | assumption | (apply Ne.symm; assumption)), by assumption⟩ (by exact Go.V.zN)) ?_); rintro _ S ⟨rfl, τ1, ⟨f2, n1⟩, rfl⟩; have n1s := n1.symm; obtain ⟨nb, f1⟩ := Sg.none_set f2; have nbs := nb.symm) | ((with_reducible refine zR (hW _ _ _ _ _ ⟨Sg.set_none (by assumption) (by first | assumption | (apply Ne.symm; assumption)), by assumption⟩ (by omega) (by omega) (by omega) (by omega) (by exact Go.V.zN)) ?_); rintro _ S ⟨rfl, τ1, ⟨f2, n1⟩, rfl⟩; have n1s := n1.symm; obtain ⟨nb, f1⟩ := Sg.none_set f2; have nbs := nb.symm) | (with_reducible refine uc (Q9x _ (by assumption) (by assumption) _) ?_) | ((with_reducible refine zR (Q0m _ _ _ _ _ _ _ _ (by repeat (first | exact Q0p | refine Q0k ?_ (by simp))) (by exact Go.V.zO) (by exact Go.V.zN)) ?_); rintro _ S ⟨rfl, τ1, ⟨f1, n1⟩, rfl⟩; have n1s := n1.symm) | (refine Q0d (by exact Go.V.zK) ?_) | (refine Q0e (by exact Go.V.zK) ?_)); (try refine zsY zz.out ?_)) | refine zo ?_ | omega | refine ztY zz.out ?_ | fail)); try (all_goals clear zz))
        all_goals try (exfalso; omega)
        refine ⟨k + 1, τ1, (), ⟨⟨hk2, hnx, fun _ => ⟨f1, n1⟩⟩, by omega⟩, ?_, rfl⟩
        rw [if_neg (by omega)]
        exact (X9g (Q3j (by rw [hst]; simp) rfl (by rw [hsd]; omega))).trans (wb_sub hβ)
  · have hkl : k = l.length := by omega
    have hz : k ≠ 0 := by omega
    rw [if_neg hz]
    obtain ⟨f1, n1⟩ := hτ hz
    rw [List.take_of_length_le hk2] at hfit ⊢
    rw [if_pos (List.all_eq_true.2 hfit)]
    have hpre := Y1c (l := l) (N := 2 ^ 26) l.length (fun x hx => (hX.big (by omega) x (List.mem_of_mem_take hx) (hfit x (List.mem_of_mem_take hx))).1)
    rw [List.take_length] at hpre
    have hgd : AG (scT l) := sc_good (fun x hx => st_good (hfit x hx) (hX.lim x hx))
    have hE := w_end σ σ ω τ (scT l) 0 (scD l) (by intro y p hy; show (WS _ ω τ _ _ _) y = some p; simp only [WS, Y0z, Sg.set_apply]; grind) hgd (by omega)
    generalize fin (scT l) (scD l) = R at *
    generalize scT l = A at *
    generalize scD l = M at *
    (have zz := Bx.mk (j2 ui0 (j9 ui3 ui4 ui9 ui22 ui23 ui24 ui25 ui26 (j9 ui30 ui31 ui35 ui37 ui38 ui39 ui40 ui41 (j9 ui42 ui55 ui56 ui57 ui58 ui59 ui67 ui68 (j9 ui70 ui71 ui75 Q1k Q0v Q1p Q2c Q2d a1))))); (repeat' (first | with_reducible rfl | exact trivial | (with_reducible first | apply And.intro | apply Q0a | apply Q0b | refine Q0c (by decide +kernel) ?_ | intro _) | refine zaY zz.out ?_ | ((first | (with_reducible refine uc (hE) ?_) | (with_reducible refine uc (Q9x _ (by assumption) (by assumption) _) ?_) | ((with_reducible refine zR (Q0m _ _ _ _ _ _ _ _ (by repeat (first | exact Q0p | refine Q0k ?_ (by simp))) (by exact Go.V.zO) (by exact Go.V.zN)) ?_); rintro _ S ⟨rfl, τ1, ⟨f1, n1⟩, rfl⟩; have n1s := n1.symm) | (refine Q0d (by exact Go.V.zK) ?_) | (refine Q0e (by exact Go.V.zK) ?_)); (try refine zsY zz.out ?_)) | refine zo ?_ | omega | refine ztY zz.out ?_ | fail)); try (all_goals clear zz))
    all_goals exact ⟨_, .refl _, rfl⟩
end Go.Proofs.YtjdapkelojdefaaGreatDoor
namespace Go.Print
open Go.V Go.Lex Go.Parse Go.Proofs.YtjdapkelojdefaaGreatDoor
structure StR (x : Stm) : Prop where
  fit : fitB x = true
  lim : LimX x
  sum : x.items.length + x.on.length + x.gr.length + x.or.length ≤ 9223372036854775807
  all : AllX 20000 x
theorem inS {n : Int} (h : -1000 ≤ n ∧ n ≤ 1000) : inR n := by unfold inR; omega
theorem rm1 : inR (-1) := by unfold inR; omega
theorem rI (n : Nat) (h : n ≤ 10) : inR (n : Int) := by unfold inR; omega
theorem sum0 : 0 + 0 + 0 + 0 ≤ 9223372036854775807 := by decide
theorem lim0 {k : Int} (hk : -1000 ≤ k ∧ k ≤ 1000) (t pk : By) (cols : List Co) (hc : cols.length ≤ 100) : LimX { stm0 with k := k, t := t, cols := cols, pk := pk } :=
  ⟨⟨inS hk, rm1, (by show cols.length ≤ _; omega), Nat.zero_le _, (fun r h => by cases h), Nat.zero_le _, (fun r h => by cases h), Nat.zero_le _, (fun r h => by cases h), ol_nil.lim, ol_nil.lim, ol_nil.lim, ol_nil.lim⟩, fun r h => by cases h⟩
theorem OL.len {l : List Ex} (h : OL l) : ∀ e ∈ l, (toTr e).tk.length ≤ 20000 := fun e he => (h.2 e he).len
theorem Q4a : ∀ e ∈ ([] : List Ex), (toTr e).tk.length ≤ 20000 := fun e h => by cases h
theorem r_create {s : Rd} (h : R0 s) (hc : (Q6i s).2.c = 0) : StR (Q6i s).1 := by
  have oA := ok_crA h.wf
  have oT := Q2m (k := 1) oA.wf (by decide)
  have oB := Q0w [[40]] _ oT.wf
  have oC := Y0n 8 [] (crB s) oB.wf
  have oD := Q0w [[75, 69, 89], [40]] _ oC.wf
  have oP := Q2m (k := 1) oD.wf (by decide)
  have oE := Q0w [[41], [41]] _ oP.wf
  have cP := Q3f oE hc
  have hA : R0 (crA s) := h.ok oA
  have hB : R0 (crB s) := (hA.ok oT).ok oB
  have hC : R0 (crC s).2 := hB.ok oC
  have hD : R0 (crD s) := hC.ok oD
  have cC : (crC s).2.c = 0 := Q3f oD (Q3f oP cP)
  have n1 := Q9o hA (Q3f oB (Q3f oC cC))
  have n2 := Q9o hD cP
  obtain ⟨l, h1, h2, h3, h4⟩ := r_cols 8 [] (crB s) hB cC
  have e1 : (crC s).1 = l := h1
  have hne : 0 < l.length := List.length_pos_iff.2 h2
  have hl : (Q6i s).1 = { stm0 with k := 1, t := ((crA s).tok 1).2.1, cols := l, pk := ((crD s).tok 1).2.1 } := by rw [← e1]; rfl
  rw [hl]
  refine ⟨?_, lim0 (by decide) _ _ _ (by omega), sum0, ⟨fun x h => (by cases h), fun x h => (by cases h), Q4a, Q4a, Q4a, Q4a⟩⟩
  have hcb : X5u l = true := by
    unfold X5u
    simp only [Bool.and_eq_true, decide_eq_true_eq, List.all_eq_true]
    exact ⟨h4, by omega, h3⟩
  simp [fitB, X8j, X0o, X1s, oneB, Q5s, n1, n2, hcb]
theorem r_drop {s : Rd} (h : R0 s) (hc : (X4l s).2.c = 0) : StR (X4l s).1 := by
  have oA := Q0w [[84, 65, 66, 76, 69]] s h.wf
  have n1 := Q9o (h.ok oA) hc
  refine ⟨?_, lim0 (k := 2) (by decide) _ _ [] (by simp), sum0, ⟨fun x h => (by cases h), fun x h => (by cases h), Q4a, Q4a, Q4a, Q4a⟩⟩
  unfold X4l
  simp [fitB, X8j, X0o, X1s, oneB, Q5s, n1]
theorem r_insert {s : Rd} (h : R0 s) (hc : (Q6j s).2.c = 0) : StR (Q6j s).1 := by
  have oA := Q0w [[73, 78, 84, 79]] s h.wf
  have oT := Q2m (k := 1) oA.wf (by decide)
  have oV := Q0w [[86, 65, 76, 85, 69, 83]] _ oT.wf
  have oB := Q8g X1z [44] 16 [] _ oV.wf
  have hA : R0 (inA s) := h.ok oA
  have n1 := Q9o hA (Q3f oV (Q3f oB hc))
  obtain ⟨l, h1, h2, h3, h4⟩ := X9i (P := fun r => rowB r = true ∧ ∀ v ∈ r, inR v.2.1) X1z (fun s hs hc => r_tuple hs hc) [44] 16 [] _ ((hA.ok oT).ok oV) hc
  have e1 : (inB s).1 = l := h1
  have hne : 0 < l.length := List.length_pos_iff.2 h2
  have hl : (Q6j s).1 = { stm0 with k := 3, t := ((inA s).tok 1).2.1, rows := l } := by rw [← e1]; rfl
  have hr : ∀ r ∈ l, r.length ≤ 8 := fun r hr => by
    have := (h4 r hr).1
    unfold rowB at this
    simp only [Bool.and_eq_true, decide_eq_true_eq] at this
    exact this.2.2
  rw [hl]
  refine ⟨?_, ⟨⟨rI 3 (by decide), rm1, Nat.zero_le _, (by show l.length ≤ _; omega), (fun r q => by have := hr r q; omega), Nat.zero_le _, (fun r h => by cases h), Nat.zero_le _, (fun r h => by cases h), ol_nil.lim, ol_nil.lim, ol_nil.lim, ol_nil.lim⟩, fun r q => (h4 r q).2⟩, sum0, ⟨fun x h => (by cases h), fun x h => (by cases h), Q4a, Q4a, Q4a, Q4a⟩⟩
  have hcb : X5v l = true := by
    unfold X5v
    simp only [Bool.and_eq_true, decide_eq_true_eq, List.all_eq_true]
    exact ⟨fun r q => (h4 r q).1, by omega, h3⟩
  simp [fitB, X8j, X0o, X1s, oneB, Q5s, n1, hcb]
theorem r_update {s : Rd} (h : R0 s) (hc : (Q6k s).2.c = 0) : StR (Q6k s).1 := by
  have oT := Q2m (k := 1) h.wf (by decide)
  have oV := Q0w [[83, 69, 84]] _ oT.wf
  have oB := Q8g X3q [44] 8 [] _ oV.wf
  have oW := Q6o [87, 72, 69, 82, 69] _ oB.wf
  have hA : R0 (upA s).2 := ((h.ok oT).ok oV).ok oB
  have cB : (upA s).2.c = 0 := Q3f oW hc
  have n1 := Q9o h (Q3f oV (Q3f oB cB))
  have hw := r_maybe hA hc
  obtain ⟨l, h1, h2, h3, h4⟩ := X9i (P := fun x : Se => isNm x.1 = true ∧ XR x.2) X3q (fun s hs hc => r_set hs hc) [44] 8 [] _ ((h.ok oT).ok oV) cB
  have e1 : (upA s).1 = l := h1
  have hne : 0 < l.length := List.length_pos_iff.2 h2
  have hl : (Q6k s).1 = { stm0 with k := 4, t := (s.tok 1).2.1, sets := l, wh := (Q2r [87, 72, 69, 82, 69] (upA s).2).1 } := by rw [← e1]; rfl
  rw [hl]
  refine ⟨?_, ⟨⟨rI 4 (by decide), rm1, Nat.zero_le _, Nat.zero_le _, (fun r h => by cases h), (by show l.length ≤ _; omega), (fun r q => (h4 r q).2.lim), Nat.zero_le _, (fun r h => by cases h), ol_nil.lim, hw.lim, ol_nil.lim, ol_nil.lim⟩, fun r h => by cases h⟩, sum0, ⟨fun x q => (h4 x q).2.len, fun x h => (by cases h), Q4a, hw.len, Q4a, Q4a⟩⟩
  have hcb : X5w l = true := by
    unfold X5w
    simp only [Bool.and_eq_true, decide_eq_true_eq, List.all_eq_true]
    refine ⟨fun r q => ?_, by omega, h3⟩
    unfold X4w
    rw [(h4 r q).1, (h4 r q).2.rt]; rfl
  simp [fitB, X8j, X0o, X1s, n1, hcb, hw.1]
theorem r_remove {s : Rd} (h : R0 s) (hc : (Q6l s).2.c = 0) : StR (Q6l s).1 := by
  have oA := Q0w [[70, 82, 79, 77]] s h.wf
  have oT := Q2m (k := 1) oA.wf (by decide)
  have oW := Q6o [87, 72, 69, 82, 69] _ oT.wf
  have hA := h.ok oA
  have n1 := Q9o hA (Q3f oW hc)
  have hw := r_maybe (hA.ok oT) hc
  have hl : (Q6l s).1 = { stm0 with k := 5, t := ((s.must [[70, 82, 79, 77]]).tok 1).2.1, wh := (Q2r [87, 72, 69, 82, 69] ((s.must [[70, 82, 79, 77]]).take 1)).1 } := rfl
  rw [hl]
  refine ⟨?_, ⟨⟨rI 5 (by decide), rm1, Nat.zero_le _, Nat.zero_le _, (fun r h => by cases h), Nat.zero_le _, (fun r h => by cases h), Nat.zero_le _, (fun r h => by cases h), ol_nil.lim, hw.lim, ol_nil.lim, ol_nil.lim⟩, fun r h => by cases h⟩, sum0, ⟨fun x h => (by cases h), fun x h => (by cases h), Q4a, hw.len, Q4a, Q4a⟩⟩
  simp [fitB, X8j, X0o, X1s, n1, hw.1]
theorem r_join {s : Rd} (h : R0 s) (hc : (Q9r s).2.2.c = 0) : OL (Q9r s).2.1 ∧ (((Q9r s).1 = [] ∧ (Q9r s).2.1.length = 0) ∨ (isNm (Q9r s).1 = true ∧ (Q9r s).2.1.length = 1)) := by
  unfold Q9r at hc ⊢
  split
  · rename_i q
    rw [if_pos q] at hc
    have o1 := Q2h (ws := [[74, 79, 73, 78]]) h.wf
    have o2 := Q2m (k := 1) o1.wf (by decide)
    have o3 := Q0w [[79, 78]] _ o2.wf
    have o4 := Q5v _ o3.wf
    have hx : R0 (Go.Parse.joinB s) := ((h.ok o1).ok o2).ok o3
    exact ⟨ol_one (r_exp hx hc), .inr ⟨Q9o (h.ok o1) (Q3f o3 (Q3f o4 hc)), rfl⟩⟩
  · exact ⟨ol_nil, .inl ⟨rfl, rfl⟩⟩
theorem r_lim {s : Rd} (h : R0 s) (hc : (limL s).2.c = 0) : inR (limL s).1 ∧ -1 ≤ (limL s).1 := by
  unfold limL at hc ⊢
  split
  · rename_i q
    rw [if_pos q] at hc
    have o1 := Q2h (ws := [[76, 73, 77, 73, 84]]) h.wf
    obtain ⟨a1, a2, a3⟩ := X7g hc
    have hx := h.ok o1
    have := Y0k (hx.gl.hd hx.wf.pos) a1.2
    dsimp only
    rw [a3]
    unfold inR
    omega
  · exact ⟨rm1, Int.le_refl (-1)⟩
theorem r_choose {s : Rd} (h : R0 s) (hc : (Q6m s).2.c = 0) : StR (Q6m s).1 := by
  have oA := Q8g X1o [44] 8 [] s h.wf
  have oB := Q0w [[70, 82, 79, 77]] _ oA.wf
  have oT := Q2m (k := 1) oB.wf (by decide)
  have oC := ok_join oT.wf
  have oD := Q6o [87, 72, 69, 82, 69] _ oC.wf
  have oE := X4m [71, 82, 79, 85, 80] _ oD.wf
  have oF := X4m [79, 82, 68, 69, 82] _ oE.wf
  have oG := X7m (seF s).1 _ oF.wf
  have oH := nice_lim _ oG.wf
  have hA : R0 (seA s).2 := h.ok oA
  have hB : R0 (seB s) := hA.ok oB
  have hT : R0 ((seB s).take 1) := hB.ok oT
  have hC : R0 (seC s).2.2 := hT.ok oC
  have hD : R0 (seD s).2 := hC.ok oD
  have hE : R0 (seE s).2 := hD.ok oE
  have hF : R0 (seF s).2 := hE.ok oF
  have hG : R0 (seG s).2 := hF.ok oG
  have cH : (seH s).2.c = 0 := hc
  have cG : (seG s).2.c = 0 := Q3f oH cH
  have cF : (seF s).2.c = 0 := Q3f oG cG
  have cE : (seE s).2.c = 0 := Q3f oF cF
  have cD : (seD s).2.c = 0 := Q3f oE cE
  have cC : (seC s).2.2.c = 0 := Q3f oD cD
  have cT := Q3f oC cC
  have cA : (seA s).2.c = 0 := Q3f oB (Q3f oT cT)
  have n1 := Q9o hB cT
  obtain ⟨l, h1, h2, h3, h4⟩ := X9i (P := fun x : It => Q4o x = true ∧ ∀ e ∈ x.2, XR e) X1o (fun s hs hc => r_item hs hc) [44] 8 [] _ h cA
  have e1 : (seA s).1 = l := h1
  have hne : 0 < l.length := List.length_pos_iff.2 h2
  obtain ⟨j1, j2⟩ := r_join hT cC
  have hw := r_maybe hC cD
  obtain ⟨g1, g2⟩ := r_by hD cE
  obtain ⟨f1, f2⟩ := r_by hE cF
  obtain ⟨m1, m2⟩ := r_lim hG cH
  have hds : (seF s).1.length = 1 ∨ (seG s).1 = false := by
    have hle := (Q5x f1.1).1
    unfold seG descL
    by_cases ho : (seF s).1 = []
    · rw [if_pos ho]; exact .inr rfl
    · left
      have : 0 < (seF s).1.length := List.length_pos_iff.2 ho
      have hle : (seF s).1.length ≤ 1 := hle
      omega
  have j1 : OL (seC s).2.1 := j1
  have j2 : ((seC s).1 = [] ∧ (seC s).2.1.length = 0) ∨ (isNm (seC s).1 = true ∧ (seC s).2.1.length = 1) := j2
  have hw : OL (seD s).1 := hw
  have g1 : OL (seE s).1 := g1
  have g2 : colB (seE s).1 = true := g2
  have f1 : OL (seF s).1 := f1
  have f2 : colB (seF s).1 = true := f2
  have m1 : inR (seH s).1 := m1
  have m2 : -1 ≤ (seH s).1 := m2
  have hl : (Q6m s).1 = { stm0 with k := 6, t := ((seB s).tok 1).2.1, items := l, join := (seC s).1, on := (seC s).2.1, wh := (seD s).1, gr := (seE s).1, or := (seF s).1, desc := (seG s).1, lim := (seH s).1 } := by rw [← e1]; rfl
  rw [hl]
  generalize (seC s).1 = jn at *
  generalize (seC s).2.1 = on at *
  generalize (seD s).1 = wh at *
  generalize (seE s).1 = gr at *
  generalize (seF s).1 = or at *
  generalize (seG s).1 = desc at *
  generalize (seH s).1 = lim at *
  generalize ((seB s).tok 1).2.1 = t at *
  have l1 := (Q5x j1.1).1
  have l2 := (Q5x g1.1).1
  have l3 := (Q5x f1.1).1
  have hit : ∀ y ∈ l, LimL y.2 := fun y hy => by
    have hi := (h4 y hy).1
    unfold Q4o at hi
    simp only [Bool.and_eq_true, decide_eq_true_eq] at hi
    refine ⟨?_, fun e he => ((h4 y hy).2 e he).lim⟩
    rw [hi.2.1]
    split <;> omega
  refine ⟨?_, ⟨⟨rI 6 (by decide), m1, Nat.zero_le _, Nat.zero_le _, (fun r h => by cases h), Nat.zero_le _, (fun r h => by cases h), (by show l.length ≤ _; omega), hit, j1.lim, hw.lim, g1.lim, f1.lim⟩, fun r h => by cases h⟩, (by show l.length + on.length + gr.length + or.length ≤ _; omega), ⟨fun x h => (by cases h), fun y hy e he => ((h4 y hy).2 e he).len, j1.len, hw.len, g1.len, f1.len⟩⟩
  have hib : X0s l = true := by
    unfold X0s
    simp only [Bool.and_eq_true, decide_eq_true_eq, List.all_eq_true]
    exact ⟨fun r q => (h4 r q).1, by omega, h3⟩
  have hj : ((decide (jn = []) && decide (on.length = 0)) || (isNm jn && decide (on.length = 1))) = true := by
    simp only [Bool.or_eq_true, Bool.and_eq_true, decide_eq_true_eq]; exact j2
  have hd : (decide (or.length = 1) || !desc) = true := by
    simp only [Bool.or_eq_true, decide_eq_true_eq, Bool.not_eq_true']; exact hds
  have hsel : selB { stm0 with k := 6, t := t, items := l, join := jn, on := on, wh := wh, gr := gr, or := or, desc := desc, lim := lim } = true := by
    unfold selB joinB
    dsimp only
    rw [hj, hib, j1.1, g2, f2, hd]
    simp only [Bool.true_and]
    exact decide_eq_true m2
  unfold fitB
  rw [hsel]
  simp [X8j, X0o, n1, hw.1]
theorem r_state {s : Rd} (h : R0 s) (hc : (Q1e s).2.c = 0) : StR (Q1e s).1 := by
  have o := Q2h (ws := wKinds) h.wf
  have h2 := h.ok o
  have hlt := Y0c s wKinds
  have hl : wKinds.length = 6 := rfl
  unfold Q1e at hc ⊢
  have hk : s.is wKinds = -1 ∨ s.is wKinds = 0 ∨ s.is wKinds = 1 ∨ s.is wKinds = 2 ∨ s.is wKinds = 3 ∨ s.is wKinds = 4 ∨ s.is wKinds = 5 := by omega
  rcases hk with hk | hk | hk | hk | hk | hk | hk <;> rw [hk] at hc ⊢
  · exact absurd hc (fail_c (by decide))
  · exact r_create h2 hc
  · exact r_drop h2 hc
  · exact r_insert h2 hc
  · exact r_update h2 hc
  · exact r_remove h2 hc
  · exact r_choose h2 hc
theorem X5q {b : By} (h : (Q0r b).2.1 = 0) : (Q0r b).1 ≠ [] ∧ (Q0r b).1.length ≤ 8 ∧ ∀ x ∈ (Q0r b).1, StR x := by
  unfold Q0r at h ⊢
  cases hl : Q6c b with
  | error e =>
    obtain ⟨e, a⟩ := e
    rw [hl] at h
    have := X7i hl
    simp only at h
    omega
  | ok l =>
    rw [hl] at h
    obtain ⟨h1, h2, h3⟩ := lex_good hl
    simp only at h ⊢
    unfold Q9k at h ⊢
    split at h
    · rename_i hc
      have hc1 := (fin_c hc).1
      obtain ⟨m, q1, q2, q3, q4⟩ := X9i (P := StR) Q9s (fun s hs hc => r_state hs hc) [59] 8 [] (rd0 l) ⟨h2, h3, rfl, h1⟩ hc1
      rw [if_pos hc]
      have e : (Q4y l).1 = m := q1
      rw [e]
      exact ⟨q2, q3, q4⟩
    · rename_i hc
      exact absurd h hc
end Go.Print
namespace Go.Proofs.YtjdapkelojdefaaGreatDoor
open Go Go.V Go.Lex Go.Parse Go.Print
abbrev TW : TypeId := 64
def dropA : List AV := [.i 2, .s (bs [116]), .sl .nil [], .s (bs []), .sl .nil [], .sl .nil [], .sl .nil [], .s (bs []), .sl .nil [], .sl .nil [], .sl .nil [], .sl .nil [], .b false, .i (-1)]
def X5r : List Tk := [wT [68, 82, 79, 80], wT [84, 65, 66, 76, 69], nT [116]]
theorem z_one0 (o : Own) (σ : Sg) : VCalls Tryz.prog 58 [.sl o []] σ (fun x σ' => x = .b true ∧ σ' = σ) := by
  have hc := X4y [] 44 (fun e => !rt e) o (by simp) (fun e he => by cases he)
  rw [Q0s] at hc
  simp only [List.any_nil] at hc
  (refine vfun (fun _ => .no) Q0h Tryz.func58 (by kernel_rfl) ?_; simp only [Q0f, Tryz.f58, zv])
  (have zz := Bx.mk (j9 ui3 ui4 ui9 ui22 ui23 ui24 ui25 ui26 ui34); (repeat' (first | with_reducible rfl | exact trivial | (with_reducible first | apply And.intro | apply Q0a | apply Q0b | refine Q0c (by decide +kernel) ?_ | intro _) | refine zaY zz.out ?_ | ((first | (with_reducible refine uc (hc _) ?_) | (refine Q0d (by exact Go.V.zK) ?_) | (refine Q0e (by exact Go.V.zK) ?_)); (try refine zsY zz.out ?_)) | refine zo ?_ | omega | refine ztY zz.out ?_ | fail)); try (all_goals clear zz))
  all_goals exact ⟨_, .refl _, rfl⟩
theorem z_fits (σ : Sg) : VCalls Tryz.prog 28 [.agg dropA] σ (fun x σ' => x = .b true ∧ σ' = σ) := by
  have h1 := z_one0 .nil
  have hN : ∀ σ, VCalls Tryz.prog 42 [.s (bs [116])] σ (fun x σ' => x = .b true ∧ σ' = σ) := fun σ => Q2s [116] σ
  unfold dropA
  (refine vfun (fun _ => .ro) Q0h Tryz.func28 (by kernel_rfl) ?_; simp only [Q0f, Tryz.f28, zv])
  (have zz := Bx.mk (j6 ui0 ui3 ui4 ui9 ui22 (j9 ui23 ui24 ui25 ui26 ui37 ui38 ui39 ui40 (j9 ui41 ui42 ui67 ui68 ui70 ui71 Q1p Q2c Q2d))); (repeat' (first | with_reducible rfl | exact trivial | (with_reducible first | apply And.intro | apply Q0a | apply Q0b | refine Q0c (by decide +kernel) ?_ | intro _) | refine zaY zz.out ?_ | ((first | (with_reducible refine uc (h1 _) ?_) | (with_reducible refine uc (hN _) ?_) | (with_reducible refine uc (Q2s _ _) ?_) | (with_reducible refine uc (Q8k _ (by assumption) _) ?_) | (with_reducible refine uc (Q3p _ (by assumption) _) ?_) | (with_reducible refine uc (Q9w _ (by assumption) (by assumption) _) ?_) | (with_reducible refine uc (Q9v _ (by assumption) (by assumption) _) ?_) | (with_reducible refine uc (Q3q _ (by assumption) _) ?_) | (refine Q0d (by exact Go.V.zK) ?_) | (refine Q0e (by exact Go.V.zK) ?_)); (try refine zsY zz.out ?_)) | refine zo ?_ | omega | refine ztY zz.out ?_ | fail)); try (all_goals clear zz))
  all_goals exact ⟨_, .refl _, rfl⟩
theorem z_state (B : Sg) (ω τ : Nat) (hok : okS B ω τ) : VCalls Tryz.prog 30 [.ref ω 0, .agg dropA] (WS B ω τ [] 0 0) (fun x σ' => x = .tup [] ∧ ∃ τ', okS B ω τ' ∧ σ' = WS B ω τ' X5r 0 0) := by
  unfold dropA
  (refine vfun (fun _ => .ro) Q0h Tryz.func30 (by kernel_rfl) ?_; simp only [Q0f, Tryz.f30, zv])
  (have zz := Bx.mk (j5 ui0 ui3 ui4 ui9 (j9 ui22 ui23 ui24 ui25 ui26 ui37 ui38 ui39 (j9 ui40 ui41 ui42 ui55 ui56 ui57 ui58 ui59 (j9 ui67 ui68 ui70 ui71 ui75 Q1k Q0v Q1p (j9 Q2c Q2d @allOne_app @allLen_app @allOne_cons @allLen_cons @allOne_nil @allLen_nil WLg))))); (repeat' (first | with_reducible rfl | exact trivial | (with_reducible first | apply And.intro | apply Q0a | apply Q0b | refine Q0c (by decide +kernel) ?_ | intro _) | ((with_reducible refine .dms (fun x => False) [(0, false), (1, false), (2, false), (3, true), (4, false), (5, true)] (by decide) (by decide +kernel) ?_); (refine zsR zz.out ?_)) | ((with_reducible refine .dm (fun x => False) [(0, false), (1, false), (2, false), (3, true), (4, false), (5, true)] (by decide) (by decide +kernel) ?_); (refine zsR zz.out ?_)) | ((with_reducible refine .dms (fun x => False) [(0, false), (1, false), (2, false), (3, true), (4, false), (5, true)] (by decide) (by decide +kernel) ?_); (refine zsR zz.out ?_)) | ((with_reducible refine .dm (fun x => False) [(0, false), (1, false), (2, false), (3, true), (4, false), (5, true)] (by decide) (by decide +kernel) ?_); (refine zsR zz.out ?_)) | refine zaR zz.out ?_ | refine zkN zz.out ?_ | ((first | (refine Q0j (by intro β h; first | (rcases h with h | h <;> subst h <;> (simp (disch := first | assumption | (apply Go.Cert.ne_of2; assumption; assumption) | (apply Go.Cert.ne_ob; assumption; assumption; (intro e; cases e; done)) | omega) only [Sg.set_same, Sg.set_ne, Sg.set_ne', Sg.del_ne, Sg.del_ne'])) | (subst h; (simp (disch := first | assumption | (apply Go.Cert.ne_of2; assumption; assumption) | (apply Go.Cert.ne_ob; assumption; assumption; (intro e; cases e; done)) | omega) only [Sg.set_same, Sg.set_ne, Sg.set_ne', Sg.del_ne, Sg.del_ne']))) ?_) | ((with_reducible refine zR (Q0m _ _ _ _ _ _ _ _ (by repeat (first | exact Q0p | refine Q0k ?_ (by simp))) (by exact Go.V.zO) (by exact Go.V.zN)) ?_); rintro _ S ⟨rfl, τ1, ⟨f1, n1⟩, rfl⟩; have n1s := n1.symm) | ((with_reducible refine zR (Q3v _ _ _ _ _ _ _ (by exact Go.V.zO) (by exact Go.V.zN)) ?_); rintro _ S ⟨rfl, τ1, ⟨f1, n1⟩, rfl⟩; have n1s := n1.symm) | ((with_reducible refine zR (Q0m _ _ _ _ _ _ _ _ (by repeat (first | exact Q0p | refine Q0k ?_ (by simp))) (by exact Go.V.zO) (by exact Go.V.zN)) ?_); rintro _ S ⟨rfl, τ1, ⟨f1, n1⟩, rfl⟩; have n1s := n1.symm) | ((with_reducible refine zR (Q3v _ _ _ _ _ _ _ (by exact Go.V.zO) (by exact Go.V.zN)) ?_); rintro _ S ⟨rfl, τ1, ⟨f1, n1⟩, rfl⟩; have n1s := n1.symm) | (refine Q0d (by exact Go.V.zK) ?_) | (refine Q0e (by exact Go.V.zK) ?_)); (try refine zsR zz.out ?_)) | refine zmR zz.out ?_ | refine zo ?_ | omega | refine ztR zz.out ?_ | fail)); try (all_goals clear zz))
  exact ⟨_, .refl _, _, ⟨by assumption, by assumption⟩, rfl⟩
theorem drop_good : ∀ x ∈ X5r, GoodT x := by
  intro x hx
  simp only [X5r, List.mem_cons, List.not_mem_nil, or_false] at hx
  rcases hx with rfl | rfl | rfl
  · exact .inr (.inl ⟨rfl, by decide, rfl⟩)
  · exact .inr (.inl ⟨rfl, by decide, rfl⟩)
  · exact .inl ⟨rfl, by decide, rfl⟩
theorem drop_fin : fin X5r 0 = ([68, 82, 79, 80, 32, 84, 65, 66, 76, 69, 32, 116], 0) := by decide +kernel
theorem z_script (σ : Sg) : VCalls Tryz.prog 15 [.sl .full [dropA]] σ (fun x σ' => x = .tup [.s (bs [68, 82, 79, 80, 32, 84, 65, 66, 76, 69, 32, 116]), .i 0] ∧ σ' = σ) := by
  have hf := z_fits
  have hl : dropA.length = 14 := rfl
  have hone : dropA.all AV.one = true := rfl
  have ht : dropA.take 14 = dropA := rfl
  have hst : ∀ (S : Sg) (ω : Nat), S ω = some (.cells 59 [.sl .nil [], .i 0, .i 0]) → VCalls Tryz.prog 30 [.ref ω 0, .agg dropA] S (fun x σ' => x = .tup [] ∧ ∃ τ', okS S ω τ' ∧ σ' = WS S ω τ' X5r 0 0) := fun S ω hS => by
    refine VCalls.tok0 (e := 102) 0 4 hS rfl (fun τ hτ hne => ?_)
    exact z_state S ω τ ⟨hτ, hne⟩
  generalize dropA = D at *
  (refine vfun (fun _ => .no) Q0h Tryz.func15 (by kernel_rfl) ?_; simp only [Q0f, Tryz.f15, zv])
  (have zz := Bx.mk (j4 ui0 ui3 ui4 (j9 ui9 ui22 ui23 ui24 ui25 ui26 ui30 ui31 (j9 ui35 ui37 ui38 ui39 ui40 ui41 ui42 ui55 (j9 ui56 ui57 ui58 ui59 ui67 ui68 ui70 ui71 (j9 ui75 Q1k Q0v Q1p Q2c Q2d hl hone ht))))); (repeat' (first | with_reducible rfl | exact trivial | (with_reducible first | apply And.intro | apply Q0a | apply Q0b | refine Q0c (by decide +kernel) ?_ | intro _) | refine zaY zz.out ?_ | ((first | (with_reducible refine uc (Q9x _ (by assumption) (by assumption) _) ?_) | ((with_reducible refine zR (Q0m _ _ _ _ _ _ _ _ (by repeat (first | exact Q0p | refine Q0k ?_ (by simp))) (by exact Go.V.zO) (by exact Go.V.zN)) ?_); rintro _ S ⟨rfl, τ1, ⟨f1, n1⟩, rfl⟩; have n1s := n1.symm) | (refine Q0d (by exact Go.V.zK) ?_) | (refine Q0e (by exact Go.V.zK) ?_)); (try refine zsY zz.out ?_)) | refine zo ?_ | omega | refine ztY zz.out ?_ | fail)); try (all_goals clear zz))
  rename_i ω hω
  refine VW.loop3 (0 : Nat) (0 : Nat) () (fun k τ _ => (k = 0 ∨ k = 1) ∧ (k = 1 → okS (σ.set ω (.cells 59 [.sl .nil [], .i 0, .i 0])) ω τ)) (fun k _ _ => [(2, .s (bs [])), (3, .i 0), (4, .ref ω 0), (17, .sl .full [D]), (18, .i 1), (19, .i k)]) (fun k τ _ => if k = 0 then σ.set ω (.cells 59 [.sl .nil [], .i 0, .i 0]) else WS (σ.set ω (.cells 59 [.sl .nil [], .i 0, .i 0])) ω τ X5r 0 0) (fun k _ _ => 1 - k) ⟨.inl rfl, fun h => by cases h⟩ (.refl _) ?_ ?_
  · simp only [vO, vQ, ↓vP, vE, vS, vB, vL, vF, vM, vN, Q0g, Nat.reduceEqDiff, Nat.reduceAdd, Nat.reduceLeDiff, ne_eq, not_false_eq_true, Nat.reduceMul, Nat.reduceSub, Int.toNat_zero, Int.reduceToNat, vT]
    all_goals first | rfl | exact ⟨rfl, rfl⟩
  rintro k τ _ ⟨hk, hτ⟩
  rcases hk with rfl | rfl
  · simp only [↓reduceIte]
    (have zz := Bx.mk (j4 ui0 ui3 ui4 (j9 ui9 ui22 ui23 ui24 ui25 ui26 ui30 ui31 (j9 ui35 ui37 ui38 ui39 ui40 ui41 ui42 ui55 (j9 ui56 ui57 ui58 ui59 ui67 ui68 ui70 ui71 (j9 ui75 Q1k Q0v Q1p Q2c Q2d hl hone ht))))); (repeat' (first | with_reducible rfl | exact trivial | (with_reducible first | apply And.intro | apply Q0a | apply Q0b | refine Q0c (by decide +kernel) ?_ | intro _) | refine zaY zz.out ?_ | ((first | (with_reducible refine uc (hf _) ?_) | ((with_reducible refine zR (hst _ _ (by exact Go.V.zK)) ?_); rintro _ S ⟨rfl, τ1, hok, rfl⟩) | (with_reducible refine uc (Q9x _ (by assumption) (by assumption) _) ?_) | ((with_reducible refine zR (Q0m _ _ _ _ _ _ _ _ (by repeat (first | exact Q0p | refine Q0k ?_ (by simp))) (by exact Go.V.zO) (by exact Go.V.zN)) ?_); rintro _ S ⟨rfl, τ1, ⟨f1, n1⟩, rfl⟩; have n1s := n1.symm) | (refine Q0d (by exact Go.V.zK) ?_) | (refine Q0e (by exact Go.V.zK) ?_)); (try refine zsY zz.out ?_)) | refine zo ?_ | omega | refine ztY zz.out ?_ | fail)); try (all_goals clear zz))
    rename_i x hx hne _
    have f1 := (Sg.none_set hok.free).2
    refine ⟨1, τ1, (), ⟨⟨.inr rfl, fun _ => ⟨f1, hok.ne⟩⟩, by decide⟩, ?_, rfl⟩
    rw [if_neg (by decide)]
    have f2 := (Sg.none_set hok.free).1
    have f3 := (Sg.none_set f1).2
    intro y p hy
    simp only [WS, Y0z, Sg.set_apply] at hy ⊢
    grind
  · have hτ := hτ rfl
    simp only [show ¬ ((1 : Nat) = 0) from by decide, ↓reduceIte]
    (have zz := Bx.mk (j4 ui0 ui3 ui4 (j9 ui9 ui22 ui23 ui24 ui25 ui26 ui30 ui31 (j9 ui35 ui37 ui38 ui39 ui40 ui41 ui42 ui55 (j9 ui56 ui57 ui58 ui59 ui67 ui68 ui70 ui71 (j9 ui75 Q1k Q0v Q1p Q2c Q2d hl hone ht))))); (repeat' (first | with_reducible rfl | exact trivial | (with_reducible first | apply And.intro | apply Q0a | apply Q0b | refine Q0c (by decide +kernel) ?_ | intro _) | refine zaY zz.out ?_ | ((first | (with_reducible refine uc (Q9x _ (by assumption) (by assumption) _) ?_) | ((with_reducible refine zR (Q0m _ _ _ _ _ _ _ _ (by repeat (first | exact Q0p | refine Q0k ?_ (by simp))) (by exact Go.V.zO) (by exact Go.V.zN)) ?_); rintro _ S ⟨rfl, τ1, ⟨f1, n1⟩, rfl⟩; have n1s := n1.symm) | (refine Q0d (by exact Go.V.zK) ?_) | (refine Q0e (by exact Go.V.zK) ?_)); (try refine zsY zz.out ?_)) | refine zo ?_ | omega | refine ztY zz.out ?_ | fail)); try (all_goals clear zz))
    have f1 := (Sg.none_set hτ.free).2
    have n1 := hτ.ne
    refine zR (w_end _ σ ω τ X5r 0 0 ?_ drop_good (by decide)) ?_
    · intro y p hy
      show (WS _ ω τ X5r 0 0) y = some p
      simp only [WS, Y0z, Sg.set_apply]
      grind
    rw [drop_fin]
    rintro _ S2 ⟨rfl, rfl⟩
    simp only [vO, vQ, ↓vP, vE, vS, vB, vL, vF, vM, vN, Q0g, Nat.reduceEqDiff, Nat.reduceAdd, Nat.reduceLeDiff, ne_eq, not_false_eq_true, Nat.reduceMul, Nat.reduceSub, Int.toNat_zero, Int.reduceToNat, vT]
    (have zz := Bx.mk (j9 ui0 ui3 ui4 ui9 ui22 ui23 ui24 ui25 (j9 ui26 ui30 ui31 ui35 ui37 ui38 ui39 ui40 (j9 ui41 ui42 ui55 ui56 ui57 ui58 ui59 ui67 (j9 ui68 ui70 ui71 ui75 Q1k Q0v Q1p Q2c Q2d)))); (repeat' (first | with_reducible rfl | exact trivial | (with_reducible first | apply And.intro | apply Q0a | apply Q0b | refine Q0c (by decide +kernel) ?_ | intro _) | refine zaY zz.out ?_ | ((first | (with_reducible refine uc (Q9x _ (by assumption) (by assumption) _) ?_) | ((with_reducible refine zR (Q0m _ _ _ _ _ _ _ _ (by repeat (first | exact Q0p | refine Q0k ?_ (by simp))) (by exact Go.V.zO) (by exact Go.V.zN)) ?_); rintro _ S ⟨rfl, τ1, ⟨f1, n1⟩, rfl⟩; have n1s := n1.symm) | (refine Q0d (by exact Go.V.zK) ?_) | (refine Q0e (by exact Go.V.zK) ?_)); (try refine zsY zz.out ?_)) | refine zo ?_ | omega | refine ztY zz.out ?_ | fail)); try (all_goals clear zz))
    all_goals exact ⟨_, .refl _, rfl⟩
end Go.Proofs.YtjdapkelojdefaaGreatDoor
namespace Go.V
theorem AVw.els {es es' : List (List AV)} (hl : es.length = es'.length) (h : ∀ (i : Nat) (e e' : List AV), es[i]? = some e → es'[i]? = some e' → e.length = e'.length ∧ ∀ (j : Nat) (x x' : AV), e[j]? = some x → e'[j]? = some x' → AVw x x') : AVw (.sl .any es) (.sl .any es') := fun κ v hr => by
  have hget : ∀ (i : Nat) (e' : List AV), es'[i]? = some e' → ∃ e, es[i]? = some e := fun i e' h' => by
    have hi : i < es.length := by rw [hl]; exact (List.getElem?_eq_some_iff.1 h').1
    exact ⟨_, List.getElem?_eq_getElem hi⟩
  cases hr with
  | slnil _ hk =>
    obtain rfl : es' = [] := List.eq_nil_of_length_eq_zero hl.symm
    exact .slnil _ hk
  | slemp _ hk a c =>
    obtain rfl : es' = [] := List.eq_nil_of_length_eq_zero hl.symm
    exact .slemp _ hk a c
  | sl _ _ a n c sz f hk hn hc hs hz hrd hx =>
    refine .sl _ es' a n c sz f hk (by omega) hc hs (fun i e' h' => ?_) hrd (fun i j e' x' h1 h2 => ?_)
    · obtain ⟨e, he⟩ := hget i e' h'
      rw [← (h i e e' he h').1]; exact hz i e he
    · obtain ⟨e, he⟩ := hget i e' h1
      obtain ⟨q1, q2⟩ := h i e e' he h1
      have hj : j < e.length := by rw [q1]; exact (List.getElem?_eq_some_iff.1 h2).1
      exact q2 j _ x' (List.getElem?_eq_getElem hj) h2 κ _ (hx i j e _ he (List.getElem?_eq_getElem hj))
end Go.V
namespace Go.Proofs.YtjdapkelojdefaaGreatDoor
open Go Go.V Go.Lex Go.Parse Go.Print
abbrev five : Ex := .mk 1 0 [] [] (1, 5, []) []
abbrev X7w : Ex := .mk 5 0 [] [] (0, 0, []) [five]
theorem AVw.one (o : Own) (e : Ex) (k op : Int) (t n : By) (v : Vl) (q : Own) : AVw (.agg [.i k, .i op, .s (bs t), .s (bs n), .i v.1, .i v.2.1, .s (bs v.2.2), .sl o [exK q e]]) (.agg (exA (.mk k op t n v [e]))) := by
  rw [Q6v, Q2n, Q0s]
  refine AVw.agg rfl (fun i x x' h1 h2 => ?_)
  match i, h1, h2 with
  | 0, h1, h2 | 1, h1, h2 | 2, h1, h2 | 3, h1, h2 | 4, h1, h2 | 5, h1, h2 | 6, h1, h2 => cases h1; cases h2; exact AVw.refl _
  | 7, h1, h2 =>
    cases h1; cases h2
    have hh : AVw (.sl .any [exK q e]) (.sl .any [exA e]) := by
      refine AVw.els rfl (fun i a a' h1 h2 => ?_)
      match i, h1, h2 with
      | 0, h1, h2 =>
        cases h1; cases h2
        cases e with
        | mk k2 op2 t2 n2 v2 l2 =>
        rw [Q6v, Q3n]
        refine ⟨rfl, fun j y y' g1 g2 => ?_⟩
        match j, g1, g2 with
        | 0, g1, g2 | 1, g1, g2 | 2, g1, g2 | 3, g1, g2 | 4, g1, g2 | 5, g1, g2 | 6, g1, g2 => cases g1; cases g2; exact AVw.refl _
        | 7, g1, g2 => cases g1; cases g2; exact AVw.any _ _
    exact fun κ v hr => hh κ v (AVw.any _ _ κ v hr)
theorem five_lim : Lim X7w := by
  have r0 : inR 0 := by unfold inR; omega
  refine .mk _ _ _ _ _ _ (by simp) ⟨by unfold inR; omega, r0, r0, r0⟩ (fun e he => ?_)
  simp at he
  subst he
  exact .mk _ _ _ _ _ _ (by simp) ⟨by unfold inR; omega, r0, by unfold inR; simp, by unfold inR; simp⟩ (fun e he => by cases he)
theorem five_txt : rt X7w = true ∧ (toTr X7w).tk.length ≤ 2 ^ 30 ∧ exprR X7w = ([45, 32, 40, 32, 53, 32, 41], 0) := by decide +kernel
theorem Y1e (σ : Sg) : VCalls Tryz.prog 8 [] σ (fun x σ' => x = .b true ∧ σ' = σ) := by
  obtain ⟨_, q2, q3⟩ := five_txt
  have hE : ∀ σ, VCalls Tryz.prog 11 [.agg [.i 5, .i 0, .s (bs []), .s (bs []), .i 0, .i 0, .s (bs []), .sl .full [[.i 1, .i 0, .s (bs []), .s (bs []), .i 1, .i 5, .s (bs []), .sl .nil []]]]] σ (fun x σ' => x = .tup [.s (bs [45, 32, 40, 32, 53, 32, 41]), .i 0] ∧ σ' = σ) := fun σ => by
    have h := w_Expr X7w five_lim (fun _ => q2) σ
    rw [q3] at h
    exact VCalls.arg1 (AVw.one .full five 5 0 [] [] (0, 0, []) .nil) h
  have hS := z_script
  unfold dropA at hS
  (refine vfun (fun _ => .no) Q0h Tryz.func8 (by kernel_rfl) ?_; simp only [Q0f, Tryz.f8, zv])
  (have zz := Bx.mk (j9 ui0 ui3 ui4 ui9 ui22 ui23 ui24 ui25 (j9 ui26 ui30 ui31 ui35 ui37 ui38 ui39 ui40 (j9 ui41 ui42 ui67 ui68 ui70 ui71 Q1p Q2c Q2d))); (repeat' (first | with_reducible rfl | exact trivial | (with_reducible first | apply And.intro | apply Q0a | apply Q0b | refine Q0c (by decide +kernel) ?_ | intro _) | refine zaY zz.out ?_ | ((first | (with_reducible refine uc (hE _) ?_) | (with_reducible refine uc (hS _) ?_) | (with_reducible refine uc (w_Expr _ (by assumption) (by assumption) _) ?_) | (refine Q0d (by exact Go.V.zK) ?_) | (refine Q0e (by exact Go.V.zK) ?_)); (try refine zsY zz.out ?_)) | refine zo ?_ | omega | refine ztY zz.out ?_ | fail)); try (all_goals clear zz))
  all_goals (exact Go.V.zE)
theorem scx_read {b : By} (h : (Q0r b).2.1 = 0) : ScX (Q0r b).1 := by
  obtain ⟨h1, h2, h3⟩ := X5q h
  refine ⟨by omega, fun x hx => (h3 x hx).lim, fun x hx => (h3 x hx).sum, fun _ x hx hf => ?_⟩
  obtain ⟨a, b⟩ := st_len hf (h3 x hx).all
  exact ⟨by omega, by omega⟩
theorem fin_cases (t : List Tk) (d : Nat) : (fin t d).2 = 10 ∨ (fin t d).2 = 2 ∨ (fin t d = (Q6u t, 0) ∧ d ≤ 10 ∧ (Q6u t).length ≤ 2000) := by
  unfold fin
  split
  · exact .inl rfl
  · split
    · exact .inr (.inl rfl)
    · exact .inr (.inr ⟨rfl, by omega, by omega⟩)
theorem stD_le {l : List Stm} {x : Stm} (h : x ∈ l) : stD x ≤ scD l := X6g (f := stD) h
theorem law_reads (b : By) (σ : Sg) : VCalls Tryz.prog 6 [.s (bs b)] σ (fun x σ' => x = .b true ∧ σ' = σ) := by
  have k1 := fun S => c8 b S
  by_cases hc : (Q0r b).2.1 = 0
  · obtain ⟨h1, h2, h3⟩ := X5q hc
    have k2 := fun S => w_Script (Q0r b).1 (scx_read hc) .any S
    obtain ⟨m1, m2⟩ := sm_script b
    have m3 := q_all (Q0r b).1 m1 m2
    have hP : X7s (Q0r b).1 = fin (scT (Q0r b).1) (scD (Q0r b).1) := by
      unfold X7s
      rw [if_neg (by omega), if_neg h1, if_pos (List.all_eq_true.2 (fun x hx => (h3 x hx).fit))]
    rw [hc] at k1
    rw [hP] at k2
    rcases fin_cases (scT (Q0r b).1) (scD (Q0r b).1) with h10 | h2' | ⟨h0, hd, hl⟩
    · rw [h10] at k2
      clear m1 m2 m3 hP h1 h2 h3 h10
      generalize (fin (scT (Q0r b).1) (scD (Q0r b).1)).1 = tx at *
      generalize (Q0r b).1.map stmA = A at *
      generalize (Q0r b).2.2 = a1 at *
      (refine vfun (fun _ => .no) Q0h Tryz.func6 (by kernel_rfl) ?_; simp only [Q0f, Tryz.f6, zv])
      (have zz := Bx.mk (j4 ui0 ui3 ui4 (j9 ui9 ui22 ui23 ui24 ui25 ui26 ui30 ui31 (j9 ui35 ui37 ui38 ui39 ui40 ui41 ui42 ui46 (j9 ui47 ui51 ui67 ui68 ui70 ui71 Q1p Q2c Q2d)))); (repeat' (first | with_reducible rfl | exact trivial | (with_reducible first | apply And.intro | apply Q0a | apply Q0b | refine Q0c (by decide +kernel) ?_ | intro _) | refine zaY zz.out ?_ | ((first | (with_reducible refine uc (k1 _) ?_) | (with_reducible refine uc (k2 _) ?_) | (with_reducible refine uc (Y1e _) ?_) | (refine Q0d (by exact Go.V.zK) ?_) | (refine Q0e (by exact Go.V.zK) ?_)); (try refine zsY zz.out ?_)) | refine zo ?_ | omega | refine ztY zz.out ?_ | fail)); try (all_goals clear zz))
      all_goals (exact Go.V.zE)
    · rw [h2'] at k2
      clear m1 m2 m3 hP h1 h2 h3 h2'
      generalize (fin (scT (Q0r b).1) (scD (Q0r b).1)).1 = tx at *
      generalize (Q0r b).1.map stmA = A at *
      generalize (Q0r b).2.2 = a1 at *
      (refine vfun (fun _ => .no) Q0h Tryz.func6 (by kernel_rfl) ?_; simp only [Q0f, Tryz.f6, zv])
      (have zz := Bx.mk (j4 ui0 ui3 ui4 (j9 ui9 ui22 ui23 ui24 ui25 ui26 ui30 ui31 (j9 ui35 ui37 ui38 ui39 ui40 ui41 ui42 ui46 (j9 ui47 ui51 ui67 ui68 ui70 ui71 Q1p Q2c Q2d)))); (repeat' (first | with_reducible rfl | exact trivial | (with_reducible first | apply And.intro | apply Q0a | apply Q0b | refine Q0c (by decide +kernel) ?_ | intro _) | refine zaY zz.out ?_ | ((first | (with_reducible refine uc (k1 _) ?_) | (with_reducible refine uc (k2 _) ?_) | (with_reducible refine uc (Y1e _) ?_) | (refine Q0d (by exact Go.V.zK) ?_) | (refine Q0e (by exact Go.V.zK) ?_)); (try refine zsY zz.out ?_)) | refine zo ?_ | omega | refine ztY zz.out ?_ | fail)); try (all_goals clear zz))
      all_goals (exact Go.V.zE)
    · rw [h0] at k2
      obtain ⟨e1, e2⟩ := sc_back h1 h2 (fun x hx => ⟨(h3 x hx).fit, (h3 x hx).lim, Nat.le_trans (stD_le hx) hd⟩) hl
      have k3 := fun S => c8 (Q6u (scT (Q0r b).1)) S
      rw [e1, e2] at k3
      clear m1 m2 hP h1 h2 h3 h0 e1 e2
      generalize (Q0r (Q6u (scT (Q0r b).1))).2.2 = a2 at *
      generalize Q6u (scT (Q0r b).1) = W at *
      generalize (Q0r b).1.map stmA = A at *
      generalize (Q0r b).2.2 = a1 at *
      (refine vfun (fun _ => .no) Q0h Tryz.func6 (by kernel_rfl) ?_; simp only [Q0f, Tryz.f6, zv])
      (have zz := Bx.mk (j4 ui0 ui3 ui4 (j9 ui9 ui22 ui23 ui24 ui25 ui26 ui30 ui31 (j9 ui35 ui37 ui38 ui39 ui40 ui41 ui42 ui46 (j9 ui47 ui51 ui67 ui68 ui70 ui71 Q1p Q2c Q2d)))); (repeat' (first | with_reducible rfl | exact trivial | (with_reducible first | apply And.intro | apply Q0a | apply Q0b | refine Q0c (by decide +kernel) ?_ | intro _) | refine zaY zz.out ?_ | ((first | (with_reducible refine uc (k1 _) ?_) | (with_reducible refine uc (k2 _) ?_) | (with_reducible refine uc (k3 _) ?_) | (with_reducible refine uc (m3 _) ?_) | (with_reducible refine uc (Y1e _) ?_) | (refine Q0d (by exact Go.V.zK) ?_) | (refine Q0e (by exact Go.V.zK) ?_)); (try refine zsY zz.out ?_)) | refine zo ?_ | omega | refine ztY zz.out ?_ | fail)); try (all_goals clear zz))
      all_goals (first | (exact Go.V.zE) | (exfalso; simp_all))
  · generalize (Q0r b).1.map stmA = A at *
    generalize (Q0r b).2.1 = c1 at *
    generalize (Q0r b).2.2 = a1 at *
    (refine vfun (fun _ => .no) Q0h Tryz.func6 (by kernel_rfl) ?_; simp only [Q0f, Tryz.f6, zv])
    (have zz := Bx.mk (j5 ui0 ui3 ui4 ui9 (j9 ui22 ui23 ui24 ui25 ui26 ui30 ui31 ui35 (j9 ui37 ui38 ui39 ui40 ui41 ui42 ui46 ui47 (j9 ui51 ui67 ui68 ui70 ui71 Q1p Q2c Q2d hc)))); (repeat' (first | with_reducible rfl | exact trivial | (with_reducible first | apply And.intro | apply Q0a | apply Q0b | refine Q0c (by decide +kernel) ?_ | intro _) | refine zaY zz.out ?_ | ((first | (with_reducible refine uc (k1 _) ?_) | (with_reducible refine uc (Y1e _) ?_) | (refine Q0d (by exact Go.V.zK) ?_) | (refine Q0e (by exact Go.V.zK) ?_)); (try refine zsY zz.out ?_)) | refine zo ?_ | omega | refine ztY zz.out ?_ | fail)); try (all_goals clear zz))
    all_goals (first | (exact Go.V.zE) | (exfalso; omega))
end Go.Proofs.YtjdapkelojdefaaGreatDoor
namespace Go.V
open Go.RowKit
variable {P : Program}
def K0 (w : World) : K := ⟨w, fun _ _ => False, fun _ => none, w.heap.size⟩
def S0 : Sg := fun _ => none
theorem st0 (w : World) (hg : Glob (K0 w)) : St (K0 w) S0 where
  ob _ _ h := by cases h
  apart _ _ _ _ _ _ _ _ _ _ h := by cases h
  fin := ⟨0, fun _ _ => rfl⟩
  mlt _ _ h := h.elim
  bas := Nat.le_refl _
  glob := hg
theorem VCalls.calls {f : FuncId} {fn : Func} {args : List AV} {vs : Array Value} {w : World} (hf : P.funcs[f]? = some fn) (hb : (fn.body.isSome && !(fn.name == "runtime.NumGoroutine")) = true)
    (h : VCalls P f args S0 (fun x _ => x = .b true)) (hr : X3x (K0 w) args vs) (hg : Glob (K0 w)) : Calls P f vs w fun e w' => e = .returned (.bool true) ∧ Below w.heap.size w w' := by
  simp only [Bool.and_eq_true] at hb
  obtain ⟨h1, h2⟩ := hb
  obtain ⟨c, hc⟩ : ∃ c, fn.body = some c := by
    cases hh : fn.body with
    | none => rw [hh] at h1; cases h1
    | some c => exact ⟨c, rfl⟩
  have hrun : (callFunc f vs).run P w = .ok (.enter f vs) w := by
    have h3 : fn.name ≠ "runtime.NumGoroutine" := by simpa using h2
    simp [callFunc, program, Sem.run, Bind.bind, Sem.bind, hf, h3, hc]
  have hd := h.go (K0 w) vs (st0 w hg) hr
  rw [show (K0 w).w = w from rfl, hrun] at hd
  have hcalls : Calls P f vs w (PostE (K0 w) (fun x _ => x = .b true)) := hd
  refine hcalls.mono fun e w' hp => ?_
  cases e with
  | returned v =>
    obtain ⟨κ', x, σ', rfl, hle, hst, hrel, rfl⟩ := hp
    refine ⟨?_, ⟨hle.os, hle.tape, hle.output, hle.size, fun k hk => hle.block k hk⟩⟩
    cases hrel
    rfl
  | _ => exact hp.elim
theorem rel_args1 {κ : K} {v : Value} : X3x κ [.val v] #[v] := ⟨rfl, fun i x u h1 h2 => by
  cases i with
  | zero => simp at h1 h2; subst h1; subst h2; exact .val _
  | succ i => simp at h1⟩
end Go.V
namespace Go.V
open Go.RowKit
variable {P : Program}
def RL (κ : K) (cs : List AV) (vs : List Value) : Prop := cs.length = vs.length ∧ ∀ (i : Nat) (x : AV) (v : Value), cs[i]? = some x → vs[i]? = some v → Rel κ x v
theorem RL.row {κ : K} {cs : List AV} {vs : List Value} (h : RL κ cs vs) : RelRow κ cs vs.toArray := ⟨by simpa using h.1, fun i x v h1 h2 => h.2 i x v h1 (by simpa using h2)⟩
theorem RL.one {κ : K} {x : AV} {v : Value} (h : Rel κ x v) : RL κ [x] [v] := ⟨rfl, fun i y u h1 h2 => by
  cases i with
  | zero => simp at h1 h2; subst h1; subst h2; exact h
  | succ i => simp at h1⟩
end Go.V
namespace Go.V
open Go.RowKit
variable {P : Program}
end Go.V
namespace Go.Proofs.YtjdapkelojdefaaGreatDoor
open Go.ChangeShapes Go.WideShapes Go.ChangeAt Go.RowKit Go.V
theorem own : ownKnob Tryz.prog.godebug = none := by kernel_rfl
abbrev laid : List (String × DataW Unit) := [("math/bits.deBruijn32tab", Rows.laid_math_bits_deBruijn32tab), ("math/bits.deBruijn64tab", Rows.laid_math_bits_deBruijn64tab), ("internal/strconv.uint64pow10", Rows.laid_internal_strconv_uint64pow10), ("unicode/utf8.acceptRanges", Rows.laid_unicode_utf8_acceptRanges), ("unicode/utf8.first", Rows.laid_unicode_utf8_first)]
theorem glob {W : World} (h : laidMetH Tryz.prog laid W) : Glob (K0 W) := by
  rw [MakeChecks.laidMetH_plain _ _ _ (by kernel_rfl)] at h
  obtain ⟨ps, ⟨g0, t0, cs0, f0, p0, q0, hg0, ht0, hv0, hd0, ⟨g1, t1, cs1, f1, p1, q1, hg1, ht1, hv1, hd1, ⟨g, t, cs, fuel, p, q, hg, ht, hv, hd, _, _⟩, _⟩, _⟩, _, _⟩ := h
  obtain rfl := Option.some.inj ((show Tryz.prog.globalNamed "internal/strconv.uint64pow10" = some 1 by kernel_rfl).symm.trans hg)
  obtain rfl := Option.some.inj ((show (Tryz.prog.globals[1]?).map (·.type) = some 186 by kernel_rfl).symm.trans ht)
  obtain ⟨xs, m, _, ex, _, hl, hel⟩ := DataW.trod_array Tryz.underlying186 hd
  have c5 : Tryz.prog.cellsOf 179 = 1 := by kernel_rfl
  have hlen : pow10tab.length = 20 := by kernel_rfl
  have e3 : (xs.map (·.1)) = pow10tab.map fun v => match v with | .int k n => (DataW.lit (.int k n) : DataW Unit) | _ => .nil := (DataW.agg.inj (Prod.mk.inj ex).1).symm
  intro g cs' hg' r v hr
  by_cases hgg : g = 1
  · subst hgg
    obtain rfl : pow10tab = cs' := Option.some.inj ((if_pos rfl).symm.trans hg')
    refine ⟨?_, fun hh => hh⟩
    have hr20 : r < 20 := by rw [← hlen]; exact (List.getElem?_eq_some_iff.1 hr).1
    have hE := hel r hr20
    rw [c5, Nat.mul_one, List.getElem?_eq_getElem (by omega)] at hE
    obtain ⟨z, e1, e2, _⟩ := DataW.trod_int Tryz.underlying179 hE
    have e4 : (xs.map (·.1))[r]? = (pow10tab.map fun v => match v with | .int k n => (DataW.lit (.int k n) : DataW Unit) | _ => .nil)[r]? := by rw [e3]
    rw [List.getElem?_map, List.getElem?_map, List.getElem?_eq_getElem (by omega : r < xs.length), hr, e2] at e4
    have hz : v = .int .u64 z := by
      cases v <;> simp at e4
      rw [← e4.1, ← e4.2]
    show W.cell? _ = _
    rw [World.var?_cell hg hv r, hz]
    have : cs.toList[r]? = some (.int .u64 z) := by
      have h0 : ((cs.toList.drop r).take 1)[0]? = some (.int .u64 z) := by rw [e1]; rfl
      simpa using h0
    simpa using this
  · have : gtab g = none := if_neg hgg
    rw [this] at hg'; cases hg'
end Go.Proofs.YtjdapkelojdefaaGreatDoor
