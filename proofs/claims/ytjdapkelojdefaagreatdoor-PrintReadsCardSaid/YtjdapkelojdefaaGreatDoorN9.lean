/- Part 9 of the proof: B3, B4, B5, B6, B7, B8, B9, B10, B11, B12. -/
import Derived.Test.YtjdapkelojdefaaGreatDoorN7
import Derived.Test.YtjdapkelojdefaaGreatDoorN8

set_option linter.all false
set_option maxRecDepth 100000
set_option maxHeartbeats 400000
open Nat renaming reduceEqDiff → zb, reduceAdd → zc, reduceLeDiff → zd, reduceMul → ze, reduceSub → zf
open Int renaming toNat_zero → zj, reduceToNat → zk, tdiv_eq_ediv_of_nonneg → zl
open Go.V.Sg renaming set_same → zm, set_ne → zn, set_ne' → zp, del_ne → zq, del_ne' → zr
open Option renaming getD_some → zv
open Go.Cert renaming ne_of2 → zM, ne_ob → zP
open Go.Proofs.Tryz renaming underlying3 → Z3, underlying4 → Z4, underlying9 → Z9, underlying23 → Z23, underlying26 → Z26, underlying30 → Z30, underlying47 → Z47, underlying56 → Z56, underlying75 → Z75, underlying80 → Z80, underlying102 → Z102
namespace Go.Proofs.YtjdapkelojdefaaGreatDoor
open Go Go.V Go.Lex Go.Parse
def rdA (s : Rd) : Ob := .cells 80 [.sl .any (tksA s.l), .i s.d, .i s.c, .i s.a]
theorem hd_get {l : List Tk} (h : 0 < l.length) : (tksA l).getD 0 [] = tkA (hd l) := Y0a h
theorem p20 (ρ : Nat) (s : Rd) (σ : Sg) (hρ : σ ρ = some (rdA s)) : VCalls Tryz.prog 85 [.ref ρ 0] σ (fun x σ' => x = .b (decide (s.c = 0)) ∧ σ' = σ) := by
  unfold rdA at hρ
  (refine vfun (fun _ => .no) Q0h Tryz.func85 (by kernel_rfl) ?_; simp only [Q0f, Tryz.f85, zv])
  (have zz := Bx.mk (j5 ui3 ui80 ui47 ui30 hρ); (repeat' (first | with_reducible rfl | exact trivial | (with_reducible first | apply And.intro | apply Q0a | apply Q0b | refine Q0c (by decide +kernel) ?_ | intro _) | refine zaW zz.out ?_ | refine zo ?_ | omega | refine zt zz.out ?_ | fail)); try (all_goals clear zz))
  all_goals exact ⟨_, .refl _, rfl⟩
theorem p21 (ρ : Nat) (s : Rd) (σ : Sg) (hρ : σ ρ = some (rdA s)) (hl : 0 < s.l.length) : VCalls Tryz.prog 86 [.ref ρ 0] σ (fun x σ' => x = .agg (tkA (hd s.l)) ∧ σ' = σ) := by
  unfold rdA at hρ
  have hg := hd_get hl
  generalize hd s.l = t at *
  have ht : tkA t = [.i t.1, .s (bs t.2.1), .i t.2.2.1, .i t.2.2.2] := rfl
  rw [ht] at hg
  (refine vfun (fun _ => .no) Q0h Tryz.func86 (by kernel_rfl) ?_; simp only [Q0f, Tryz.f86, zv])
  (have zz := Bx.mk (j2 ui3 (j9 ui80 ui47 ui30 ui56 Q0v ui9 hρ @Q0z hg)); (repeat' (first | with_reducible rfl | exact trivial | (with_reducible first | apply And.intro | apply Q0a | apply Q0b | refine Q0c (by decide +kernel) ?_ | intro _) | refine zaW zz.out ?_ | refine zo ?_ | omega | refine zt zz.out ?_ | fail)); try (all_goals clear zz))
  all_goals (exact Go.V.zE)
theorem Q8f (s : Rd) : rdA s = .cells 80 [.sl .any (tksA s.l), .i s.d, .i s.c, .i s.a] := rfl
theorem p14 (ρ : Nat) (s : Rd) (e : Int) (σ : Sg) (hρ : σ ρ = some (rdA s)) (hl : 0 < s.l.length) : VCalls Tryz.prog 38 [.ref ρ 0, .i e] σ (fun x σ' => x = .tup [] ∧ σ' = σ.set ρ (rdA (s.fail e))) := by
  have h20 := p20 ρ s σ hρ
  have h21 := p21 ρ s σ hρ hl
  have hρ' := hρ
  rw [Q8f] at hρ
  by_cases hc : s.c = 0
  · rw [decide_eq_true hc] at h20
    have hf : s.fail e = { s with c := e, a := ((hd s.l).2.2.2 : Int) } := if_pos hc
    rw [hf]
    have ht : tkA (hd s.l) = [.i (hd s.l).1, .s (bs (hd s.l).2.1), .i (hd s.l).2.2.1, .i (hd s.l).2.2.2] := rfl
    rw [ht] at h21
    generalize hd s.l = t at *
    (refine vfun (fun _ => .no) Q0h Tryz.func38 (by kernel_rfl) ?_; simp only [Q0f, Tryz.f38, zv])
    (have zz := Bx.mk (j9 ui3 ui80 ui47 ui30 ui56 Q0v ui9 hρ @Q0z); (repeat' (first | with_reducible rfl | exact trivial | (with_reducible first | apply And.intro | apply Q0a | apply Q0b | refine Q0c (by decide +kernel) ?_ | intro _) | refine zaW zz.out ?_ | ((first | ((with_reducible refine h20.mono ?_); rintro _ S ⟨rfl, rfl⟩) | ((with_reducible refine h21.mono ?_); rintro _ S ⟨rfl, rfl⟩)); (try refine zs zz.out ?_)) | refine zo ?_ | omega | refine zt zz.out ?_ | fail)); try (all_goals clear zz))
    all_goals exact ⟨_, .refl _, rfl⟩
  · rw [decide_eq_false hc] at h20
    have hf : s.fail e = s := if_neg hc
    rw [hf]
    (refine vfun (fun _ => .no) Q0h Tryz.func38 (by kernel_rfl) ?_; simp only [Q0f, Tryz.f38, zv])
    (have zz := Bx.mk (j9 ui3 ui80 ui47 ui30 ui56 Q0v ui9 hρ @Q0z); (repeat' (first | with_reducible rfl | exact trivial | (with_reducible first | apply And.intro | apply Q0a | apply Q0b | refine Q0c (by decide +kernel) ?_ | intro _) | refine zaW zz.out ?_ | (((with_reducible refine h20.mono ?_); rintro _ S ⟨rfl, rfl⟩); (try refine zs zz.out ?_)) | refine zo ?_ | omega | refine zt zz.out ?_ | fail)); try (all_goals clear zz))
    all_goals exact ⟨_, .refl _, (Sg.set_id hρ').symm⟩
theorem p40 (ρ : Nat) (s : Rd) (o : Own) (ws : List By) (es : List (List AV)) (σ : Sg) (he : es = strs ws) (hρ : σ ρ = some (rdA s)) (hl : 0 < s.l.length) (hw : ws.length < 2 ^ 60) : VCalls Tryz.prog 136 [.ref ρ 0, .sl o es] σ (fun x σ' => x = .i (s.is ws) ∧ σ' = σ) := by
  subst he
  have h20 := fun β o' (hβ : σ β = none) => p20 ρ s (σ.set β o') (at1 hρ hβ)
  have h21 := p21 ρ s σ hρ hl
  have ht : tkA (hd s.l) = [.i (hd s.l).1, .s (bs (hd s.l).2.1), .i (hd s.l).2.2.1, .i (hd s.l).2.2.2] := rfl
  rw [ht] at h21
  have h65 := fun σ => t116 ws o (hd s.l).2.1 σ hw
  unfold Rd.is
  generalize hd s.l = t at *
  by_cases hc : s.c = 0
  · simp only [decide_eq_true hc] at h20
    by_cases h2 : t.1 = 2 ∨ t.1 = 5
    · rw [if_neg (by omega)]
      (refine vfun (fun _ => .no) Q0h Tryz.func136 (by kernel_rfl) ?_; simp only [Q0f, Tryz.f136, zv])
      (have zz := Bx.mk (j9 ui3 ui80 ui47 ui30 ui56 Q0v ui9 hρ @Q0z); (repeat' (first | with_reducible rfl | exact trivial | (with_reducible first | apply And.intro | apply Q0a | apply Q0b | refine Q0c (by decide +kernel) ?_ | intro _) | refine zaW zz.out ?_ | ((first | ((with_reducible refine h21.mono ?_); rintro _ S ⟨rfl, rfl⟩) | ((with_reducible refine (h20 _ _ (by assumption)).mono ?_); rintro _ S ⟨rfl, rfl⟩) | ((with_reducible refine (h65 _).mono ?_); rintro _ S ⟨rfl, rfl⟩)); (try refine zs zz.out ?_)) | refine zo ?_ | omega | refine zt zz.out ?_ | fail)); try (all_goals clear zz))
      all_goals (exact Go.V.zE)
    · rw [if_pos (by omega)]
      (refine vfun (fun _ => .no) Q0h Tryz.func136 (by kernel_rfl) ?_; simp only [Q0f, Tryz.f136, zv])
      (have zz := Bx.mk (j9 ui3 ui80 ui47 ui30 ui56 Q0v ui9 hρ @Q0z); (repeat' (first | with_reducible rfl | exact trivial | (with_reducible first | apply And.intro | apply Q0a | apply Q0b | refine Q0c (by decide +kernel) ?_ | intro _) | refine zaW zz.out ?_ | ((first | ((with_reducible refine h21.mono ?_); rintro _ S ⟨rfl, rfl⟩) | ((with_reducible refine (h20 _ _ (by assumption)).mono ?_); rintro _ S ⟨rfl, rfl⟩) | ((with_reducible refine (h65 _).mono ?_); rintro _ S ⟨rfl, rfl⟩)); (try refine zs zz.out ?_)) | refine zo ?_ | omega | refine zt zz.out ?_ | fail)); try (all_goals clear zz))
      all_goals (exact Go.V.zE)
  · simp only [decide_eq_false hc] at h20
    rw [if_pos (.inl hc)]
    (refine vfun (fun _ => .no) Q0h Tryz.func136 (by kernel_rfl) ?_; simp only [Q0f, Tryz.f136, zv])
    (have zz := Bx.mk (j9 ui3 ui80 ui47 ui30 ui56 Q0v ui9 hρ @Q0z); (repeat' (first | with_reducible rfl | exact trivial | (with_reducible first | apply And.intro | apply Q0a | apply Q0b | refine Q0c (by decide +kernel) ?_ | intro _) | refine zaW zz.out ?_ | ((first | ((with_reducible refine h21.mono ?_); rintro _ S ⟨rfl, rfl⟩) | ((with_reducible refine (h20 _ _ (by assumption)).mono ?_); rintro _ S ⟨rfl, rfl⟩)); (try refine zs zz.out ?_)) | refine zo ?_ | omega | refine zt zz.out ?_ | fail)); try (all_goals clear zz))
    all_goals (exact Go.V.zE)
theorem Y0m (s : Rd) (ws : List By) : s.pass ws = if 0 ≤ s.is ws then s.next else s := rfl
theorem X6c (s : Rd) : rdA s.next = .cells 80 [.sl .any (tksA s.l.tail), .i s.d, .i s.c, .i s.a] := rfl
theorem Q1y (l : List Tk) : (tksA l).drop 1 = tksA l.tail := by cases l <;> rfl
theorem p22 (ρ : Nat) (s : Rd) (o : Own) (ws : List By) (es : List (List AV)) (σ : Sg) (he : es = strs ws) (hρ : σ ρ = some (rdA s)) (hl : 0 < s.l.length) (hw : ws.length < 2 ^ 60) : VCalls Tryz.prog 87 [.ref ρ 0, .sl o es] σ (fun x σ' => x = .i (s.is ws) ∧ σ' = σ.set ρ (rdA (s.pass ws))) := by
  have h40 := p40 ρ s o ws es σ he hρ hl hw
  subst he
  have hρ' := hρ
  rw [Q8f] at hρ
  rw [Y0m]
  by_cases hc : 0 ≤ s.is ws
  · rw [if_pos hc, X6c]
    generalize s.is ws = k at *
    (refine vfun (fun _ => .no) Q0h Tryz.func87 (by kernel_rfl) ?_; simp only [Q0f, Tryz.f87, zv])
    repeat' (first | with_reducible rfl | exact .inr trivial | with_reducible apply And.intro | with_reducible apply Q0a | with_reducible apply Q0b | with_reducible refine Q0c (by decide +kernel) ?_ | with_reducible intro _ | ((first | (with_reducible first | refine .rs ?_ | refine .ds (by kernel_rfl) ?_ | refine .dg (by kernel_rfl) ?_ | refine .rg ?_ | refine .ite ?_ | refine .ret ?_ | refine .skip ?_ | refine .exit ?_ | refine .scope ?_ | refine .seq (.label ?_) | refine .block ?_ | refine .seq ?_) | (simp (disch := first | assumption | (apply zM; assumption; assumption) | (apply zP; assumption; assumption; (intro e; cases e; done)) | omega) only [w64, w8, tg_eq, Go.V.n1, Go.V.n2, Go.V.nn, zl, zm, zn, zp, zq, zr]) | ((with_reducible refine h40.mono ?_); rintro _ S ⟨rfl, rfl⟩)); (try simp only [vO, vQ, ↓vP, vE, vS, vB, vL, vF, vM, vN, Q0g, zb, zc, zd, ne_eq, not_false_eq_true, ze, zf, zj, zk, Z3, Q2b, Z80, Q6t, Z47, Q6a, Z30, Q4l, Z56, Q6b, Z102, Q2v, Z9, Q2k, hρ, Q0z, Q1y, Q1s, Own.cut, vT])) | with_reducible refine Q1h ?_ | with_reducible refine Q0y (fun _ _ => ?_) | with_reducible refine Q1l (fun _ => ?_) (fun _ => ?_) | omega | ((with_reducible first | refine Q5k ?_ | refine Q3l ?_ | refine Q1w ?_ | refine Q3m ?_ | refine Q0x ?_); simp only [vO, vQ, ↓vP, vE, vS, vB, vL, vF, vM, vN, Q0g, zb, zc, zd, ne_eq, not_false_eq_true, ze, zf, zj, zk, Z3, Q2b, Z80, Q6t, Z47, Q6a, Z30, Q4l, Z56, Q6b, Z102, Q2v, Z9, Q2k, hρ, Q0z, Q1y, Q1s, Own.cut, vT]))
    all_goals (exact Go.V.zE)
  · rw [if_neg hc]
    generalize s.is ws = k at *
    rw [Sg.set_id hρ']
    (refine vfun (fun _ => .no) Q0h Tryz.func87 (by kernel_rfl) ?_; simp only [Q0f, Tryz.f87, zv])
    (have zz := Bx.mk (j3 ui3 ui80 (j9 ui47 ui30 ui56 Q0v ui9 hρ @Q0z @Q1y @Q1s)); (repeat' (first | with_reducible rfl | exact trivial | (with_reducible first | apply And.intro | apply Q0a | apply Q0b | refine Q0c (by decide +kernel) ?_ | intro _) | refine zaW zz.out ?_ | (((with_reducible refine h40.mono ?_); rintro _ S ⟨rfl, rfl⟩); (try refine zs zz.out ?_)) | refine zo ?_ | omega | refine zt zz.out ?_ | fail)); try (all_goals clear zz))
    all_goals (exact Go.V.zE)
theorem pass1 (s : Rd) (w : By) : s.pass [w] = if s.has w then s.next else s := by
  unfold Rd.has Rd.pass
  by_cases h : 0 ≤ s.is [w]
  · rw [if_pos h, if_pos (decide_eq_true h)]
  · rw [if_neg h, if_neg (by simp; omega)]
theorem p13 (ρ : Nat) (s : Rd) (w : By) (σ : Sg) (hρ : σ ρ = some (rdA s)) (hl : 0 < s.l.length) : VCalls Tryz.prog 37 [.ref ρ 0, .s (bs w)] σ (fun x σ' => x = .b (s.has w) ∧ σ' = σ.set ρ (rdA (if s.has w then s.next else s))) := by
  have h22 := fun es he => p22 ρ s .full [w] es σ he hρ hl (by simp)
  rw [pass1] at h22
  cases hb : s.has w with
  | true =>
    have hk : 0 ≤ s.is [w] := of_decide_eq_true hb
    simp only [hb, if_true] at h22 ⊢
    generalize s.is [w] = k at *
    (refine vfun (fun _ => .no) Q0h Tryz.func37 (by kernel_rfl) ?_; simp only [Q0f, Tryz.f37, zv])
    (have zz := Bx.mk (j4 ui3 ui80 ui75 ui9); (repeat' (first | with_reducible rfl | exact trivial | (with_reducible first | apply And.intro | apply Q0a | apply Q0b | refine Q0c (by decide +kernel) ?_ | intro _) | refine zaW zz.out ?_ | (((with_reducible refine (h22 _ (by with_unfolding_all rfl)).mono ?_); rintro _ S ⟨rfl, rfl⟩); (try refine zs zz.out ?_)) | refine zo ?_ | omega | refine zt zz.out ?_ | fail)); try (all_goals clear zz))
    exact ⟨_, .refl _, b_eq (by simpa using hk), rfl⟩
  | false =>
    have hk : ¬ 0 ≤ s.is [w] := of_decide_eq_false hb
    simp only [hb, Bool.false_eq_true, if_false] at h22 ⊢
    generalize s.is [w] = k at *
    (refine vfun (fun _ => .no) Q0h Tryz.func37 (by kernel_rfl) ?_; simp only [Q0f, Tryz.f37, zv])
    (have zz := Bx.mk (j4 ui3 ui80 ui75 ui9); (repeat' (first | with_reducible rfl | exact trivial | (with_reducible first | apply And.intro | apply Q0a | apply Q0b | refine Q0c (by decide +kernel) ?_ | intro _) | refine zaW zz.out ?_ | (((with_reducible refine (h22 _ (by with_unfolding_all rfl)).mono ?_); rintro _ S ⟨rfl, rfl⟩); (try refine zs zz.out ?_)) | refine zo ?_ | omega | refine zt zz.out ?_ | fail)); try (all_goals clear zz))
    exact ⟨_, .refl _, b_eq (by simpa using hk), rfl⟩
theorem must_step {s : Rd} {ws : List By} {k : Nat} (h : k < ws.length) : s.must (ws.drop k) = Rd.must (if s.has (ws.getD k []) then s.next else s.fail 4) (ws.drop (k + 1)) := by
  have hg : ws.getD k [] = ws[k] := by simp [List.getD_eq_getElem?_getD, List.getElem?_eq_getElem h]
  rw [hg, List.drop_eq_getElem_cons h]
  rfl
theorem p41 (ρ : Nat) (s : Rd) (o : Own) (ws : List By) (es : List (List AV)) (σ : Sg) (he : es = strs ws) (hρ : σ ρ = some (rdA s)) (hl : WF s.l) (hw : ws.length < 2 ^ 60) : VCalls Tryz.prog 137 [.ref ρ 0, .sl o es] σ (fun x σ' => x = .tup [] ∧ σ' = σ.set ρ (rdA (s.must ws))) := by
  subst he
  (refine vfun (fun _ => .no) Q0h Tryz.func137 (by kernel_rfl) ?_; simp only [Q0f, Tryz.f137, zv])
  (have zz := Bx.mk (j4 ui3 ui75 ui9 @Q4r); (repeat' (first | with_reducible rfl | exact trivial | (with_reducible first | apply And.intro | apply Q0a | apply Q0b | refine Q0c (by decide +kernel) ?_ | intro _) | refine zaW zz.out ?_ | refine zo ?_ | omega | refine zt zz.out ?_ | fail)); try (all_goals clear zz))
  refine VW.loop3 (0 : Nat) s () (fun k s' _ => k ≤ ws.length ∧ s'.must (ws.drop k) = s.must ws ∧ WF s'.l) (fun k _ _ => [(0, .ref ρ 0), (6, .sl o (strs ws)), (7, .i ws.length), (8, .i k)]) (fun _ s' _ => σ.set ρ (rdA s')) (fun k _ _ => ws.length - k) ⟨by omega, by simp, hl⟩ (by rw [Sg.set_id hρ]; exact .refl _) ?_ ?_
  · simp only [vO, vQ, ↓vP, vE, vS, vB, vL, vF, vM, vN, Q0g, zb, zc, zd, ne_eq, not_false_eq_true, ze, zf, zj, zk, vT]
    all_goals rfl
  rintro k s' _ ⟨h1, h2, h3⟩
  have hρ' : (σ.set ρ (rdA s')) ρ = some (rdA s') := zm _ _ _
  rcases Nat.lt_or_ge k ws.length with hk | hk
  · have hg := X0g hk
    have h13 := p13 ρ s' (ws.getD k []) _ hρ' h3.pos
    have hm := must_step (s := s') hk
    rw [hm] at h2
    cases hb : s'.has (ws.getD k []) with
    | true =>
      simp only [hb, if_true, Sg.set_set] at h13 h2
      (have zz := Bx.mk (j5 ui3 ui75 ui9 @Q4r hg); (repeat' (first | with_reducible rfl | exact trivial | (with_reducible first | apply And.intro | apply Q0a | apply Q0b | refine Q0c (by decide +kernel) ?_ | intro _) | refine zaW zz.out ?_ | (((with_reducible refine h13.mono ?_); rintro _ S ⟨rfl, rfl⟩); (try refine zs zz.out ?_)) | refine zo ?_ | omega | refine zt zz.out ?_ | fail)); try (all_goals clear zz))
      exact ⟨k + 1, s'.next, (), ⟨⟨hk, h2, (Q8s h3 hb).wf⟩, by omega⟩, .refl _, rfl⟩
    | false =>
      simp only [hb, Bool.false_eq_true, if_false, Sg.set_set] at h13 h2
      have h14 := p14 ρ s' 4 _ hρ' h3.pos
      rw [Sg.set_set] at h14
      (have zz := Bx.mk (j5 ui3 ui75 ui9 @Q4r hg); (repeat' (first | with_reducible rfl | exact trivial | (with_reducible first | apply And.intro | apply Q0a | apply Q0b | refine Q0c (by decide +kernel) ?_ | intro _) | refine zaW zz.out ?_ | ((first | ((with_reducible refine h13.mono ?_); rintro _ S ⟨rfl, rfl⟩) | ((with_reducible refine h14.mono ?_); rintro _ S ⟨rfl, rfl⟩)); (try refine zs zz.out ?_)) | refine zo ?_ | omega | refine zt zz.out ?_ | fail)); try (all_goals clear zz))
      exact ⟨k + 1, s'.fail 4, (), ⟨⟨hk, h2, (Q5r h3 4).wf⟩, by omega⟩, .refl _, rfl⟩
  · (have zz := Bx.mk (j4 ui3 ui75 ui9 @Q4r); (repeat' (first | with_reducible rfl | exact trivial | (with_reducible first | apply And.intro | apply Q0a | apply Q0b | refine Q0c (by decide +kernel) ?_ | intro _) | refine zaW zz.out ?_ | refine zo ?_ | omega | refine zt zz.out ?_ | fail)); try (all_goals clear zz))
    rw [List.drop_of_length_le hk] at h2
    exact ⟨_, .refl _, by rw [← h2]; rfl⟩
theorem X8w (t : Tk) : tkA t = [.i t.1, .s (bs t.2.1), .i t.2.2.1, .i t.2.2.2] := rfl
theorem p52 (ρ : Nat) (s : Rd) (k : Nat) (σ : Sg) (hρ : σ ρ = some (rdA s)) (hl : 0 < s.l.length) : VCalls Tryz.prog 148 [.ref ρ 0, .i k] σ (fun x σ' => x = .agg (tkA (s.tok k)) ∧ σ' = σ.set ρ (rdA (s.take k))) := by
  have h20 := fun β o' (hβ : σ β = none) => p20 ρ s (σ.set β o') (at1 hρ hβ)
  have h21 := fun β o' (hβ : σ β = none) => p21 ρ s (σ.set β o') (at1 hρ hβ) hl
  have h14 := fun β o' (hβ : σ β = none) => p14 ρ s 4 (σ.set β o') (at1 hρ hβ) hl
  unfold Rd.tok Rd.take
  have hk : s.takes k ↔ s.c = 0 ∧ (hd s.l).1 = k := Iff.rfl
  simp only [hk]
  rw [X8w] at h21
  have hrd := X6c s
  have hρ' := hρ
  rw [Q8f] at hρ
  have e0 : tkA (0, [], 0, 0) = [.i 0, .s (bs []), .i 0, .i 0] := rfl
  by_cases hc : s.c = 0
  · simp only [decide_eq_true hc] at h20
    by_cases hk : (hd s.l).1 = k
    · rw [if_pos ⟨hc, hk⟩, if_pos ⟨hc, hk⟩, X8w, hrd]
      generalize hd s.l = t at *
      (refine vfun (fun _ => .no) Q0h Tryz.func148 (by kernel_rfl) ?_; simp only [Q0f, Tryz.f148, zv])
      repeat' (first | with_reducible rfl | exact .inr trivial | with_reducible apply And.intro | with_reducible apply Q0a | with_reducible apply Q0b | with_reducible refine Q0c (by decide +kernel) ?_ | with_reducible intro _ | ((first | (with_reducible first | refine .rs ?_ | refine .ds (by kernel_rfl) ?_ | refine .dg (by kernel_rfl) ?_ | refine .rg ?_ | refine .ite ?_ | refine .ret ?_ | refine .skip ?_ | refine .exit ?_ | refine .scope ?_ | refine .seq (.label ?_) | refine .block ?_ | refine .seq ?_) | (simp (disch := first | assumption | (apply zM; assumption; assumption) | (apply zP; assumption; assumption; (intro e; cases e; done)) | omega) only [w64, w8, tg_eq, Go.V.n1, Go.V.n2, Go.V.nn, zl, zm, zn, zp, zq, zr]) | ((with_reducible refine (h20 _ _ (by assumption)).mono ?_); rintro _ S ⟨rfl, rfl⟩) | ((with_reducible refine (h21 _ _ (by assumption)).mono ?_); rintro _ S ⟨rfl, rfl⟩) | (refine Q0d (by exact Go.V.zK) ?_) | (refine Q0e (by exact Go.V.zK) ?_)); (try simp only [vO, vQ, ↓vP, vE, vS, vB, vL, vF, vM, vN, Q0g, zb, zc, zd, ne_eq, not_false_eq_true, ze, zf, zj, zk, Z3, Q2b, Z80, Q6t, Z47, Q6a, Z30, Q4l, Z56, Q6b, Z102, Q2v, Z9, Q2k, hρ, Q0z, Q1y, Q1s, Own.cut, vT])) | with_reducible refine Q1h ?_ | with_reducible refine Q0y (fun _ _ => ?_) | with_reducible refine Q1l (fun _ => ?_) (fun _ => ?_) | omega | ((with_reducible first | refine Q5k ?_ | refine Q3l ?_ | refine Q1w ?_ | refine Q3m ?_ | refine Q0x ?_); simp only [vO, vQ, ↓vP, vE, vS, vB, vL, vF, vM, vN, Q0g, zb, zc, zd, ne_eq, not_false_eq_true, ze, zf, zj, zk, Z3, Q2b, Z80, Q6t, Z47, Q6a, Z30, Q4l, Z56, Q6b, Z102, Q2v, Z9, Q2k, hρ, Q0z, Q1y, Q1s, Own.cut, vT]))
      all_goals (exact Go.V.zE)
    · rw [if_neg (fun h => hk h.2), if_neg (fun h => hk h.2), e0]
      generalize hd s.l = t at *
      (refine vfun (fun _ => .no) Q0h Tryz.func148 (by kernel_rfl) ?_; simp only [Q0f, Tryz.f148, zv])
      (have zz := Bx.mk (j9 ui3 ui80 ui47 ui30 ui56 Q0v ui9 hρ @Q0z); (repeat' (first | with_reducible rfl | exact trivial | (with_reducible first | apply And.intro | apply Q0a | apply Q0b | refine Q0c (by decide +kernel) ?_ | intro _) | refine zaW zz.out ?_ | ((first | ((with_reducible refine (h20 _ _ (by assumption)).mono ?_); rintro _ S ⟨rfl, rfl⟩) | ((with_reducible refine (h21 _ _ (by assumption)).mono ?_); rintro _ S ⟨rfl, rfl⟩) | ((with_reducible refine (h14 _ _ (by assumption)).mono ?_); rintro _ S ⟨rfl, rfl⟩) | (refine Q0d (by exact Go.V.zK) ?_) | (refine Q0e (by exact Go.V.zK) ?_)); (try refine zs zz.out ?_)) | refine zo ?_ | omega | refine zt zz.out ?_ | fail)); try (all_goals clear zz))
      all_goals (exact Go.V.zE)
  · simp only [decide_eq_false hc] at h20
    rw [if_neg (fun h => hc h.1), if_neg (fun h => hc h.1), e0]
    (refine vfun (fun _ => .no) Q0h Tryz.func148 (by kernel_rfl) ?_; simp only [Q0f, Tryz.f148, zv])
    (have zz := Bx.mk (j9 ui3 ui80 ui47 ui30 ui56 Q0v ui9 hρ @Q0z); (repeat' (first | with_reducible rfl | exact trivial | (with_reducible first | apply And.intro | apply Q0a | apply Q0b | refine Q0c (by decide +kernel) ?_ | intro _) | refine zaW zz.out ?_ | ((first | ((with_reducible refine (h20 _ _ (by assumption)).mono ?_); rintro _ S ⟨rfl, rfl⟩) | ((with_reducible refine (h21 _ _ (by assumption)).mono ?_); rintro _ S ⟨rfl, rfl⟩) | ((with_reducible refine (h14 _ _ (by assumption)).mono ?_); rintro _ S ⟨rfl, rfl⟩) | (refine Q0d (by exact Go.V.zK) ?_) | (refine Q0e (by exact Go.V.zK) ?_)); (try refine zs zz.out ?_)) | refine zo ?_ | omega | refine zt zz.out ?_ | fail)); try (all_goals clear zz))
    all_goals (exact Go.V.zE)
end Go.Proofs.YtjdapkelojdefaaGreatDoor
namespace Go.Parse
open Go.V Go.Lex Go.Proofs.YtjdapkelojdefaaGreatDoor
mutual
def exA : Ex → List AV
  | .mk k op t n v args => [.i k, .i op, .s (bs t), .s (bs n), .i v.1, .i v.2.1, .s (bs v.2.2), .sl .any (exsA args)]
def exsA : List Ex → List (List AV)
  | [] => []
  | e :: r => exA e :: exsA r
end
theorem Q6v (k op : Int) (t n : By) (v : Vl) (args : List Ex) : exA (.mk k op t n v args) = [.i k, .i op, .s (bs t), .s (bs n), .i v.1, .i v.2.1, .s (bs v.2.2), .sl .any (exsA args)] := by rw [exA]
theorem Q0s : exsA [] = [] := by rw [exsA]
theorem Q2n (e : Ex) (r : List Ex) : exsA (e :: r) = exA e :: exsA r := by rw [exsA]
theorem Q0u (e : Ex) : (exA e).length = 8 := by cases e; rw [Q6v]; rfl
theorem Q0t (e : Ex) : (exA e).take 8 = exA e := List.take_of_length_le (by rw [Q0u]; omega)
theorem Q1a (e : Ex) : (exA e).drop 8 = [] := List.drop_of_length_le (by rw [Q0u]; omega)
theorem Q1n (e : Ex) : (exA e).all AV.one = true := by cases e; rw [Q6v]; rfl
theorem Q2l : ∀ l : List Ex, (exsA l).length = l.length
  | [] => by rw [Q0s]; rfl
  | e :: r => by rw [Q2n, List.length_cons, Q2l r, List.length_cons]
def exK (o : Own) : Ex → List AV
  | .mk k op t n v args => [.i k, .i op, .s (bs t), .s (bs n), .i v.1, .i v.2.1, .s (bs v.2.2), .sl o (exsA args)]
theorem Q3n (o : Own) (k op : Int) (t n : By) (v : Vl) (args : List Ex) : exK o (.mk k op t n v args) = [.i k, .i op, .s (bs t), .s (bs n), .i v.1, .i v.2.1, .s (bs v.2.2), .sl o (exsA args)] := rfl
theorem AVw.ex (o : Own) (e : Ex) : AVw (.agg (exK o e)) (.agg (exA e)) := by
  cases e
  rw [Q6v, Q3n]
  refine AVw.agg rfl (fun i x x' h1 h2 => ?_)
  match i with
  | 0 => cases h1; cases h2; exact AVw.refl _
  | 1 => cases h1; cases h2; exact AVw.refl _
  | 2 => cases h1; cases h2; exact AVw.refl _
  | 3 => cases h1; cases h2; exact AVw.refl _
  | 4 => cases h1; cases h2; exact AVw.refl _
  | 5 => cases h1; cases h2; exact AVw.refl _
  | 6 => cases h1; cases h2; exact AVw.refl _
  | 7 => cases h1; cases h2; exact AVw.any _ _
  | i + 8 => simp at h1
end Go.Parse
namespace Go.Proofs.YtjdapkelojdefaaGreatDoor
open Go Go.V Go.Lex Go.Parse
theorem Q9j {f : FuncId} {args : List AV} {e : Ex} {σ S : Sg} (h : VCalls Tryz.prog f args σ (fun x σ' => ∃ o, x = .agg (exK o e) ∧ S.sub σ')) : VCalls Tryz.prog f args σ (fun x σ' => x = .agg (exA e) ∧ σ' = S) :=
  h.lose fun x σ' hx => by
    obtain ⟨o, rfl, hs⟩ := hx
    exact ⟨_, S, AVw.ex o e, hs, rfl, rfl⟩
theorem Q6w : ∃ z, Q0l Tryz.prog 26 = some (some z, 8, 104) ∧ ofValue z = .agg (exK .nil ex0) := ⟨_, info26, by unfold ex0; rw [Q3n, Q0s]; rfl⟩
theorem zero24 : ∃ z, Q0l Tryz.prog 23 = some (some z, 3, 32) ∧ ofValue z = .agg [.i 0, .i 0, .s (bs [])] := ⟨_, info23, by rfl⟩
theorem p42 (ρ : Nat) (s : Rd) (σ : Sg) (hρ : σ ρ = some (rdA s)) (hl : 0 < s.l.length) : VCalls Tryz.prog 138 [.ref ρ 0] σ (fun x σ' => x = .s (bs (s.tok 1).2.1) ∧ σ' = σ.set ρ (rdA (s.take 1))) := by
  have h52 : VCalls Tryz.prog 148 [.ref ρ 0, .i 1] σ _ := p52 ρ s 1 σ hρ hl
  rw [X8w] at h52
  (refine vfun (fun _ => .no) Q0h Tryz.func138 (by kernel_rfl) ?_; simp only [Q0f, Tryz.f138, zv])
  (have zz := Bx.mk (j4 ui3 ui80 Q0v ui9); (repeat' (first | with_reducible rfl | exact trivial | (with_reducible first | apply And.intro | apply Q0a | apply Q0b | refine Q0c (by decide +kernel) ?_ | intro _) | refine zaW zz.out ?_ | (((with_reducible refine h52.mono ?_); rintro _ S ⟨rfl, rfl⟩); (try refine zs zz.out ?_)) | refine zo ?_ | omega | refine zt zz.out ?_ | fail)); try (all_goals clear zz))
  all_goals (exact Go.V.zE)
theorem opA {e f : Ex} : exsA [e, f] = [exA e, exA f] := by rw [Q2n, Q2n, Q0s]
theorem ofA {e : Ex} : exsA [e] = [exA e] := by rw [Q2n, Q0s]
theorem p62 (k : Int) (e : Ex) (σ : Sg) : VCalls Tryz.prog 168 [.i k, .agg (exA e)] σ (fun x σ' => x = .agg (exA (ofE k e)) ∧ σ' = σ) := by
  refine Q9j ?_
  obtain ⟨z27, h27, hz27⟩ := Q6w
  have hl := Q0u e
  have ho := Q1n e
  have ht := Q0t e
  have hd := Q1a e
  have hA := ofA (e := e)
  simp only [ofE, ex0, Q3n, Q0s, hA] at hz27 ⊢
  generalize exA e = E at *
  (refine vfun (fun _ => .no) Q0h Tryz.func168 (by kernel_rfl) ?_; simp only [Q0f, Tryz.f168, zv])
  (have zz := Bx.mk (j3 ui3 Z26 (j9 h27 hz27 ui24 ui23 ui9 hl ho ht hd)); (repeat' (first | with_reducible rfl | exact trivial | (with_reducible first | apply And.intro | apply Q0a | apply Q0b | refine Q0c (by decide +kernel) ?_ | intro _) | refine zaW zz.out ?_ | refine zo ?_ | omega | refine zt zz.out ?_ | fail)); try (all_goals clear zz))
  all_goals (refine ⟨_, .refl _, _, rfl, ?_⟩; (first | exact Sg.sub.refl _ | ((repeat (first | exact Sg.sub.refl _ | refine Sg.sub.set_both ?_ | refine Sg.sub.set_fresh ?_ (by first | assumption | exact Sg.set_none (by assumption) (by first | assumption | (apply Go.Cert.ne_of2a; assumption; assumption))))); done) | (intro y p hy; simp only [Sg.set_apply, Sg.del_apply] at hy ⊢; grind)))
theorem p68 (ρ : Nat) (s : Rd) (σ : Sg) (hρ : σ ρ = some (rdA s)) (hl : WF s.l) : VCalls Tryz.prog 174 [.ref ρ 0] σ (fun x σ' => x = .agg (exA s.column.1) ∧ σ' = σ.set ρ (rdA s.column.2)) := by
  refine Q9j ?_
  obtain ⟨z27, h27, hz27⟩ := Q6w
  have o1 := Q2m (k := 1) hl (by decide)
  have h42 := fun β o' (hβ : σ β = none) => p42 ρ s (σ.set β o') (at1 hρ hβ) hl.pos
  have h13 : ∀ S, S ρ = some (rdA (s.take 1)) → VCalls Tryz.prog 37 [.ref ρ 0, .s (bs [46])] S _ := fun S hS => p13 ρ (s.take 1) [46] S hS o1.wf.pos
  unfold Rd.column
  generalize (s.tok 1).2.1 = t at *
  cases hb : (s.take 1).has [46] with
  | true =>
    have o2 := Q8s o1.wf hb
    simp only [hb, if_true] at h13 ⊢
    have h42b := fun S hS => p42 ρ (s.take 1).next S hS o2.wf.pos
    generalize ((s.take 1).next.tok 1).2.1 = u at *
    generalize (s.take 1).next.take 1 = s3 at *
    generalize (s.take 1).next = s2 at *
    generalize s.take 1 = s1 at *
    simp only [ex0, Q3n, Q0s] at hz27 ⊢
    (refine vfun (fun _ => .no) Q0h Tryz.func174 (by kernel_rfl) ?_; simp only [Q0f, Tryz.f174, zv])
    (have zz := Bx.mk (j7 ui3 Z26 h27 hz27 ui24 ui23 ui9); (repeat' (first | with_reducible rfl | exact trivial | (with_reducible first | apply And.intro | apply Q0a | apply Q0b | refine Q0c (by decide +kernel) ?_ | intro _) | refine zaW zz.out ?_ | ((first | ((with_reducible refine (h42 _ _ (by assumption)).mono ?_); rintro _ S ⟨rfl, rfl⟩) | ((with_reducible refine (h13 _ (by exact Go.V.zK)).mono ?_); rintro _ S ⟨rfl, rfl⟩) | ((with_reducible refine (h42b _ (by exact Go.V.zK)).mono ?_); rintro _ S ⟨rfl, rfl⟩) | (refine Q0d (by exact Go.V.zK) ?_) | (refine Q0e (by exact Go.V.zK) ?_)); (try refine zs zz.out ?_)) | refine zo ?_ | omega | refine zt zz.out ?_ | fail)); try (all_goals clear zz))
    all_goals (refine ⟨_, .refl _, _, rfl, ?_⟩; (first | exact Sg.sub.refl _ | ((repeat (first | exact Sg.sub.refl _ | refine Sg.sub.set_both ?_ | refine Sg.sub.set_fresh ?_ (by first | assumption | exact Sg.set_none (by assumption) (by first | assumption | (apply Go.Cert.ne_of2a; assumption; assumption))))); done) | (intro y p hy; simp only [Sg.set_apply, Sg.del_apply] at hy ⊢; grind)))
  | false =>
    simp only [hb, Bool.false_eq_true, if_false] at h13 ⊢
    generalize s.take 1 = s1 at *
    simp only [ex0, Q3n, Q0s] at hz27 ⊢
    (refine vfun (fun _ => .no) Q0h Tryz.func174 (by kernel_rfl) ?_; simp only [Q0f, Tryz.f174, zv])
    (have zz := Bx.mk (j7 ui3 Z26 h27 hz27 ui24 ui23 ui9); (repeat' (first | with_reducible rfl | exact trivial | (with_reducible first | apply And.intro | apply Q0a | apply Q0b | refine Q0c (by decide +kernel) ?_ | intro _) | refine zaW zz.out ?_ | ((first | ((with_reducible refine (h42 _ _ (by assumption)).mono ?_); rintro _ S ⟨rfl, rfl⟩) | ((with_reducible refine (h13 _ (by exact Go.V.zK)).mono ?_); rintro _ S ⟨rfl, rfl⟩) | (refine Q0d (by exact Go.V.zK) ?_) | (refine Q0e (by exact Go.V.zK) ?_)); (try refine zs zz.out ?_)) | refine zo ?_ | omega | refine zt zz.out ?_ | fail)); try (all_goals clear zz))
    all_goals (refine ⟨_, .refl _, _, rfl, ?_⟩; (first | exact Sg.sub.refl _ | ((repeat (first | exact Sg.sub.refl _ | refine Sg.sub.set_both ?_ | refine Sg.sub.set_fresh ?_ (by first | assumption | exact Sg.set_none (by assumption) (by first | assumption | (apply Go.Cert.ne_of2a; assumption; assumption))))); done) | (intro y p hy; simp only [Sg.set_apply, Sg.del_apply] at hy ⊢; grind)))
theorem tks_get1 {l : List Tk} (h : 1 < l.length) : (tksA l).getD 1 [] = tkA (l.getD 1 (0, [], 0, 0)) := Y0a h
theorem p67 (ρ : Nat) (s : Rd) (σ : Sg) (hρ : σ ρ = some (rdA s)) (hl : WF s.l) : VCalls Tryz.prog 173 [.ref ρ 0] σ (fun x σ' => x = .tup [.agg [.i s.lit.1.1, .i s.lit.1.2.1, .s (bs s.lit.1.2.2)], .b s.lit.2.1] ∧ σ' = σ.set ρ (rdA s.lit.2.2)) := by
  obtain ⟨z24, h24, hz24⟩ := zero24
  have h20 := fun S (hS : S ρ = some (rdA s)) => p20 ρ s S hS
  have h21 := fun S (hS : S ρ = some (rdA s)) => p21 ρ s S hS hl.pos
  have h40 := fun S (hS : S ρ = some (rdA s)) es he => p40 ρ s .full [Q2i] es S he hS hl.pos (by simp)
  have h13 : ∀ S, S ρ = some (rdA s) → VCalls Tryz.prog 37 [.ref ρ 0, .s (bs Q7d)] S _ := fun S hS => p13 ρ s Q7d S hS hl.pos
  have hρ' := hρ
  have hlp := hl.pos
  rw [X8w] at h21
  unfold Rd.lit
  by_cases hc : s.c = 0
  · rw [if_neg (fun h => h hc)]
    simp only [decide_eq_true hc] at h20
    by_cases h3 : (hd s.l).1 = 3
    · rw [if_pos h3]
      simp only [X6c, h3] at h21 ⊢
      rw [Q8f] at hρ
      generalize (hd s.l).2.1 = t at *
      generalize (hd s.l).2.2.1 = n at *
      generalize (hd s.l).2.2.2 = a at *
      (refine vfun (fun _ => .no) Q0h Tryz.func173 (by kernel_rfl) ?_; simp only [Q0f, Tryz.f173, zv])
      repeat' (first | with_reducible rfl | exact .inr trivial | with_reducible apply And.intro | with_reducible apply Q0a | with_reducible apply Q0b | with_reducible refine Q0c (by decide +kernel) ?_ | with_reducible intro _ | ((first | (with_reducible first | refine .rs ?_ | refine .ds (by kernel_rfl) ?_ | refine .dg (by kernel_rfl) ?_ | refine .rg ?_ | refine .ite ?_ | refine .ret ?_ | refine .skip ?_ | refine .exit ?_ | refine .scope ?_ | refine .seq (.label ?_) | refine .block ?_ | refine .seq ?_) | (simp (disch := first | assumption | (apply zM; assumption; assumption) | (apply zP; assumption; assumption; (intro e; cases e; done)) | omega) only [w64, w8, tg_eq, Go.V.n1, Go.V.n2, Go.V.nn, zl, zm, zn, zp, zq, zr]) | ((with_reducible refine (h20 _ (by exact Go.V.zK)).mono ?_); rintro _ S ⟨rfl, rfl⟩) | ((with_reducible refine (h21 _ (by exact Go.V.zK)).mono ?_); rintro _ S ⟨rfl, rfl⟩) | (refine Q0d (by exact Go.V.zK) ?_) | (refine Q0e (by exact Go.V.zK) ?_)); (try simp only [vO, vQ, ↓vP, vE, vS, vB, vL, vF, vM, vN, Q0g, zb, zc, zd, ne_eq, not_false_eq_true, ze, zf, zj, zk, Z3, Q2b, Z4, Q5g, Z80, Q6t, Z47, Q6a, Z30, Q4l, Z56, Q6b, Z102, Q2v, Z9, Q2k, Z23, h24, hz24, hρ, Q0z, Q1y, Q1s, Own.cut, vT])) | with_reducible refine Q1h ?_ | with_reducible refine Q0y (fun _ _ => ?_) | with_reducible refine Q1l (fun _ => ?_) (fun _ => ?_) | omega | ((with_reducible first | refine Q5k ?_ | refine Q3l ?_ | refine Q1w ?_ | refine Q3m ?_ | refine Q0x ?_); simp only [vO, vQ, ↓vP, vE, vS, vB, vL, vF, vM, vN, Q0g, zb, zc, zd, ne_eq, not_false_eq_true, ze, zf, zj, zk, Z3, Q2b, Z4, Q5g, Z80, Q6t, Z47, Q6a, Z30, Q4l, Z56, Q6b, Z102, Q2v, Z9, Q2k, Z23, h24, hz24, hρ, Q0z, Q1y, Q1s, Own.cut, vT]))
      all_goals (exact Go.V.zE)
    · rw [if_neg h3]
      by_cases h4 : (hd s.l).1 = 4
      · rw [if_pos h4]
        simp only [X6c, h4] at h21 ⊢
        rw [Q8f] at hρ
        generalize (hd s.l).2.1 = t at *
        generalize (hd s.l).2.2.1 = n at *
        generalize (hd s.l).2.2.2 = a at *
        (refine vfun (fun _ => .no) Q0h Tryz.func173 (by kernel_rfl) ?_; simp only [Q0f, Tryz.f173, zv])
        repeat' (first | with_reducible rfl | exact .inr trivial | with_reducible apply And.intro | with_reducible apply Q0a | with_reducible apply Q0b | with_reducible refine Q0c (by decide +kernel) ?_ | with_reducible intro _ | ((first | (with_reducible first | refine .rs ?_ | refine .ds (by kernel_rfl) ?_ | refine .dg (by kernel_rfl) ?_ | refine .rg ?_ | refine .ite ?_ | refine .ret ?_ | refine .skip ?_ | refine .exit ?_ | refine .scope ?_ | refine .seq (.label ?_) | refine .block ?_ | refine .seq ?_) | (simp (disch := first | assumption | (apply zM; assumption; assumption) | (apply zP; assumption; assumption; (intro e; cases e; done)) | omega) only [w64, w8, tg_eq, Go.V.n1, Go.V.n2, Go.V.nn, zl, zm, zn, zp, zq, zr]) | ((with_reducible refine (h20 _ (by exact Go.V.zK)).mono ?_); rintro _ S ⟨rfl, rfl⟩) | ((with_reducible refine (h21 _ (by exact Go.V.zK)).mono ?_); rintro _ S ⟨rfl, rfl⟩) | (refine Q0d (by exact Go.V.zK) ?_) | (refine Q0e (by exact Go.V.zK) ?_)); (try simp only [vO, vQ, ↓vP, vE, vS, vB, vL, vF, vM, vN, Q0g, zb, zc, zd, ne_eq, not_false_eq_true, ze, zf, zj, zk, Z3, Q2b, Z4, Q5g, Z80, Q6t, Z47, Q6a, Z30, Q4l, Z56, Q6b, Z102, Q2v, Z9, Q2k, Z23, h24, hz24, hρ, Q0z, Q1y, Q1s, Own.cut, vT])) | with_reducible refine Q1h ?_ | with_reducible refine Q0y (fun _ _ => ?_) | with_reducible refine Q1l (fun _ => ?_) (fun _ => ?_) | omega | ((with_reducible first | refine Q5k ?_ | refine Q3l ?_ | refine Q1w ?_ | refine Q3m ?_ | refine Q0x ?_); simp only [vO, vQ, ↓vP, vE, vS, vB, vL, vF, vM, vN, Q0g, zb, zc, zd, ne_eq, not_false_eq_true, ze, zf, zj, zk, Z3, Q2b, Z4, Q5g, Z80, Q6t, Z47, Q6a, Z30, Q4l, Z56, Q6b, Z102, Q2v, Z9, Q2k, Z23, h24, hz24, hρ, Q0z, Q1y, Q1s, Own.cut, vT]))
        all_goals (exact Go.V.zE)
      · rw [if_neg h4]
        by_cases hm : 0 ≤ s.is [Q2i]
        · obtain ⟨_, hk, _⟩ := X1h hm
          have htl := hl.tail (show (hd s.l).1 ≠ 6 by omega)
          have htp := htl.1.pos
          have htl := htl.2
          have hlen : 1 < s.l.length := by omega
          have hg := tks_get1 hlen
          rw [X8w] at hg
          by_cases hn : (s.l.getD 1 (0, [], 0, 0)).1 = 3
          · rw [if_neg (by omega)]
            simp only [hn] at hg
            have hr2 : rdA s.next.next = .cells 80 [.sl .any (tksA s.l.tail.tail), .i s.d, .i s.c, .i s.a] := rfl
            simp only [hr2]
            rw [Q8f] at hρ
            generalize hd s.l = t at *
            generalize (s.l.getD 1 (0, [], 0, 0)).2.1 = t1 at *
            generalize (s.l.getD 1 (0, [], 0, 0)).2.2.1 = n1 at *
            generalize (s.l.getD 1 (0, [], 0, 0)).2.2.2 = a1 at *
            generalize s.is [Q2i] = m at *
            (refine vfun (fun _ => .no) Q0h Tryz.func173 (by kernel_rfl) ?_; simp only [Q0f, Tryz.f173, zv])
            repeat' (first | with_reducible rfl | exact .inr trivial | with_reducible apply And.intro | with_reducible apply Q0a | with_reducible apply Q0b | with_reducible refine Q0c (by decide +kernel) ?_ | with_reducible intro _ | ((first | (with_reducible first | refine .rs ?_ | refine .ds (by kernel_rfl) ?_ | refine .dg (by kernel_rfl) ?_ | refine .rg ?_ | refine .ite ?_ | refine .ret ?_ | refine .skip ?_ | refine .exit ?_ | refine .scope ?_ | refine .seq (.label ?_) | refine .block ?_ | refine .seq ?_) | (simp (disch := first | assumption | (apply zM; assumption; assumption) | (apply zP; assumption; assumption; (intro e; cases e; done)) | omega) only [w64, w8, tg_eq, Go.V.n1, Go.V.n2, Go.V.nn, zl, zm, zn, zp, zq, zr]) | ((with_reducible refine (h20 _ (by exact Go.V.zK)).mono ?_); rintro _ S ⟨rfl, rfl⟩) | ((with_reducible refine (h21 _ (by exact Go.V.zK)).mono ?_); rintro _ S ⟨rfl, rfl⟩) | ((with_reducible refine (h40 _ (by exact Go.V.zK) _ (by with_unfolding_all rfl)).mono ?_); rintro _ S ⟨rfl, rfl⟩) | (refine Q0d (by exact Go.V.zK) ?_) | (refine Q0e (by exact Go.V.zK) ?_)); (try simp only [vO, vQ, ↓vP, vE, vS, vB, vL, vF, vM, vN, Q0g, zb, zc, zd, ne_eq, not_false_eq_true, ze, zf, zj, zk, Z3, Q2b, Z4, Q5g, Z80, Q6t, Z47, Q6a, Z30, Q4l, Z56, Q6b, Z102, Q2v, Z9, Q2k, Z23, h24, hz24, Z75, Q4m, hρ, hg, Q0z, Q1y, Q1s, Own.cut, vT])) | with_reducible refine Q1h ?_ | with_reducible refine Q0y (fun _ _ => ?_) | with_reducible refine Q1l (fun _ => ?_) (fun _ => ?_) | omega | ((with_reducible first | refine Q5k ?_ | refine Q3l ?_ | refine Q1w ?_ | refine Q3m ?_ | refine Q0x ?_); simp only [vO, vQ, ↓vP, vE, vS, vB, vL, vF, vM, vN, Q0g, zb, zc, zd, ne_eq, not_false_eq_true, ze, zf, zj, zk, Z3, Q2b, Z4, Q5g, Z80, Q6t, Z47, Q6a, Z30, Q4l, Z56, Q6b, Z102, Q2v, Z9, Q2k, Z23, h24, hz24, Z75, Q4m, hρ, hg, Q0z, Q1y, Q1s, Own.cut, vT]))
            all_goals (exact Go.V.zE)
          · rw [if_pos (.inr hn), pass1]
            rw [Q8f] at hρ
            generalize hd s.l = t at *
            generalize hqq : s.l.getD 1 (0, [], 0, 0) = q at *
            generalize s.is [Q2i] = m at *
            generalize s.has Q7d = hb at *
            (refine vfun (fun _ => .no) Q0h Tryz.func173 (by kernel_rfl) ?_; simp only [Q0f, Tryz.f173, zv])
            repeat' (first | with_reducible rfl | exact .inr trivial | with_reducible apply And.intro | with_reducible apply Q0a | with_reducible apply Q0b | with_reducible refine Q0c (by decide +kernel) ?_ | with_reducible intro _ | ((with_reducible (rename_i b hb0 tt htt _ _ _ _ _; refine .dms (fun x => x = b) [(0, false), (1, false), (2, true), (3, true), (4, false)] (by decide) (by decide +kernel) ?_)); (simp only [vO, vQ, ↓vP, vE, vS, vB, vL, vF, vM, vN, Q0g, zb, zc, zd, ne_eq, not_false_eq_true, ze, zf, zj, zk, Z3, Q2b, Z4, Q5g, Z80, Q6t, Z47, Q6a, Z30, Q4l, Z56, Q6b, Z102, Q2v, Z9, Q2k, Z23, h24, hz24, Z75, Q4m, hρ, hg, Q0z, Q1y, Q1s, Own.cut, vT])) | ((first | (with_reducible first | refine .rs ?_ | refine .ds (by kernel_rfl) ?_ | refine .dg (by kernel_rfl) ?_ | refine .rg ?_ | refine .ite ?_ | refine .ret ?_ | refine .skip ?_ | refine .exit ?_ | refine .scope ?_ | refine .seq (.label ?_) | refine .block ?_ | refine .seq ?_) | (simp (disch := first | assumption | (apply zM; assumption; assumption) | (apply zP; assumption; assumption; (intro e; cases e; done)) | omega) only [w64, w8, tg_eq, Go.V.n1, Go.V.n2, Go.V.nn, zl, zm, zn, zp, zq, zr]) | ((with_reducible refine (h20 _ (by exact Go.V.zK)).mono ?_); rintro _ S ⟨rfl, rfl⟩) | ((with_reducible refine (h21 _ (by exact Go.V.zK)).mono ?_); rintro _ S ⟨rfl, rfl⟩) | ((with_reducible refine (h40 _ (by exact Go.V.zK) _ (by with_unfolding_all rfl)).mono ?_); rintro _ S ⟨rfl, rfl⟩) | ((with_reducible refine (h13 _ (by exact Go.V.zK)).mono ?_); rintro _ S ⟨rfl, rfl⟩) | with_reducible refine Q0j (fun _ _ => rfl) ?_ | (refine Q0j (by intro β h; first | (rcases h with h | h <;> subst h <;> (simp (disch := first | assumption | (apply zM; assumption; assumption) | (apply zP; assumption; assumption; (intro e; cases e; done)) | omega) only [zm, zn, zp, zq, zr])) | (subst h; (simp (disch := first | assumption | (apply zM; assumption; assumption) | (apply zP; assumption; assumption; (intro e; cases e; done)) | omega) only [zm, zn, zp, zq, zr]))) ?_) | (refine Q0d (o' := some (.cells 23 [.i 0, .i 0, .s (bs [])])) (Q8r (by assumption) (by exact Go.V.zK)) ?_) | (refine Q0d (by exact Go.V.zK) ?_) | (refine Q0e (by exact Go.V.zK) ?_)); (try simp only [vO, vQ, ↓vP, vE, vS, vB, vL, vF, vM, vN, Q0g, zb, zc, zd, ne_eq, not_false_eq_true, ze, zf, zj, zk, Z3, Q2b, Z4, Q5g, Z80, Q6t, Z47, Q6a, Z30, Q4l, Z56, Q6b, Z102, Q2v, Z9, Q2k, Z23, h24, hz24, Z75, Q4m, hρ, hg, Q0z, Q1y, Q1s, Own.cut, vT])) | with_reducible refine Q1h ?_ | with_reducible refine Q0y (fun _ _ => ?_) | with_reducible refine Q1l (fun _ => ?_) (fun _ => ?_) | omega | ((with_reducible first | refine Q5k ?_ | refine Q3l ?_ | refine Q1w ?_ | refine Q3m ?_ | refine Q0x ?_); simp only [vO, vQ, ↓vP, vE, vS, vB, vL, vF, vM, vN, Q0g, zb, zc, zd, ne_eq, not_false_eq_true, ze, zf, zj, zk, Z3, Q2b, Z4, Q5g, Z80, Q6t, Z47, Q6a, Z30, Q4l, Z56, Q6b, Z102, Q2v, Z9, Q2k, Z23, h24, hz24, Z75, Q4m, hρ, hg, Q0z, Q1y, Q1s, Own.cut, vT]))
            all_goals (exact Go.V.zE)
        · rw [if_pos (.inl (by omega)), pass1]
          rw [Q8f] at hρ
          generalize hd s.l = t at *
          generalize s.is [Q2i] = m at *
          generalize s.has Q7d = hb at *
          (refine vfun (fun _ => .no) Q0h Tryz.func173 (by kernel_rfl) ?_; simp only [Q0f, Tryz.f173, zv])
          repeat' (first | with_reducible rfl | exact .inr trivial | with_reducible apply And.intro | with_reducible apply Q0a | with_reducible apply Q0b | with_reducible refine Q0c (by decide +kernel) ?_ | with_reducible intro _ | ((with_reducible (rename_i b hb0 tt htt _ _ _ _; refine .dms (fun x => x = b) [(0, false), (1, false), (2, true), (3, true), (4, false)] (by decide) (by decide +kernel) ?_)); (simp only [vO, vQ, ↓vP, vE, vS, vB, vL, vF, vM, vN, Q0g, zb, zc, zd, ne_eq, not_false_eq_true, ze, zf, zj, zk, Z3, Q2b, Z4, Q5g, Z80, Q6t, Z47, Q6a, Z30, Q4l, Z56, Q6b, Z102, Q2v, Z9, Q2k, Z23, h24, hz24, Z75, Q4m, hρ, Q0z, Q1y, Q1s, Own.cut, vT])) | ((first | (with_reducible first | refine .rs ?_ | refine .ds (by kernel_rfl) ?_ | refine .dg (by kernel_rfl) ?_ | refine .rg ?_ | refine .ite ?_ | refine .ret ?_ | refine .skip ?_ | refine .exit ?_ | refine .scope ?_ | refine .seq (.label ?_) | refine .block ?_ | refine .seq ?_) | (simp (disch := first | assumption | (apply zM; assumption; assumption) | (apply zP; assumption; assumption; (intro e; cases e; done)) | omega) only [w64, w8, tg_eq, Go.V.n1, Go.V.n2, Go.V.nn, zl, zm, zn, zp, zq, zr]) | ((with_reducible refine (h20 _ (by exact Go.V.zK)).mono ?_); rintro _ S ⟨rfl, rfl⟩) | ((with_reducible refine (h21 _ (by exact Go.V.zK)).mono ?_); rintro _ S ⟨rfl, rfl⟩) | ((with_reducible refine (h40 _ (by exact Go.V.zK) _ (by with_unfolding_all rfl)).mono ?_); rintro _ S ⟨rfl, rfl⟩) | ((with_reducible refine (h13 _ (by exact Go.V.zK)).mono ?_); rintro _ S ⟨rfl, rfl⟩) | with_reducible refine Q0j (fun _ _ => rfl) ?_ | (refine Q0j (by intro β h; first | (rcases h with h | h <;> subst h <;> (simp (disch := first | assumption | (apply zM; assumption; assumption) | (apply zP; assumption; assumption; (intro e; cases e; done)) | omega) only [zm, zn, zp, zq, zr])) | (subst h; (simp (disch := first | assumption | (apply zM; assumption; assumption) | (apply zP; assumption; assumption; (intro e; cases e; done)) | omega) only [zm, zn, zp, zq, zr]))) ?_) | (refine Q0d (o' := some (.cells 23 [.i 0, .i 0, .s (bs [])])) (Q8r (by assumption) (by exact Go.V.zK)) ?_) | (refine Q0d (by exact Go.V.zK) ?_) | (refine Q0e (by exact Go.V.zK) ?_)); (try simp only [vO, vQ, ↓vP, vE, vS, vB, vL, vF, vM, vN, Q0g, zb, zc, zd, ne_eq, not_false_eq_true, ze, zf, zj, zk, Z3, Q2b, Z4, Q5g, Z80, Q6t, Z47, Q6a, Z30, Q4l, Z56, Q6b, Z102, Q2v, Z9, Q2k, Z23, h24, hz24, Z75, Q4m, hρ, Q0z, Q1y, Q1s, Own.cut, vT])) | with_reducible refine Q1h ?_ | with_reducible refine Q0y (fun _ _ => ?_) | with_reducible refine Q1l (fun _ => ?_) (fun _ => ?_) | omega | ((with_reducible first | refine Q5k ?_ | refine Q3l ?_ | refine Q1w ?_ | refine Q3m ?_ | refine Q0x ?_); simp only [vO, vQ, ↓vP, vE, vS, vB, vL, vF, vM, vN, Q0g, zb, zc, zd, ne_eq, not_false_eq_true, ze, zf, zj, zk, Z3, Q2b, Z4, Q5g, Z80, Q6t, Z47, Q6a, Z30, Q4l, Z56, Q6b, Z102, Q2v, Z9, Q2k, Z23, h24, hz24, Z75, Q4m, hρ, Q0z, Q1y, Q1s, Own.cut, vT]))
          all_goals (exact Go.V.zE)
  · rw [if_pos hc]
    simp only [decide_eq_false hc] at h20
    rw [Q8f] at hρ
    (refine vfun (fun _ => .no) Q0h Tryz.func173 (by kernel_rfl) ?_; simp only [Q0f, Tryz.f173, zv])
    (have zz := Bx.mk (j5 ui3 ui4 ui80 ui47 (j9 ui30 ui56 Q0v ui9 Z23 h24 hz24 hρ @Q0z)); (repeat' (first | with_reducible rfl | exact trivial | (with_reducible first | apply And.intro | apply Q0a | apply Q0b | refine Q0c (by decide +kernel) ?_ | intro _) | refine zaW zz.out ?_ | ((first | ((with_reducible refine (h20 _ (by exact Go.V.zK)).mono ?_); rintro _ S ⟨rfl, rfl⟩) | (refine Q0d (by exact Go.V.zK) ?_) | (refine Q0e (by exact Go.V.zK) ?_)); (try refine zs zz.out ?_)) | refine zo ?_ | omega | refine zt zz.out ?_ | fail)); try (all_goals clear zz))
    rw [Sg.set_id hρ']
    all_goals (exact Go.V.zE)
def X0v (f : FuncId) (F : Pr) (d : Int) : Prop := ∀ (ρ : Nat) (s : Rd) (σ : Sg), σ ρ = some (rdA s) → WF s.l → s.d = d → VCalls Tryz.prog f [.ref ρ 0] σ (fun x σ' => x = .agg (exA (F s).1) ∧ σ' = σ.set ρ (rdA (F s).2))
theorem Q5i (e : Ex) : exK .any e = exA e := by cases e; rw [Q6v, Q3n]
theorem rdA_down1 (s : Rd) : rdA { s with d := s.d + 1 } = .cells 80 [.sl .any (tksA s.l), .i (s.d + 1), .i s.c, .i s.a] := rfl
theorem rdA_up (s : Rd) : rdA s.up = .cells 80 [.sl .any (tksA s.l), .i (s.d - 1), .i s.c, .i s.a] := rfl
theorem p63 (ρ : Nat) (s : Rd) (σ : Sg) (f : FuncId) (F : Pr) (hF : s.d < 10 → X0v f F (s.d + 1)) (hN : Nice F) (hρ : σ ρ = some (rdA s)) (hl : WF s.l) (hd : 0 ≤ s.d ∧ s.d ≤ 10) : VCalls Tryz.prog 169 [.ref ρ 0, .bm f [.ref ρ 0]] σ (fun x σ' => x = .agg (exA (Q1u F s).1) ∧ σ' = σ.set ρ (rdA (Q1u F s).2)) := by
  refine Q9j ?_
  obtain ⟨z27, h27, hz27⟩ := Q6w
  simp only [ex0, Q3n, Q0s] at hz27
  have hlp := hl.pos
  have hs1 : ({ s with d := s.d + 1 } : Rd).l = s.l := rfl
  have h14 := fun S hS => p14 ρ { s with d := s.d + 1 } 10 S hS hlp
  have h20 := fun S (hS : S ρ = some (rdA s.down)) => p20 ρ s.down S hS
  obtain ⟨q1, q2, q3, q4⟩ := down_ok hl
  unfold Q1u
  by_cases hdp : s.d + 1 > 10
  · have hdn : s.down = Rd.fail { s with d := s.d + 1 } 10 := if_pos hdp
    have hc : ¬ s.down.c = 0 := by
      rw [hdn]
      unfold Rd.fail
      split
      · exact (by decide : ¬ (10 : Int) = 0)
      · assumption
    rw [if_neg hc]
    simp only [decide_eq_false hc] at h20
    rw [← hdn] at h14
    simp only [rdA_down1] at h14
    simp only [ex0, Q3n, Q0s, rdA_up, Q8f] at h14 h20 hρ ⊢
    generalize s.down = s2 at *
    (refine vfun (fun _ => .no) Q0h Tryz.func169 (by kernel_rfl) ?_; simp only [Q0f, Tryz.f169, zv])
    (have zz := Bx.mk (j9 ui3 Z26 h27 hz27 ui80 ui24 ui23 ui9 hρ); (repeat' (first | with_reducible rfl | exact trivial | (with_reducible first | apply And.intro | apply Q0a | apply Q0b | refine Q0c (by decide +kernel) ?_ | intro _) | refine zaW zz.out ?_ | ((first | ((with_reducible refine (h14 _ (by exact Go.V.zK)).mono ?_); rintro _ S ⟨rfl, rfl⟩) | ((with_reducible refine (h20 _ (by exact Go.V.zK)).mono ?_); rintro _ S ⟨rfl, rfl⟩) | (refine Q0d (by exact Go.V.zK) ?_) | (refine Q0e (by exact Go.V.zK) ?_)); (try refine zs zz.out ?_)) | refine zo ?_ | omega | refine zt zz.out ?_ | fail)); try (all_goals clear zz))
    all_goals (refine ⟨_, .refl _, _, rfl, ?_⟩; (first | exact Sg.sub.refl _ | ((repeat (first | exact Sg.sub.refl _ | refine Sg.sub.set_both ?_ | refine Sg.sub.set_fresh ?_ (by first | assumption | exact Sg.set_none (by assumption) (by first | assumption | (apply Go.Cert.ne_of2a; assumption; assumption))))); done) | (intro y p hy; simp only [Sg.set_apply, Sg.del_apply] at hy ⊢; grind)))
  · have hdn : s.down = { s with d := s.d + 1 } := if_neg hdp
    have hr := hF (by omega)
    have hS : rdA s.down = .cells 80 [.sl .any (tksA s.l), .i (s.d + 1), .i s.c, .i s.a] := by rw [hdn]; rfl
    by_cases hc : s.down.c = 0
    · rw [if_pos hc]
      simp only [decide_eq_true hc] at h20
      have hf := fun S hS => hr ρ s.down S hS q2 (by rw [q1])
      have o := hN s.down q2
      have hFl := Q0u (F s.down).1
      have hFo := Q1n (F s.down).1
      have hFt := Q0t (F s.down).1
      have hFd := Q1a (F s.down).1
      have hk := Q5i (F s.down).1
      have hd3 := o.d
      rw [q1] at hd3
      simp only [hS] at h20 hf
      generalize (F s.down).1 = e at *
      generalize (F s.down).2 = s3 at *
      generalize hE : exA e = E at *
      simp only [rdA_up] at hf hρ ⊢
      simp only [Q8f] at hf hρ ⊢
      (refine vfun (fun _ => .no) Q0h Tryz.func169 (by kernel_rfl) ?_; simp only [Q0f, Tryz.f169, zv])
      (have zz := Bx.mk (j6 ui3 Z26 h27 hz27 ui80 (j9 ui24 ui23 ui9 hρ hFl hFo hFt hFd @List.append_nil.{0})); (repeat' (first | with_reducible rfl | exact trivial | (with_reducible first | apply And.intro | apply Q0a | apply Q0b | refine Q0c (by decide +kernel) ?_ | intro _) | refine zaW zz.out ?_ | ((first | ((with_reducible refine (h20 _ (by exact Go.V.zK)).mono ?_); rintro _ S ⟨rfl, rfl⟩) | ((with_reducible refine (hf _ (by exact Go.V.zK)).mono ?_); rintro _ S ⟨rfl, rfl⟩) | (refine Q0d (by exact Go.V.zK) ?_) | (refine Q0e (by exact Go.V.zK) ?_)); (try refine zs zz.out ?_)) | refine zo ?_ | omega | refine zt zz.out ?_ | fail)); try (all_goals clear zz))
      refine ⟨_, .refl _, .any, by rw [hk], ?_⟩
      (exact Go.V.zu)
    · rw [if_neg hc]
      simp only [decide_eq_false hc] at h20
      simp only [hS] at h20
      have hu : rdA s.down.up = .cells 80 [.sl .any (tksA s.l), .i (s.d + 1 - 1), .i s.c, .i s.a] := by rw [hdn]; rfl
      simp only [hu, ex0, Q3n, Q0s, Q8f] at hρ ⊢
      (refine vfun (fun _ => .no) Q0h Tryz.func169 (by kernel_rfl) ?_; simp only [Q0f, Tryz.f169, zv])
      (have zz := Bx.mk (j9 ui3 Z26 h27 hz27 ui80 ui24 ui23 ui9 hρ); (repeat' (first | with_reducible rfl | exact trivial | (with_reducible first | apply And.intro | apply Q0a | apply Q0b | refine Q0c (by decide +kernel) ?_ | intro _) | refine zaW zz.out ?_ | ((first | ((with_reducible refine (h20 _ (by exact Go.V.zK)).mono ?_); rintro _ S ⟨rfl, rfl⟩) | (refine Q0d (by exact Go.V.zK) ?_) | (refine Q0e (by exact Go.V.zK) ?_)); (try refine zs zz.out ?_)) | refine zo ?_ | omega | refine zt zz.out ?_ | fail)); try (all_goals clear zz))
      all_goals (refine ⟨_, .refl _, _, rfl, ?_⟩; (first | exact Sg.sub.refl _ | ((repeat (first | exact Sg.sub.refl _ | refine Sg.sub.set_both ?_ | refine Sg.sub.set_fresh ?_ (by first | assumption | exact Sg.set_none (by assumption) (by first | assumption | (apply Go.Cert.ne_of2a; assumption; assumption))))); done) | (intro y p hy; simp only [Sg.set_apply, Sg.del_apply] at hy ⊢; grind)))
end Go.Proofs.YtjdapkelojdefaaGreatDoor
namespace Go.V
theorem AVw.rows {k : Own} {es es' : List (List AV)} (hl : es.length = es'.length) (h : ∀ (i : Nat) (e e' : List AV), es[i]? = some e → es'[i]? = some e' → e.length = e'.length ∧ ∀ (j : Nat) (x x' : AV), e[j]? = some x → e'[j]? = some x' → AVw x x') : AVw (.sl k es) (.sl .any es') := fun κ v hr => by
  have other : ∀ i e', es'[i]? = some e' → ∃ e, es[i]? = some e := fun i e' he => by
    have hi : i < es'.length := by
      rcases Nat.lt_or_ge i es'.length with h' | h'
      · exact h'
      · rw [List.getElem?_eq_none h'] at he; cases he
    exact ⟨_, List.getElem?_eq_getElem (by omega)⟩
  cases hr with
  | slnil k hk =>
    obtain rfl : es' = [] := List.eq_nil_of_length_eq_zero hl.symm
    exact .slnil _ trivial
  | slemp k hk a c =>
    obtain rfl : es' = [] := List.eq_nil_of_length_eq_zero hl.symm
    exact .slemp _ (.inr rfl) a c
  | sl k es a n c sz f hk hn hc hs hz hr hx =>
    refine .sl .any es' a n c sz f trivial (by omega) hc hs (fun i e' he' => ?_) hr (fun i j e' x' he' hx' => ?_)
    · obtain ⟨e, he⟩ := other i e' he'
      rw [← (h i e e' he he').1]
      exact hz i e he
    · obtain ⟨e, he⟩ := other i e' he'
      have hj : j < e.length := by
        rw [(h i e e' he he').1]
        rcases Nat.lt_or_ge j e'.length with h' | h'
        · exact h'
        · rw [List.getElem?_eq_none h'] at hx'; cases hx'
      exact (h i e e' he he').2 j _ _ (List.getElem?_eq_getElem hj) hx' κ _ (hx i j e _ he (List.getElem?_eq_getElem hj))
end Go.V
namespace Go.Parse
open Go.V Go.Lex Go.Proofs.YtjdapkelojdefaaGreatDoor
inductive Sp
  | base (e : Ex)
  | op (k : Int) (a : Sp) (f : Ex)
def spA : Sp → List AV
  | .base e => exA e
  | .op k a f => [.i 3, .i k, .s (bs []), .s (bs []), .i 0, .i 0, .s (bs []), .sl .full [spA a, exA f]]
def Sp.ex : Sp → Ex
  | .base e => e
  | .op k a f => opE k a.ex f
theorem X7h (a : Sp) : (spA a).length = 8 := by
  cases a with
  | base e => exact Q0u e
  | op k a f => rfl
theorem spA_one (a : Sp) : (spA a).all AV.one = true := by
  cases a with
  | base e => exact Q1n e
  | op k a f => rfl
theorem spA_take (a : Sp) : (spA a).take 8 = spA a := List.take_of_length_le (by rw [X7h]; omega)
theorem spA_drop (a : Sp) : (spA a).drop 8 = [] := List.drop_of_length_le (by rw [X7h]; omega)
theorem spA_cells : ∀ (a : Sp) (j : Nat) (x x' : AV), (spA a)[j]? = some x → (exA a.ex)[j]? = some x' → AVw x x'
  | .base e, j, x, x', h1, h2 => by
    have : some x = some x' := h1.symm.trans h2
    cases this
    exact AVw.refl _
  | .op k a f, j, x, x', h1, h2 => by
    rw [Sp.ex, Q6v] at h2
    rw [spA] at h1
    match j with
    | 0 => cases h1; cases h2; exact AVw.refl _
    | 1 => cases h1; cases h2; exact AVw.refl _
    | 2 => cases h1; cases h2; exact AVw.refl _
    | 3 => cases h1; cases h2; exact AVw.refl _
    | 4 => cases h1; cases h2; exact AVw.refl _
    | 5 => cases h1; cases h2; exact AVw.refl _
    | 6 => cases h1; cases h2; exact AVw.refl _
    | 7 =>
      cases h1
      cases h2
      rw [Q2n, Q2n, Q0s]
      refine AVw.rows rfl (fun i e e' g1 g2 => ?_)
      match i with
      | 0 =>
        cases g1; cases g2
        exact ⟨by rw [X7h, Q0u], fun j x x' k1 k2 => spA_cells a j x x' k1 k2⟩
      | 1 =>
        cases g1; cases g2
        refine ⟨rfl, fun j x x' k1 k2 => ?_⟩
        have : some x = some x' := k1.symm.trans k2
        cases this
        exact AVw.refl _
      | i + 2 => simp at g1
    | j + 8 => simp at h1
theorem rowL_no {F : Pr} {first : Int} {ws : List By} {n : Nat} {e : Ex} {s : Rd} (h : ¬ 0 ≤ s.is ws) : rowL F first ws n e s = (e, s) := by
  cases n with
  | zero => rfl
  | succ n => rw [rowL, if_neg h]
theorem rowL_yes {F : Pr} (hN : Nice F) {first : Int} {ws : List By} {e : Ex} {s : Rd} (hl : WF s.l) (h : 0 ≤ s.is ws) : rowL F first ws s.l.length e s = rowL F first ws (F s.next).2.l.length (opE (first + s.is ws) e (F s.next).1) (F s.next).2 ∧ (F s.next).2.l.length < s.l.length := by
  obtain ⟨h1, h2, _⟩ := X1h h
  have o1 := X0u hl h
  have o2 := hN s.next o1.wf
  have ht : s.next.l.length + 1 = s.l.length := (hl.tail (by omega)).2
  have hle := o2.le
  have hp := o2.wf.pos
  obtain ⟨m, hm⟩ : ∃ m, s.l.length = m + 1 := ⟨s.l.length - 1, by omega⟩
  rw [hm, rowL, if_pos h]
  exact ⟨X6w hN first ws _ _ _ _ o2.wf (by omega) (Nat.le_refl _), by omega⟩
theorem AVw.sp (a : Sp) : AVw (.agg (spA a)) (.agg (exA a.ex)) := AVw.agg (by rw [X7h, Q0u]) (fun i x x' h1 h2 => spA_cells a i x x' h1 h2)
end Go.Parse
namespace Go.Proofs.YtjdapkelojdefaaGreatDoor
open Go Go.V Go.Lex Go.Parse
theorem lose_sp {f : FuncId} {args : List AV} {e : Ex} {σ S : Sg} (h : VCalls Tryz.prog f args σ (fun x σ' => ∃ a : Sp, (x = .agg (spA a) ∧ a.ex = e) ∧ S.sub σ')) : VCalls Tryz.prog f args σ (fun x σ' => x = .agg (exA e) ∧ σ' = S) :=
  h.lose fun x σ' hx => by
    obtain ⟨a, ⟨rfl, rfl⟩, hs⟩ := hx
    exact ⟨_, S, AVw.sp a, hs, rfl, rfl⟩
theorem p18 (ρ : Nat) (s : Rd) (σ : Sg) (f : FuncId) (F : Pr) (first : Int) (o : Own) (ws : List By) (es : List (List AV)) (he : es = strs ws) (hF : X0v f F s.d) (hN : Nice F) (hρ : σ ρ = some (rdA s)) (hl : WF s.l) (hf : 0 ≤ first ∧ first ≤ 100) (hw : ws.length ≤ 100) : VCalls Tryz.prog 83 [.ref ρ 0, .bm f [.ref ρ 0], .i first, .sl o es] σ (fun x σ' => x = .agg (exA (row F first ws s).1) ∧ σ' = σ.set ρ (rdA (row F first ws s).2)) := by
  subst he
  refine lose_sp ?_
  obtain ⟨z27, h27, hz27⟩ := Q6w
  simp only [ex0, Q3n, Q0s] at hz27
  have hf := fun S hS => hF ρ s S hS hl rfl
  have o1 := hN s hl
  have hFl := Q0u (F s).1
  have hFo := Q1n (F s).1
  have hFt := Q0t (F s).1
  have hFd := Q1a (F s).1
  have h22 := fun s' S (hS : S ρ = some (rdA s')) (hl' : WF s'.l) => p22 ρ s' o ws _ S rfl hS hl'.pos (by omega)
  (refine vfun (fun _ => .no) Q0h Tryz.func83 (by kernel_rfl) ?_; simp only [Q0f, Tryz.f83, zv])
  (have zz := Bx.mk (j4 ui3 Z26 h27 (j9 hz27 ui24 ui23 ui9 hFl hFo hFt hFd @List.append_nil.{0})); (repeat' (first | with_reducible rfl | exact trivial | (with_reducible first | apply And.intro | apply Q0a | apply Q0b | refine Q0c (by decide +kernel) ?_ | intro _) | refine zaW zz.out ?_ | ((first | ((with_reducible refine (hf _ (by exact Go.V.zK)).mono ?_); rintro _ S ⟨rfl, rfl⟩) | ((with_reducible refine (h22 (F s).2 _ (by exact Go.V.zK) o1.wf).mono ?_); rintro _ S ⟨rfl, rfl⟩) | (refine Q0d (by exact Go.V.zK) ?_) | (refine Q0e (by exact Go.V.zK) ?_)); (try refine zs zz.out ?_)) | refine zo ?_ | omega | refine zt zz.out ?_ | fail)); try (all_goals clear zz))
  rename_i x8 h8 x9 h9 hne hne2
  have hlt := Y0c
  refine VW.loop3 (Sp.base (F s).1) (F s).2 () (fun a s' _ => rowL F first ws s'.l.length a.ex s' = row F first ws s ∧ WF s'.l ∧ s'.d = s.d) (fun a s' _ => [(0, .ref ρ 0), (1, .bm f [.ref ρ 0]), (2, .i first), (3, .sl o (strs ws)), (8, .ref x8 0), (9, .ref x9 0), (10, .i (s'.is ws))]) (fun a s' _ => ((σ.set ρ (rdA (s'.pass ws))).set x8 (.cells 26 [AV.i 0, AV.i 0, AV.s (bs []), AV.s (bs []), AV.i 0, AV.i 0, AV.s (bs []), AV.sl Own.nil []])).set x9 (.cells 26 (spA a))) (fun _ s' _ => s'.l.length) ⟨rfl, o1.wf, o1.d⟩ ?_ ?_ ?_
  · have hsp : spA (Sp.base (F s).1) = exA (F s).1 := rfl
    rw [hsp]
    generalize rdA ((F s).2.pass ws) = Z
    have h8ρ := Go.Cert.ne_of2a h8 hρ
    have h9ρ := Go.Cert.ne_of2a h9 hρ
    intro y p hy
    simp only [Sg.set_apply, Sg.del_apply] at hy ⊢
    grind
  · simp only [vO, vQ, ↓vP, vE, vS, vB, vL, vF, vM, vN, Q0g, zb, zc, zd, ne_eq, not_false_eq_true, ze, zf, zj, zk, vT]
    all_goals rfl
  rintro a s' _ ⟨g1, g2, g3⟩
  have h8ρ := Go.Cert.ne_of2a h8 hρ
  have h9ρ := Go.Cert.ne_of2a h9 hρ
  have ha1 := X7h a
  have ha2 := spA_one a
  have ha3 := spA_take a
  have ha4 := spA_drop a
  by_cases hk : 0 ≤ s'.is ws
  · have hps : s'.pass ws = s'.next := if_pos hk
    have hlt1 := (hlt s' ws).2
    obtain ⟨k1, k2⟩ := rowL_yes hN (first := first) (e := a.ex) g2 hk
    have o2 := X0u g2 hk
    have hf2 := fun S hS => hF ρ s'.next S hS o2.wf g3
    have o3 := hN s'.next o2.wf
    have hFl2 := Q0u (F s'.next).1
    have hFo2 := Q1n (F s'.next).1
    have hFt2 := Q0t (F s'.next).1
    have hFd2 := Q1a (F s'.next).1
    have h222 := fun S hS => h22 (F s'.next).2 S hS o3.wf
    have hd3 : (F s'.next).2.d = s.d := o3.d.trans g3
    rw [hps]
    rw [g1] at k1
    generalize hE : (F s'.next).1 = e2 at *
    generalize (F s'.next).2 = s2 at *
    generalize s'.next = s1 at *
    generalize s'.is ws = kk at *
    (have zz := Bx.mk (j8 ui3 Z26 h27 hz27 ui24 ui23 ui9 (j9 ha1 ha2 ha3 ha4 hFl2 hFo2 hFt2 hFd2 @List.append_nil.{0})); (repeat' (first | with_reducible rfl | exact trivial | (with_reducible first | apply And.intro | apply Q0a | apply Q0b | refine Q0c (by decide +kernel) ?_ | intro _) | refine zaW zz.out ?_ | ((first | ((with_reducible refine (hf2 _ (by exact Go.V.zK)).mono ?_); rintro _ S ⟨rfl, rfl⟩) | ((with_reducible refine (h222 _ (by exact Go.V.zK)).mono ?_); rintro _ S ⟨rfl, rfl⟩) | (refine Q0d (by exact Go.V.zK) ?_) | (refine Q0e (by exact Go.V.zK) ?_)); (try refine zs zz.out ?_)) | refine zo ?_ | omega | refine zt zz.out ?_ | fail)); try (all_goals clear zz))
    rename_i x11 h11 n1 n2 n3
    refine ⟨.op (first + kk) a e2, s2, (), ⟨⟨k1.symm, o3.wf, hd3⟩, k2⟩, ?_, rfl⟩
    have hsp : spA (Sp.op (first + kk) a e2) = [.i 3, .i (first + kk), .s (bs []), .s (bs []), .i 0, .i 0, .s (bs []), .sl .full [spA a, exA e2]] := rfl
    rw [hsp]
    clear hf2 h222 h22 hF hN
    generalize rdA (s2.pass ws) = Z
    intro y p hy
    simp only [Sg.set_apply, Sg.del_apply] at hy ⊢
    grind
  · have hps : s'.pass ws = s' := if_neg hk
    rw [rowL_no hk] at g1
    rw [hps]
    have g2' : (row F first ws s).1 = a.ex := by rw [← g1]
    have g3' : (row F first ws s).2 = s' := by rw [← g1]
    rw [g2', g3']
    generalize s'.is ws = kk at *
    (have zz := Bx.mk (j3 ui3 Z26 (j9 h27 hz27 ui24 ui23 ui9 ha1 ha2 ha3 ha4)); (repeat' (first | with_reducible rfl | exact trivial | (with_reducible first | apply And.intro | apply Q0a | apply Q0b | refine Q0c (by decide +kernel) ?_ | intro _) | refine zaW zz.out ?_ | ((first | (refine Q0d (by exact Go.V.zK) ?_) | (refine Q0e (by exact Go.V.zK) ?_)); (try refine zs zz.out ?_)) | refine zo ?_ | omega | refine zt zz.out ?_ | fail)); try (all_goals clear zz))
    refine ⟨_, .refl _, a, ⟨rfl, rfl⟩, ?_⟩
    clear h22 hF hN hf
    generalize rdA s' = Z
    intro y p hy
    simp only [Sg.set_apply, Sg.del_apply] at hy ⊢
    grind
structure RD (D : Dp) (d : Int) : Prop where
  fac : X0v 197 D.fac d
  not : X0v 135 D.not d
  ex : X0v 35 D.ex d
theorem q75 (D : Dp) (d : Int) (hD : d < 10 → RD D (d + 1)) (hN : D.Nice) (hd : 0 ≤ d ∧ d ≤ 10) : X0v 197 (facL D) d := by
  intro ρ s σ hρ hl hs
  subst hs
  refine Q9j ?_
  obtain ⟨z27, h27, hz27⟩ := Q6w
  obtain ⟨z24, h24, hz24⟩ := zero24
  simp only [ex0, Q3n, Q0s] at hz27
  have o1 := ok_lit hl
  have h67 := fun S hS => p67 ρ s S hS hl
  have h22 := fun S hS es he => p22 ρ s.lit.2.2 .full [Q2i, [40]] es S he hS o1.wf.pos (by simp)
  rw [Y0m] at h22
  unfold facL
  cases hb : s.lit.2.1 with
  | true =>
    rw [if_pos rfl]
    simp only [hb] at h67
    simp only [Q3n, Q0s]
    generalize s.lit.1.1 = va at *
    generalize s.lit.1.2.1 = vb at *
    generalize s.lit.1.2.2 = vc at *
    generalize s.lit.2.2 = s1 at *
    (refine vfun (fun _ => .no) Q0h Tryz.func197 (by kernel_rfl) ?_; simp only [Q0f, Tryz.f197, zv])
    (have zz := Bx.mk (j2 ui3 (j9 ui4 Z26 h27 hz27 ui24 Z23 h24 hz24 ui9)); (repeat' (first | with_reducible rfl | exact trivial | (with_reducible first | apply And.intro | apply Q0a | apply Q0b | refine Q0c (by decide +kernel) ?_ | intro _) | refine zaW zz.out ?_ | ((first | ((with_reducible refine (h67 _ (by exact Go.V.zK)).mono ?_); rintro _ S ⟨rfl, rfl⟩) | (refine Q0d (by exact Go.V.zK) ?_) | (refine Q0e (by exact Go.V.zK) ?_)); (try refine zs zz.out ?_)) | refine zo ?_ | omega | refine zt zz.out ?_ | fail)); try (all_goals clear zz))
    all_goals (refine ⟨_, .refl _, _, rfl, ?_⟩; (first | exact Sg.sub.refl _ | ((repeat (first | exact Sg.sub.refl _ | refine Sg.sub.set_both ?_ | refine Sg.sub.set_fresh ?_ (by first | assumption | exact Sg.set_none (by assumption) (by first | assumption | (apply Go.Cert.ne_of2a; assumption; assumption))))); done) | (intro y p hy; simp only [Sg.set_apply, Sg.del_apply] at hy ⊢; grind)))
  | false =>
    rw [if_neg (by simp)]
    simp only [hb] at h67
    by_cases h0 : s.lit.2.2.is [Q2i, [40]] = 0
    · rw [if_pos h0]
      rw [if_pos (by omega)] at h22
      simp only [h0] at h22
      have o2 := X0u (ws := [Q2i, [40]]) o1.wf (by omega)
      have hdd : s.lit.2.2.next.d = s.d := o1.d
      have h63 := fun S hS => p63 ρ s.lit.2.2.next S 197 D.fac (fun h => by rw [hdd] at h ⊢; exact (hD h).fac) hN.fac hS o2.wf (by rw [hdd]; exact hd)
      generalize (Q1u D.fac s.lit.2.2.next).1 = e at *
      generalize (Q1u D.fac s.lit.2.2.next).2 = s3 at *
      generalize s.lit.2.2.next = s2 at *
      generalize s.lit.1.1 = va at *
      generalize s.lit.1.2.1 = vb at *
      generalize s.lit.1.2.2 = vc at *
      generalize s.lit.2.2 = s1 at *
      have h62 : ∀ σ, VCalls Tryz.prog 168 [.i 5, .agg (exA e)] σ _ := fun σ => p62 5 e σ
      have hFl := Q0u (ofE 5 e)
      have hFo := Q1n (ofE 5 e)
      have hFt := Q0t (ofE 5 e)
      have hFd := Q1a (ofE 5 e)
      have hk := Q5i (ofE 5 e)
      generalize ofE 5 e = e5 at *
      (refine vfun (fun _ => .no) Q0h Tryz.func197 (by kernel_rfl) ?_; simp only [Q0f, Tryz.f197, zv])
      (have zz := Bx.mk (j7 ui3 ui4 Z26 h27 hz27 ui24 (j9 Z23 h24 hz24 ui9 ui75 hFl hFo hFt hFd)); (repeat' (first | with_reducible rfl | exact trivial | (with_reducible first | apply And.intro | apply Q0a | apply Q0b | refine Q0c (by decide +kernel) ?_ | intro _) | refine zaW zz.out ?_ | ((first | ((with_reducible refine (h67 _ (by exact Go.V.zK)).mono ?_); rintro _ S ⟨rfl, rfl⟩) | ((with_reducible refine (h22 _ (by exact Go.V.zK) _ (by with_unfolding_all rfl)).mono ?_); rintro _ S ⟨rfl, rfl⟩) | ((with_reducible refine (h63 _ (by exact Go.V.zK)).mono ?_); rintro _ S ⟨rfl, rfl⟩) | ((with_reducible refine (h62 _).mono ?_); rintro _ S ⟨rfl, rfl⟩) | (refine Q0d (by exact Go.V.zK) ?_) | (refine Q0e (by exact Go.V.zK) ?_)); (try refine zs zz.out ?_)) | refine zo ?_ | omega | refine zt zz.out ?_ | fail)); try (all_goals clear zz))
      all_goals (refine ⟨_, .refl _, .any, by rw [Q5i], ?_⟩; (first | exact Sg.sub.refl _ | ((repeat (first | exact Sg.sub.refl _ | refine Sg.sub.set_both ?_ | refine Sg.sub.set_fresh ?_ (by first | assumption | exact Sg.set_none (by assumption) (by first | assumption | (apply Go.Cert.ne_of2a; assumption; assumption))))); done) | (intro y p hy; simp only [Sg.set_apply, Sg.del_apply] at hy ⊢; grind)))
    · rw [if_neg h0]
      by_cases h1 : s.lit.2.2.is [Q2i, [40]] = 1
      · rw [if_pos h1]
        rw [if_pos (by omega)] at h22
        simp only [h1] at h22
        have o2 := X0u (ws := [Q2i, [40]]) o1.wf (by omega)
        have hdd : s.lit.2.2.next.d = s.d := o1.d
        have h63 := fun S hS => p63 ρ s.lit.2.2.next S 35 D.ex (fun h => by rw [hdd] at h ⊢; exact (hD h).ex) hN.ex hS o2.wf (by rw [hdd]; exact hd)
        have o3 := Q8c hN.ex s.lit.2.2.next o2.wf
        have h41 := fun S hS es he => p41 ρ (Q1u D.ex s.lit.2.2.next).2 .full [[41]] es S he hS o3.wf (by simp)
        have hFl := Q0u (Q1u D.ex s.lit.2.2.next).1
        have hFo := Q1n (Q1u D.ex s.lit.2.2.next).1
        have hFt := Q0t (Q1u D.ex s.lit.2.2.next).1
        have hFd := Q1a (Q1u D.ex s.lit.2.2.next).1
        generalize (Q1u D.ex s.lit.2.2.next).1 = e at *
        generalize (Q1u D.ex s.lit.2.2.next).2 = s3 at *
        generalize s3.must [[41]] = s4 at *
        generalize s.lit.2.2.next = s2 at *
        generalize s.lit.1.1 = va at *
        generalize s.lit.1.2.1 = vb at *
        generalize s.lit.1.2.2 = vc at *
        generalize s.lit.2.2 = s1 at *
        (refine vfun (fun _ => .no) Q0h Tryz.func197 (by kernel_rfl) ?_; simp only [Q0f, Tryz.f197, zv])
        (have zz := Bx.mk (j7 ui3 ui4 Z26 h27 hz27 ui24 (j9 Z23 h24 hz24 ui9 ui75 hFl hFo hFt hFd)); (repeat' (first | with_reducible rfl | exact trivial | (with_reducible first | apply And.intro | apply Q0a | apply Q0b | refine Q0c (by decide +kernel) ?_ | intro _) | refine zaW zz.out ?_ | ((first | ((with_reducible refine (h67 _ (by exact Go.V.zK)).mono ?_); rintro _ S ⟨rfl, rfl⟩) | ((with_reducible refine (h22 _ (by exact Go.V.zK) _ (by with_unfolding_all rfl)).mono ?_); rintro _ S ⟨rfl, rfl⟩) | ((with_reducible refine (h63 _ (by exact Go.V.zK)).mono ?_); rintro _ S ⟨rfl, rfl⟩) | ((with_reducible refine (h41 _ (by exact Go.V.zK) _ (by with_unfolding_all rfl)).mono ?_); rintro _ S ⟨rfl, rfl⟩) | (refine Q0d (by exact Go.V.zK) ?_) | (refine Q0e (by exact Go.V.zK) ?_)); (try refine zs zz.out ?_)) | refine zo ?_ | omega | refine zt zz.out ?_ | fail)); try (all_goals clear zz))
        all_goals (refine ⟨_, .refl _, .any, by rw [Q5i], ?_⟩; (first | exact Sg.sub.refl _ | ((repeat (first | exact Sg.sub.refl _ | refine Sg.sub.set_both ?_ | refine Sg.sub.set_fresh ?_ (by first | assumption | exact Sg.set_none (by assumption) (by first | assumption | (apply Go.Cert.ne_of2a; assumption; assumption))))); done) | (intro y p hy; simp only [Sg.set_apply, Sg.del_apply] at hy ⊢; grind)))
      · rw [if_neg h1]
        have hlt := Y0c s.lit.2.2 [Q2i, [40]]
        simp only [List.length_cons, List.length_nil] at hlt
        have hm : s.lit.2.2.is [Q2i, [40]] = -1 := by omega
        rw [if_neg (by omega)] at h22
        simp only [hm] at h22
        have h68 := fun S hS => p68 ρ s.lit.2.2 S hS o1.wf
        have hFl := Q0u s.lit.2.2.column.1
        have hFo := Q1n s.lit.2.2.column.1
        have hFt := Q0t s.lit.2.2.column.1
        have hFd := Q1a s.lit.2.2.column.1
        generalize s.lit.2.2.column.1 = e at *
        generalize s.lit.2.2.column.2 = s3 at *
        generalize s.lit.1.1 = va at *
        generalize s.lit.1.2.1 = vb at *
        generalize s.lit.1.2.2 = vc at *
        generalize s.lit.2.2 = s1 at *
        (refine vfun (fun _ => .no) Q0h Tryz.func197 (by kernel_rfl) ?_; simp only [Q0f, Tryz.f197, zv])
        (have zz := Bx.mk (j7 ui3 ui4 Z26 h27 hz27 ui24 (j9 Z23 h24 hz24 ui9 ui75 hFl hFo hFt hFd)); (repeat' (first | with_reducible rfl | exact trivial | (with_reducible first | apply And.intro | apply Q0a | apply Q0b | refine Q0c (by decide +kernel) ?_ | intro _) | refine zaW zz.out ?_ | ((first | ((with_reducible refine (h67 _ (by exact Go.V.zK)).mono ?_); rintro _ S ⟨rfl, rfl⟩) | ((with_reducible refine (h22 _ (by exact Go.V.zK) _ (by with_unfolding_all rfl)).mono ?_); rintro _ S ⟨rfl, rfl⟩) | ((with_reducible refine (h68 _ (by exact Go.V.zK)).mono ?_); rintro _ S ⟨rfl, rfl⟩) | (refine Q0d (by exact Go.V.zK) ?_) | (refine Q0e (by exact Go.V.zK) ?_)); (try refine zs zz.out ?_)) | refine zo ?_ | omega | refine zt zz.out ?_ | fail)); try (all_goals clear zz))
        all_goals (refine ⟨_, .refl _, .any, by rw [Q5i], ?_⟩; (first | exact Sg.sub.refl _ | ((repeat (first | exact Sg.sub.refl _ | refine Sg.sub.set_both ?_ | refine Sg.sub.set_fresh ?_ (by first | assumption | exact Sg.set_none (by assumption) (by first | assumption | (apply Go.Cert.ne_of2a; assumption; assumption))))); done) | (intro y p hy; simp only [Sg.set_apply, Sg.del_apply] at hy ⊢; grind)))
theorem q74 (D : Dp) (d : Int) (hB : X0v 197 (facL D) d) (hN : Nice (facL D)) : X0v 188 (X3h D) d := by
  intro ρ s σ hρ hl hs
  subst hs
  refine Q9j ?_
  obtain ⟨z27, h27, hz27⟩ := Q6w
  simp only [ex0, Q3n, Q0s] at hz27
  have h18 : ∀ S es, S ρ = some (rdA s) → es = strs [[42], [47], [37]] → VCalls Tryz.prog 83 [.ref ρ 0, .bm 197 [.ref ρ 0], .i 11, .sl .full es] S _ := fun S es hS he => p18 ρ s S 197 (facL D) 11 .full [[42], [47], [37]] es he hB hN hS hl (by decide) (by decide)
  have e : X3h D s = row (facL D) 11 [[42], [47], [37]] s := rfl
  rw [e]
  have hFl := Q0u (row (facL D) 11 [[42], [47], [37]] s).1
  have hFo := Q1n (row (facL D) 11 [[42], [47], [37]] s).1
  have hFt := Q0t (row (facL D) 11 [[42], [47], [37]] s).1
  have hFd := Q1a (row (facL D) 11 [[42], [47], [37]] s).1
  generalize (row (facL D) 11 [[42], [47], [37]] s).1 = e at *
  generalize (row (facL D) 11 [[42], [47], [37]] s).2 = s3 at *
  (refine vfun (fun _ => .no) Q0h Tryz.func188 (by kernel_rfl) ?_; simp only [Q0f, Tryz.f188, zv])
  (have zz := Bx.mk (j4 ui3 ui4 Z26 (j9 h27 hz27 ui24 ui9 ui75 hFl hFo hFt hFd)); (repeat' (first | with_reducible rfl | exact trivial | (with_reducible first | apply And.intro | apply Q0a | apply Q0b | refine Q0c (by decide +kernel) ?_ | intro _) | refine zaW zz.out ?_ | ((first | ((with_reducible refine (h18 _ _ (by exact Go.V.zK) (by with_unfolding_all rfl)).mono ?_); rintro _ S ⟨rfl, rfl⟩) | (refine Q0d (by exact Go.V.zK) ?_) | (refine Q0e (by exact Go.V.zK) ?_)); (try refine zs zz.out ?_)) | refine zo ?_ | omega | refine zt zz.out ?_ | fail)); try (all_goals clear zz))
  all_goals (refine ⟨_, .refl _, .any, by rw [Q5i], ?_⟩; (first | exact Sg.sub.refl _ | ((repeat (first | exact Sg.sub.refl _ | refine Sg.sub.set_both ?_ | refine Sg.sub.set_fresh ?_ (by first | assumption | exact Sg.set_none (by assumption) (by first | assumption | (apply Go.Cert.ne_of2a; assumption; assumption))))); done) | (intro y p hy; simp only [Sg.set_apply, Sg.del_apply] at hy ⊢; grind)))
theorem q71 (D : Dp) (d : Int) (hB : X0v 188 (X3h D) d) (hN : Nice (X3h D)) : X0v 180 (sumL D) d := by
  intro ρ s σ hρ hl hs
  subst hs
  refine Q9j ?_
  obtain ⟨z27, h27, hz27⟩ := Q6w
  simp only [ex0, Q3n, Q0s] at hz27
  have h18 : ∀ S es, S ρ = some (rdA s) → es = strs [[43], [45]] → VCalls Tryz.prog 83 [.ref ρ 0, .bm 188 [.ref ρ 0], .i 9, .sl .full es] S _ := fun S es hS he => p18 ρ s S 188 (X3h D) 9 .full [[43], [45]] es he hB hN hS hl (by decide) (by decide)
  have e : sumL D s = row (X3h D) 9 [[43], [45]] s := rfl
  rw [e]
  have hFl := Q0u (row (X3h D) 9 [[43], [45]] s).1
  have hFo := Q1n (row (X3h D) 9 [[43], [45]] s).1
  have hFt := Q0t (row (X3h D) 9 [[43], [45]] s).1
  have hFd := Q1a (row (X3h D) 9 [[43], [45]] s).1
  generalize (row (X3h D) 9 [[43], [45]] s).1 = e at *
  generalize (row (X3h D) 9 [[43], [45]] s).2 = s3 at *
  (refine vfun (fun _ => .no) Q0h Tryz.func180 (by kernel_rfl) ?_; simp only [Q0f, Tryz.f180, zv])
  (have zz := Bx.mk (j4 ui3 ui4 Z26 (j9 h27 hz27 ui24 ui9 ui75 hFl hFo hFt hFd)); (repeat' (first | with_reducible rfl | exact trivial | (with_reducible first | apply And.intro | apply Q0a | apply Q0b | refine Q0c (by decide +kernel) ?_ | intro _) | refine zaW zz.out ?_ | ((first | ((with_reducible refine (h18 _ _ (by exact Go.V.zK) (by with_unfolding_all rfl)).mono ?_); rintro _ S ⟨rfl, rfl⟩) | (refine Q0d (by exact Go.V.zK) ?_) | (refine Q0e (by exact Go.V.zK) ?_)); (try refine zs zz.out ?_)) | refine zo ?_ | omega | refine zt zz.out ?_ | fail)); try (all_goals clear zz))
  all_goals (refine ⟨_, .refl _, .any, by rw [Q5i], ?_⟩; (first | exact Sg.sub.refl _ | ((repeat (first | exact Sg.sub.refl _ | refine Sg.sub.set_both ?_ | refine Sg.sub.set_fresh ?_ (by first | assumption | exact Sg.set_none (by assumption) (by first | assumption | (apply Go.Cert.ne_of2a; assumption; assumption))))); done) | (intro y p hy; simp only [Sg.set_apply, Sg.del_apply] at hy ⊢; grind)))
theorem q19 (D : Dp) (d : Int) (hB : X0v 135 (notL D) d) (hN : Nice (notL D)) : X0v 84 (andL D) d := by
  intro ρ s σ hρ hl hs
  subst hs
  refine Q9j ?_
  obtain ⟨z27, h27, hz27⟩ := Q6w
  simp only [ex0, Q3n, Q0s] at hz27
  have h18 : ∀ S es, S ρ = some (rdA s) → es = strs [[65, 78, 68]] → VCalls Tryz.prog 83 [.ref ρ 0, .bm 135 [.ref ρ 0], .i 2, .sl .full es] S _ := fun S es hS he => p18 ρ s S 135 (notL D) 2 .full [[65, 78, 68]] es he hB hN hS hl (by decide) (by decide)
  have e : andL D s = row (notL D) 2 [[65, 78, 68]] s := rfl
  rw [e]
  have hFl := Q0u (row (notL D) 2 [[65, 78, 68]] s).1
  have hFo := Q1n (row (notL D) 2 [[65, 78, 68]] s).1
  have hFt := Q0t (row (notL D) 2 [[65, 78, 68]] s).1
  have hFd := Q1a (row (notL D) 2 [[65, 78, 68]] s).1
  generalize (row (notL D) 2 [[65, 78, 68]] s).1 = e at *
  generalize (row (notL D) 2 [[65, 78, 68]] s).2 = s3 at *
  (refine vfun (fun _ => .no) Q0h Tryz.func84 (by kernel_rfl) ?_; simp only [Q0f, Tryz.f84, zv])
  (have zz := Bx.mk (j4 ui3 ui4 Z26 (j9 h27 hz27 ui24 ui9 ui75 hFl hFo hFt hFd)); (repeat' (first | with_reducible rfl | exact trivial | (with_reducible first | apply And.intro | apply Q0a | apply Q0b | refine Q0c (by decide +kernel) ?_ | intro _) | refine zaW zz.out ?_ | ((first | ((with_reducible refine (h18 _ _ (by exact Go.V.zK) (by with_unfolding_all rfl)).mono ?_); rintro _ S ⟨rfl, rfl⟩) | (refine Q0d (by exact Go.V.zK) ?_) | (refine Q0e (by exact Go.V.zK) ?_)); (try refine zs zz.out ?_)) | refine zo ?_ | omega | refine zt zz.out ?_ | fail)); try (all_goals clear zz))
  all_goals (refine ⟨_, .refl _, .any, by rw [Q5i], ?_⟩; (first | exact Sg.sub.refl _ | ((repeat (first | exact Sg.sub.refl _ | refine Sg.sub.set_both ?_ | refine Sg.sub.set_fresh ?_ (by first | assumption | exact Sg.set_none (by assumption) (by first | assumption | (apply Go.Cert.ne_of2a; assumption; assumption))))); done) | (intro y p hy; simp only [Sg.set_apply, Sg.del_apply] at hy ⊢; grind)))
theorem q10 (D : Dp) (d : Int) (hB : X0v 84 (andL D) d) (hN : Nice (andL D)) : X0v 35 (exL D) d := by
  intro ρ s σ hρ hl hs
  subst hs
  refine Q9j ?_
  obtain ⟨z27, h27, hz27⟩ := Q6w
  simp only [ex0, Q3n, Q0s] at hz27
  have h18 : ∀ S es, S ρ = some (rdA s) → es = strs [[79, 82]] → VCalls Tryz.prog 83 [.ref ρ 0, .bm 84 [.ref ρ 0], .i 1, .sl .full es] S _ := fun S es hS he => p18 ρ s S 84 (andL D) 1 .full [[79, 82]] es he hB hN hS hl (by decide) (by decide)
  have e : exL D s = row (andL D) 1 [[79, 82]] s := rfl
  rw [e]
  have hFl := Q0u (row (andL D) 1 [[79, 82]] s).1
  have hFo := Q1n (row (andL D) 1 [[79, 82]] s).1
  have hFt := Q0t (row (andL D) 1 [[79, 82]] s).1
  have hFd := Q1a (row (andL D) 1 [[79, 82]] s).1
  generalize (row (andL D) 1 [[79, 82]] s).1 = e at *
  generalize (row (andL D) 1 [[79, 82]] s).2 = s3 at *
  (refine vfun (fun _ => .no) Q0h Tryz.func35 (by kernel_rfl) ?_; simp only [Q0f, Tryz.f35, zv])
  (have zz := Bx.mk (j4 ui3 ui4 Z26 (j9 h27 hz27 ui24 ui9 ui75 hFl hFo hFt hFd)); (repeat' (first | with_reducible rfl | exact trivial | (with_reducible first | apply And.intro | apply Q0a | apply Q0b | refine Q0c (by decide +kernel) ?_ | intro _) | refine zaW zz.out ?_ | ((first | ((with_reducible refine (h18 _ _ (by exact Go.V.zK) (by with_unfolding_all rfl)).mono ?_); rintro _ S ⟨rfl, rfl⟩) | (refine Q0d (by exact Go.V.zK) ?_) | (refine Q0e (by exact Go.V.zK) ?_)); (try refine zs zz.out ?_)) | refine zo ?_ | omega | refine zt zz.out ?_ | fail)); try (all_goals clear zz))
  all_goals (refine ⟨_, .refl _, .any, by rw [Q5i], ?_⟩; (first | exact Sg.sub.refl _ | ((repeat (first | exact Sg.sub.refl _ | refine Sg.sub.set_both ?_ | refine Sg.sub.set_fresh ?_ (by first | assumption | exact Sg.set_none (by assumption) (by first | assumption | (apply Go.Cert.ne_of2a; assumption; assumption))))); done) | (intro y p hy; simp only [Sg.set_apply, Sg.del_apply] at hy ⊢; grind)))
theorem q64 (D : Dp) (d : Int) (hB : X0v 180 (sumL D) d) (hD : D.Nice) : X0v 170 (Q5q D) d := by
  intro ρ s σ hρ hl hs
  subst hs
  refine Q9j ?_
  obtain ⟨z27, h27, hz27⟩ := Q6w
  simp only [ex0, Q3n, Q0s] at hz27
  have hN := X3i hD
  have o1 := hN s hl
  have h71 := fun S hS => hB ρ s S hS hl rfl
  have hlt := Y0c (sumL D s).2 tests
  simp only [List.length_cons, List.length_nil] at hlt
  have h22 := fun S hS es he => p22 ρ (sumL D s).2 .full tests es S he hS o1.wf.pos (by simp)
  rw [Y0m] at h22
  have hFl := Q0u (sumL D s).1
  have hFo := Q1n (sumL D s).1
  have hFt := Q0t (sumL D s).1
  have hFd := Q1a (sumL D s).1
  unfold Q5q
  by_cases h0 : (sumL D s).2.is tests < 0
  · rw [if_pos h0]
    rw [if_neg (by omega)] at h22
    generalize (sumL D s).2.is tests = k at *
    generalize (sumL D s).1 = e at *
    generalize (sumL D s).2 = s1 at *
    (refine vfun (fun _ => .no) Q0h Tryz.func170 (by kernel_rfl) ?_; simp only [Q0f, Tryz.f170, zv])
    (have zz := Bx.mk (j4 ui3 ui4 Z26 (j9 h27 hz27 ui24 ui9 ui75 hFl hFo hFt hFd)); (repeat' (first | with_reducible rfl | exact trivial | (with_reducible first | apply And.intro | apply Q0a | apply Q0b | refine Q0c (by decide +kernel) ?_ | intro _) | refine zaW zz.out ?_ | ((first | ((with_reducible refine (h71 _ (by exact Go.V.zK)).mono ?_); rintro _ S ⟨rfl, rfl⟩) | ((with_reducible refine (h22 _ (by exact Go.V.zK) _ (by with_unfolding_all rfl)).mono ?_); rintro _ S ⟨rfl, rfl⟩) | (refine Q0d (by exact Go.V.zK) ?_) | (refine Q0e (by exact Go.V.zK) ?_)); (try refine zs zz.out ?_)) | refine zo ?_ | omega | refine zt zz.out ?_ | fail)); try (all_goals clear zz))
    all_goals (refine ⟨_, .refl _, .any, by rw [Q5i], ?_⟩; (first | exact Sg.sub.refl _ | ((repeat (first | exact Sg.sub.refl _ | refine Sg.sub.set_both ?_ | refine Sg.sub.set_fresh ?_ (by first | assumption | exact Sg.set_none (by assumption) (by first | assumption | (apply Go.Cert.ne_of2a; assumption; assumption))))); done) | (intro y p hy; simp only [Sg.set_apply, Sg.del_apply] at hy ⊢; grind)))
  · rw [if_neg h0]
    rw [if_pos (by omega)] at h22
    have o2 := X0u (ws := tests) o1.wf (by omega)
    by_cases h8 : 3 + (sumL D s).2.is tests ≤ 8
    · rw [if_pos h8]
      have h71b := fun S hS => hB ρ (sumL D s).2.next S hS o2.wf (by show (sumL D s).2.d = s.d; exact o1.d)
      have hFl2 := Q0u (sumL D (sumL D s).2.next).1
      have hFo2 := Q1n (sumL D (sumL D s).2.next).1
      have hFt2 := Q0t (sumL D (sumL D s).2.next).1
      have hFd2 := Q1a (sumL D (sumL D s).2.next).1
      generalize (sumL D (sumL D s).2.next).1 = e2 at *
      generalize (sumL D (sumL D s).2.next).2 = s3 at *
      generalize (sumL D s).2.next = s2 at *
      generalize (sumL D s).2.is tests = k at *
      generalize (sumL D s).1 = e at *
      generalize (sumL D s).2 = s1 at *
      simp only [Q3n, opA]
      (refine vfun (fun _ => .no) Q0h Tryz.func170 (by kernel_rfl) ?_; simp only [Q0f, Tryz.f170, zv])
      (have zz := Bx.mk (j9 ui3 ui4 Z26 h27 hz27 ui24 ui23 ui9 (j9 ui75 hFl hFo hFt hFd hFl2 hFo2 hFt2 hFd2)); (repeat' (first | with_reducible rfl | exact trivial | (with_reducible first | apply And.intro | apply Q0a | apply Q0b | refine Q0c (by decide +kernel) ?_ | intro _) | refine zaW zz.out ?_ | ((first | ((with_reducible refine (h71 _ (by exact Go.V.zK)).mono ?_); rintro _ S ⟨rfl, rfl⟩) | ((with_reducible refine (h22 _ (by exact Go.V.zK) _ (by with_unfolding_all rfl)).mono ?_); rintro _ S ⟨rfl, rfl⟩) | ((with_reducible refine (h71b _ (by exact Go.V.zK)).mono ?_); rintro _ S ⟨rfl, rfl⟩) | (refine Q0d (by exact Go.V.zK) ?_) | (refine Q0e (by exact Go.V.zK) ?_)); (try refine zs zz.out ?_)) | refine zo ?_ | omega | refine zt zz.out ?_ | fail)); try (all_goals clear zz))
      all_goals (refine ⟨_, .refl _, _, rfl, ?_⟩; (first | exact Sg.sub.refl _ | ((repeat (first | exact Sg.sub.refl _ | refine Sg.sub.set_both ?_ | refine Sg.sub.set_fresh ?_ (by first | assumption | exact Sg.set_none (by assumption) (by first | assumption | (apply Go.Cert.ne_of2a; assumption; assumption))))); done) | (intro y p hy; simp only [Sg.set_apply, Sg.del_apply] at hy ⊢; grind)))
    · rw [if_neg h8]
      have h13 : ∀ S, S ρ = some (rdA (sumL D s).2.next) → VCalls Tryz.prog 37 [.ref ρ 0, .s (bs wNot)] S _ := fun S hS => p13 ρ (sumL D s).2.next wNot S hS o2.wf.pos
      unfold isNull
      cases hb : (sumL D s).2.next.has wNot with
      | true =>
        simp only [hb, if_true] at h13 ⊢
        have o3 := Q8s o2.wf hb
        have h41 := fun S hS es he => p41 ρ (sumL D s).2.next.next .full [Q7d] es S he hS o3.wf (by simp)
        have h62 : ∀ σ, VCalls Tryz.prog 168 [.i 6, .agg (exA (sumL D s).1)] σ _ := fun σ => p62 6 (sumL D s).1 σ
        have hGl := Q0u (ofE 6 (sumL D s).1)
        have hGo := Q1n (ofE 6 (sumL D s).1)
        have hGt := Q0t (ofE 6 (sumL D s).1)
        have hGd := Q1a (ofE 6 (sumL D s).1)
        have h62b : ∀ σ, VCalls Tryz.prog 168 [.i 4, .agg (exA (ofE 6 (sumL D s).1))] σ _ := fun σ => p62 4 (ofE 6 (sumL D s).1) σ
        have hHl := Q0u (ofE 4 (ofE 6 (sumL D s).1))
        have hHo := Q1n (ofE 4 (ofE 6 (sumL D s).1))
        have hHt := Q0t (ofE 4 (ofE 6 (sumL D s).1))
        have hHd := Q1a (ofE 4 (ofE 6 (sumL D s).1))
        generalize ofE 4 (ofE 6 (sumL D s).1) = e4 at *
        generalize ofE 6 (sumL D s).1 = e6 at *
        generalize (sumL D s).2.next.next.must [Q7d] = s4 at *
        generalize (sumL D s).2.next.next = s3 at *
        generalize (sumL D s).2.next = s2 at *
        generalize (sumL D s).2.is tests = k at *
        generalize (sumL D s).1 = e at *
        generalize (sumL D s).2 = s1 at *
        (refine vfun (fun _ => .no) Q0h Tryz.func170 (by kernel_rfl) ?_; simp only [Q0f, Tryz.f170, zv])
        (have zz := Bx.mk (j5 ui3 ui4 Z26 h27 (j9 hz27 ui24 ui23 ui9 ui75 hFl hFo hFt (j9 hFd hGl hGo hGt hGd hHl hHo hHt hHd))); (repeat' (first | with_reducible rfl | exact trivial | (with_reducible first | apply And.intro | apply Q0a | apply Q0b | refine Q0c (by decide +kernel) ?_ | intro _) | refine zaW zz.out ?_ | ((first | ((with_reducible refine (h71 _ (by exact Go.V.zK)).mono ?_); rintro _ S ⟨rfl, rfl⟩) | ((with_reducible refine (h22 _ (by exact Go.V.zK) _ (by with_unfolding_all rfl)).mono ?_); rintro _ S ⟨rfl, rfl⟩) | ((with_reducible refine (h13 _ (by exact Go.V.zK)).mono ?_); rintro _ S ⟨rfl, rfl⟩) | ((with_reducible refine (h41 _ (by exact Go.V.zK) _ (by with_unfolding_all rfl)).mono ?_); rintro _ S ⟨rfl, rfl⟩) | ((with_reducible refine (h62 _).mono ?_); rintro _ S ⟨rfl, rfl⟩) | ((with_reducible refine (h62b _).mono ?_); rintro _ S ⟨rfl, rfl⟩) | (refine Q0d (by exact Go.V.zK) ?_) | (refine Q0e (by exact Go.V.zK) ?_)); (try refine zs zz.out ?_)) | refine zo ?_ | omega | refine zt zz.out ?_ | fail)); try (all_goals clear zz))
        all_goals (refine ⟨_, .refl _, .any, by rw [Q5i], ?_⟩; (first | exact Sg.sub.refl _ | ((repeat (first | exact Sg.sub.refl _ | refine Sg.sub.set_both ?_ | refine Sg.sub.set_fresh ?_ (by first | assumption | exact Sg.set_none (by assumption) (by first | assumption | (apply Go.Cert.ne_of2a; assumption; assumption))))); done) | (intro y p hy; simp only [Sg.set_apply, Sg.del_apply] at hy ⊢; grind)))
      | false =>
        simp only [hb, Bool.false_eq_true, if_false] at h13 ⊢
        have h41 := fun S hS es he => p41 ρ (sumL D s).2.next .full [Q7d] es S he hS o2.wf (by simp)
        have h62 : ∀ σ, VCalls Tryz.prog 168 [.i 6, .agg (exA (sumL D s).1)] σ _ := fun σ => p62 6 (sumL D s).1 σ
        have hGl := Q0u (ofE 6 (sumL D s).1)
        have hGo := Q1n (ofE 6 (sumL D s).1)
        have hGt := Q0t (ofE 6 (sumL D s).1)
        have hGd := Q1a (ofE 6 (sumL D s).1)
        generalize ofE 6 (sumL D s).1 = e6 at *
        generalize (sumL D s).2.next.must [Q7d] = s4 at *
        generalize (sumL D s).2.next = s2 at *
        generalize (sumL D s).2.is tests = k at *
        generalize (sumL D s).1 = e at *
        generalize (sumL D s).2 = s1 at *
        (refine vfun (fun _ => .no) Q0h Tryz.func170 (by kernel_rfl) ?_; simp only [Q0f, Tryz.f170, zv])
        (have zz := Bx.mk (j9 ui3 ui4 Z26 h27 hz27 ui24 ui23 ui9 (j9 ui75 hFl hFo hFt hFd hGl hGo hGt hGd)); (repeat' (first | with_reducible rfl | exact trivial | (with_reducible first | apply And.intro | apply Q0a | apply Q0b | refine Q0c (by decide +kernel) ?_ | intro _) | refine zaW zz.out ?_ | ((first | ((with_reducible refine (h71 _ (by exact Go.V.zK)).mono ?_); rintro _ S ⟨rfl, rfl⟩) | ((with_reducible refine (h22 _ (by exact Go.V.zK) _ (by with_unfolding_all rfl)).mono ?_); rintro _ S ⟨rfl, rfl⟩) | ((with_reducible refine (h13 _ (by exact Go.V.zK)).mono ?_); rintro _ S ⟨rfl, rfl⟩) | ((with_reducible refine (h41 _ (by exact Go.V.zK) _ (by with_unfolding_all rfl)).mono ?_); rintro _ S ⟨rfl, rfl⟩) | ((with_reducible refine (h62 _).mono ?_); rintro _ S ⟨rfl, rfl⟩) | (refine Q0d (by exact Go.V.zK) ?_) | (refine Q0e (by exact Go.V.zK) ?_)); (try refine zs zz.out ?_)) | refine zo ?_ | omega | refine zt zz.out ?_ | fail)); try (all_goals clear zz))
        all_goals (refine ⟨_, .refl _, .any, by rw [Q5i], ?_⟩; (first | exact Sg.sub.refl _ | ((repeat (first | exact Sg.sub.refl _ | refine Sg.sub.set_both ?_ | refine Sg.sub.set_fresh ?_ (by first | assumption | exact Sg.set_none (by assumption) (by first | assumption | (apply Go.Cert.ne_of2a; assumption; assumption))))); done) | (intro y p hy; simp only [Sg.set_apply, Sg.del_apply] at hy ⊢; grind)))
theorem q39 (D : Dp) (d : Int) (hB : X0v 170 (Q5q D) d) (hD : d < 10 → RD D (d + 1)) (hN : D.Nice) (hd : 0 ≤ d ∧ d ≤ 10) : X0v 135 (notL D) d := by
  intro ρ s σ hρ hl hs
  subst hs
  refine Q9j ?_
  obtain ⟨z27, h27, hz27⟩ := Q6w
  simp only [ex0, Q3n, Q0s] at hz27
  have h13 : ∀ S, S ρ = some (rdA s) → VCalls Tryz.prog 37 [.ref ρ 0, .s (bs wNot)] S _ := fun S hS => p13 ρ s wNot S hS hl.pos
  unfold notL
  cases hb : s.has wNot with
  | true =>
    simp only [hb, if_true] at h13 ⊢
    have o1 := Q8s hl hb
    have h63 := fun S hS => p63 ρ s.next S 135 D.not (fun h => (hD h).not) hN.not hS o1.wf hd
    have h62 : ∀ σ, VCalls Tryz.prog 168 [.i 4, .agg (exA (Q1u D.not s.next).1)] σ _ := fun σ => p62 4 (Q1u D.not s.next).1 σ
    have hFl := Q0u (ofE 4 (Q1u D.not s.next).1)
    have hFo := Q1n (ofE 4 (Q1u D.not s.next).1)
    have hFt := Q0t (ofE 4 (Q1u D.not s.next).1)
    have hFd := Q1a (ofE 4 (Q1u D.not s.next).1)
    generalize ofE 4 (Q1u D.not s.next).1 = e4 at *
    generalize (Q1u D.not s.next).1 = e at *
    generalize (Q1u D.not s.next).2 = s2 at *
    generalize s.next = s1 at *
    (refine vfun (fun _ => .no) Q0h Tryz.func135 (by kernel_rfl) ?_; simp only [Q0f, Tryz.f135, zv])
    (have zz := Bx.mk (j5 ui3 ui4 Z26 h27 (j9 hz27 ui24 ui23 ui9 ui75 hFl hFo hFt hFd)); (repeat' (first | with_reducible rfl | exact trivial | (with_reducible first | apply And.intro | apply Q0a | apply Q0b | refine Q0c (by decide +kernel) ?_ | intro _) | refine zaW zz.out ?_ | ((first | ((with_reducible refine (h13 _ (by exact Go.V.zK)).mono ?_); rintro _ S ⟨rfl, rfl⟩) | ((with_reducible refine (h63 _ (by exact Go.V.zK)).mono ?_); rintro _ S ⟨rfl, rfl⟩) | ((with_reducible refine (h62 _).mono ?_); rintro _ S ⟨rfl, rfl⟩) | (refine Q0d (by exact Go.V.zK) ?_) | (refine Q0e (by exact Go.V.zK) ?_)); (try refine zs zz.out ?_)) | refine zo ?_ | omega | refine zt zz.out ?_ | fail)); try (all_goals clear zz))
    all_goals (refine ⟨_, .refl _, .any, by rw [Q5i], ?_⟩; (first | exact Sg.sub.refl _ | ((repeat (first | exact Sg.sub.refl _ | refine Sg.sub.set_both ?_ | refine Sg.sub.set_fresh ?_ (by first | assumption | exact Sg.set_none (by assumption) (by first | assumption | (apply Go.Cert.ne_of2a; assumption; assumption))))); done) | (intro y p hy; simp only [Sg.set_apply, Sg.del_apply] at hy ⊢; grind)))
  | false =>
    simp only [hb, Bool.false_eq_true, if_false] at h13 ⊢
    have h64 := fun S hS => hB ρ s S hS hl rfl
    have hFl := Q0u (Q5q D s).1
    have hFo := Q1n (Q5q D s).1
    have hFt := Q0t (Q5q D s).1
    have hFd := Q1a (Q5q D s).1
    generalize (Q5q D s).1 = e at *
    generalize (Q5q D s).2 = s2 at *
    (refine vfun (fun _ => .no) Q0h Tryz.func135 (by kernel_rfl) ?_; simp only [Q0f, Tryz.f135, zv])
    (have zz := Bx.mk (j5 ui3 ui4 Z26 h27 (j9 hz27 ui24 ui23 ui9 ui75 hFl hFo hFt hFd)); (repeat' (first | with_reducible rfl | exact trivial | (with_reducible first | apply And.intro | apply Q0a | apply Q0b | refine Q0c (by decide +kernel) ?_ | intro _) | refine zaW zz.out ?_ | ((first | ((with_reducible refine (h13 _ (by exact Go.V.zK)).mono ?_); rintro _ S ⟨rfl, rfl⟩) | ((with_reducible refine (h64 _ (by exact Go.V.zK)).mono ?_); rintro _ S ⟨rfl, rfl⟩) | (refine Q0d (by exact Go.V.zK) ?_) | (refine Q0e (by exact Go.V.zK) ?_)); (try refine zs zz.out ?_)) | refine zo ?_ | omega | refine zt zz.out ?_ | fail)); try (all_goals clear zz))
    all_goals (refine ⟨_, .refl _, .any, by rw [Q5i], ?_⟩; (first | exact Sg.sub.refl _ | ((repeat (first | exact Sg.sub.refl _ | refine Sg.sub.set_both ?_ | refine Sg.sub.set_fresh ?_ (by first | assumption | exact Sg.set_none (by assumption) (by first | assumption | (apply Go.Cert.ne_of2a; assumption; assumption))))); done) | (intro y p hy; simp only [Sg.set_apply, Sg.del_apply] at hy ⊢; grind)))
theorem qRD : ∀ (n : Nat) (d : Int), d + n = 11 → 0 ≤ d → d ≤ 10 → RD (dp n) d
  | 0, d, h, h0, h1 => by omega
  | n + 1, d, h, h0, h1 => by
    have hD : d < 10 → RD (dp n) (d + 1) := fun h2 => qRD n (d + 1) (by omega) (by omega) (by omega)
    have hN := Q9h n
    have r75 := q75 (dp n) d hD hN ⟨h0, h1⟩
    have r74 := q74 (dp n) d r75 (Q8t hN)
    have r71 := q71 (dp n) d r74 (Q6q (Q8t hN) _ _)
    have r64 := q64 (dp n) d r71 hN
    have r39 := q39 (dp n) d r64 hD hN ⟨h0, h1⟩
    have r19 := q19 (dp n) d r39 (Q8u hN)
    have r10 := q10 (dp n) d r19 (Q6q (Q8u hN) _ _)
    exact ⟨r75, r39, r10⟩
end Go.Proofs.YtjdapkelojdefaaGreatDoor
namespace Go.Parse
open Go.V Go.Lex Go.Proofs.YtjdapkelojdefaaGreatDoor
theorem WF_app : ∀ (i : List Tk) (t : Tk), t.1 = 6 → WF (i ++ [t])
  | [], t, h => h
  | [x], t, h => h
  | x :: y :: r, t, h => WF_app (y :: r) t h
theorem toks_wf {b : List UInt8} {l : List Tk} (h : Q6c b = .ok l) : WF l := by
  unfold Q6c at h
  split at h
  · cases h
  · cases ht : toks b 0 with
    | error q => rw [ht] at h; cases h
    | ok m =>
      rw [ht] at h
      cases h
      obtain ⟨i, rfl, _⟩ := toks_join_ok b.length b [] 0 l (Nat.le_refl _) ht
      exact WF_app _ _ rfl
theorem tok1_nz {r : List UInt8} {e : Nat} (h : tok1 r = .error e) : e ≠ 0 := by
  have hwl : ∀ kd n, wl kd r n = .error e → e ≠ 0 := fun kd n hw => by
    unfold wl at hw
    cases hw' : Q8n kd r n with
    | ok q => rw [hw'] at hw; cases hw
    | error e' =>
      rw [hw'] at hw
      cases hw
      unfold Q8n at hw'
      split at hw'
      · cases hw'; decide
      · split at hw'
        · split at hw'
          · cases hw'
          · cases hw'; decide
        · split at hw'
          · split at hw'
            · cases hw'; decide
            · cases hw'
          · split at hw'
            · cases hw'
            · cases hw'; decide
  unfold tok1 at h
  split at h
  · unfold Q6g at h
    split at h
    · cases h; decide
    · split at h
      · cases h; decide
      · cases h
  · split at h
    · exact hwl _ _ h
    · split at h
      · exact hwl _ _ h
      · split at h
        · exact hwl _ _ h
        · split at h
          · cases h
          · cases h; decide
theorem X7i {b : List UInt8} {e : Nat} {a : Int} (h : Q6c b = .error (e, a)) : e ≠ 0 := by
  unfold Q6c at h
  split at h
  · cases h; decide
  · cases ht : toks b 0 with
    | error q =>
      obtain ⟨e', a'⟩ := q
      rw [ht] at h
      cases h
      exact toks_nz b.length b 0 e a' (Nat.le_refl _) (fun m e he => tok1_nz he) ht
    | ok m => rw [ht] at h; cases h
def oneR (l : List Tk) : Ex × Int × Int := if (oneT l).2.c = 0 then ((oneT l).1, 0, 0) else (ex0, (oneT l).2.c, (oneT l).2.a)
def oneAll (b : List UInt8) : Ex × Int × Int :=
  match Q6c b with
  | .ok l => oneR l
  | .error (e, a) => (ex0, (e : Int), a)
end Go.Parse
namespace Go.Proofs.YtjdapkelojdefaaGreatDoor
open Go Go.V Go.Lex Go.Parse
theorem p9 (b : List UInt8) (σ : Sg) : VCalls Tryz.prog 34 [.s (bs b)] σ (fun x σ' => (x = match Q6c b with
    | .ok l => .tup [.sl .any (tksA l), .agg [.i 0, .i 0]]
    | .error (e, a) => .tup [.sl .nil [], .agg [.i e, .i a]]) ∧ σ' = σ) :=
  (t21 b σ).weak fun x σ' hx => by
    obtain ⟨⟨l', τ, h1, rfl⟩ | ⟨e, a, h1, he, rfl⟩, rfl⟩ := hx
    · rw [h1]
      exact ⟨_, .tup2 (.any _ _) (.refl _), rfl, rfl⟩
    · rw [h1]
      exact ⟨_, .refl _, rfl, rfl⟩
theorem p11 (ρ : Nat) (s : Rd) (σ : Sg) (hρ : σ ρ = some (rdA s)) (hl : WF s.l) : VCalls Tryz.prog 36 [.ref ρ 0] σ (fun x σ' => x = .agg [.i s.fin.c, .i s.fin.a] ∧ σ' = σ.set ρ (rdA s.fin)) := by
  have h20 := fun S (hS : S ρ = some (rdA s)) => p20 ρ s S hS
  have h21 := fun S (hS : S ρ = some (rdA s)) => p21 ρ s S hS hl.pos
  have h14 := fun S (hS : S ρ = some (rdA s)) => p14 ρ s 4 S hS hl.pos
  rw [X8w] at h21
  have hρ' := hρ
  unfold Rd.fin
  by_cases hc : s.c = 0
  · simp only [decide_eq_true hc] at h20
    by_cases h6 : (hd s.l).1 = 6
    · rw [if_neg (fun h => h.2 h6), Sg.set_id hρ']
      simp only [h6] at h21
      generalize (hd s.l).2.1 = t at *
      generalize (hd s.l).2.2.1 = n at *
      generalize (hd s.l).2.2.2 = a at *
      rw [Q8f] at hρ
      (refine vfun (fun _ => .no) Q0h Tryz.func36 (by kernel_rfl) ?_; simp only [Q0f, Tryz.f36, zv])
      (have zz := Bx.mk (j9 ui3 ui4 ui80 ui47 ui30 ui56 Q0v ui9 hρ); (repeat' (first | with_reducible rfl | exact trivial | (with_reducible first | apply And.intro | apply Q0a | apply Q0b | refine Q0c (by decide +kernel) ?_ | intro _) | refine zaW zz.out ?_ | ((first | ((with_reducible refine (h20 _ (by exact Go.V.zK)).mono ?_); rintro _ S ⟨rfl, rfl⟩) | ((with_reducible refine (h21 _ (by exact Go.V.zK)).mono ?_); rintro _ S ⟨rfl, rfl⟩) | (refine Q0d (by exact Go.V.zK) ?_) | (refine Q0e (by exact Go.V.zK) ?_)); (try refine zs zz.out ?_)) | refine zo ?_ | omega | refine zt zz.out ?_ | fail)); try (all_goals clear zz))
      all_goals (exact Go.V.zE)
    · rw [if_pos ⟨hc, h6⟩]
      generalize hd s.l = t at *
      generalize s.fail 4 = s4 at *
      simp only [Q8f] at h14 hρ ⊢
      (refine vfun (fun _ => .no) Q0h Tryz.func36 (by kernel_rfl) ?_; simp only [Q0f, Tryz.f36, zv])
      (have zz := Bx.mk (j9 ui3 ui4 ui80 ui47 ui30 ui56 Q0v ui9 hρ); (repeat' (first | with_reducible rfl | exact trivial | (with_reducible first | apply And.intro | apply Q0a | apply Q0b | refine Q0c (by decide +kernel) ?_ | intro _) | refine zaW zz.out ?_ | ((first | ((with_reducible refine (h20 _ (by exact Go.V.zK)).mono ?_); rintro _ S ⟨rfl, rfl⟩) | ((with_reducible refine (h21 _ (by exact Go.V.zK)).mono ?_); rintro _ S ⟨rfl, rfl⟩) | ((with_reducible refine (h14 _ (by exact Go.V.zK)).mono ?_); rintro _ S ⟨rfl, rfl⟩) | (refine Q0d (by exact Go.V.zK) ?_) | (refine Q0e (by exact Go.V.zK) ?_)); (try refine zs zz.out ?_)) | refine zo ?_ | omega | refine zt zz.out ?_ | fail)); try (all_goals clear zz))
      all_goals (exact Go.V.zE)
  · simp only [decide_eq_false hc] at h20
    rw [if_neg (fun h => hc h.1), Sg.set_id hρ']
    rw [Q8f] at hρ
    (refine vfun (fun _ => .no) Q0h Tryz.func36 (by kernel_rfl) ?_; simp only [Q0f, Tryz.f36, zv])
    (have zz := Bx.mk (j9 ui3 ui4 ui80 ui47 ui30 ui56 Q0v ui9 hρ); (repeat' (first | with_reducible rfl | exact trivial | (with_reducible first | apply And.intro | apply Q0a | apply Q0b | refine Q0c (by decide +kernel) ?_ | intro _) | refine zaW zz.out ?_ | ((first | ((with_reducible refine (h20 _ (by exact Go.V.zK)).mono ?_); rintro _ S ⟨rfl, rfl⟩) | ((with_reducible refine (h21 _ (by exact Go.V.zK)).mono ?_); rintro _ S ⟨rfl, rfl⟩) | (refine Q0d (by exact Go.V.zK) ?_) | (refine Q0e (by exact Go.V.zK) ?_)); (try refine zs zz.out ?_)) | refine zo ?_ | omega | refine zt zz.out ?_ | fail)); try (all_goals clear zz))
    all_goals (exact Go.V.zE)
theorem zero30 : ∃ z, Q0l Tryz.prog 47 = some (some z, 2, 16) ∧ ofValue z = .agg [.i 0, .i 0] := ⟨_, Q6a, by rfl⟩
theorem lose_ex2 {f : FuncId} {args : List AV} {e : Ex} {c a : Int} {σ S : Sg} (h : VCalls Tryz.prog f args σ (fun x σ' => ∃ o, x = .tup [.agg (exK o e), .agg [.i c, .i a]] ∧ S.sub σ')) : VCalls Tryz.prog f args σ (fun x σ' => x = .tup [.agg (exA e), .agg [.i c, .i a]] ∧ σ' = S) :=
  h.lose fun x σ' hx => by
    obtain ⟨o, rfl, hs⟩ := hx
    exact ⟨_, S, (AVw.ex o e).tup2 (AVw.refl _), hs, rfl, rfl⟩
theorem p6 (b : List UInt8) (σ : Sg) : VCalls Tryz.prog 17 [.s (bs b)] σ (fun x σ' => x = .tup [.agg (exA (oneAll b).1), .agg [.i (oneAll b).2.1, .i (oneAll b).2.2]] ∧ σ' = σ) := by
  refine lose_ex2 ?_
  obtain ⟨z27, h27, hz27⟩ := Q6w
  simp only [ex0, Q3n, Q0s] at hz27
  have h9 := p9 b
  unfold oneAll
  cases hl : Q6c b with
  | error q =>
    obtain ⟨e, a⟩ := q
    have he := X7i hl
    simp only [hl] at h9
    simp only [ex0, Q3n, Q0s]
    (refine vfun (fun _ => .no) Q0h Tryz.func17 (by kernel_rfl) ?_; simp only [Q0f, Tryz.f17, zv])
    (have zz := Bx.mk (j3 ui3 ui4 (j9 Z26 h27 hz27 ui24 ui23 ui30 ui47 ui9 ui75)); (repeat' (first | with_reducible rfl | exact trivial | (with_reducible first | apply And.intro | apply Q0a | apply Q0b | refine Q0c (by decide +kernel) ?_ | intro _) | ((with_reducible (rename_i a2 _ a3 _ _ a5 _ _ _ _; refine .dms (fun x => x = a5) [(0, false), (1, false), (2, true), (3, true)] (by decide) (by decide +kernel) ?_)); (refine zs zz.out ?_)) | refine zaW zz.out ?_ | ((first | ((with_reducible refine (h9 _).mono ?_); rintro _ S ⟨rfl, rfl⟩) | with_reducible refine Q0j (fun _ _ => rfl) ?_ | (refine Q0j (by intro β h; first | (rcases h with h | h <;> subst h <;> (simp (disch := first | assumption | (apply zM; assumption; assumption) | (apply zP; assumption; assumption; (intro e; cases e; done)) | omega) only [zm, zn, zp, zq, zr])) | (subst h; (simp (disch := first | assumption | (apply zM; assumption; assumption) | (apply zP; assumption; assumption; (intro e; cases e; done)) | omega) only [zm, zn, zp, zq, zr]))) ?_) | (refine Q0d (o' := some (.cells 47 [.i e, .i a])) (Q8r (by assumption) (by exact Go.V.zK)) ?_) | (refine Q0d (by exact Go.V.zK) ?_) | (refine Q0e (by exact Go.V.zK) ?_)); (try refine zs zz.out ?_)) | refine zo ?_ | omega | refine zt zz.out ?_ | fail)); try (all_goals clear zz))
    all_goals (refine ⟨_, .refl _, _, rfl, ?_⟩; (first | exact Sg.sub.refl _ | ((repeat (first | exact Sg.sub.refl _ | refine Sg.sub.set_both ?_ | refine Sg.sub.set_fresh ?_ (by first | assumption | exact Sg.set_none (by assumption) (by first | assumption | (apply Go.Cert.ne_of2a; assumption; assumption))))); done) | (intro y p hy; simp only [Sg.set_apply, Sg.del_apply] at hy ⊢; grind)))
  | ok l =>
    simp only [hl] at h9
    have hw := toks_wf hl
    have r10 := fun ρ S hS => (qRD 11 0 (by decide) (by decide) (by decide)).ex ρ (rd0 l) S hS hw rfl
    have o1 := (Q9h 11).ex (rd0 l) hw
    have h11 := fun ρ S hS => p11 ρ ((dp 11).ex (rd0 l)).2 S hS o1.wf
    have hFl := Q0u ((dp 11).ex (rd0 l)).1
    have hFo := Q1n ((dp 11).ex (rd0 l)).1
    have hFt := Q0t ((dp 11).ex (rd0 l)).1
    have hFd := Q1a ((dp 11).ex (rd0 l)).1
    have h0 : rdA (rd0 l) = .cells 80 [.sl .any (tksA l), .i 0, .i 0, .i 0] := rfl
    have hR : oneR l = if ((dp 11).ex (rd0 l)).2.fin.c = 0 then (((dp 11).ex (rd0 l)).1, 0, 0) else (ex0, ((dp 11).ex (rd0 l)).2.fin.c, ((dp 11).ex (rd0 l)).2.fin.a) := rfl
    simp only [hR, h0] at r10 ⊢
    generalize ((dp 11).ex (rd0 l)).1 = e at *
    generalize ((dp 11).ex (rd0 l)).2.fin = s2 at *
    generalize ((dp 11).ex (rd0 l)).2 = s1 at *
    by_cases hc : s2.c = 0
    · rw [if_pos hc]
      (refine vfun (fun _ => .no) Q0h Tryz.func17 (by kernel_rfl) ?_; simp only [Q0f, Tryz.f17, zv])
      (have zz := Bx.mk (j9 ui3 ui4 Z26 h27 hz27 ui24 ui23 ui30 (j9 ui47 ui56 ui80 ui9 ui75 hFl hFo hFt hFd)); (repeat' (first | with_reducible rfl | exact trivial | (with_reducible first | apply And.intro | apply Q0a | apply Q0b | refine Q0c (by decide +kernel) ?_ | intro _) | refine zaW zz.out ?_ | ((first | ((with_reducible refine (h9 _).mono ?_); rintro _ S ⟨rfl, rfl⟩) | ((with_reducible refine (r10 _ _ (by exact Go.V.zK)).mono ?_); rintro _ S ⟨rfl, rfl⟩) | ((with_reducible refine (h11 _ _ (by exact Go.V.zK)).mono ?_); rintro _ S ⟨rfl, rfl⟩) | (refine Q0d (by exact Go.V.zK) ?_) | (refine Q0e (by exact Go.V.zK) ?_)); (try refine zs zz.out ?_)) | refine zo ?_ | omega | refine zt zz.out ?_ | fail)); try (all_goals clear zz))
      all_goals (refine ⟨_, .refl _, .any, by rw [Q5i], ?_⟩; (first | exact Sg.sub.refl _ | ((repeat (first | exact Sg.sub.refl _ | refine Sg.sub.set_both ?_ | refine Sg.sub.set_fresh ?_ (by first | assumption | exact Sg.set_none (by assumption) (by first | assumption | (apply Go.Cert.ne_of2a; assumption; assumption))))); done) | (intro y p hy; simp only [Sg.set_apply, Sg.del_apply] at hy ⊢; grind)))
    · rw [if_neg hc]
      simp only [Q3n, Q0s]
      (refine vfun (fun _ => .no) Q0h Tryz.func17 (by kernel_rfl) ?_; simp only [Q0f, Tryz.f17, zv])
      (have zz := Bx.mk (j9 ui3 ui4 Z26 h27 hz27 ui24 ui23 ui30 (j9 ui47 ui56 ui80 ui9 ui75 hFl hFo hFt hFd)); (repeat' (first | with_reducible rfl | exact trivial | (with_reducible first | apply And.intro | apply Q0a | apply Q0b | refine Q0c (by decide +kernel) ?_ | intro _) | ((with_reducible (rename_i x10 _ x8 _ _ x6 _ _ _ x4 _ _ _ _ x2 _ _ _ _ _ _; refine .dms (fun x => x = x6) [(0, false), (1, false), (2, true), (3, true)] (by decide) (by decide +kernel) ?_)); (refine zs zz.out ?_)) | refine zaW zz.out ?_ | ((first | ((with_reducible refine (h9 _).mono ?_); rintro _ S ⟨rfl, rfl⟩) | ((with_reducible refine (r10 _ _ (by exact Go.V.zK)).mono ?_); rintro _ S ⟨rfl, rfl⟩) | ((with_reducible refine (h11 _ _ (by exact Go.V.zK)).mono ?_); rintro _ S ⟨rfl, rfl⟩) | with_reducible refine Q0j (fun _ _ => rfl) ?_ | (refine Q0j (by intro β h; first | (rcases h with h | h <;> subst h <;> (simp (disch := first | assumption | (apply zM; assumption; assumption) | (apply zP; assumption; assumption; (intro e; cases e; done)) | omega) only [zm, zn, zp, zq, zr])) | (subst h; (simp (disch := first | assumption | (apply zM; assumption; assumption) | (apply zP; assumption; assumption; (intro e; cases e; done)) | omega) only [zm, zn, zp, zq, zr]))) ?_) | (refine Q0d (o' := some (.cells 47 [.i s2.c, .i s2.a])) (Q8r (by assumption) (by exact Go.V.zK)) ?_) | (refine Q0d (by exact Go.V.zK) ?_) | (refine Q0e (by exact Go.V.zK) ?_)); (try refine zs zz.out ?_)) | refine zo ?_ | omega | refine zt zz.out ?_ | fail)); try (all_goals clear zz))
      all_goals (refine ⟨_, .refl _, _, rfl, ?_⟩; (first | exact Sg.sub.refl _ | ((repeat (first | exact Sg.sub.refl _ | refine Sg.sub.set_both ?_ | refine Sg.sub.set_fresh ?_ (by first | assumption | exact Sg.set_none (by assumption) (by first | assumption | (apply Go.Cert.ne_of2a; assumption; assumption))))); done) | (intro y p hy; simp only [Sg.set_apply, Sg.del_apply] at hy ⊢; grind)))
end Go.Proofs.YtjdapkelojdefaaGreatDoor
