/- Part 12 of the proof: B12, B13, W16, W17, W18, W19, W20, W21, W22, V14, V16, V18, W23, G9, G10, B14, B20, G5, G11. -/
import Derived.Test.YtjdapkelojdefaaGreatDoorN7
import Derived.Test.YtjdapkelojdefaaGreatDoorN11
import Derived.Test.YtjdapkelojdefaaGreatDoorN10
import Derived.Test.YtjdapkelojdefaaGreatDoorN9
import Derived.Test.YtjdapkelojdefaaGreatDoorN4
import Derived.Test.YtjdapkelojdefaaGreatDoorN3
import GoSem.ClaimChange
import GoSem.ClaimJoined
import Derived.Below
import Derived.Carry

set_option linter.all false
set_option maxRecDepth 100000
set_option maxHeartbeats 1000000
open Option renaming getD_some → zw
open Go.Cert renaming ne_of2 → zQ, ne_ob → zR
open Go.V.VCalls renaming mono → zU
open Go.Proofs.Tryz renaming underlying3 → Z3, underlying9 → Z9, underlying24 → Z24, underlying26 → Z26
namespace Go.Parse
open Go.V Go.Lex Go.Proofs.YtjdapkelojdefaaGreatDoor
theorem WF_app : ∀ (i : List Tk) (t : Tk), t.1 = 6 → WF (i ++ [t])
  | [], t, h => h
  | [x], t, h => h
  | x :: y :: r, t, h => WF_app (y :: r) t h
theorem toks_wf {b : List UInt8} {l : List Tk} (h : Q7q b = .ok l) : WF l := by
  unfold Q7q at h
  split at h
  · cases h
  · cases ht : toks b 0 with
    | error q => rw [ht] at h; cases h
    | ok m =>
      rw [ht] at h
      cases h
      obtain ⟨i, rfl, _⟩ := toks_join_ok b.length b [] 0 l (Nat.le_refl _) ht
      exact WF_app _ _ rfl
theorem tok1_nz {r : List UInt8} {e : Nat} (h : tok1 r = .error e) : e ≠ 0 := by
  have hwl : ∀ kd n, wl kd r n = .error e → e ≠ 0 := fun kd n hw => by
    unfold wl at hw
    cases hw' : X0x kd r n with
    | ok q => rw [hw'] at hw; cases hw
    | error e' =>
      rw [hw'] at hw
      cases hw
      unfold X0x at hw'
      split at hw'
      · cases hw'; decide
      · split at hw'
        · split at hw'
          · cases hw'
          · cases hw'; decide
        · split at hw'
          · split at hw'
            · cases hw'; decide
            · cases hw'
          · split at hw'
            · cases hw'
            · cases hw'; decide
  unfold tok1 at h
  split at h
  · unfold Q6l at h
    split at h
    · cases h; decide
    · split at h
      · cases h; decide
      · cases h
  · split at h
    · exact hwl _ _ h
    · split at h
      · exact hwl _ _ h
      · split at h
        · exact hwl _ _ h
        · split at h
          · cases h
          · cases h; decide
theorem lexAll_nz {b : List UInt8} {e : Nat} {a : Int} (h : Q7q b = .error (e, a)) : e ≠ 0 := by
  unfold Q7q at h
  split at h
  · cases h; decide
  · cases ht : toks b 0 with
    | error q =>
      obtain ⟨e', a'⟩ := q
      rw [ht] at h
      cases h
      exact toks_nz b.length b 0 e a' (Nat.le_refl _) (fun m e he => tok1_nz he) ht
    | ok m => rw [ht] at h; cases h
def oneR (l : List Tk) : Ex × Int × Int := if (oneT l).2.c = 0 then ((oneT l).1, 0, 0) else (ex0, (oneT l).2.c, (oneT l).2.a)
def X7e (b : List UInt8) : Ex × Int × Int :=
  match Q7q b with
  | .ok l => oneR l
  | .error (e, a) => (ex0, (e : Int), a)
end Go.Parse
namespace Go.Proofs.YtjdapkelojdefaaGreatDoor
open Go Go.V Go.Lex Go.Parse
theorem p9 (b : List UInt8) (σ : Sg) : VCalls Tryz.prog 34 [.s (bs b)] σ (fun x σ' => (x = match Q7q b with
    | .ok l => .tup [.sl .any (tksA l), .agg [.i 0, .i 0]]
    | .error (e, a) => .tup [.sl .nil [], .agg [.i e, .i a]]) ∧ σ' = σ) :=
  (t21 b σ).weak fun x σ' hx => by
    obtain ⟨⟨l', τ, h1, rfl⟩ | ⟨e, a, h1, he, rfl⟩, rfl⟩ := hx
    · rw [h1]
      exact ⟨_, .tup2 (.any _ _) (.refl _), rfl, rfl⟩
    · rw [h1]
      exact ⟨_, .refl _, rfl, rfl⟩
theorem p11 (ρ : Nat) (s : Rd) (σ : Sg) (hρ : σ ρ = some (rdA s)) (hl : WF s.l) : VCalls Tryz.prog 36 [.ref ρ 0] σ (fun x σ' => x = .agg [.i s.fin.c, .i s.fin.a] ∧ σ' = σ.set ρ (rdA s.fin)) := by
  have h20 := fun S (hS : S ρ = some (rdA s)) => p20 ρ s S hS
  have h21 := fun S (hS : S ρ = some (rdA s)) => p21 ρ s S hS hl.pos
  have h14 := fun S (hS : S ρ = some (rdA s)) => p14 ρ s 4 S hS hl.pos
  rw [X8r] at h21
  have hρ' := hρ
  unfold Rd.fin
  by_cases hc : s.c = 0
  · simp only [decide_eq_true hc] at h20
    by_cases h6 : (hd s.l).1 = 6
    · rw [if_neg (fun h => h.2 h6), Sg.set_id hρ']
      simp only [h6] at h21
      generalize (hd s.l).2.1 = t at *
      generalize (hd s.l).2.2.1 = n at *
      generalize (hd s.l).2.2.2 = a at *
      rw [Q7s] at hρ
      (refine vfun (fun _ => .no) Q0h Tryz.func36 (by kernel_rfl) ?_; simp only [Q0f, Tryz.f36, zw])
      (have zz := Bx.mk (j9 ui3 ui4 ui80 ui47 ui30 ui56 Q0u ui9 hρ); (repeat' (first | exact zc | (with_reducible first | apply And.intro | apply Q0a | apply Q0b | refine Q0c (by decide +kernel) ?_ | intro _) | refine zaW zz.out ?_ | ((first | ((with_reducible refine (h20 _ (by exact zK)).mono ?_); rintro _ S ⟨rfl, rfl⟩) | ((with_reducible refine (h21 _ (by exact zK)).mono ?_); rintro _ S ⟨rfl, rfl⟩) | (refine Q0d (by exact zK) ?_) | (refine Q0e (by exact zK) ?_)); (try refine zs zz.out ?_)) | refine zo ?_ | omega | refine zt zz.out ?_ | fail)); try (all_goals clear zz))
      all_goals (exact zE)
    · rw [if_pos ⟨hc, h6⟩]
      generalize hd s.l = t at *
      generalize s.fail 4 = s4 at *
      simp only [Q7s] at h14 hρ ⊢
      (refine vfun (fun _ => .no) Q0h Tryz.func36 (by kernel_rfl) ?_; simp only [Q0f, Tryz.f36, zw])
      (have zz := Bx.mk (j9 ui3 ui4 ui80 ui47 ui30 ui56 Q0u ui9 hρ); (repeat' (first | exact zc | (with_reducible first | apply And.intro | apply Q0a | apply Q0b | refine Q0c (by decide +kernel) ?_ | intro _) | refine zaW zz.out ?_ | ((first | ((with_reducible refine (h20 _ (by exact zK)).mono ?_); rintro _ S ⟨rfl, rfl⟩) | ((with_reducible refine (h21 _ (by exact zK)).mono ?_); rintro _ S ⟨rfl, rfl⟩) | ((with_reducible refine (h14 _ (by exact zK)).mono ?_); rintro _ S ⟨rfl, rfl⟩) | (refine Q0d (by exact zK) ?_) | (refine Q0e (by exact zK) ?_)); (try refine zs zz.out ?_)) | refine zo ?_ | omega | refine zt zz.out ?_ | fail)); try (all_goals clear zz))
      all_goals (exact zE)
  · simp only [decide_eq_false hc] at h20
    rw [if_neg (fun h => hc h.1), Sg.set_id hρ']
    rw [Q7s] at hρ
    (refine vfun (fun _ => .no) Q0h Tryz.func36 (by kernel_rfl) ?_; simp only [Q0f, Tryz.f36, zw])
    (have zz := Bx.mk (j9 ui3 ui4 ui80 ui47 ui30 ui56 Q0u ui9 hρ); (repeat' (first | exact zc | (with_reducible first | apply And.intro | apply Q0a | apply Q0b | refine Q0c (by decide +kernel) ?_ | intro _) | refine zaW zz.out ?_ | ((first | ((with_reducible refine (h20 _ (by exact zK)).mono ?_); rintro _ S ⟨rfl, rfl⟩) | ((with_reducible refine (h21 _ (by exact zK)).mono ?_); rintro _ S ⟨rfl, rfl⟩) | (refine Q0d (by exact zK) ?_) | (refine Q0e (by exact zK) ?_)); (try refine zs zz.out ?_)) | refine zo ?_ | omega | refine zt zz.out ?_ | fail)); try (all_goals clear zz))
    all_goals (exact zE)
theorem zero30 : ∃ z, Q0l Tryz.prog 47 = some (some z, 2, 16) ∧ ofValue z = .agg [.i 0, .i 0] := ⟨_, Q5s, by rfl⟩
theorem lose_ex2 {f : FuncId} {args : List AV} {e : Ex} {c a : Int} {σ S : Sg} (h : VCalls Tryz.prog f args σ (fun x σ' => ∃ o, x = .tup [.agg (exK o e), .agg [.i c, .i a]] ∧ S.sub σ')) : VCalls Tryz.prog f args σ (fun x σ' => x = .tup [.agg (exA e), .agg [.i c, .i a]] ∧ σ' = S) :=
  h.lose fun x σ' hx => by
    obtain ⟨o, rfl, hs⟩ := hx
    exact ⟨_, S, (AVw.ex o e).tup2 (AVw.refl _), hs, rfl, rfl⟩
theorem p6 (b : List UInt8) (σ : Sg) : VCalls Tryz.prog 17 [.s (bs b)] σ (fun x σ' => x = .tup [.agg (exA (X7e b).1), .agg [.i (X7e b).2.1, .i (X7e b).2.2]] ∧ σ' = σ) := by
  refine lose_ex2 ?_
  obtain ⟨z27, h27, hz27⟩ := Q5u
  simp only [ex0, Q3e, Q0s] at hz27
  have h9 := p9 b
  unfold X7e
  cases hl : Q7q b with
  | error q =>
    obtain ⟨e, a⟩ := q
    have he := lexAll_nz hl
    simp only [hl] at h9
    simp only [ex0, Q3e, Q0s]
    (refine vfun (fun _ => .no) Q0h Tryz.func17 (by kernel_rfl) ?_; simp only [Q0f, Tryz.f17, zw])
    (have zz := Bx.mk (j3 ui3 ui4 (j9 Z26 h27 hz27 ui24 ui23 ui30 ui47 ui9 ui75)); (repeat' (first | exact zc | (with_reducible first | apply And.intro | apply Q0a | apply Q0b | refine Q0c (by decide +kernel) ?_ | intro _) | ((with_reducible (rename_i a2 _ a3 _ _ a5 _ _ _ _; refine .dms (fun x => x = a5) [(0, false), (1, false), (2, true), (3, true)] (by decide) (by decide +kernel) ?_)); (refine zs zz.out ?_)) | refine zaW zz.out ?_ | ((first | ((with_reducible refine (h9 _).mono ?_); rintro _ S ⟨rfl, rfl⟩) | with_reducible refine Q0j (fun _ _ => rfl) ?_ | (refine Q0j (by intro β h; first | (rcases h with h | h <;> subst h <;> (simp (disch := first | assumption | (apply zQ; assumption; assumption) | (apply zR; assumption; assumption; (intro e; cases e; done)) | omega) only [Sg.set_same, Sg.set_ne, Sg.set_ne', Sg.del_ne, Sg.del_ne'])) | (subst h; (simp (disch := first | assumption | (apply zQ; assumption; assumption) | (apply zR; assumption; assumption; (intro e; cases e; done)) | omega) only [Sg.set_same, Sg.set_ne, Sg.set_ne', Sg.del_ne, Sg.del_ne']))) ?_) | (refine Q0d (o' := some (.cells 47 [.i e, .i a])) (Q8f (by assumption) (by exact zK)) ?_) | (refine Q0d (by exact zK) ?_) | (refine Q0e (by exact zK) ?_)); (try refine zs zz.out ?_)) | refine zo ?_ | omega | refine zt zz.out ?_ | fail)); try (all_goals clear zz))
    all_goals (refine ⟨_, .refl _, _, rfl, ?_⟩; (first | exact Sg.sub.refl _ | ((repeat (first | exact Sg.sub.refl _ | refine Sg.sub.set_both ?_ | refine Sg.sub.set_fresh ?_ (by first | assumption | exact Sg.set_none (by assumption) (by first | assumption | (apply Go.Cert.ne_of2a; assumption; assumption))))); done) | (intro y p hy; simp only [Sg.set_apply, Sg.del_apply] at hy ⊢; grind)))
  | ok l =>
    simp only [hl] at h9
    have hw := toks_wf hl
    have r10 := fun ρ S hS => (qRD 11 0 (by decide) (by decide) (by decide)).ex ρ (rd0 l) S hS hw rfl
    have o1 := (X2o 11).ex (rd0 l) hw
    have h11 := fun ρ S hS => p11 ρ ((dp 11).ex (rd0 l)).2 S hS o1.wf
    have hFl := Q0r ((dp 11).ex (rd0 l)).1
    have hFo := Q1f ((dp 11).ex (rd0 l)).1
    have hFt := Q0q ((dp 11).ex (rd0 l)).1
    have hFd := Q0x ((dp 11).ex (rd0 l)).1
    have h0 : rdA (rd0 l) = .cells 80 [.sl .any (tksA l), .i 0, .i 0, .i 0] := rfl
    have hR : oneR l = if ((dp 11).ex (rd0 l)).2.fin.c = 0 then (((dp 11).ex (rd0 l)).1, 0, 0) else (ex0, ((dp 11).ex (rd0 l)).2.fin.c, ((dp 11).ex (rd0 l)).2.fin.a) := rfl
    simp only [hR, h0] at r10 ⊢
    generalize ((dp 11).ex (rd0 l)).1 = e at *
    generalize ((dp 11).ex (rd0 l)).2.fin = s2 at *
    generalize ((dp 11).ex (rd0 l)).2 = s1 at *
    by_cases hc : s2.c = 0
    · rw [if_pos hc]
      (refine vfun (fun _ => .no) Q0h Tryz.func17 (by kernel_rfl) ?_; simp only [Q0f, Tryz.f17, zw])
      (have zz := Bx.mk (j9 ui3 ui4 Z26 h27 hz27 ui24 ui23 ui30 (j9 ui47 ui56 ui80 ui9 ui75 hFl hFo hFt hFd)); (repeat' (first | exact zc | (with_reducible first | apply And.intro | apply Q0a | apply Q0b | refine Q0c (by decide +kernel) ?_ | intro _) | refine zaW zz.out ?_ | ((first | ((with_reducible refine (h9 _).mono ?_); rintro _ S ⟨rfl, rfl⟩) | ((with_reducible refine (r10 _ _ (by exact zK)).mono ?_); rintro _ S ⟨rfl, rfl⟩) | ((with_reducible refine (h11 _ _ (by exact zK)).mono ?_); rintro _ S ⟨rfl, rfl⟩) | (refine Q0d (by exact zK) ?_) | (refine Q0e (by exact zK) ?_)); (try refine zs zz.out ?_)) | refine zo ?_ | omega | refine zt zz.out ?_ | fail)); try (all_goals clear zz))
      all_goals (refine ⟨_, .refl _, .any, by rw [Q4z], ?_⟩; (first | exact Sg.sub.refl _ | ((repeat (first | exact Sg.sub.refl _ | refine Sg.sub.set_both ?_ | refine Sg.sub.set_fresh ?_ (by first | assumption | exact Sg.set_none (by assumption) (by first | assumption | (apply Go.Cert.ne_of2a; assumption; assumption))))); done) | (intro y p hy; simp only [Sg.set_apply, Sg.del_apply] at hy ⊢; grind)))
    · rw [if_neg hc]
      simp only [Q3e, Q0s]
      (refine vfun (fun _ => .no) Q0h Tryz.func17 (by kernel_rfl) ?_; simp only [Q0f, Tryz.f17, zw])
      (have zz := Bx.mk (j9 ui3 ui4 Z26 h27 hz27 ui24 ui23 ui30 (j9 ui47 ui56 ui80 ui9 ui75 hFl hFo hFt hFd)); (repeat' (first | exact zc | (with_reducible first | apply And.intro | apply Q0a | apply Q0b | refine Q0c (by decide +kernel) ?_ | intro _) | ((with_reducible (rename_i x10 _ x8 _ _ x6 _ _ _ x4 _ _ _ _ x2 _ _ _ _ _ _; refine .dms (fun x => x = x6) [(0, false), (1, false), (2, true), (3, true)] (by decide) (by decide +kernel) ?_)); (refine zs zz.out ?_)) | refine zaW zz.out ?_ | ((first | ((with_reducible refine (h9 _).mono ?_); rintro _ S ⟨rfl, rfl⟩) | ((with_reducible refine (r10 _ _ (by exact zK)).mono ?_); rintro _ S ⟨rfl, rfl⟩) | ((with_reducible refine (h11 _ _ (by exact zK)).mono ?_); rintro _ S ⟨rfl, rfl⟩) | with_reducible refine Q0j (fun _ _ => rfl) ?_ | (refine Q0j (by intro β h; first | (rcases h with h | h <;> subst h <;> (simp (disch := first | assumption | (apply zQ; assumption; assumption) | (apply zR; assumption; assumption; (intro e; cases e; done)) | omega) only [Sg.set_same, Sg.set_ne, Sg.set_ne', Sg.del_ne, Sg.del_ne'])) | (subst h; (simp (disch := first | assumption | (apply zQ; assumption; assumption) | (apply zR; assumption; assumption; (intro e; cases e; done)) | omega) only [Sg.set_same, Sg.set_ne, Sg.set_ne', Sg.del_ne, Sg.del_ne']))) ?_) | (refine Q0d (o' := some (.cells 47 [.i s2.c, .i s2.a])) (Q8f (by assumption) (by exact zK)) ?_) | (refine Q0d (by exact zK) ?_) | (refine Q0e (by exact zK) ?_)); (try refine zs zz.out ?_)) | refine zo ?_ | omega | refine zt zz.out ?_ | fail)); try (all_goals clear zz))
      all_goals (refine ⟨_, .refl _, _, rfl, ?_⟩; (first | exact Sg.sub.refl _ | ((repeat (first | exact Sg.sub.refl _ | refine Sg.sub.set_both ?_ | refine Sg.sub.set_fresh ?_ (by first | assumption | exact Sg.set_none (by assumption) (by first | assumption | (apply Go.Cert.ne_of2a; assumption; assumption))))); done) | (intro y p hy; simp only [Sg.set_apply, Sg.del_apply] at hy ⊢; grind)))
end Go.Proofs.YtjdapkelojdefaaGreatDoor
namespace Go.Parse
open Go.V Go.Lex Go.Proofs.YtjdapkelojdefaaGreatDoor
inductive Sm : Ex → Prop
  | leaf (k op : Int) (t n : By) (v : Vl) : Sm (.mk k op t n v [])
  | one (k op : Int) (t n : By) (v : Vl) (e : Ex) (h : Sm e) : Sm (.mk k op t n v [e])
  | two (k op : Int) (t n : By) (v : Vl) (e f : Ex) (h : Sm e) (h2 : Sm f) : Sm (.mk k op t n v [e, f])
def SmF (F : Pr) : Prop := ∀ s, Sm (F s).1
structure Dp.Sm (D : Dp) : Prop where
  fac : SmF D.fac
  not : SmF D.not
  ex : SmF D.ex
end Go.Parse
namespace Go.Proofs.YtjdapkelojdefaaGreatDoor
open Go Go.V Go.Lex Go.Parse
theorem Y0q {l : List Ex} {k : Nat} (h : k < l.length) : (exsA l).getD k [] = exA l[k] := by
  induction l generalizing k with
  | nil => simp at h
  | cons e r ih =>
    rw [Q2e]
    cases k with
    | zero => rfl
    | succ k => exact ih (by simpa using h)
theorem X5w (l : List Ex) : Q1t (exsA l) 8 = True := eq_true (by
  induction l with
  | nil => intro e he; rw [Q0s] at he; cases he
  | cons x r ih =>
    intro e he
    rw [Q2e] at he
    rcases List.mem_cons.1 he with rfl | he
    · exact Q0r x
    · exact ih e he)
theorem p12 (l : List Ex) (h : ∀ (i : Nat) (hi : i < l.length) (σ : Sg), VCalls Tryz.prog 13 [.agg (exA l[i]), .agg (exA l[i])] σ (fun x σ' => x = .b true ∧ σ' = σ)) (hl : l.length ≤ 100) (σ : Sg) : VCalls Tryz.prog 26 [.sl .any (exsA l), .sl .any (exsA l)] σ (fun x σ' => x = .b true ∧ σ' = σ) := by
  have hn := Q1y l
  have hall := X5w l
  (refine vfun (fun _ => .no) Q0h Tryz.func26 (by kernel_rfl) ?_; simp only [Q0f, Tryz.f26, zw])
  (have zz := Bx.mk (j6 ui3 ui4 ui26 ui24 hn hall); (repeat' (first | exact zc | (with_reducible first | apply And.intro | apply Q0a | apply Q0b | refine Q0c (by decide +kernel) ?_ | intro _) | refine zaW zz.out ?_ | refine zo ?_ | omega | refine zt zz.out ?_ | fail)); try (all_goals clear zz))
  refine VW.loop3 (0 : Nat) () () (fun k _ _ => k ≤ l.length) (fun k _ _ => [(0, .sl .any (exsA l)), (1, .sl .any (exsA l)), (5, .i k)]) (fun _ _ _ => σ) (fun k _ _ => l.length - k) (by omega) (.refl _) ?_ ?_
  · simp only [vO, vQ, ↓vP, vE, vS, vB, vL, vF, vM, vN, Q0g, Nat.reduceEqDiff, Nat.reduceAdd, Nat.reduceLeDiff, ne_eq, not_false_eq_true, Nat.reduceMul, Nat.reduceSub, Int.toNat_zero, Int.reduceToNat, vT]
    all_goals rfl
  rintro k _ _ hk
  rcases Nat.lt_or_ge k l.length with hk2 | hk2
  · have hg := Y0q hk2
    have hp := h k hk2
    have hFl := Q0r l[k]
    have hFt := Q0q l[k]
    generalize exA l[k] = E at *
    (have zz := Bx.mk (j9 ui3 ui4 ui26 ui24 hn hall hg hFl hFt); (repeat' (first | exact zc | (with_reducible first | apply And.intro | apply Q0a | apply Q0b | refine Q0c (by decide +kernel) ?_ | intro _) | refine zaW zz.out ?_ | (((with_reducible refine (hp _).mono ?_); rintro _ S ⟨rfl, rfl⟩); (try refine zs zz.out ?_)) | refine zo ?_ | omega | refine zt zz.out ?_ | fail)); try (all_goals clear zz))
    exact ⟨k + 1, (), (), ⟨hk2, by omega⟩, .refl _, rfl⟩
  · (have zz := Bx.mk (j6 ui3 ui4 ui26 ui24 hn hall); (repeat' (first | exact zc | (with_reducible first | apply And.intro | apply Q0a | apply Q0b | refine Q0c (by decide +kernel) ?_ | intro _) | refine zaW zz.out ?_ | refine zo ?_ | omega | refine zt zz.out ?_ | fail)); try (all_goals clear zz))
    exact ⟨_, .refl _, rfl⟩
theorem eq24 {d : TypeDesc} {a b a' b' : Int} {s t : ByteArray} : veqT Tryz.prog 23 d (.agg [.i a, .i b, .s s]) (.agg [.i a', .i b', .s t]) = some (decide (a = a') && (decide (b = b') && (sEq s t && true))) := by
  rw [Y0c (by kernel_rfl), X0z (d := 9999) Tryz.underlying23 (by kernel_rfl)]
  exact Q3u (by decide) (Q1w Q2c Z3 rfl) (Q1w Q2c Z3 rfl) (X1a Z3) (Q3u (by decide) (Q1w Q2c Z3 rfl) (Q1w Q2c Z3 rfl) (X1a Z3) (Q3u (by decide) (Q1w Q2f Z9 rfl) (Q1w Q2f Z9 rfl) (X6n Z9) rfl))
theorem p7w (k op : Int) (t n : By) (v : Vl) (l : List Ex) (h12 : ∀ σ, VCalls Tryz.prog 26 [.sl .any (exsA l), .sl .any (exsA l)] σ (fun x σ' => x = .b true ∧ σ' = σ)) (σ : Sg) : VCalls Tryz.prog 13 [.agg (exA (.mk k op t n v l)), .agg (exA (.mk k op t n v l))] σ (fun x σ' => x = .b true ∧ σ' = σ) := by
  rw [Q5l]
  have he : ∀ d, veqT Tryz.prog 23 d (.agg [.i v.1, .i v.2.1, .s (bs v.2.2)]) (.agg [.i v.1, .i v.2.1, .s (bs v.2.2)]) = some true := fun d => by rw [eq24]; simp [sEq]
  generalize exsA l = L at *
  generalize v.1 = va at *
  generalize v.2.1 = vb at *
  generalize v.2.2 = vc at *
  (refine vfun (fun _ => .ro) Q0h Tryz.func13 (by kernel_rfl) ?_; simp only [Q0f, Tryz.f13, zw])
  (have zz := Bx.mk (j7 ui3 ui4 ui9 ui23 ui26 ui24 he); (repeat' (first | exact zc | (with_reducible first | apply And.intro | apply Q0a | apply Q0b | refine Q0c (by decide +kernel) ?_ | intro _) | refine zaW zz.out ?_ | (((with_reducible refine (h12 _).mono ?_); rintro _ S ⟨rfl, rfl⟩); (try refine zs zz.out ?_)) | refine zo ?_ | omega | refine zt zz.out ?_ | fail)); try (all_goals clear zz))
  exact ⟨_, .refl _, rfl⟩
theorem p7 {e : Ex} (h : Sm e) : ∀ σ, VCalls Tryz.prog 13 [.agg (exA e), .agg (exA e)] σ (fun x σ' => x = .b true ∧ σ' = σ) := by
  induction h with
  | leaf k op t n v => exact fun σ => p7w k op t n v [] (p12 [] (fun i hi => by simp at hi) (by simp)) σ
  | one k op t n v e h ih =>
    exact fun σ => p7w k op t n v [e] (p12 [e] (fun i hi => by
      obtain rfl : i = 0 := by simp at hi; omega
      exact ih) (by simp)) σ
  | two k op t n v e f h h2 ih ih2 =>
    exact fun σ => p7w k op t n v [e, f] (p12 [e, f] (fun i hi => by
      match i, hi with
      | 0, _ => exact ih
      | 1, _ => exact ih2) (by simp)) σ
end Go.Proofs.YtjdapkelojdefaaGreatDoor
namespace Go.Proofs.YtjdapkelojdefaaGreatDoor
open Go Go.V Go.Lex Go.Parse Go.Print
abbrev TW : TypeId := 64
def dropA : List AV := [.i 2, .s (bs [116]), .sl .nil [], .s (bs []), .sl .nil [], .sl .nil [], .sl .nil [], .s (bs []), .sl .nil [], .sl .nil [], .sl .nil [], .sl .nil [], .b false, .i (-1)]
def X5g : List Tk := [wT [68, 82, 79, 80], wT [84, 65, 66, 76, 69], nT [116]]
theorem z_one0 (o : Own) (σ : Sg) : VCalls Tryz.prog 58 [.sl o []] σ (fun x σ' => x = .b true ∧ σ' = σ) := by
  have hc := X4g [] 44 (fun e => !rt e) o (by simp) (fun e he => by cases he)
  rw [Q0s] at hc
  simp only [List.any_nil] at hc
  (refine vfun (fun _ => .no) Q0h Tryz.func58 (by kernel_rfl) ?_; simp only [Q0f, Tryz.f58, zw])
  (have zz := Bx.mk (j9 ui3 ui4 ui9 ui22 ui23 ui24 ui25 ui26 ui34); (repeat' (first | exact zc | (with_reducible first | apply And.intro | apply Q0a | apply Q0b | refine Q0c (by decide +kernel) ?_ | intro _) | refine zaY zz.out ?_ | ((first | (with_reducible refine uc (hc _) ?_) | (refine Q0d (by exact zK) ?_) | (refine Q0e (by exact zK) ?_)); (try refine zsY zz.out ?_)) | refine zo ?_ | omega | refine ztY zz.out ?_ | fail)); try (all_goals clear zz))
  all_goals exact ⟨_, .refl _, rfl⟩
theorem z_fits (σ : Sg) : VCalls Tryz.prog 28 [.agg dropA] σ (fun x σ' => x = .b true ∧ σ' = σ) := by
  have h1 := z_one0 .nil
  have hN : ∀ σ, VCalls Tryz.prog 42 [.s (bs [116])] σ (fun x σ' => x = .b true ∧ σ' = σ) := fun σ => Q2n [116] σ
  unfold dropA
  (refine vfun (fun _ => .ro) Q0h Tryz.func28 (by kernel_rfl) ?_; simp only [Q0f, Tryz.f28, zw])
  (have zz := Bx.mk (j6 ui0 ui3 ui4 ui9 ui22 (j9 ui23 ui24 ui25 ui26 ui37 ui38 ui39 ui40 (j9 ui41 ui42 ui67 ui68 ui70 ui71 Q1e Q1r Q1s))); (repeat' (first | exact zc | (with_reducible first | apply And.intro | apply Q0a | apply Q0b | refine Q0c (by decide +kernel) ?_ | intro _) | refine zaY zz.out ?_ | ((first | (with_reducible refine uc (h1 _) ?_) | (with_reducible refine uc (hN _) ?_) | (with_reducible refine uc (Q2n _ _) ?_) | (with_reducible refine uc (Q7z _ (by assumption) _) ?_) | (with_reducible refine uc (Q3j _ (by assumption) _) ?_) | (with_reducible refine uc (Q9l _ (by assumption) (by assumption) _) ?_) | (with_reducible refine uc (Q9k _ (by assumption) (by assumption) _) ?_) | (with_reducible refine uc (Q3k _ (by assumption) _) ?_) | (refine Q0d (by exact zK) ?_) | (refine Q0e (by exact zK) ?_)); (try refine zsY zz.out ?_)) | refine zo ?_ | omega | refine ztY zz.out ?_ | fail)); try (all_goals clear zz))
  all_goals exact ⟨_, .refl _, rfl⟩
theorem z_state (B : Sg) (ω τ : Nat) (hok : okS B ω τ) : VCalls Tryz.prog 30 [.ref ω 0, .agg dropA] (WS B ω τ [] 0 0) (fun x σ' => x = .tup [] ∧ ∃ τ', okS B ω τ' ∧ σ' = WS B ω τ' X5g 0 0) := by
  unfold dropA
  (refine vfun (fun _ => .ro) Q0h Tryz.func30 (by kernel_rfl) ?_; simp only [Q0f, Tryz.f30, zw])
  (have zz := Bx.mk (j5 ui0 ui3 ui4 ui9 (j9 ui22 ui23 ui24 ui25 ui26 ui37 ui38 ui39 (j9 ui40 ui41 ui42 ui55 ui56 ui57 ui58 ui59 (j9 ui67 ui68 ui70 ui71 ui75 Q1k Q0u Q1e (j9 Q1r Q1s @allOne_app @allLen_app @allOne_cons @allLen_cons @allOne_nil @allLen_nil WLg))))); (repeat' (first | exact zc | (with_reducible first | apply And.intro | apply Q0a | apply Q0b | refine Q0c (by decide +kernel) ?_ | intro _) | ((with_reducible first | refine .dms (fun x => False) [(0, false), (1, false), (2, false), (3, true), (4, false), (5, true)] (by decide) (by decide +kernel) ?_ | refine .dm (fun x => False) [(0, false), (1, false), (2, false), (3, true), (4, false), (5, true)] (by decide) (by decide +kernel) ?_); (refine zsR zz.out ?_)) | ((with_reducible first | refine .dms (fun x => False) [(0, false), (1, false), (2, false), (3, true), (4, false), (5, true)] (by decide) (by decide +kernel) ?_ | refine .dm (fun x => False) [(0, false), (1, false), (2, false), (3, true), (4, false), (5, true)] (by decide) (by decide +kernel) ?_); (refine zsR zz.out ?_)) | refine zaR zz.out ?_ | refine zkN zz.out ?_ | ((first | (refine Q0j (by intro β h; first | (rcases h with h | h <;> subst h <;> (simp (disch := first | assumption | (apply zQ; assumption; assumption) | (apply zR; assumption; assumption; (intro e; cases e; done)) | omega) only [Sg.set_same, Sg.set_ne, Sg.set_ne', Sg.del_ne, Sg.del_ne'])) | (subst h; (simp (disch := first | assumption | (apply zQ; assumption; assumption) | (apply zR; assumption; assumption; (intro e; cases e; done)) | omega) only [Sg.set_same, Sg.set_ne, Sg.set_ne', Sg.del_ne, Sg.del_ne']))) ?_) | ((with_reducible refine zU (Q0m _ _ _ _ _ _ _ _ (by repeat (first | exact Q0p | refine Q0k ?_ (by simp))) (by exact zO) (by exact zN)) ?_); rintro _ S ⟨rfl, τ1, ⟨f1, n1⟩, rfl⟩; have n1s := n1.symm) | ((with_reducible refine zU (Q3r _ _ _ _ _ _ _ (by exact zO) (by exact zN)) ?_); rintro _ S ⟨rfl, τ1, ⟨f1, n1⟩, rfl⟩; have n1s := n1.symm) | ((with_reducible refine zU (Q0m _ _ _ _ _ _ _ _ (by repeat (first | exact Q0p | refine Q0k ?_ (by simp))) (by exact zO) (by exact zN)) ?_); rintro _ S ⟨rfl, τ1, ⟨f1, n1⟩, rfl⟩; have n1s := n1.symm) | ((with_reducible refine zU (Q3r _ _ _ _ _ _ _ (by exact zO) (by exact zN)) ?_); rintro _ S ⟨rfl, τ1, ⟨f1, n1⟩, rfl⟩; have n1s := n1.symm) | (refine Q0d (by exact zK) ?_) | (refine Q0e (by exact zK) ?_)); (try refine zsR zz.out ?_)) | refine zmR zz.out ?_ | refine zo ?_ | omega | refine ztR zz.out ?_ | fail)); try (all_goals clear zz))
  exact ⟨_, .refl _, _, ⟨by assumption, by assumption⟩, rfl⟩
theorem drop_good : ∀ x ∈ X5g, GoodT x := by
  intro x hx
  simp only [X5g, List.mem_cons, List.not_mem_nil, or_false] at hx
  rcases hx with rfl | rfl | rfl
  · exact .inr (.inl ⟨rfl, by decide, rfl⟩)
  · exact .inr (.inl ⟨rfl, by decide, rfl⟩)
  · exact .inl ⟨rfl, by decide, rfl⟩
theorem drop_fin : fin X5g 0 = ([68, 82, 79, 80, 32, 84, 65, 66, 76, 69, 32, 116], 0) := by decide +kernel
theorem z_script (σ : Sg) : VCalls Tryz.prog 15 [.sl .full [dropA]] σ (fun x σ' => x = .tup [.s (bs [68, 82, 79, 80, 32, 84, 65, 66, 76, 69, 32, 116]), .i 0] ∧ σ' = σ) := by
  have hf := z_fits
  have hl : dropA.length = 14 := rfl
  have hone : dropA.all AV.one = true := rfl
  have ht : dropA.take 14 = dropA := rfl
  have hst : ∀ (S : Sg) (ω : Nat), S ω = some (.cells 59 [.sl .nil [], .i 0, .i 0]) → VCalls Tryz.prog 30 [.ref ω 0, .agg dropA] S (fun x σ' => x = .tup [] ∧ ∃ τ', okS S ω τ' ∧ σ' = WS S ω τ' X5g 0 0) := fun S ω hS => by
    refine VCalls.tok0 (e := 102) 0 4 hS rfl (fun τ hτ hne => ?_)
    exact z_state S ω τ ⟨hτ, hne⟩
  generalize dropA = D at *
  (refine vfun (fun _ => .no) Q0h Tryz.func15 (by kernel_rfl) ?_; simp only [Q0f, Tryz.f15, zw])
  (have zz := Bx.mk (j4 ui0 ui3 ui4 (j9 ui9 ui22 ui23 ui24 ui25 ui26 ui30 ui31 (j9 ui35 ui37 ui38 ui39 ui40 ui41 ui42 ui55 (j9 ui56 ui57 ui58 ui59 ui67 ui68 ui70 ui71 (j9 ui75 Q1k Q0u Q1e Q1r Q1s hl hone ht))))); (repeat' (first | exact zc | (with_reducible first | apply And.intro | apply Q0a | apply Q0b | refine Q0c (by decide +kernel) ?_ | intro _) | refine zaY zz.out ?_ | ((first | (with_reducible refine uc (Q9m _ (by assumption) (by assumption) _) ?_) | ((with_reducible refine zU (Q0m _ _ _ _ _ _ _ _ (by repeat (first | exact Q0p | refine Q0k ?_ (by simp))) (by exact zO) (by exact zN)) ?_); rintro _ S ⟨rfl, τ1, ⟨f1, n1⟩, rfl⟩; have n1s := n1.symm) | (refine Q0d (by exact zK) ?_) | (refine Q0e (by exact zK) ?_)); (try refine zsY zz.out ?_)) | refine zo ?_ | omega | refine ztY zz.out ?_ | fail)); try (all_goals clear zz))
  rename_i ω hω
  refine VW.loop3 (0 : Nat) (0 : Nat) () (fun k τ _ => (k = 0 ∨ k = 1) ∧ (k = 1 → okS (σ.set ω (.cells 59 [.sl .nil [], .i 0, .i 0])) ω τ)) (fun k _ _ => [(2, .s (bs [])), (3, .i 0), (4, .ref ω 0), (17, .sl .full [D]), (18, .i 1), (19, .i k)]) (fun k τ _ => if k = 0 then σ.set ω (.cells 59 [.sl .nil [], .i 0, .i 0]) else WS (σ.set ω (.cells 59 [.sl .nil [], .i 0, .i 0])) ω τ X5g 0 0) (fun k _ _ => 1 - k) ⟨.inl rfl, fun h => by cases h⟩ (.refl _) ?_ ?_
  · simp only [vO, vQ, ↓vP, vE, vS, vB, vL, vF, vM, vN, Q0g, Nat.reduceEqDiff, Nat.reduceAdd, Nat.reduceLeDiff, ne_eq, not_false_eq_true, Nat.reduceMul, Nat.reduceSub, Int.toNat_zero, Int.reduceToNat, vT]
    all_goals first | rfl | exact ⟨rfl, rfl⟩
  rintro k τ _ ⟨hk, hτ⟩
  rcases hk with rfl | rfl
  · simp only [↓reduceIte]
    (have zz := Bx.mk (j4 ui0 ui3 ui4 (j9 ui9 ui22 ui23 ui24 ui25 ui26 ui30 ui31 (j9 ui35 ui37 ui38 ui39 ui40 ui41 ui42 ui55 (j9 ui56 ui57 ui58 ui59 ui67 ui68 ui70 ui71 (j9 ui75 Q1k Q0u Q1e Q1r Q1s hl hone ht))))); (repeat' (first | exact zc | (with_reducible first | apply And.intro | apply Q0a | apply Q0b | refine Q0c (by decide +kernel) ?_ | intro _) | refine zaY zz.out ?_ | ((first | (with_reducible refine uc (hf _) ?_) | ((with_reducible refine zU (hst _ _ (by exact zK)) ?_); rintro _ S ⟨rfl, τ1, hok, rfl⟩) | (with_reducible refine uc (Q9m _ (by assumption) (by assumption) _) ?_) | ((with_reducible refine zU (Q0m _ _ _ _ _ _ _ _ (by repeat (first | exact Q0p | refine Q0k ?_ (by simp))) (by exact zO) (by exact zN)) ?_); rintro _ S ⟨rfl, τ1, ⟨f1, n1⟩, rfl⟩; have n1s := n1.symm) | (refine Q0d (by exact zK) ?_) | (refine Q0e (by exact zK) ?_)); (try refine zsY zz.out ?_)) | refine zo ?_ | omega | refine ztY zz.out ?_ | fail)); try (all_goals clear zz))
    rename_i x hx hne _
    have f1 := (Sg.none_set hok.free).2
    refine ⟨1, τ1, (), ⟨⟨.inr rfl, fun _ => ⟨f1, hok.ne⟩⟩, by decide⟩, ?_, rfl⟩
    rw [if_neg (by decide)]
    have f2 := (Sg.none_set hok.free).1
    have f3 := (Sg.none_set f1).2
    intro y p hy
    simp only [WS, Y0i, Sg.set_apply] at hy ⊢
    grind
  · have hτ := hτ rfl
    simp only [show ¬ ((1 : Nat) = 0) from by decide, ↓reduceIte]
    (have zz := Bx.mk (j4 ui0 ui3 ui4 (j9 ui9 ui22 ui23 ui24 ui25 ui26 ui30 ui31 (j9 ui35 ui37 ui38 ui39 ui40 ui41 ui42 ui55 (j9 ui56 ui57 ui58 ui59 ui67 ui68 ui70 ui71 (j9 ui75 Q1k Q0u Q1e Q1r Q1s hl hone ht))))); (repeat' (first | exact zc | (with_reducible first | apply And.intro | apply Q0a | apply Q0b | refine Q0c (by decide +kernel) ?_ | intro _) | refine zaY zz.out ?_ | ((first | (with_reducible refine uc (Q9m _ (by assumption) (by assumption) _) ?_) | ((with_reducible refine zU (Q0m _ _ _ _ _ _ _ _ (by repeat (first | exact Q0p | refine Q0k ?_ (by simp))) (by exact zO) (by exact zN)) ?_); rintro _ S ⟨rfl, τ1, ⟨f1, n1⟩, rfl⟩; have n1s := n1.symm) | (refine Q0d (by exact zK) ?_) | (refine Q0e (by exact zK) ?_)); (try refine zsY zz.out ?_)) | refine zo ?_ | omega | refine ztY zz.out ?_ | fail)); try (all_goals clear zz))
    have f1 := (Sg.none_set hτ.free).2
    have n1 := hτ.ne
    refine zU (w_end _ σ ω τ X5g 0 0 ?_ drop_good (by decide)) ?_
    · intro y p hy
      show (WS _ ω τ X5g 0 0) y = some p
      simp only [WS, Y0i, Sg.set_apply]
      grind
    rw [drop_fin]
    rintro _ S2 ⟨rfl, rfl⟩
    simp only [vO, vQ, ↓vP, vE, vS, vB, vL, vF, vM, vN, Q0g, Nat.reduceEqDiff, Nat.reduceAdd, Nat.reduceLeDiff, ne_eq, not_false_eq_true, Nat.reduceMul, Nat.reduceSub, Int.toNat_zero, Int.reduceToNat, vT]
    (have zz := Bx.mk (j9 ui0 ui3 ui4 ui9 ui22 ui23 ui24 ui25 (j9 ui26 ui30 ui31 ui35 ui37 ui38 ui39 ui40 (j9 ui41 ui42 ui55 ui56 ui57 ui58 ui59 ui67 (j9 ui68 ui70 ui71 ui75 Q1k Q0u Q1e Q1r Q1s)))); (repeat' (first | exact zc | (with_reducible first | apply And.intro | apply Q0a | apply Q0b | refine Q0c (by decide +kernel) ?_ | intro _) | refine zaY zz.out ?_ | ((first | (with_reducible refine uc (Q9m _ (by assumption) (by assumption) _) ?_) | ((with_reducible refine zU (Q0m _ _ _ _ _ _ _ _ (by repeat (first | exact Q0p | refine Q0k ?_ (by simp))) (by exact zO) (by exact zN)) ?_); rintro _ S ⟨rfl, τ1, ⟨f1, n1⟩, rfl⟩; have n1s := n1.symm) | (refine Q0d (by exact zK) ?_) | (refine Q0e (by exact zK) ?_)); (try refine zsY zz.out ?_)) | refine zo ?_ | omega | refine ztY zz.out ?_ | fail)); try (all_goals clear zz))
    all_goals exact ⟨_, .refl _, rfl⟩
end Go.Proofs.YtjdapkelojdefaaGreatDoor
namespace Go.V
theorem AVw.els {es es' : List (List AV)} (hl : es.length = es'.length) (h : ∀ (i : Nat) (e e' : List AV), es[i]? = some e → es'[i]? = some e' → e.length = e'.length ∧ ∀ (j : Nat) (x x' : AV), e[j]? = some x → e'[j]? = some x' → AVw x x') : AVw (.sl .any es) (.sl .any es') := fun κ v hr => by
  have hget : ∀ (i : Nat) (e' : List AV), es'[i]? = some e' → ∃ e, es[i]? = some e := fun i e' h' => by
    have hi : i < es.length := by rw [hl]; exact (List.getElem?_eq_some_iff.1 h').1
    exact ⟨_, List.getElem?_eq_getElem hi⟩
  cases hr with
  | slnil _ hk =>
    obtain rfl : es' = [] := List.eq_nil_of_length_eq_zero hl.symm
    exact .slnil _ hk
  | slemp _ hk a c =>
    obtain rfl : es' = [] := List.eq_nil_of_length_eq_zero hl.symm
    exact .slemp _ hk a c
  | sl _ _ a n c sz f hk hn hc hs hz hrd hx =>
    refine .sl _ es' a n c sz f hk (by omega) hc hs (fun i e' h' => ?_) hrd (fun i j e' x' h1 h2 => ?_)
    · obtain ⟨e, he⟩ := hget i e' h'
      rw [← (h i e e' he h').1]; exact hz i e he
    · obtain ⟨e, he⟩ := hget i e' h1
      obtain ⟨q1, q2⟩ := h i e e' he h1
      have hj : j < e.length := by rw [q1]; exact (List.getElem?_eq_some_iff.1 h2).1
      exact q2 j _ x' (List.getElem?_eq_getElem hj) h2 κ _ (hx i j e _ he (List.getElem?_eq_getElem hj))
end Go.V
namespace Go.Proofs.YtjdapkelojdefaaGreatDoor
open Go Go.V Go.Lex Go.Parse Go.Print
abbrev five : Ex := .mk 1 0 [] [] (1, 5, []) []
abbrev X7f : Ex := .mk 5 0 [] [] (0, 0, []) [five]
theorem AVw.one (o : Own) (e : Ex) (k op : Int) (t n : By) (v : Vl) (q : Own) : AVw (.agg [.i k, .i op, .s (bs t), .s (bs n), .i v.1, .i v.2.1, .s (bs v.2.2), .sl o [exK q e]]) (.agg (exA (.mk k op t n v [e]))) := by
  rw [Q5l, Q2e, Q0s]
  refine AVw.agg rfl (fun i x x' h1 h2 => ?_)
  match i, h1, h2 with
  | 0, h1, h2 | 1, h1, h2 | 2, h1, h2 | 3, h1, h2 | 4, h1, h2 | 5, h1, h2 | 6, h1, h2 => cases h1; cases h2; exact AVw.refl _
  | 7, h1, h2 =>
    cases h1; cases h2
    have hh : AVw (.sl .any [exK q e]) (.sl .any [exA e]) := by
      refine AVw.els rfl (fun i a a' h1 h2 => ?_)
      match i, h1, h2 with
      | 0, h1, h2 =>
        cases h1; cases h2
        cases e with
        | mk k2 op2 t2 n2 v2 l2 =>
        rw [Q5l, Q3e]
        refine ⟨rfl, fun j y y' g1 g2 => ?_⟩
        match j, g1, g2 with
        | 0, g1, g2 | 1, g1, g2 | 2, g1, g2 | 3, g1, g2 | 4, g1, g2 | 5, g1, g2 | 6, g1, g2 => cases g1; cases g2; exact AVw.refl _
        | 7, g1, g2 => cases g1; cases g2; exact AVw.any _ _
    exact fun κ v hr => hh κ v (AVw.any _ _ κ v hr)
theorem five_lim : Lim X7f := by
  have r0 : inR 0 := by unfold inR; omega
  refine .mk _ _ _ _ _ _ (by simp) ⟨by unfold inR; omega, r0, r0, r0⟩ (fun e he => ?_)
  simp at he
  subst he
  exact .mk _ _ _ _ _ _ (by simp) ⟨by unfold inR; omega, r0, by unfold inR; simp, by unfold inR; simp⟩ (fun e he => by cases he)
theorem five_txt : rt X7f = true ∧ (toTr X7f).tk.length ≤ 2 ^ 30 ∧ Y0h X7f = ([45, 32, 40, 32, 53, 32, 41], 0) := by decide +kernel
theorem X2s (σ : Sg) : VCalls Tryz.prog 8 [] σ (fun x σ' => x = .b true ∧ σ' = σ) := by
  obtain ⟨_, q2, q3⟩ := five_txt
  have hE : ∀ σ, VCalls Tryz.prog 11 [.agg [.i 5, .i 0, .s (bs []), .s (bs []), .i 0, .i 0, .s (bs []), .sl .full [[.i 1, .i 0, .s (bs []), .s (bs []), .i 1, .i 5, .s (bs []), .sl .nil []]]]] σ (fun x σ' => x = .tup [.s (bs [45, 32, 40, 32, 53, 32, 41]), .i 0] ∧ σ' = σ) := fun σ => by
    have h := X2b X7f five_lim (fun _ => q2) σ
    rw [q3] at h
    exact VCalls.arg1 (AVw.one .full five 5 0 [] [] (0, 0, []) .nil) h
  have hS := z_script
  unfold dropA at hS
  (refine vfun (fun _ => .no) Q0h Tryz.func8 (by kernel_rfl) ?_; simp only [Q0f, Tryz.f8, zw])
  (have zz := Bx.mk (j9 ui0 ui3 ui4 ui9 ui22 ui23 ui24 ui25 (j9 ui26 ui30 ui31 ui35 ui37 ui38 ui39 ui40 (j9 ui41 ui42 ui67 ui68 ui70 ui71 Q1e Q1r Q1s))); (repeat' (first | exact zc | (with_reducible first | apply And.intro | apply Q0a | apply Q0b | refine Q0c (by decide +kernel) ?_ | intro _) | refine zaY zz.out ?_ | ((first | (with_reducible refine uc (hE _) ?_) | (with_reducible refine uc (hS _) ?_) | (with_reducible refine uc (X2b _ (by assumption) (by assumption) _) ?_) | (refine Q0d (by exact zK) ?_) | (refine Q0e (by exact zK) ?_)); (try refine zsY zz.out ?_)) | refine zo ?_ | omega | refine ztY zz.out ?_ | fail)); try (all_goals clear zz))
  all_goals (exact zE)
theorem x_few : ∀ (d : Nat), d ≤ 100 → ∀ (e : Ex) (σ : Sg), VCalls Tryz.prog 9 [.agg (exA e), .i d] σ (fun x σ' => x = .b (fewB d e) ∧ σ' = σ)
  | 0, _, e, σ => by
    have hel := Q0r e
    unfold fewB
    generalize exA e = E at *
    (refine vfun (fun k => if k = 2 then .ro else .no) Q0h Tryz.func9 (by kernel_rfl) ?_; simp only [Q0f, Tryz.f9, zw])
    (have zz := Bx.mk (j2 ui0 (j9 ui3 ui4 ui9 ui22 ui23 ui24 ui25 ui26 hel)); (repeat' (first | exact zc | (with_reducible first | apply And.intro | apply Q0a | apply Q0b | refine Q0c (by decide +kernel) ?_ | intro _) | refine zaY zz.out ?_ | ((first | (refine Q0d (by exact zK) ?_) | (refine Q0e (by exact zK) ?_)); (try refine zsY zz.out ?_)) | refine zo ?_ | omega | refine ztY zz.out ?_ | fail)); try (all_goals clear zz))
    all_goals exact ⟨_, .refl _, rfl⟩
  | d + 1, hd, .mk kk op t n v l, σ => by
    have ih := fun e σ => x_few d (by omega) e σ
    have hn := Q1y l
    have hall := X5w l
    have hgt := fun k (h : k < l.length) => Y0q (l := l) h
    have hst := Q6g t
    have hsn := Q6g n
    have hsv := Q6g v.2.2
    rw [Q5l]
    unfold fewB
    have hd1 : (((d + 1 : Nat) : Int)) = (d : Int) + 1 := by omega
    rw [hd1]
    by_cases hf : l.length ≤ 3 ∧ t.length ≤ 4096 ∧ n.length ≤ 4096 ∧ v.2.2.length ≤ 4096
    · rw [decide_eq_true hf, Bool.true_and]
      obtain ⟨f1, f2, f3, f4⟩ := hf
      (refine vfun (fun k => if k = 2 then .ro else .no) Q0h Tryz.func9 (by kernel_rfl) ?_; simp only [Q0f, Tryz.f9, zw])
      (have zz := Bx.mk (j6 ui0 ui3 ui4 ui9 ui22 (j9 ui23 ui24 ui25 ui26 hn hall hst hsn hsv)); (repeat' (first | exact zc | (with_reducible first | apply And.intro | apply Q0a | apply Q0b | refine Q0c (by decide +kernel) ?_ | intro _) | refine zaY zz.out ?_ | ((first | (refine Q0d (by exact zK) ?_) | (refine Q0e (by exact zK) ?_)); (try refine zsY zz.out ?_)) | refine zo ?_ | omega | refine ztY zz.out ?_ | fail)); try (all_goals clear zz))
      refine VW.loop3 (0 : Nat) () () (fun k _ _ => k ≤ l.length ∧ l.all (fewB d) = (l.drop k).all (fewB d)) (fun k _ _ => [(1, .i ((d : Int) + 1)), (2, .ro [.i kk, .i op, .s (bs t), .s (bs n), .i v.1, .i v.2.1, .s (bs v.2.2), .sl .any (exsA l)]), (5, .i k)]) (fun _ _ _ => σ) (fun k _ _ => l.length - k) ⟨Nat.zero_le _, rfl⟩ (.refl _) ?_ ?_
      · simp only [vO, vQ, ↓vP, vE, vS, vB, vL, vF, vM, vN, Q0g, Nat.reduceEqDiff, Nat.reduceAdd, Nat.reduceLeDiff, ne_eq, not_false_eq_true, Nat.reduceMul, Nat.reduceSub, Int.toNat_zero, Int.reduceToNat, vT]
        all_goals rfl
      rintro k _ _ ⟨hk, hr⟩
      have hsub : (d : Int) + 1 - 1 = d := by omega
      rcases Nat.lt_or_ge k l.length with hk2 | hk2
      · have hg := hgt k hk2
        have hp := ih l[k]
        have hdr : (l.drop k).all (fewB d) = (fewB d l[k] && (l.drop (k + 1)).all (fewB d)) := by rw [List.drop_eq_getElem_cons hk2, List.all_cons]
        have hFl := Q0r l[k]
        have hFt := Q0q l[k]
        generalize exA l[k] = E at *
        generalize fewB d l[k] = b at *
        cases b with
        | false =>
          rw [hr, hdr]
          (have zz := Bx.mk (j7 ui0 ui3 ui4 ui9 ui22 ui23 (j9 ui24 ui25 ui26 hn hall hg hFl hFt hsub)); (repeat' (first | exact zc | (with_reducible first | apply And.intro | apply Q0a | apply Q0b | refine Q0c (by decide +kernel) ?_ | intro _) | refine zaY zz.out ?_ | ((first | (with_reducible refine uc (hp _) ?_) | (refine Q0d (by exact zK) ?_) | (refine Q0e (by exact zK) ?_)); (try refine zsY zz.out ?_)) | refine zo ?_ | omega | refine ztY zz.out ?_ | fail)); try (all_goals clear zz))
          all_goals first | exact ⟨_, .refl _, rfl⟩ | exact ⟨_, .refl _, rfl, rfl⟩
        | true =>
          (have zz := Bx.mk (j7 ui0 ui3 ui4 ui9 ui22 ui23 (j9 ui24 ui25 ui26 hn hall hg hFl hFt hsub)); (repeat' (first | exact zc | (with_reducible first | apply And.intro | apply Q0a | apply Q0b | refine Q0c (by decide +kernel) ?_ | intro _) | refine zaY zz.out ?_ | ((first | (with_reducible refine uc (hp _) ?_) | (refine Q0d (by exact zK) ?_) | (refine Q0e (by exact zK) ?_)); (try refine zsY zz.out ?_)) | refine zo ?_ | omega | refine ztY zz.out ?_ | fail)); try (all_goals clear zz))
          exact ⟨k + 1, (), (), ⟨⟨hk2, by rw [hr, hdr]; rfl⟩, by omega⟩, .refl _, rfl⟩
      · rw [hr, List.drop_of_length_le hk2]
        (have zz := Bx.mk (j3 ui0 ui3 (j9 ui4 ui9 ui22 ui23 ui24 ui25 ui26 hn hall)); (repeat' (first | exact zc | (with_reducible first | apply And.intro | apply Q0a | apply Q0b | refine Q0c (by decide +kernel) ?_ | intro _) | refine zaY zz.out ?_ | ((first | (refine Q0d (by exact zK) ?_) | (refine Q0e (by exact zK) ?_)); (try refine zsY zz.out ?_)) | refine zo ?_ | omega | refine ztY zz.out ?_ | fail)); try (all_goals clear zz))
        all_goals first | exact ⟨_, .refl _, rfl⟩ | exact ⟨_, .refl _, rfl, rfl⟩
    · rw [decide_eq_false hf, Bool.false_and]
      (refine vfun (fun k => if k = 2 then .ro else .no) Q0h Tryz.func9 (by kernel_rfl) ?_; simp only [Q0f, Tryz.f9, zw])
      (have zz := Bx.mk (j6 ui0 ui3 ui4 ui9 ui22 (j9 ui23 ui24 ui25 ui26 hn hall hst hsn hsv)); (repeat' (first | exact zc | (with_reducible first | apply And.intro | apply Q0a | apply Q0b | refine Q0c (by decide +kernel) ?_ | intro _) | refine zaY zz.out ?_ | ((first | (refine Q0d (by exact zK) ?_) | (refine Q0e (by exact zK) ?_)); (try refine zsY zz.out ?_)) | refine zo ?_ | omega | refine ztY zz.out ?_ | fail)); try (all_goals clear zz))
      all_goals first | exact ⟨_, .refl _, rfl⟩ | (exfalso; omega)
end Go.Proofs.YtjdapkelojdefaaGreatDoor
namespace Go.V
open Go.RowKit
variable {P : Program}
def K0 (w : World) : K := ⟨w, fun _ _ => False, fun _ => none, w.heap.size⟩
def S0 : Sg := fun _ => none
theorem st0 (w : World) (hg : Glob (K0 w)) : St (K0 w) S0 where
  ob _ _ h := by cases h
  apart _ _ _ _ _ _ _ _ _ _ h := by cases h
  fin := ⟨0, fun _ _ => rfl⟩
  mlt _ _ h := h.elim
  bas := Nat.le_refl _
  glob := hg
theorem VCalls.calls {f : FuncId} {fn : Func} {args : List AV} {vs : Array Value} {w : World} (hf : P.funcs[f]? = some fn) (hb : (fn.body.isSome && !(fn.name == "runtime.NumGoroutine")) = true)
    (h : VCalls P f args S0 (fun x _ => x = .b true)) (hr : X0o (K0 w) args vs) (hg : Glob (K0 w)) : Calls P f vs w fun e w' => e = .returned (.bool true) ∧ Below w.heap.size w w' := by
  simp only [Bool.and_eq_true] at hb
  obtain ⟨h1, h2⟩ := hb
  obtain ⟨c, hc⟩ : ∃ c, fn.body = some c := by
    cases hh : fn.body with
    | none => rw [hh] at h1; cases h1
    | some c => exact ⟨c, rfl⟩
  have hrun : (callFunc f vs).run P w = .ok (.enter f vs) w := by
    have h3 : fn.name ≠ "runtime.NumGoroutine" := by simpa using h2
    simp [callFunc, program, Sem.run, Bind.bind, Sem.bind, hf, h3, hc]
  have hd := h.go (K0 w) vs (st0 w hg) hr
  rw [show (K0 w).w = w from rfl, hrun] at hd
  have hcalls : Calls P f vs w (PostE (K0 w) (fun x _ => x = .b true)) := hd
  refine hcalls.mono fun e w' hp => ?_
  cases e with
  | returned v =>
    obtain ⟨κ', x, σ', rfl, hle, hst, hrel, rfl⟩ := hp
    refine ⟨?_, ⟨hle.os, hle.tape, hle.output, hle.size, fun k hk => hle.block k hk⟩⟩
    cases hrel
    rfl
  | _ => exact hp.elim
end Go.V
namespace Go.V
open Go.RowKit
variable {P : Program}
inductive AT (P : Program) : TypeId → List AV → Prop
  | bool {t : TypeId} {b : Bool} (h : P.underlying t = some .bool) : AT P t [.b b]
  | int {t : TypeId} {k : IntKind} {n : Int} (h : P.underlying t = some (.int k)) (hw : (Lit.int k n).wf = true) : AT P t [.val (.int k n)]
  | str {t : TypeId} {s : ByteArray} (h : P.underlying t = some .string) (hs : s.size ≤ maxLen) : AT P t [.s s]
  | nil {t e : TypeId} (h : P.underlying t = some (.slice e)) : AT P t [.sl .nil []]
  | sl {t e : TypeId} {es : List (List AV)} (h : P.underlying t = some (.slice e)) (hn : es.length ≤ reachBytes) (hes : ∀ x ∈ es, AT P e x) : AT P t [.sl .view es]
  | struct {t : TypeId} {fs : Array Field} {cs : List AV} (h : P.underlying t = some (.struct fs)) (hl : cs.length = P.cellsOf t) (hf : ∀ f ∈ fs.toList, AT P f.type ((cs.drop f.offset).take (P.cellsOf f.type))) : AT P t cs
  | array {t e : TypeId} {n : Nat} {cs : List AV} (h : P.underlying t = some (.array n e)) (hl : cs.length = P.cellsOf t) (he : ∀ i, i < n → AT P e ((cs.drop (i * P.cellsOf e)).take (P.cellsOf e))) : AT P t cs
def laidF (P : Program) (total : Nat) : List Field → Nat → Bool
  | [], off => off == total
  | f :: r, off => f.offset == off && laidF P total r (off + P.cellsOf f.type)
def X5x (P : Program) (l : List TypeId) : Bool := l.all fun t =>
  match P.underlying t with
  | some .bool | some (.int _) | some .string => true
  | some (.slice e) => l.contains e && decide (0 < P.cellsOf e) && decide (0 < P.bytesOf e)
  | some (.struct fs) => fs.toList.all (fun f => l.contains f.type) && laidF P (P.cellsOf t) fs.toList 0
  | some (.array n e) => l.contains e && n * P.cellsOf e == P.cellsOf t
  | _ => false
def RL (κ : K) (cs : List AV) (vs : List Value) : Prop := cs.length = vs.length ∧ ∀ (i : Nat) (x : AV) (v : Value), cs[i]? = some x → vs[i]? = some v → Rel κ x v
theorem RL.row {κ : K} {cs : List AV} {vs : List Value} (h : RL κ cs vs) : RelRow κ cs vs.toArray := ⟨by simpa using h.1, fun i x v h1 h2 => h.2 i x v h1 (by simpa using h2)⟩
theorem RL.one {κ : K} {x : AV} {v : Value} (h : Rel κ x v) : RL κ [x] [v] := ⟨rfl, fun i y u h1 h2 => by
  cases i with
  | zero => simp at h1 h2; subst h1; subst h2; exact h
  | succ i => simp at h1⟩
theorem RL.app {κ : K} {a b : List AV} {u v : List Value} (h : RL κ a u) (h' : RL κ b v) : RL κ (a ++ b) (u ++ v) := by
  refine ⟨by simp [h.1, h'.1], fun i x y h1 h2 => ?_⟩
  rcases Nat.lt_or_ge i a.length with hi | hi
  · rw [List.getElem?_append_left hi] at h1
    rw [List.getElem?_append_left (by rw [← h.1]; exact hi)] at h2
    exact h.2 i x y h1 h2
  · rw [List.getElem?_append_right hi] at h1
    rw [List.getElem?_append_right (by rw [← h.1]; exact hi), ← h.1] at h2
    exact h'.2 _ x y h1 h2
theorem X5y {α β : Type} {g : α → Option β} : ∀ {l : List α} {ys : List β}, l.mapM g = some ys → ys.length = l.length
  | [], ys, h => by simp at h; subst h; rfl
  | a :: l, ys, h => by
    rw [List.mapM_cons] at h
    cases ha : g a with
    | none => rw [ha] at h; cases h
    | some y =>
      rw [ha] at h
      cases hr : l.mapM g with
      | none => rw [hr] at h; cases h
      | some zs =>
        rw [hr] at h
        cases h
        simp [X5y hr]
theorem X3k {α β : Type} {g : α → Option β} : ∀ {l : List α} {ys : List β} {i : Nat} {x : α}, l.mapM g = some ys → l[i]? = some x → ∃ y, ys[i]? = some y ∧ g x = some y
  | [], _, _, _, _, hx => by simp at hx
  | a :: l, ys, i, x, h, hx => by
    rw [List.mapM_cons] at h
    cases ha : g a with
    | none => rw [ha] at h; cases h
    | some y =>
      rw [ha] at h
      cases hr : l.mapM g with
      | none => rw [hr] at h; cases h
      | some zs =>
        rw [hr] at h
        cases h
        cases i with
        | zero => simp at hx; subst hx; exact ⟨y, rfl, ha⟩
        | succ i => simp at hx; simpa using X3k hr hx
theorem X9b {κ : K} {vs : List Value} (P : Program) : ∀ (fs : List Field) (off : Nat), laidF P vs.length fs off = true → off ≤ vs.length → (∀ f ∈ fs, ∃ cs, AT P f.type cs ∧ RL κ cs ((vs.drop f.offset).take (P.cellsOf f.type)) ∧ f.offset + P.cellsOf f.type ≤ vs.length) →
    ∃ cs, RL κ cs (vs.drop off) ∧ ∀ f ∈ fs, off ≤ f.offset ∧ AT P f.type ((cs.drop (f.offset - off)).take (P.cellsOf f.type))
  | [], off, hl, _, _ => by
    simp only [laidF, beq_iff_eq] at hl
    exact ⟨[], by rw [List.drop_of_length_le (by omega)]; exact ⟨rfl, fun i x v h => by simp at h⟩, fun f hf => by cases hf⟩
  | f :: fs, off, hl, ho, hf => by
    simp only [laidF, Bool.and_eq_true, beq_iff_eq] at hl
    obtain ⟨he, hl⟩ := hl
    subst he
    obtain ⟨c, h1, h2, h3⟩ := hf f (by simp)
    obtain ⟨cs, h4, h5⟩ := X9b (κ := κ) P fs _ hl h3 (fun g hg => hf g (by simp [hg]))
    have hclen : c.length = P.cellsOf f.type := by rw [h2.1]; simp; omega
    refine ⟨c ++ cs, ?_, fun g hg => ?_⟩
    · have := h2.app h4
      rw [← List.drop_drop, List.take_append_drop] at this
      exact this
    · rcases List.mem_cons.1 hg with rfl | hg
      · refine ⟨Nat.le_refl _, ?_⟩
        rw [Nat.sub_self, List.drop_zero, List.take_append_of_le_length (by omega), List.take_of_length_le (by omega)]
        exact h1
      · obtain ⟨h6, h7⟩ := h5 g hg
        refine ⟨by omega, ?_⟩
        rw [show g.offset - f.offset = c.length + (g.offset - (f.offset + P.cellsOf f.type)) by omega, ← List.drop_drop, List.drop_left]
        exact h7
theorem array_row {κ : K} {vs : List Value} (P : Program) (e : TypeId) (n : Nat) : ∀ (m k : Nat), k + m = n → vs.length = n * P.cellsOf e → (∀ i, i < n → ∃ cs, AT P e cs ∧ RL κ cs ((vs.drop (i * P.cellsOf e)).take (P.cellsOf e))) →
    ∃ cs, RL κ cs (vs.drop (k * P.cellsOf e)) ∧ ∀ i, i < m → AT P e ((cs.drop (i * P.cellsOf e)).take (P.cellsOf e))
  | 0, k, hk, hl, _ => ⟨[], by rw [List.drop_of_length_le (by rw [hl, show k = n by omega]; exact Nat.le_refl _)]; exact ⟨rfl, fun i x v h => by simp at h⟩, fun i hi => by omega⟩
  | m + 1, k, hk, hl, hf => by
    obtain ⟨c, h1, h2⟩ := hf k (by omega)
    obtain ⟨cs, h4, h5⟩ := array_row (κ := κ) P e n m (k + 1) (by omega) hl hf
    have hle : (k + 1) * P.cellsOf e ≤ n * P.cellsOf e := Nat.mul_le_mul_right _ (by omega)
    rw [Nat.succ_mul] at hle
    have hclen : c.length = P.cellsOf e := by rw [h2.1]; simp; omega
    refine ⟨c ++ cs, ?_, fun i hi => ?_⟩
    · have := h2.app h4
      rw [Nat.succ_mul, ← List.drop_drop, List.take_append_drop] at this
      exact this
    · cases i with
      | zero =>
        rw [Nat.zero_mul, List.drop_zero, List.take_append_of_le_length (by omega), List.take_of_length_le (by omega)]
        exact h1
      | succ i =>
        rw [show (i + 1) * P.cellsOf e = c.length + i * P.cellsOf e by rw [Nat.succ_mul]; omega, ← List.drop_drop, List.drop_left]
        exact h5 i (by omega)
theorem X0c {W : World} {a : Addr} {n : Nat} {l : List Value} (h : W.cells? 0 a n = some l) : l.length = n ∧ ∀ j v, l[j]? = some v → W.cell? (a.add j) = some v := by
  unfold World.cells? at h
  rw [if_pos (Nat.zero_le _)] at h
  refine ⟨by simpa using X5y h, fun j v hj => ?_⟩
  have hjn : j < n := by
    have := X5y h
    rcases Nat.lt_or_ge j l.length with h' | h'
    · simp at this; omega
    · rw [List.getElem?_eq_none h'] at hj; cases hj
  obtain ⟨y, h1, h2⟩ := X3k (i := j) (x := j) h (by simp [hjn])
  rw [hj] at h1
  cases h1
  exact h2
theorem spot_of_cell {W : World} {a : Addr} {v : Value} (h : W.cell? a = some v) : a.spot = none := by
  cases hs : a.spot with
  | none => rfl
  | some x =>
    exfalso
    simp only [World.cell?, hs] at h
    split at h <;> simp at h
theorem laidF_le (P : Program) (total : Nat) : ∀ (fs : List Field) (off : Nat), laidF P total fs off = true → off ≤ total ∧ ∀ f ∈ fs, f.offset + P.cellsOf f.type ≤ total
  | [], off, h => by
    simp only [laidF, beq_iff_eq] at h
    exact ⟨by omega, fun f hf => by cases hf⟩
  | f :: fs, off, h => by
    simp only [laidF, Bool.and_eq_true, beq_iff_eq] at h
    obtain ⟨he, h⟩ := h
    obtain ⟨h1, h2⟩ := laidF_le P total fs _ h
    refine ⟨by omega, fun g hg => ?_⟩
    rcases List.mem_cons.1 hg with rfl | hg
    · omega
    · exact h2 g hg
theorem Q8w {H : Type} {P : Program} {e : TypeId} : ∀ {l : List (DataW H)} {d : DataW H}, d ∈ l → ∀ n ∈ d.weights P e, n ∈ DataW.weightsAll P e l
  | x :: l, d, h, n, hn => by
    rw [DataW.weightsAll, List.mem_append]
    rcases List.mem_cons.1 h with rfl | h
    · exact .inl hn
    · exact .inr (Q8w h n hn)
theorem Q5n {H : Type} {P : Program} : ∀ {ts : List TypeId} {ds : List (DataW H)} {j : Nat} {t : TypeId} {d : DataW H}, ts[j]? = some t → ds[j]? = some d → ∀ n ∈ d.weights P t, n ∈ DataW.weightsEach P ts ds
  | t0 :: ts, d0 :: ds, 0, t, d, ht, hd, n, hn => by
    simp only [List.getElem?_cons_zero, Option.some.injEq] at ht hd
    subst ht; subst hd
    simp only [DataW.weightsEach, List.mem_append]
    exact Or.inl hn
  | t0 :: ts, d0 :: ds, j + 1, t, d, ht, hd, n, hn => by
    simp only [List.getElem?_cons_succ] at ht hd
    simp only [DataW.weightsEach, List.mem_append]
    exact Or.inr (Q5n ht hd n hn)
  | [], _, _, _, _, ht, _, _, _ => by simp at ht
  | _ :: _, [], _, _, _, _, hd, _, _ => by simp at hd
theorem X4h {H : Type} {enc : TypeId × Value → H} {W : World} {l : List TypeId} (hl : X5x P l = true) : ∀ (fuel : Nat) (t : TypeId) (vs : List Value) (d : DataW H) (ps : List MemPlace), t ∈ l → (∀ n ∈ d.weights P t, n ≤ reachBytes) →
    DataW.trod enc P W 0 (fun _ => true) true fuel t vs = some (d, ps) → ∃ cs, AT P t cs ∧ RL (K0 W) cs vs
  | 0, _, _, _, _, _, _, h => by cases h
  | fuel + 1, t, vs, d, ps, ht, hwt, h => by
    have hp := List.all_eq_true.1 hl t ht
    have ih := X4h (enc := enc) (W := W) hl fuel
    unfold DataW.trod at h
    split at h
    all_goals try (rename_i hu; rw [hu] at hp)
    all_goals first | (cases hp; done) | (cases h; done) | skip
    · exact ⟨_, .bool hu, .one (.val _)⟩
    · split at h
      · rename_i hc
        obtain ⟨rfl, hw⟩ := hc
        exact ⟨_, .int hu hw, .one (.val _)⟩
      · cases h
    · split at h
      · rename_i hc
        exact ⟨_, .str hu hc, .one (.val _)⟩
      · cases h
    · exact ⟨_, .nil hu, .one (.slnil _ trivial)⟩
    · rename_i e a len cap
      simp only [Bool.and_eq_true, decide_eq_true_eq] at hp
      obtain ⟨⟨hpe, hsz⟩, hby⟩ := hp
      have hpe' : e ∈ l := by simpa using hpe
      dsimp only at h
      split at h
      · rename_i hc
        obtain ⟨_, hlc, hcm⟩ := hc
        cases hm : List.mapM (fun i => (W.cells? 0 (a.add (i * P.cellsOf e)) (P.cellsOf e)).bind (DataW.trod enc P W 0 (fun x => true) true fuel e)) (List.range len) with
        | none => rw [hm] at h; cases h
        | some elems =>
          have hlen : elems.length = len := by simpa using X5y hm
          have hwa : len ≤ reachBytes ∧ ∀ y ∈ elems, ∀ n ∈ y.1.weights P e, n ≤ reachBytes := by
            rw [hm] at h
            simp only [Option.bind_some, if_true] at h
            cases hr : List.mapM (fun j => (W.cells? 0 (a.add ((len + j) * P.cellsOf e)) (P.cellsOf e)).bind (DataW.trod enc P W 0 (fun x => true) true fuel e)) (List.range (cap - len)) with
            | none => rw [hr] at h; cases h
            | some rest =>
              rw [hr] at h
              simp only [Option.map_some, Option.some.injEq, Prod.mk.injEq] at h
              rw [← h.1] at hwt
              simp only [DataW.weights, hu] at hwt
              refine ⟨?_, fun y hy n hn => ?_⟩
              · have h1 := hwt _ (List.mem_cons_self ..)
                rw [List.length_map, List.length_map, hlen] at h1
                have h2 : (len + rest.length) * 1 ≤ (len + rest.length) * P.bytesOf e := Nat.mul_le_mul_left _ hby
                omega
              · exact hwt n (List.mem_cons_of_mem _ (List.mem_append_left _ (Q8w (List.mem_map.2 ⟨y, hy, rfl⟩) n hn)))
          have key : ∀ i, i < len → ∃ cs li, AT P e cs ∧ RL (K0 W) cs li ∧ W.cells? 0 (a.add (i * P.cellsOf e)) (P.cellsOf e) = some li := by
            intro i hi
            obtain ⟨y, hyi, hy⟩ := X3k (i := i) (x := i) hm (by simp [hi])
            have hwy := hwa.2 y (List.mem_of_getElem? hyi)
            cases hli : W.cells? 0 (a.add (i * P.cellsOf e)) (P.cellsOf e) with
            | none => rw [hli] at hy; cases hy
            | some li =>
              rw [hli] at hy
              obtain ⟨cs, h1, h2⟩ := ih e li y.1 y.2 hpe' hwy hy
              exact ⟨cs, li, h1, h2, rfl⟩
          rcases Nat.eq_zero_or_pos len with h0 | h0
          · subst h0
            exact ⟨_, .sl hu (Nat.zero_le _) (fun x hx => by cases hx), .one (.slemp .view (.inl rfl) a cap)⟩
          have hs : a.spot = none := by
            obtain ⟨cs, li, _, _, h3⟩ := key 0 h0
            obtain ⟨h4, h5⟩ := X0c h3
            have := h5 0 _ (List.getElem?_eq_getElem (by omega))
            rw [Nat.zero_mul] at this
            exact spot_of_cell (a := (a.add 0).add 0) this
          let g : Nat → List AV := fun i => if hi : i < len then (key i hi).choose else []
          have hg : ∀ i (hi : i < len), g i = (key i hi).choose := fun i hi => dif_pos hi
          have hes : ∀ i e', ((List.range len).map g)[i]? = some e' → ∃ hi : i < len, e' = (key i hi).choose := by
            intro i e' hi
            rw [List.getElem?_map] at hi
            rcases Nat.lt_or_ge i len with h' | h'
            · rw [List.getElem?_range h'] at hi
              cases hi
              exact ⟨h', hg i h'⟩
            · rw [List.getElem?_eq_none (by simpa using h')] at hi; cases hi
          have hcell : ∀ i (hi : i < len) j v, (key i hi).choose_spec.choose[j]? = some v → W.cell? ⟨a.block, a.off + i * P.cellsOf e + j, none⟩ = some v := by
            intro i hi j v hv
            obtain ⟨_, _, h3⟩ := (key i hi).choose_spec.choose_spec
            have := (X0c h3).2 j v hv
            rw [Q2b hs, Q2b rfl] at this
            exact this
          refine ⟨_, .sl (es := (List.range len).map g) hu (by simpa using hwa.1) (fun x hx => ?_), .one (.sl .view _ a len cap (P.cellsOf e) (fun i j => (W.cell? ⟨a.block, a.off + i * P.cellsOf e + j, none⟩).getD undef) trivial (by simp) hlc hs (fun i e' hi => ?_) (fun i j hi hj => ⟨?_, fun hM => hM⟩) (fun i j e' x hi hj => ?_))⟩
          · obtain ⟨i, hi, rfl⟩ := List.mem_map.1 hx
            have hi' : i < len := by simpa using hi
            rw [hg i hi']
            exact (key i hi').choose_spec.choose_spec.1
          · obtain ⟨hi', rfl⟩ := hes i e' hi
            obtain ⟨_, h2, h3⟩ := (key i hi').choose_spec.choose_spec
            rw [h2.1]
            exact (X0c h3).1
          · obtain ⟨_, h2, h3⟩ := (key i hi).choose_spec.choose_spec
            have hlen := (X0c h3).1
            have := hcell i hi j _ (List.getElem?_eq_getElem (by omega))
            show W.cell? _ = _
            rw [this]
            rfl
          · obtain ⟨hi', rfl⟩ := hes i e' hi
            obtain ⟨_, h2, h3⟩ := (key i hi').choose_spec.choose_spec
            have hjl : j < (key i hi').choose.length := by
              rcases Nat.lt_or_ge j (key i hi').choose.length with h' | h'
              · exact h'
              · rw [List.getElem?_eq_none h'] at hj; cases hj
            have hjl' : j < (key i hi').choose_spec.choose.length := by rw [← h2.1]; exact hjl
            have := h2.2 j x _ hj (List.getElem?_eq_getElem hjl')
            rw [hcell i hi' j _ (List.getElem?_eq_getElem hjl')]
            exact this
      · cases h
    · rename_i vs _ _ fs
      simp only [Bool.and_eq_true] at hp
      split at h
      · rename_i hc
        cases hm : List.mapM (fun f => DataW.trod enc P W 0 (fun x => true) true fuel f.type (List.take (P.cellsOf f.type) (List.drop f.offset vs))) fs.toList with
        | none => rw [hm] at h; cases h
        | some xs =>
          rw [← hc] at hp
          have hle := (laidF_le P vs.length fs.toList 0 hp.2).2
          obtain ⟨cs, h1, h2⟩ := X9b (κ := K0 W) (vs := vs) P fs.toList 0 hp.2 (Nat.zero_le _) (fun f hf => by
            obtain ⟨j, hj⟩ := List.mem_iff_getElem?.1 hf
            obtain ⟨y, hyi, hy⟩ := X3k (i := j) (x := f) hm hj
            have hwy : ∀ n ∈ y.1.weights P f.type, n ≤ reachBytes := fun n hn => by
              rw [hm] at h
              simp only [Option.map_some, Option.some.injEq, Prod.mk.injEq] at h
              rw [← h.1] at hwt
              simp only [DataW.weights, hu] at hwt
              exact hwt n (Q5n (j := j) (by rw [List.getElem?_map, hj]; rfl) (by rw [List.getElem?_map, hyi]; rfl) n hn)
            have hft : f.type ∈ l := by have := List.all_eq_true.1 hp.1 f hf; simpa using this
            obtain ⟨cs, h3, h4⟩ := ih f.type _ y.1 y.2 hft hwy hy
            exact ⟨cs, h3, h4, hle f hf⟩)
          refine ⟨cs, .struct hu (by rw [h1.1, List.drop_zero]; exact hc) (fun f hf => ?_), by simpa using h1⟩
          have := (h2 f hf).2
          simpa using this
      · cases h
    · rename_i vs _ _ n e
      simp only [Bool.and_eq_true, beq_iff_eq] at hp
      have hpe' : e ∈ l := by simpa using hp.1
      split at h
      · rename_i hc
        cases hm : List.mapM (fun i => DataW.trod enc P W 0 (fun x => true) true fuel e (List.take (P.cellsOf e) (List.drop (i * P.cellsOf e) vs))) (List.range n) with
        | none => rw [hm] at h; cases h
        | some xs =>
          obtain ⟨cs, h1, h2⟩ := array_row (κ := K0 W) (vs := vs) P e n n 0 (by omega) (by rw [hc, hp.2]) (fun i hi => by
            obtain ⟨y, hyi, hy⟩ := X3k (i := i) (x := i) hm (by simp [hi])
            have hwy : ∀ n ∈ y.1.weights P e, n ≤ reachBytes := fun n hn => by
              rw [hm] at h
              simp only [Option.map_some, Option.some.injEq, Prod.mk.injEq] at h
              rw [← h.1] at hwt
              simp only [DataW.weights, hu] at hwt
              exact hwt n (Q8w (List.mem_map.2 ⟨y, List.mem_of_getElem? hyi, rfl⟩) n hn)
            obtain ⟨cs, h3, h4⟩ := ih e _ y.1 y.2 hpe' hwy hy
            exact ⟨cs, h3, h4⟩)
          rw [Nat.zero_mul, List.drop_zero] at h1
          exact ⟨cs, .array hu (by rw [h1.1]; exact hc) h2, h1⟩
      · cases h
end Go.V
namespace Go.V
open Go.RowKit
variable {P : Program}
theorem one_of {W : World} {cs : List AV} {v : Value} (hv : v.cells.toList = [v]) (h : RL (K0 W) cs v.cells.toList) : ∃ x, cs = [x] ∧ Rel (K0 W) x v := by
  rw [hv] at h
  match cs, h with
  | [x], h => exact ⟨x, rfl, h.2 0 x v rfl rfl⟩
theorem open_sl {H : Type} {enc : TypeId × Value → H} {W : World} {base : Nat} {t e : TypeId} {v : Value} {d : DataW H} {p : List MemPlace} (l : List TypeId) (hl : X5x P l = true) (ht : t ∈ l) (hu : P.underlying t = some (.slice e))
    (hw : Value.okWide P W .any base t v) (h : DataW.Trod enc P W 0 (fun _ => true) true t v d p) (hwt : ∀ n ∈ d.weights P t, n ≤ reachBytes) : ∃ x, AT P t [x] ∧ Rel (K0 W) x v := by
  obtain ⟨fuel, h⟩ := h
  obtain ⟨cs, h1, h2⟩ := X4h hl fuel t _ d p ht hwt h
  have hv : v.cells.toList = [v] := by
    simp only [Value.okWide, hu, Cell.okWide] at hw
    cases v <;> simp_all [Cell.ok, Value.cells]
  obtain ⟨x, rfl, hx⟩ := one_of hv h2
  exact ⟨x, h1, hx⟩
theorem open_st {H : Type} {enc : TypeId × Value → H} {W : World} {base : Nat} {t : TypeId} {fs : Array Field} {v : Value} {d : DataW H} {p : List MemPlace} (l : List TypeId) (hl : X5x P l = true) (ht : t ∈ l) (hu : P.underlying t = some (.struct fs))
    (hw : Value.okWide P W .any base t v) (h : DataW.Trod enc P W 0 (fun _ => true) true t v d p) (hwt : ∀ n ∈ d.weights P t, n ≤ reachBytes) : ∃ cs, AT P t cs ∧ Rel (K0 W) (.agg cs) v := by
  obtain ⟨fuel, h⟩ := h
  obtain ⟨cs, h1, h2⟩ := X4h hl fuel t _ d p ht hwt h
  simp only [Value.okWide, hu] at hw
  obtain ⟨vs, rfl, _, _⟩ := hw
  have h3 := h2.row
  exact ⟨cs, h1, .agg cs vs (by simpa [Value.cells] using h3.1) (fun i x u g1 g2 => h3.2 i x u g1 (by simpa [Value.cells] using g2))⟩
theorem trod_low {H : Type} {enc : TypeId × Value → H} {W : World} {t : TypeId} {v : Value} {d : DataW H} {p : List MemPlace} (h : DataW.Trod enc P W 0 (fun _ => true) true t v d p) : ∀ x ∈ p, x.block < W.heap.size := by
  obtain ⟨m, hm⟩ := h
  exact DataW.trod_lt m _ _ _ hm
theorem AT.inv_int {t : TypeId} {k : IntKind} {cs : List AV} (hu : P.underlying t = some (.int k)) (h : AT P t cs) : ∃ n, cs = [.val (.int k n)] ∧ (Lit.int k n).wf = true := by
  cases h with
  | int h hw => rw [hu] at h; cases h; exact ⟨_, rfl, hw⟩
  | _ => simp_all
theorem AT.inv_slice {t e : TypeId} {cs : List AV} (hu : P.underlying t = some (.slice e)) (h : AT P t cs) : cs = [.sl .nil []] ∨ ∃ es, cs = [.sl .view es] ∧ es.length ≤ reachBytes ∧ ∀ x ∈ es, AT P e x := by
  cases h with
  | nil h => exact .inl rfl
  | sl h hn hes => rw [hu] at h; cases h; exact .inr ⟨_, rfl, hn, hes⟩
  | _ => simp_all
theorem AT.inv_struct {t : TypeId} {fs : Array Field} {cs : List AV} (hu : P.underlying t = some (.struct fs)) (h : AT P t cs) : cs.length = P.cellsOf t ∧ ∀ f ∈ fs.toList, AT P f.type ((cs.drop f.offset).take (P.cellsOf f.type)) := by
  cases h with
  | struct h hl hf => rw [hu] at h; cases h; exact ⟨hl, hf⟩
  | _ => simp_all
theorem AT.inv_str {t : TypeId} {cs : List AV} (hu : P.underlying t = some .string) (h : AT P t cs) : ∃ s, cs = [.s s] ∧ s.size ≤ maxLen := by
  cases h with
  | str h hs => exact ⟨_, rfl, hs⟩
  | _ => simp_all
theorem AT.inv_bool {t : TypeId} {cs : List AV} (hu : P.underlying t = some .bool) (h : AT P t cs) : ∃ b, cs = [.b b] := by
  cases h with
  | bool h => exact ⟨_, rfl⟩
  | _ => simp_all
theorem X9c {n : Int} (h : (Lit.int .i64 n).wf = true) : -9223372036854775808 ≤ n ∧ n ≤ 9223372036854775807 := by
  simp only [Lit.wf, Bool.and_eq_true, decide_eq_true_eq] at h
  exact h
theorem relArgs_nil {κ : K} : X0o κ [] #[] := ⟨rfl, fun i x u h1 h2 => by simp at h1⟩
theorem X5h {κ : K} {x : AV} {v : Value} {xs : List AV} {vs : List Value} (h : Rel κ x v) (hr : X0o κ xs vs.toArray) : X0o κ (x :: xs) (v :: vs).toArray := by
  refine ⟨by have := hr.1; simp at this ⊢; omega, fun i y u h1 h2 => ?_⟩
  cases i with
  | zero => simp at h1 h2; subst h1; subst h2; exact h
  | succ i => exact hr.2 i y u (by simpa using h1) (by simpa using h2)
end Go.V
namespace Go.Proofs.YtjdapkelojdefaaGreatDoor
open Go Go.V Go.Lex Go.Parse Go.Print
def CW (cs cs' : List AV) : Prop := cs.length = cs'.length ∧ ∀ (i : Nat) (x x' : AV), cs[i]? = some x → cs'[i]? = some x' → AVw x x'
theorem cw_list {es : List (List AV)} (h : ∀ x ∈ es, ∃ e, Lim e ∧ CW x (exA e)) : ∃ l : List Ex, l.length = es.length ∧ (∀ e ∈ l, Lim e) ∧ AVw (.sl .any es) (.sl .any (exsA l)) := by
  have : ∃ l : List Ex, l.length = es.length ∧ (∀ e ∈ l, Lim e) ∧ ∀ (i : Nat) (e e' : List AV), es[i]? = some e → (exsA l)[i]? = some e' → CW e e' := by
    induction es with
    | nil => exact ⟨[], rfl, fun e he => (by cases he), fun i e e' h1 => (by simp at h1)⟩
    | cons x r ih =>
      obtain ⟨l, h1, h2, h3⟩ := ih (fun y hy => h y (List.mem_cons_of_mem _ hy))
      obtain ⟨e, h4, h5⟩ := h x (List.mem_cons_self ..)
      refine ⟨e :: l, by simp [h1], fun f hf => ?_, fun i a b q1 q2 => ?_⟩
      · rcases List.mem_cons.1 hf with rfl | hf
        · exact h4
        · exact h2 f hf
      · rw [Q2e] at q2
        cases i with
        | zero => simp at q1 q2; subst q1 q2; exact h5
        | succ i => exact h3 i a b (by simpa using q1) (by simpa using q2)
  obtain ⟨l, h1, h2, h3⟩ := this
  exact ⟨l, h1, h2, AVw.els (by rw [Q1y, h1]) h3⟩
abbrev tE : TypeId := 26
abbrev tS : TypeId := 24
theorem dec_val {cs : List AV} (h : AT Tryz.prog 23 cs) : ∃ (k n : Int) (s : ByteArray), cs = [.i k, .i n, .s s] ∧ inR k ∧ inR n := by
  obtain ⟨hl, hf⟩ := AT.inv_struct Tryz.underlying23 h
  have c3 : Tryz.prog.cellsOf 3 = 1 := by kernel_rfl
  have c9 : Tryz.prog.cellsOf 9 = 1 := by kernel_rfl
  have c23 : Tryz.prog.cellsOf 23 = 3 := by kernel_rfl
  rw [c23] at hl
  simp only [List.forall_mem_cons, c3, c9] at hf
  obtain ⟨f0, f1, f2, _⟩ := hf
  match cs, hl with
  | [a, b, c], _ =>
    obtain ⟨k, hk, hw0⟩ := AT.inv_int Z3 f0
    obtain ⟨n, hn, hw⟩ := AT.inv_int Z3 f1
    obtain ⟨s, hs, _⟩ := AT.inv_str Z9 f2
    simp only [List.drop_zero, List.drop_succ_cons, List.take_succ_cons, List.take_zero, List.cons.injEq, and_true] at hk hn hs
    subst hk hn hs
    exact ⟨k, n, s, rfl, X9c hw0, X9c hw⟩
theorem X7g : ∀ {t : TypeId} {cs : List AV}, AT Tryz.prog t cs → (t = tE → ∃ e, Lim e ∧ CW cs (exA e)) ∧ (t = tS → ∃ (l : List Ex) (x : AV), cs = [x] ∧ l.length ≤ reachBytes ∧ (∀ e ∈ l, Lim e) ∧ AVw x (.sl .any (exsA l))) := by
  intro t cs h
  induction h with
  | bool h => exact ⟨fun ht => (by subst ht; rw [Z26] at h; cases h), fun ht => (by subst ht; rw [Z24] at h; cases h)⟩
  | int h => exact ⟨fun ht => (by subst ht; rw [Z26] at h; cases h), fun ht => (by subst ht; rw [Z24] at h; cases h)⟩
  | str h => exact ⟨fun ht => (by subst ht; rw [Z26] at h; cases h), fun ht => (by subst ht; rw [Z24] at h; cases h)⟩
  | array h => exact ⟨fun ht => (by subst ht; rw [Z26] at h; cases h), fun ht => (by subst ht; rw [Z24] at h; cases h)⟩
  | nil h =>
    refine ⟨fun ht => (by subst ht; rw [Z26] at h; cases h), fun ht => ⟨[], _, rfl, Nat.zero_le _, fun e he => (by cases he), ?_⟩⟩
    rw [Q0s]; exact AVw.any _ _
  | sl h hn hes ih =>
    refine ⟨fun ht => (by subst ht; rw [Z26] at h; cases h), fun ht => ?_⟩
    subst ht
    rw [Z24] at h
    cases h
    obtain ⟨l, h1, h2, h3⟩ := cw_list (fun x hx => (ih x hx).1 rfl)
    exact ⟨l, _, rfl, by omega, h2, fun κ v hr => h3 κ v (AVw.any _ _ κ v hr)⟩
  | @struct t' fs cs h hl hf ih =>
    refine ⟨fun ht => ?_, fun ht => (by subst ht; rw [Z24] at h; cases h)⟩
    subst ht
    rw [Z26] at h
    cases h
    have c3 : Tryz.prog.cellsOf 3 = 1 := by kernel_rfl
    have c9 : Tryz.prog.cellsOf 9 = 1 := by kernel_rfl
    have c23 : Tryz.prog.cellsOf 23 = 3 := by kernel_rfl
    have c27 : Tryz.prog.cellsOf tE = 8 := by kernel_rfl
    have c28 : Tryz.prog.cellsOf tS = 1 := by kernel_rfl
    rw [c27] at hl
    simp only [List.forall_mem_cons, c3, c9, c23, c28] at hf ih
    obtain ⟨f0, f1, f2, f3, f4, f5, _⟩ := hf
    obtain ⟨_, _, _, _, _, i5, _⟩ := ih
    match cs, hl with
    | [a, b, c, d, e, f, g, x], _ =>
      obtain ⟨k, hk, hw0⟩ := AT.inv_int Z3 f0
      obtain ⟨op, hop, hw1⟩ := AT.inv_int Z3 f1
      obtain ⟨t, ht, _⟩ := AT.inv_str Z9 f2
      obtain ⟨n, hn, _⟩ := AT.inv_str Z9 f3
      obtain ⟨vk, vn, vs, hv, r1, r2⟩ := dec_val f4
      obtain ⟨l, y, hy, hll, hL, hw⟩ := i5.2 trivial
      simp only [List.drop_zero, List.drop_succ_cons, List.take_succ_cons, List.take_zero, List.cons.injEq, and_true] at hk hop ht hn hv hy
      obtain ⟨rfl, rfl, rfl⟩ := hv
      subst hk hop ht hn hy
      refine ⟨.mk k op t.data.toList n.data.toList (vk, vn, vs.data.toList) l, .mk _ _ _ _ _ _ (Nat.le_trans hll (by decide)) ⟨X9c hw0, X9c hw1, r1, r2⟩ hL, ?_⟩
      rw [Q5l]
      simp only [X6i]
      refine ⟨rfl, fun i z z' g1 g2 => ?_⟩
      match i, g1, g2 with
      | 0, g1, g2 | 1, g1, g2 | 2, g1, g2 | 3, g1, g2 | 4, g1, g2 | 5, g1, g2 | 6, g1, g2 => cases g1; cases g2; exact AVw.refl _
      | 7, g1, g2 => cases g1; cases g2; exact hw
theorem dec_expr {cs : List AV} (h : AT Tryz.prog tE cs) : ∃ e, Lim e ∧ AVw (.agg cs) (.agg (exA e)) := by
  obtain ⟨e, h1, h2⟩ := (X7g h).1 rfl
  exact ⟨e, h1, AVw.agg h2.1 h2.2⟩
end Go.Proofs.YtjdapkelojdefaaGreatDoor
namespace Go.Print
open Go.V Go.Lex Go.Parse Go.Proofs.YtjdapkelojdefaaGreatDoor
def GL (l : List Tk) : Prop := ∀ t ∈ l, t.1 = 6 ∨ GoodT t
theorem GL.suf {l m : List Tk} (h : GL l) (hs : m <:+ l) : GL m := fun t ht => h t (hs.subset ht)
theorem GL.hd {s : Rd} (h : GL s.l) (hp : 0 < s.l.length) : (hd s.l).1 = 6 ∨ GoodT (hd s.l) := by
  unfold Go.Parse.hd
  rw [List.getD_eq_getElem?_getD, List.getElem?_eq_getElem hp]
  exact h _ (List.getElem_mem hp)
def TrE (e : Ex) (n : Nat) : Prop := ∃ t : Tr, t.wf ∧ t.rg ∧ t.ex = e ∧ t.tk.length + 5 ≤ n
theorem TrE.mono {e : Ex} {n m : Nat} (h : TrE e n) (hn : n ≤ m) : TrE e m := by
  obtain ⟨t, h1, h2, h3, h4⟩ := h
  exact ⟨t, h1, h2, h3, by omega⟩
def Dk (k : Int) (s : Rd) : Prop := k ≤ s.d ∧ s.d ≤ 10
theorem Dk.ok {k : Int} {s s' : Rd} (h : Dk k s) (o : Ok s s') : Dk k s' := by
  unfold Dk at h ⊢
  rw [o.d]; exact h
end Go.Print
namespace Go.Parse
open Go.V Go.Lex Go.Proofs.YtjdapkelojdefaaGreatDoor
def tq (x y : Tk) : Prop := x.1 = y.1 ∧ x.2.1 = y.2.1 ∧ x.2.2.1 = y.2.2.1
inductive Tq : List Tk → List Tk → Prop
  | nil : Tq [] []
  | cons (x y : Tk) (i j : List Tk) (h : tq x y) (t : Tq i j) : Tq (x :: i) (y :: j)
structure Sim (δ : Int) (w : By) (s s' : Rd) : Prop where
  c : s.c = 0
  c' : s'.c = 0
  d : s'.d = s.d + δ
  wf : WF s.l
  wf' : WF s'.l
  l : ∃ i j e z r, s.l = i ++ [e] ∧ s'.l = j ++ z :: r ∧ Tq i j ∧ e.1 = 6 ∧ z.1 = 5 ∧ z.2.1 = w ∧ (∀ x ∈ i, x.1 ≠ 6) ∧ r.length = 1
variable {δ : Int} {w : By}
theorem X3l {α : Type} (p : α → Bool) : ∀ (l : List α), (∀ x ∈ l, p x = true) → l.takeWhile p = l
  | [], _ => rfl
  | x :: l, h => by
    rw [List.takeWhile_cons, if_pos (h x (by simp)), X3l p l (fun y hy => h y (by simp [hy]))]
theorem Sim.is {s s' : Rd} (h : Sim δ w s s') (ws : List By) (hw : w ∉ ws) : s'.is ws = s.is ws := by
  obtain ⟨i, j, e, z, r, h1, h2, h3, h4, h5, h6⟩ := h.l
  have e1 := h.c
  have e2 := h.c'
  unfold Rd.is
  cases h3 with
  | nil =>
    have g1 : hd s.l = e := by rw [h1]; rfl
    have g2 : hd s'.l = z := by rw [h2]; rfl
    rw [g1, g2, if_pos (c := s.c ≠ 0 ∨ _) (.inr ⟨by omega, by omega⟩), if_neg (by omega), h6.1, if_neg]
    intro hlt
    have hall : ∀ x ∈ ws, (x != w) = true := fun x hx => by
      simp only [bne_iff_ne, ne_eq]
      exact fun e => hw (e ▸ hx)
    have : idx w ws = ws.length := by
      unfold idx
      rw [X3l _ ws hall]
    omega
  | cons x y i j hxy ht =>
    obtain ⟨q1, q2, q3⟩ := hxy
    have g1 : hd s.l = x := by rw [h1]; rfl
    have g2 : hd s'.l = y := by rw [h2]; rfl
    rw [g1, g2, q1, q2, e1, e2]
theorem Sim.next {s s' : Rd} (h : Sim δ w s s') (hk : (hd s.l).1 ≠ 6) : Sim δ w s.next s'.next ∧ tq (hd s.l) (hd s'.l) := by
  obtain ⟨i, j, e, z, r, h1, h2, h3, h4, h5, h6⟩ := h.l
  cases h3 with
  | nil =>
    have g1 : hd s.l = e := by rw [h1]; rfl
    rw [g1] at hk
    exact absurd h4 hk
  | cons x y i j hxy ht =>
    have g1 : hd s.l = x := by rw [h1]; rfl
    have g2 : hd s'.l = y := by rw [h2]; rfl
    have hk' : (hd s'.l).1 ≠ 6 := by rw [g2, ← hxy.1, ← g1]; exact hk
    refine ⟨⟨h.c, h.c', h.d, (h.wf.tail hk).1, (h.wf'.tail hk').1, i, j, e, z, r, ?_, ?_, ht, h4, h5, h6.1, fun x hx => h6.2.1 x (List.mem_cons_of_mem _ hx), h6.2.2⟩, by rw [g1, g2]; exact hxy⟩
    · show s.l.tail = _
      rw [h1]; rfl
    · show s'.l.tail = _
      rw [h2]; rfl
theorem Sim.nextIs {s s' : Rd} (h : Sim δ w s s') {ws : List By} (hk : 0 ≤ s.is ws) : Sim δ w s.next s'.next := (h.next (by obtain ⟨_, h2, _⟩ := X5c hk; omega)).1
theorem Sim.has {s s' : Rd} (h : Sim δ w s s') {v : By} (hv : s.has v = true) : s'.has v = true ∧ Sim δ w s.next s'.next := by
  have hk : 0 ≤ s.is [v] := of_decide_eq_true hv
  obtain ⟨h1, h2, h3, _⟩ := X5c hk
  obtain ⟨g1, g2, g3, g4⟩ := h.next (by omega)
  refine ⟨decide_eq_true ?_, g1⟩
  unfold Rd.is
  rw [if_neg (by rw [h.c', ← g2]; simp only [ne_eq, not_true_eq_false, false_or]; omega), ← g3, if_pos h3]
  omega
theorem fail_c {s : Rd} {e : Int} (he : e ≠ 0) : (s.fail e).c ≠ 0 := by
  unfold Rd.fail
  split
  · exact he
  · assumption
theorem Sim.must {s s' : Rd} : ∀ (ws : List By) {s s' : Rd}, Sim δ w s s' → (s.must ws).c = 0 → Sim δ w (s.must ws) (s'.must ws)
  | [], s, s', h, _ => h
  | v :: ws, s, s', h, hc => by
    unfold Rd.must at hc ⊢
    by_cases hv : s.has v = true
    · obtain ⟨g1, g2⟩ := h.has hv
      rw [if_pos hv] at hc ⊢
      rw [if_pos g1]
      exact Sim.must (s := s) (s' := s') ws g2 hc
    · rw [if_neg hv] at hc
      exact absurd hc (by
        have o := Q6n h.wf 4
        have hne := fail_c (s := s) (e := 4) (by decide)
        rw [((Q2a ws _ o.wf).c hne).1]
        exact hne)
theorem Sim.take {s s' : Rd} (h : Sim δ w s s') {k : Nat} (hk : k ≠ 6) (hc : (s.take k).c = 0) : Sim δ w (s.take k) (s'.take k) ∧ (s'.tok k).2.1 = (s.tok k).2.1 ∧ (s'.tok k).2.2.1 = (s.tok k).2.2.1 := by
  by_cases ht : s.takes k
  · obtain ⟨g1, g2, g3, g4⟩ := h.next (by rw [ht.2]; exact hk)
    have ht' : s'.takes k := ⟨h.c', by rw [← g2]; exact ht.2⟩
    unfold Rd.take Rd.tok
    rw [if_pos ht, if_pos ht', if_pos ht, if_pos ht']
    exact ⟨g1, g3.symm, g4.symm⟩
  · unfold Rd.take at hc
    rw [if_neg ht] at hc
    exact absurd hc (fail_c (by decide))
variable {d : Int}
theorem lit3 {s : Rd} (hc : s.c = 0) (h3 : (hd s.l).1 = 3) : s.lit = (((1, ((hd s.l).2.2.1 : Nat), []) : Vl), true, s.next) := by
  unfold Rd.lit
  rw [if_neg (by rw [hc]; simp), if_pos h3]
theorem lit4 {s : Rd} (hc : s.c = 0) (h3 : (hd s.l).1 ≠ 3) (h4 : (hd s.l).1 = 4) : s.lit = (((2, 0, (hd s.l).2.1) : Vl), true, s.next) := by
  unfold Rd.lit
  rw [if_neg (by rw [hc]; simp), if_neg h3, if_pos h4]
theorem lite {s : Rd} (hc : s.c = 0) (h3 : (hd s.l).1 ≠ 3) (h4 : (hd s.l).1 ≠ 4) (h : s.is [Q2m] < 0 ∨ (hd s.next.l).1 ≠ 3) : s.lit = (v0, s.has Q8t, s.pass [Q8t]) := by
  have e1 : s.l.getD 1 (0, [], 0, 0) = hd s.next.l := by
    unfold hd Rd.next
    rw [List.getD_eq_getElem?_getD, List.getD_eq_getElem?_getD, List.getElem?_tail]
  unfold Rd.lit
  rw [if_neg (by rw [hc]; simp), if_neg h3, if_neg h4, e1, if_pos h]
theorem litm {s : Rd} (hc : s.c = 0) (h3 : (hd s.l).1 ≠ 3) (h4 : (hd s.l).1 ≠ 4) (h : ¬ (s.is [Q2m] < 0 ∨ (hd s.next.l).1 ≠ 3)) : s.lit = ((1, IntKind.i64.wrap (0 - ((hd s.next.l).2.2.1 : Int)), []), true, s.next.next) := by
  have e1 : s.l.getD 1 (0, [], 0, 0) = hd s.next.l := by
    unfold hd Rd.next
    rw [List.getD_eq_getElem?_getD, List.getD_eq_getElem?_getD, List.getElem?_tail]
  unfold Rd.lit
  rw [if_neg (by rw [hc]; simp), if_neg h3, if_neg h4, e1, if_neg h]
theorem Sim.end6 {s s' : Rd} (h : Sim δ w s s') (h6 : (hd s.l).1 = 6) : (hd s'.l).1 = 5 ∨ (hd s'.l).1 = 6 := by
  obtain ⟨i, j, e, z, r, g1, g2, g3, g4, g5, g6⟩ := h.l
  cases g3 with
  | nil => rw [g2]; exact .inl g5
  | cons x y i j hxy ht =>
    have a1 : hd s.l = x := by rw [g1]; rfl
    have a2 : hd s'.l = y := by rw [g2]; rfl
    rw [a2, ← hxy.1, ← a1]
    exact .inr h6
theorem Sim.lit {s s' : Rd} (h : Sim δ w s s') (h1 : w ≠ Q2m) (h2 : w ≠ Q8t) : s'.lit.1 = s.lit.1 ∧ s'.lit.2.1 = s.lit.2.1 ∧ Sim δ w s.lit.2.2 s'.lit.2.2 := by
  have i1 := h.is [Q2m] (by simpa using h1)
  have i2 := h.is [Q8t] (by simpa using h2)
  have hnull : s'.has Q8t = s.has Q8t ∧ Sim δ w (s.pass [Q8t]) (s'.pass [Q8t]) := by
    refine ⟨by unfold Rd.has; rw [i2], ?_⟩
    unfold Rd.pass
    rw [i2]
    split
    · exact h.nextIs ‹_›
    · exact h
  have hc := h.c
  have hc' := h.c'
  by_cases h6 : (hd s.l).1 = 6
  · have h5 := h.end6 h6
    have hm : s.is [Q2m] < 0 := by
      rcases Int.lt_or_le (s.is [Q2m]) 0 with h' | h'
      · exact h'
      · obtain ⟨_, q, _⟩ := X5c h'; omega
    rw [lite hc (by omega) (by omega) (.inl hm), lite hc' (by omega) (by omega) (.inl (by rw [i1]; exact hm))]
    exact ⟨rfl, hnull.1, hnull.2⟩
  · obtain ⟨g1, g2, g3, g4⟩ := h.next h6
    by_cases h3 : (hd s.l).1 = 3
    · rw [lit3 hc h3, lit3 hc' (by omega)]
      exact ⟨by rw [g4], rfl, g1⟩
    · by_cases h4 : (hd s.l).1 = 4
      · rw [lit4 hc h3 h4, lit4 hc' (by omega) (by omega)]
        exact ⟨by rw [g3], rfl, g1⟩
      · by_cases hm : s.is [Q2m] < 0
        · rw [lite hc h3 h4 (.inl hm), lite hc' (by omega) (by omega) (.inl (by omega))]
          exact ⟨rfl, hnull.1, hnull.2⟩
        · by_cases hn : (hd s.next.l).1 = 3
          · obtain ⟨k1, k2, k3, k4⟩ := g1.next (by omega)
            rw [litm hc h3 h4 (by omega), litm hc' (by omega) (by omega) (by omega)]
            exact ⟨by rw [k4], rfl, k1⟩
          · have hn' : (hd s'.next.l).1 ≠ 3 := by
              by_cases h66 : (hd s.next.l).1 = 6
              · have := g1.end6 h66; omega
              · rw [← (g1.next h66).2.1]; exact hn
            rw [lite hc h3 h4 (.inr hn), lite hc' (by omega) (by omega) (.inr hn')]
            exact ⟨rfl, hnull.1, hnull.2⟩
end Go.Parse
namespace Go.Parse
open Go.V Go.Lex Go.Proofs.YtjdapkelojdefaaGreatDoor
abbrev Co := By × Int × Bool × Bool
abbrev Se := By × Ex
abbrev It := Int × List Ex
structure Stm where
  k : Int
  t : By
  cols : List Co
  pk : By
  rows : List (List Vl)
  sets : List Se
  items : List It
  join : By
  on : List Ex
  wh : List Ex
  gr : List Ex
  or : List Ex
  desc : Bool
  lim : Int
abbrev stm0 : Stm := ⟨0, [], [], [], [], [], [], [], [], [], [], [], false, -1⟩
def Q3s {β : Type} (one : Rd → β × Rd) (sep : By) : Nat → List β → Rd → List β × Rd
  | 0, acc, s => (acc ++ [(one (s.fail 2)).1], (one (s.fail 2)).2.pass [sep])
  | k + 1, acc, s => if (one s).2.has sep then Q3s one sep k (acc ++ [(one s).1]) ((one s).2.pass [sep]) else (acc ++ [(one s).1], (one s).2.pass [sep])
abbrev many {β : Type} (one : Rd → β × Rd) (most : Nat) (s : Rd) : List β × Rd := Q3s one [44] most [] s
def exp : Pr := (dp 11).ex
def Q3t (w : By) (s : Rd) : List Ex × Rd := if s.has w then ([(exp (s.pass [w])).1], (exp (s.pass [w])).2) else ([], s.pass [w])
def byL (w : By) (s : Rd) : List Ex × Rd := if s.has w then ([((s.pass [w]).must [[66, 89]]).column.1], ((s.pass [w]).must [[66, 89]]).column.2) else ([], s.pass [w])
abbrev X5i : List By := [[73, 78, 84], [84, 69, 88, 84]]
def Q9g (s : Rd) : Int × Rd := if s.is X5i = -1 then (1, (s.pass X5i).fail 4) else (if s.is X5i = 1 then 2 else 1, s.pass X5i)
def Q8l (s : Rd) : Bool × Rd := if s.has [78, 79, 84] then (true, (s.pass [[78, 79, 84]]).must [[78, 85, 76, 76]]) else (false, s.pass [[78, 79, 84]])
def Rd.columnOf (s : Rd) : Co × Rd :=
  (((s.tok 1).2.1, (Q9g (s.take 1)).1, (Q8l (Q9g (s.take 1)).2).1, (Q8l (Q9g (s.take 1)).2).2.has [85, 78, 73, 81, 85, 69]), (Q8l (Q9g (s.take 1)).2).2.pass [[85, 78, 73, 81, 85, 69]])
def litV (s : Rd) : Vl × Rd := (s.lit.1, if s.lit.2.1 then s.lit.2.2 else s.lit.2.2.fail 4)
def Q6t (s : Rd) : List Vl × Rd := ((many litV 8 (s.must [[40]])).1, (many litV 8 (s.must [[40]])).2.must [[41]])
def setL (s : Rd) : Se × Rd := (((s.tok 1).2.1, (exp ((s.take 1).must [[61]])).1), (exp ((s.take 1).must [[61]])).2)
abbrev Q2o : List By := [[67, 79, 85, 78, 84], [83, 85, 77], [77, 73, 78], [77, 65, 88], [42]]
def X7h (k : Int) (s : Rd) : It × Rd :=
  if 0 < k then ((4 + k, [(exp s).1]), (exp s).2.must [[41]]) else
  if s.has [42] then ((3, []), (s.pass [[42]]).must [[41]]) else
  ((4 + k, [(exp (s.pass [[42]])).1]), (exp (s.pass [[42]])).2.must [[41]])
def Q9h (s : Rd) : It × Rd :=
  if s.is Q2o < 0 then ((2, [(exp (s.pass Q2o)).1]), (exp (s.pass Q2o)).2) else
  if s.is Q2o = 4 then ((1, []), s.pass Q2o) else
  X7h (s.is Q2o) ((s.pass Q2o).must [[40]])
def Q2j (acc : List Co) (s : Rd) : Bool := decide (s.c = 0) && (decide (acc = []) || !s.has [80, 82, 73, 77, 65, 82, 89])
def Q3l (acc : List Co) (s : Rd) : Rd := if s.c = 0 ∧ acc ≠ [] then s.pass [[80, 82, 73, 77, 65, 82, 89]] else s
def Q6p : Nat → List Co → Rd → List Co × Rd
  | 0, acc, s => if Q2j acc s then (acc ++ [((Q3l acc s).fail 2).columnOf.1], ((Q3l acc s).fail 2).columnOf.2.must [[44]]) else (acc, Q3l acc s)
  | k + 1, acc, s => if Q2j acc s then Q6p k (acc ++ [(Q3l acc s).columnOf.1]) ((Q3l acc s).columnOf.2.must [[44]]) else (acc, Q3l acc s)
def crA (s : Rd) : Rd := s.must [[84, 65, 66, 76, 69]]
def crB (s : Rd) : Rd := ((crA s).take 1).must [[40]]
def crC (s : Rd) : List Co × Rd := Q6p 8 [] (crB s)
def crD (s : Rd) : Rd := (crC s).2.must [[75, 69, 89], [40]]
def Q8x (s : Rd) : Stm × Rd := ({ stm0 with k := 1, t := ((crA s).tok 1).2.1, cols := (crC s).1, pk := ((crD s).tok 1).2.1 }, ((crD s).take 1).must [[41], [41]])
def X8i (s : Rd) : Stm × Rd := ({ stm0 with k := 2, t := ((s.must [[84, 65, 66, 76, 69]]).tok 1).2.1 }, (s.must [[84, 65, 66, 76, 69]]).take 1)
def inA (s : Rd) : Rd := s.must [[73, 78, 84, 79]]
def inB (s : Rd) : List (List Vl) × Rd := many Q6t 16 (((inA s).take 1).must [[86, 65, 76, 85, 69, 83]])
def Q8y (s : Rd) : Stm × Rd := ({ stm0 with k := 3, t := ((inA s).tok 1).2.1, rows := (inB s).1 }, (inB s).2)
def upA (s : Rd) : List Se × Rd := many setL 8 ((s.take 1).must [[83, 69, 84]])
def Q8z (s : Rd) : Stm × Rd := ({ stm0 with k := 4, t := (s.tok 1).2.1, sets := (upA s).1, wh := (Q3t [87, 72, 69, 82, 69] (upA s).2).1 }, (Q3t [87, 72, 69, 82, 69] (upA s).2).2)
def Q9a (s : Rd) : Stm × Rd := ({ stm0 with k := 5, t := ((s.must [[70, 82, 79, 77]]).tok 1).2.1, wh := (Q3t [87, 72, 69, 82, 69] ((s.must [[70, 82, 79, 77]]).take 1)).1 }, (Q3t [87, 72, 69, 82, 69] ((s.must [[70, 82, 79, 77]]).take 1)).2)
def joinB (s : Rd) : Rd := ((s.pass [[74, 79, 73, 78]]).take 1).must [[79, 78]]
def X7i (s : Rd) : By × List Ex × Rd := if s.has [74, 79, 73, 78] then (((s.pass [[74, 79, 73, 78]]).tok 1).2.1, [(exp (joinB s)).1], (exp (joinB s)).2) else ([], [], s.pass [[74, 79, 73, 78]])
def descL (o : List Ex) (s : Rd) : Bool × Rd := if o = [] then (false, s) else (s.has [68, 69, 83, 67], s.pass [[68, 69, 83, 67]])
def limL (s : Rd) : Int × Rd := if s.has [76, 73, 77, 73, 84] then ((((s.pass [[76, 73, 77, 73, 84]]).tok 3).2.2.1 : Nat), (s.pass [[76, 73, 77, 73, 84]]).take 3) else (-1, s.pass [[76, 73, 77, 73, 84]])
def seA (s : Rd) : List It × Rd := many Q9h 8 s
def seB (s : Rd) : Rd := (seA s).2.must [[70, 82, 79, 77]]
def seC (s : Rd) : By × List Ex × Rd := X7i ((seB s).take 1)
def seD (s : Rd) : List Ex × Rd := Q3t [87, 72, 69, 82, 69] (seC s).2.2
def seE (s : Rd) : List Ex × Rd := byL [71, 82, 79, 85, 80] (seD s).2
def seF (s : Rd) : List Ex × Rd := byL [79, 82, 68, 69, 82] (seE s).2
def seG (s : Rd) : Bool × Rd := descL (seF s).1 (seF s).2
def seH (s : Rd) : Int × Rd := limL (seG s).2
def Q9b (s : Rd) : Stm × Rd := ({ stm0 with k := 6, t := ((seB s).tok 1).2.1, items := (seA s).1, join := (seC s).1, on := (seC s).2.1, wh := (seD s).1, gr := (seE s).1, or := (seF s).1, desc := (seG s).1, lim := (seH s).1 }, (seH s).2)
abbrev X2c : List By := [[67, 82, 69, 65, 84, 69], [68, 82, 79, 80], [73, 78, 83, 69, 82, 84], [85, 80, 68, 65, 84, 69], [68, 69, 76, 69, 84, 69], [83, 69, 76, 69, 67, 84]]
def Q9i (k : Int) (s : Rd) : Stm × Rd :=
  if k = -1 then (stm0, s.fail 4) else if k = 0 then Q8x s else if k = 1 then X8i s else if k = 2 then Q8y s else if k = 3 then Q8z s else if k = 4 then Q9a s else if k = 5 then Q9b s else (stm0, s)
def Q1g (s : Rd) : Stm × Rd := Q9i (s.is X2c) (s.pass X2c)
def Q5a (l : List Tk) : List Stm × Rd := ((Q3s Q1g [59] 8 [] (rd0 l)).1, (Q3s Q1g [59] 8 [] (rd0 l)).2.fin)
def X1f (l : List Tk) : List Stm × Int × Int := if (Q5a l).2.c = 0 then ((Q5a l).1, 0, 0) else ([], (Q5a l).2.c, (Q5a l).2.a)
def Q7v (b : List UInt8) : List Stm × Int × Int :=
  match Q7q b with
  | .ok l => X1f l
  | .error (e, a) => ([], (e : Int), a)
def Q6d {β : Type} (F : Rd → β × Rd) : Prop := ∀ s, WF s.l → Ok s (F s).2
theorem X4i {β : Type} {one : Rd → β × Rd} (h : Q6d one) (sep : By) : ∀ (k : Nat) (acc : List β) (s : Rd), WF s.l → Ok s (Q3s one sep k acc s).2
  | 0, acc, s, hw => by
    have o := Q6n hw 2
    have o2 := o.trans (h _ o.wf)
    exact o2.trans (Q4h o2.wf)
  | k + 1, acc, s, hw => by
    have o := h s hw
    have o2 := o.trans (Q4h (ws := [sep]) o.wf)
    unfold Q3s
    split
    · exact o2.trans (X4i h sep k _ _ o2.wf)
    · exact o2
theorem X0d : Q6d exp := (X2o 11).ex
theorem X1r (w : By) : Q6d (Q3t w) := fun s hw => by
  have o := Q4h (ws := [w]) hw
  unfold Q3t
  split
  · exact o.trans (X0d _ o.wf)
  · exact o
theorem Y0r (w : By) : Q6d (byL w) := fun s hw => by
  have o := Q4h (ws := [w]) hw
  unfold byL
  split
  · have o2 := o.trans (Q2a [[66, 89]] _ o.wf)
    exact o2.trans (X2n _ o2.wf)
  · exact o
theorem nice_coKind : Q6d Q9g := fun s hw => by
  have o := Q4h (ws := X5i) hw
  unfold Q9g
  split
  · exact o.trans (Q6n o.wf 4)
  · exact o
theorem nice_coNull : Q6d Q8l := fun s hw => by
  have o := Q4h (ws := [[78, 79, 84]]) hw
  unfold Q8l
  split
  · exact o.trans (Q2a _ _ o.wf)
  · exact o
theorem Q4m : Q6d Rd.columnOf := fun s hw => by
  have o1 := Q4y (k := 1) hw (by decide)
  have o2 := o1.trans (nice_coKind _ o1.wf)
  have o3 := o2.trans (nice_coNull _ o2.wf)
  exact o3.trans (Q4h o3.wf)
theorem X7j : Q6d litV := fun s hw => by
  have o := ok_lit hw
  unfold litV
  split
  · exact o
  · exact o.trans (Q6n o.wf 4)
theorem X9d : Q6d Q6t := fun s hw => by
  have o := Q2a [[40]] s hw
  have o2 := o.trans (X4i X7j [44] 8 [] _ o.wf)
  exact o2.trans (Q2a _ _ o2.wf)
theorem Y0s : Q6d setL := fun s hw => by
  have o := Q4y (k := 1) hw (by decide)
  have o2 := o.trans (Q2a [[61]] _ o.wf)
  exact o2.trans (X0d _ o2.wf)
theorem nice_itemB (k : Int) : Q6d (X7h k) := fun s hw => by
  unfold X7h
  split
  · have o := X0d s hw
    exact o.trans (Q2a _ _ o.wf)
  · have o := Q4h (ws := [[42]]) hw
    split
    · exact o.trans (Q2a _ _ o.wf)
    · have o2 := o.trans (X0d _ o.wf)
      exact o2.trans (Q2a _ _ o2.wf)
theorem X7k : Q6d Q9h := fun s hw => by
  have o := Q4h (ws := Q2o) hw
  unfold Q9h
  split
  · exact o.trans (X0d _ o.wf)
  · split
    · exact o
    · have o2 := o.trans (Q2a [[40]] _ o.wf)
      exact o2.trans (nice_itemB _ _ o2.wf)
theorem ok_colsAt {acc : List Co} {s : Rd} (hw : WF s.l) : Ok s (Q3l acc s) := by
  unfold Q3l
  split
  · exact Q4h hw
  · exact .refl hw
theorem ok_cols : ∀ (k : Nat) (acc : List Co) (s : Rd), WF s.l → Ok s (Q6p k acc s).2
  | 0, acc, s, hw => by
    have o := ok_colsAt (acc := acc) hw
    have o2 := o.trans (Q6n o.wf 2)
    have o3 := o2.trans (Q4m _ o2.wf)
    unfold Q6p
    split
    · exact o3.trans (Q2a _ _ o3.wf)
    · exact o
  | k + 1, acc, s, hw => by
    have o := ok_colsAt (acc := acc) hw
    have o3 := o.trans (Q4m _ o.wf)
    have o4 := o3.trans (Q2a [[44]] _ o3.wf)
    unfold Q6p
    split
    · exact o4.trans (ok_cols k _ _ o4.wf)
    · exact o
theorem ok_crA {s : Rd} (hw : WF s.l) : Ok s (crA s) := Q2a _ _ hw
theorem ok_crB {s : Rd} (hw : WF s.l) : Ok s (crB s) := by
  have o := ok_crA hw
  have o2 := o.trans (Q4y (k := 1) o.wf (by decide))
  exact o2.trans (Q2a _ _ o2.wf)
theorem ok_crC {s : Rd} (hw : WF s.l) : Ok s (crC s).2 := (ok_crB hw).trans (ok_cols _ _ _ (ok_crB hw).wf)
theorem ok_crD {s : Rd} (hw : WF s.l) : Ok s (crD s) := (ok_crC hw).trans (Q2a _ _ (ok_crC hw).wf)
theorem nice_create : Q6d Q8x := fun s hw => by
  have o := ok_crD hw
  have o2 := o.trans (Q4y (k := 1) o.wf (by decide))
  exact o2.trans (Q2a _ _ o2.wf)
theorem nice_drop : Q6d X8i := fun s hw => by
  have o := Q2a [[84, 65, 66, 76, 69]] s hw
  exact o.trans (Q4y (k := 1) o.wf (by decide))
theorem ok_inB {s : Rd} (hw : WF s.l) : Ok s (inB s).2 := by
  have o := Q2a [[73, 78, 84, 79]] s hw
  have o2 := o.trans (Q4y (k := 1) o.wf (by decide))
  have o3 := o2.trans (Q2a [[86, 65, 76, 85, 69, 83]] _ o2.wf)
  exact o3.trans (X4i X9d _ _ _ _ o3.wf)
theorem nice_insert : Q6d Q8y := fun s hw => ok_inB hw
theorem ok_upA {s : Rd} (hw : WF s.l) : Ok s (upA s).2 := by
  have o2 := Q4y (k := 1) hw (by decide)
  have o3 := o2.trans (Q2a [[83, 69, 84]] _ o2.wf)
  exact o3.trans (X4i Y0s _ _ _ _ o3.wf)
theorem nice_update : Q6d Q8z := fun s hw => (ok_upA hw).trans (X1r _ _ (ok_upA hw).wf)
theorem nice_remove : Q6d Q9a := fun s hw => by
  have o := Q2a [[70, 82, 79, 77]] s hw
  have o2 := o.trans (Q4y (k := 1) o.wf (by decide))
  exact o2.trans (X1r _ _ o2.wf)
theorem ok_joinB {s : Rd} (hw : WF s.l) : Ok s (joinB s) := by
  have o := Q4h (ws := [[74, 79, 73, 78]]) hw
  have o2 := o.trans (Q4y (k := 1) o.wf (by decide))
  exact o2.trans (Q2a _ _ o2.wf)
theorem ok_join {s : Rd} (hw : WF s.l) : Ok s (X7i s).2.2 := by
  unfold X7i
  split
  · exact (ok_joinB hw).trans (X0d _ (ok_joinB hw).wf)
  · exact Q4h hw
theorem nice_desc (o : List Ex) : Q6d (descL o) := fun s hw => by
  unfold descL
  split
  · exact .refl hw
  · exact Q4h hw
theorem nice_lim : Q6d limL := fun s hw => by
  have o := Q4h (ws := [[76, 73, 77, 73, 84]]) hw
  unfold limL
  split
  · exact o.trans (Q4y o.wf (by decide))
  · exact o
theorem ok_seA {s : Rd} (hw : WF s.l) : Ok s (seA s).2 := X4i X7k _ _ _ _ hw
theorem ok_seB {s : Rd} (hw : WF s.l) : Ok s (seB s) := (ok_seA hw).trans (Q2a _ _ (ok_seA hw).wf)
theorem ok_seC {s : Rd} (hw : WF s.l) : Ok s (seC s).2.2 := by
  have o := (ok_seB hw).trans (Q4y (k := 1) (ok_seB hw).wf (by decide))
  exact o.trans (ok_join o.wf)
theorem ok_seD {s : Rd} (hw : WF s.l) : Ok s (seD s).2 := (ok_seC hw).trans (X1r _ _ (ok_seC hw).wf)
theorem ok_seE {s : Rd} (hw : WF s.l) : Ok s (seE s).2 := (ok_seD hw).trans (Y0r _ _ (ok_seD hw).wf)
theorem ok_seF {s : Rd} (hw : WF s.l) : Ok s (seF s).2 := (ok_seE hw).trans (Y0r _ _ (ok_seE hw).wf)
theorem ok_seG {s : Rd} (hw : WF s.l) : Ok s (seG s).2 := (ok_seF hw).trans (nice_desc _ _ (ok_seF hw).wf)
theorem ok_seH {s : Rd} (hw : WF s.l) : Ok s (seH s).2 := (ok_seG hw).trans (nice_lim _ (ok_seG hw).wf)
theorem nice_choose : Q6d Q9b := fun s hw => ok_seH hw
theorem nice_stateK (k : Int) : Q6d (Q9i k) := fun s hw => by
  unfold Q9i
  repeat' split
  · exact Q6n hw 4
  · exact nice_create s hw
  · exact nice_drop s hw
  · exact nice_insert s hw
  · exact nice_update s hw
  · exact nice_remove s hw
  · exact nice_choose s hw
  · exact .refl hw
theorem X1s : Q6d Q1g := fun s hw => by
  have o := Q4h (ws := X2c) hw
  exact o.trans (nice_stateK _ _ o.wf)
structure Gd (s : Rd) : Prop where
  wf : WF s.l
  d : s.d = 0
theorem Gd.ok {s s' : Rd} (h : Gd s) (o : Ok s s') : Gd s' := ⟨o.wf, o.d.trans h.d⟩
theorem Q3q {s : Rd} {ws : List By} (h : Gd s) : Gd (s.must ws) := h.ok (Q2a ws s h.wf)
theorem Y0t {s : Rd} {e : Int} (h : Gd s) : Gd (s.fail e) := h.ok (Q6n h.wf e)
theorem Q5y {s : Rd} {ws : List By} (h : Gd s) : Gd (s.pass ws) := h.ok (Q4h h.wf)
theorem Q6q {s : Rd} {k : Nat} (hk : k ≠ 6) (h : Gd s) : Gd (s.take k) := h.ok (Q4y h.wf hk)
theorem gd_exp {s : Rd} (h : Gd s) : Gd (exp s).2 := h.ok (X0d s h.wf)
theorem gd_column {s : Rd} (h : Gd s) : Gd s.column.2 := h.ok (X2n s h.wf)
theorem gd_lit {s : Rd} (h : Gd s) : Gd s.lit.2.2 := h.ok (ok_lit h.wf)
theorem X4j {β : Type} {F : Rd → β × Rd} (hF : Q6d F) {s : Rd} (h : Gd s) : Gd (F s).2 := h.ok (hF s h.wf)
theorem Y0u {β : Type} {F : Rd → β × Rd} (hF : Q6d F) {sep : By} {k : Nat} {acc : List β} {s : Rd} (h : Gd s) : Gd (Q3s F sep k acc s).2 := h.ok (X4i hF sep k acc s h.wf)
theorem has_pass {s : Rd} {w : By} (h : s.has w = false) : s.pass [w] = s := by rw [pass1, h]; rfl
def fT (t : Tk) : Tk := (t.1, t.2.1, t.2.2.1, 0)
def Rd.fg (s : Rd) : Rd := ⟨s.l.map fT, s.d, s.c, 0⟩
def Fg {β : Type} (F : Rd → β × Rd) : Prop := ∀ s, F s.fg = ((F s).1, (F s).2.fg)
theorem getD_fg (l : List Tk) (k : Nat) : (l.map fT).getD k (0, [], 0, 0) = fT (l.getD k (0, [], 0, 0)) := by
  simp only [List.getD_eq_getElem?_getD, List.getElem?_map]
  cases l[k]? <;> rfl
theorem hd_fg (s : Rd) : hd s.fg.l = fT (hd s.l) := getD_fg s.l 0
theorem c_fg (s : Rd) : s.fg.c = s.c := rfl
theorem len_fg (s : Rd) : s.fg.l.length = s.l.length := by unfold Rd.fg; simp
theorem Q9c (s : Rd) : s.fg.next = s.next.fg := by
  unfold Rd.fg Rd.next
  simp [List.map_tail]
theorem X0e (s : Rd) (e : Int) : s.fg.fail e = (s.fail e).fg := by
  unfold Rd.fail
  rw [hd_fg, c_fg]
  by_cases h : s.c = 0
  · rw [if_pos h, if_pos h]; rfl
  · rw [if_neg h, if_neg h]
theorem Y0v (s : Rd) (ws : List By) : s.fg.is ws = s.is ws := by
  unfold Rd.is
  rw [hd_fg, c_fg]
  rfl
theorem Q4q (s : Rd) (ws : List By) : s.fg.pass ws = (s.pass ws).fg := by
  unfold Rd.pass
  rw [Y0v, Q9c]
  split <;> rfl
theorem Q7w (s : Rd) (w : By) : s.fg.has w = s.has w := by
  unfold Rd.has
  rw [Y0v]
theorem Q2u : ∀ (ws : List By) (s : Rd), s.fg.must ws = (s.must ws).fg
  | [], s => rfl
  | w :: ws, s => by
    unfold Rd.must
    rw [Q7w, Q9c, X0e]
    split
    · exact Q2u ws s.next
    · exact Q2u ws (s.fail 4)
theorem X5z (s : Rd) (k : Nat) : s.fg.takes k ↔ s.takes k := by
  unfold Rd.takes
  rw [hd_fg, c_fg]
  exact Iff.rfl
theorem X1g (s : Rd) (k : Nat) : s.fg.tok k = fT (s.tok k) := by
  unfold Rd.tok
  rw [hd_fg]
  by_cases h : s.takes k
  · rw [if_pos h, if_pos ((X5z s k).2 h)]
  · rw [if_neg h, if_neg (fun h' => h ((X5z s k).1 h'))]
    rfl
theorem Q6r (s : Rd) (k : Nat) : s.fg.take k = (s.take k).fg := by
  unfold Rd.take
  rw [Q9c, X0e]
  by_cases h : s.takes k
  · rw [if_pos h, if_pos ((X5z s k).2 h)]
  · rw [if_neg h, if_neg (fun h' => h ((X5z s k).1 h'))]
theorem fT1 (t : Tk) : (fT t).1 = t.1 := rfl
theorem fT2 (t : Tk) : (fT t).2.1 = t.2.1 := rfl
theorem fT3 (t : Tk) : (fT t).2.2.1 = t.2.2.1 := rfl
theorem lit_fg (s : Rd) : s.fg.lit = (s.lit.1, s.lit.2.1, s.lit.2.2.fg) := by
  have hg : s.fg.l.getD 1 (0, [], 0, 0) = fT (s.l.getD 1 (0, [], 0, 0)) := getD_fg s.l 1
  unfold Rd.lit
  simp only [hd_fg, c_fg, Y0v, hg, Q9c, Q7w, Q4q, fT1, fT2, fT3]
  repeat' split
  all_goals rfl
theorem fg_column : Fg Rd.column := fun s => by
  unfold Rd.column
  simp only [Q6r, Q7w, X1g, Q9c, fT2]
  split <;> rfl
theorem down_fg (s : Rd) : s.fg.down = s.down.fg := by
  unfold Rd.down
  have : ({ s.fg with d := s.fg.d + 1 } : Rd) = ({ s with d := s.d + 1 } : Rd).fg := rfl
  rw [this, X0e]
  show (if s.d + 1 > 10 then _ else _) = _
  split <;> rfl
theorem X7l {F : Pr} (h : Fg F) : Fg (Q2i F) := fun s => by
  unfold Q2i
  rw [down_fg, c_fg, h]
  split <;> rfl
theorem rowL_fg {F : Pr} (h : Fg F) (first : Int) (ws : List By) : ∀ (n : Nat) (e : Ex) (s : Rd), rowL F first ws n e s.fg = ((rowL F first ws n e s).1, (rowL F first ws n e s).2.fg)
  | 0, e, s => rfl
  | n + 1, e, s => by
    unfold rowL
    rw [Y0v, Q9c, h]
    split
    · exact rowL_fg h first ws n _ _
    · rfl
theorem fg_row {F : Pr} (h : Fg F) (first : Int) (ws : List By) : Fg (row F first ws) := fun s => by
  unfold row
  rw [h, len_fg]
  exact rowL_fg h first ws _ _ _
structure Dp.Fg (D : Dp) : Prop where
  fac : Go.Parse.Fg D.fac
  not : Go.Parse.Fg D.not
  ex : Go.Parse.Fg D.ex
theorem fg_fac {D : Dp} (h : D.Fg) : Fg (facL D) := fun s => by
  unfold facL
  simp only [lit_fg, Y0v, Q9c, X7l h.fac _, X7l h.ex _, Q2u, fg_column _]
  repeat' split
  all_goals rfl
theorem fg_sum {D : Dp} (h : D.Fg) : Fg (sumL D) := fg_row (fg_row (fg_fac h) _ _) _ _
theorem isNull_fg (e : Ex) (s : Rd) : isNull e s.fg = ((isNull e s).1, (isNull e s).2.fg) := by
  unfold isNull
  simp only [Q7w, Q9c, Q2u]
  split <;> rfl
theorem fg_test {D : Dp} (h : D.Fg) : Fg (Q6m D) := fun s => by
  unfold Q6m
  simp only [fg_sum h _, Y0v, Q9c, isNull_fg]
  repeat' split
  all_goals rfl
theorem fg_not {D : Dp} (h : D.Fg) : Fg (notL D) := fun s => by
  unfold notL
  simp only [Q7w, Q9c, X7l h.not _, fg_test h _]
  split <;> rfl
theorem fg_ex {D : Dp} (h : D.Fg) : Fg (exL D) := fg_row (fg_row (fg_not h) _ _) _ _
theorem dp_fg : ∀ n, (dp n).Fg
  | 0 => ⟨fun s => rfl, fun s => rfl, fun s => rfl⟩
  | n + 1 => ⟨fg_fac (dp_fg n), fg_not (dp_fg n), fg_ex (dp_fg n)⟩
theorem fg_exp : Fg exp := (dp_fg 11).ex
theorem fin_fg (s : Rd) : s.fg.fin = s.fin.fg := by
  unfold Rd.fin
  rw [hd_fg, c_fg, X0e, fT1]
  split <;> rfl
theorem X4k {β : Type} {one : Rd → β × Rd} (h : Fg one) (sep : By) : ∀ (k : Nat) (acc : List β) (s : Rd), Q3s one sep k acc s.fg = ((Q3s one sep k acc s).1, (Q3s one sep k acc s).2.fg)
  | 0, acc, s => by
    unfold Q3s
    simp only [X0e, h _, Q4q]
  | k + 1, acc, s => by
    unfold Q3s
    simp only [h _, Q7w, Q4q]
    split
    · exact X4k h sep k _ _
    · rfl
theorem Y0w (w : By) : Fg (Q3t w) := fun s => by
  unfold Q3t
  simp only [Q7w, Q4q, fg_exp _]
  split <;> rfl
theorem fg_by (w : By) : Fg (byL w) := fun s => by
  unfold byL
  simp only [Q7w, Q4q, Q2u, fg_column _]
  split <;> rfl
theorem fg_coKind : Fg Q9g := fun s => by
  unfold Q9g
  simp only [Y0v, Q4q, X0e]
  split <;> rfl
theorem fg_coNull : Fg Q8l := fun s => by
  unfold Q8l
  simp only [Q7w, Q4q, Q2u]
  split <;> rfl
theorem X7m : Fg Rd.columnOf := fun s => by
  unfold Rd.columnOf
  simp only [X1g, Q6r, fT2, fg_coKind _, fg_coNull _, Q7w, Q4q]
theorem fg_litV : Fg litV := fun s => by
  unfold litV
  simp only [lit_fg, X0e]
  split <;> rfl
theorem fg_tuple : Fg Q6t := fun s => by
  unfold Q6t many
  simp only [Q2u, X4k fg_litV]
theorem fg_set : Fg setL := fun s => by
  unfold setL
  simp only [X1g, Q6r, Q2u, fT2, fg_exp _]
theorem fg_itemB (k : Int) : Fg (X7h k) := fun s => by
  unfold X7h
  simp only [fg_exp _, Q2u, Q7w, Q4q]
  repeat' split
  all_goals rfl
theorem fg_item : Fg Q9h := fun s => by
  unfold Q9h
  simp only [Y0v, Q4q, fg_exp _, Q2u, fg_itemB _ _]
  repeat' split
  all_goals rfl
theorem X7n (acc : List Co) (s : Rd) : Q2j acc s.fg = Q2j acc s := by
  unfold Q2j
  rw [c_fg, Q7w]
theorem colsAt_fg (acc : List Co) (s : Rd) : Q3l acc s.fg = (Q3l acc s).fg := by
  unfold Q3l
  rw [c_fg, Q4q]
  split <;> rfl
theorem fg_cols : ∀ (k : Nat) (acc : List Co) (s : Rd), Q6p k acc s.fg = ((Q6p k acc s).1, (Q6p k acc s).2.fg)
  | 0, acc, s => by
    unfold Q6p
    simp only [X7n, colsAt_fg, X0e, X7m _, Q2u]
    split <;> rfl
  | k + 1, acc, s => by
    unfold Q6p
    simp only [X7n, colsAt_fg, X7m _, Q2u]
    split
    · exact fg_cols k _ _
    · rfl
theorem crA_fg (s : Rd) : crA s.fg = (crA s).fg := Q2u _ _
theorem crB_fg (s : Rd) : crB s.fg = (crB s).fg := by unfold crB; simp only [crA_fg, Q6r, Q2u]
theorem crC_fg : Fg crC := fun s => by unfold crC; simp only [crB_fg, fg_cols]
theorem crD_fg (s : Rd) : crD s.fg = (crD s).fg := by unfold crD; simp only [crC_fg _, Q2u]
theorem fg_create : Fg Q8x := fun s => by
  unfold Q8x
  simp only [crA_fg, crC_fg _, crD_fg, X1g, Q6r, Q2u, fT2]
theorem fg_drop : Fg X8i := fun s => by
  unfold X8i
  simp only [X1g, Q6r, Q2u, fT2]
theorem inA_fg (s : Rd) : inA s.fg = (inA s).fg := Q2u _ _
theorem inB_fg : Fg inB := fun s => by unfold inB many; simp only [inA_fg, Q6r, Q2u, X4k fg_tuple]
theorem fg_insert : Fg Q8y := fun s => by
  unfold Q8y
  simp only [inA_fg, inB_fg _, X1g, fT2]
theorem upA_fg : Fg upA := fun s => by unfold upA many; simp only [Q6r, Q2u, X4k fg_set]
theorem fg_update : Fg Q8z := fun s => by
  unfold Q8z
  simp only [upA_fg _, X1g, fT2, Y0w _ _]
theorem fg_remove : Fg Q9a := fun s => by
  unfold Q9a
  simp only [Q2u, X1g, Q6r, fT2, Y0w _ _]
theorem joinB_fg (s : Rd) : joinB s.fg = (joinB s).fg := by unfold joinB; simp only [Q4q, Q6r, Q2u]
theorem join_fg (s : Rd) : X7i s.fg = ((X7i s).1, (X7i s).2.1, (X7i s).2.2.fg) := by
  unfold X7i
  simp only [Q7w, Q4q, X1g, fT2, joinB_fg, fg_exp _]
  split <;> rfl
theorem fg_desc (o : List Ex) : Fg (descL o) := fun s => by
  unfold descL
  simp only [Q7w, Q4q]
  split <;> rfl
theorem fg_lim : Fg limL := fun s => by
  unfold limL
  simp only [Q7w, Q4q, X1g, Q6r, fT3]
  split <;> rfl
theorem seA_fg : Fg seA := fun s => by unfold seA many; simp only [X4k fg_item]
theorem seB_fg (s : Rd) : seB s.fg = (seB s).fg := by unfold seB; simp only [seA_fg _, Q2u]
theorem seC_fg (s : Rd) : seC s.fg = ((seC s).1, (seC s).2.1, (seC s).2.2.fg) := by unfold seC; simp only [seB_fg, Q6r, join_fg]
theorem seD_fg : Fg seD := fun s => by unfold seD; simp only [seC_fg, Y0w _ _]
theorem seE_fg : Fg seE := fun s => by unfold seE; simp only [seD_fg _, fg_by _ _]
theorem seF_fg : Fg seF := fun s => by unfold seF; simp only [seE_fg _, fg_by _ _]
theorem seG_fg : Fg seG := fun s => by unfold seG; simp only [seF_fg _, fg_desc _ _]
theorem seH_fg : Fg seH := fun s => by unfold seH; simp only [seG_fg _, fg_lim _]
theorem fg_choose : Fg Q9b := fun s => by
  unfold Q9b
  simp only [seA_fg _, seB_fg, seC_fg, seD_fg _, seE_fg _, seF_fg _, seG_fg _, seH_fg _, X1g, fT2]
theorem fg_stateK (k : Int) : Fg (Q9i k) := fun s => by
  unfold Q9i
  simp only [X0e, fg_create _, fg_drop _, fg_insert _, fg_update _, fg_remove _, fg_choose _]
  repeat' split
  all_goals rfl
theorem fg_state : Fg Q1g := fun s => by
  unfold Q1g
  simp only [Y0v, Q4q, fg_stateK _ _]
theorem rd0_fg (l : List Tk) : (rd0 l).fg = rd0 (l.map fT) := rfl
theorem X9e (l : List Tk) : Q5a (l.map fT) = ((Q5a l).1, (Q5a l).2.fg) := by
  unfold Q5a
  rw [← rd0_fg, X4k fg_state, fin_fg]
theorem oneT_fg (l : List Tk) : oneT (l.map fT) = ((oneT l).1, (oneT l).2.fg) := by
  unfold oneT
  rw [← rd0_fg, (dp_fg 11).ex, fin_fg]
theorem script_alike {l m : List Tk} (h : l.map fT = m.map fT) : (X1f l).1 = (X1f m).1 ∧ (X1f l).2.1 = (X1f m).2.1 := by
  have h1 := X9e l
  have h2 := X9e m
  have h1 := h1.symm.trans ((congrArg Q5a h).trans h2)
  have e1 : (Q5a m).1 = (Q5a l).1 := (congrArg Prod.fst h1).symm
  have e2 : (Q5a m).2.c = (Q5a l).2.c := (congrArg (fun x => x.2.c) h1).symm
  unfold X1f
  rw [e1, e2]
  split <;> exact ⟨rfl, rfl⟩
theorem one_alike {l m : List Tk} (h : l.map fT = m.map fT) : (oneR l).1 = (oneR m).1 ∧ (oneR l).2.1 = (oneR m).2.1 := by
  have h1 := oneT_fg l
  have h2 := oneT_fg m
  have h1 := h1.symm.trans ((congrArg oneT h).trans h2)
  have e1 : (oneT m).1 = (oneT l).1 := (congrArg Prod.fst h1).symm
  have e2 : (oneT m).2.c = (oneT l).2.c := (congrArg (fun x => x.2.c) h1).symm
  unfold oneR
  rw [e1, e2]
  split <;> exact ⟨rfl, rfl⟩
end Go.Parse
namespace Go.Print
open Go.V Go.Lex Go.Parse Go.Proofs.YtjdapkelojdefaaGreatDoor
end Go.Print
