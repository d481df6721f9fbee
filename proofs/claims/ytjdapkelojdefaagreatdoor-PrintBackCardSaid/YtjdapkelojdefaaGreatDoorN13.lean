/- Part 13 of the proof: B21, B22, B23, B24, B25, B26, B27. -/
import Derived.Test.YtjdapkelojdefaaGreatDoorN7
import Derived.Test.YtjdapkelojdefaaGreatDoorN12

set_option linter.all false
set_option maxRecDepth 100000
set_option maxHeartbeats 8000000
open Go.V.Sg renaming set_same → zn, set_ne → zp, set_ne' → zq, del_ne → zr, del_ne' → zv
open Option renaming getD_some → zw
open List renaming length_cons → zy
open Go.Cert renaming ne_of2 → zQ, ne_ob → zR
open Go.V.VCalls renaming mono → zU
open Go.Proofs.Tryz renaming underlying26 → Z26, underlying71 → Z71
namespace Go.Proofs.YtjdapkelojdefaaGreatDoor
open Go Go.V Go.Lex Go.Parse
variable (ρ : Nat) (s : Rd)
theorem c13 (w : By) (σ : Sg) (hρ : σ ρ = some (rdA s)) (hg : Gd s) : VCalls Tryz.prog 37 [.ref ρ 0, .s (bs w)] σ (fun x σ' => x = .b (s.has w) ∧ σ' = σ.set ρ (rdA (s.pass [w]))) := by
  rw [pass1]; exact p13 ρ s w σ hρ hg.wf.pos
theorem c14 (e : Int) (σ : Sg) (hρ : σ ρ = some (rdA s)) (hg : Gd s) : VCalls Tryz.prog 38 [.ref ρ 0, .i e] σ (fun x σ' => x = .tup [] ∧ σ' = σ.set ρ (rdA (s.fail e))) := p14 ρ s e σ hρ hg.wf.pos
theorem c20 (σ : Sg) (hρ : σ ρ = some (rdA s)) : VCalls Tryz.prog 85 [.ref ρ 0] σ (fun x σ' => x = .b (decide (s.c = 0)) ∧ σ' = σ) := p20 ρ s σ hρ
theorem c22 (o : Own) (ws : List By) (es : List (List AV)) (σ : Sg) (he : es = strs ws) (hρ : σ ρ = some (rdA s)) (hg : Gd s) (hw : ws.length < 2 ^ 60) : VCalls Tryz.prog 87 [.ref ρ 0, .sl o es] σ (fun x σ' => x = .i (s.is ws) ∧ σ' = σ.set ρ (rdA (s.pass ws))) := p22 ρ s o ws es σ he hρ hg.wf.pos hw
theorem c41 (o : Own) (ws : List By) (es : List (List AV)) (σ : Sg) (he : es = strs ws) (hρ : σ ρ = some (rdA s)) (hg : Gd s) (hw : ws.length < 2 ^ 60) : VCalls Tryz.prog 137 [.ref ρ 0, .sl o es] σ (fun x σ' => x = .tup [] ∧ σ' = σ.set ρ (rdA (s.must ws))) := p41 ρ s o ws es σ he hρ hg.wf hw
theorem c42 (σ : Sg) (hρ : σ ρ = some (rdA s)) (hg : Gd s) : VCalls Tryz.prog 138 [.ref ρ 0] σ (fun x σ' => x = .s (bs (s.tok 1).2.1) ∧ σ' = σ.set ρ (rdA (s.take 1))) := p42 ρ s σ hρ hg.wf.pos
theorem c52 (σ : Sg) (hρ : σ ρ = some (rdA s)) (hg : Gd s) : VCalls Tryz.prog 148 [.ref ρ 0, .i 3] σ (fun x σ' => x = .agg [.i (s.tok 3).1, .s (bs (s.tok 3).2.1), .i (s.tok 3).2.2.1, .i (s.tok 3).2.2.2] ∧ σ' = σ.set ρ (rdA (s.take 3))) := p52 ρ s 3 σ hρ hg.wf.pos
theorem c67 (σ : Sg) (hρ : σ ρ = some (rdA s)) (hg : Gd s) : VCalls Tryz.prog 173 [.ref ρ 0] σ (fun x σ' => x = .tup [.agg [.i s.lit.1.1, .i s.lit.1.2.1, .s (bs s.lit.1.2.2)], .b s.lit.2.1] ∧ σ' = σ.set ρ (rdA s.lit.2.2)) := p67 ρ s σ hρ hg.wf
theorem c68 (σ : Sg) (hρ : σ ρ = some (rdA s)) (hg : Gd s) : VCalls Tryz.prog 174 [.ref ρ 0] σ (fun x σ' => x = .agg (exA s.column.1) ∧ σ' = σ.set ρ (rdA s.column.2)) := p68 ρ s σ hρ hg.wf
theorem c10 (σ : Sg) (hρ : σ ρ = some (rdA s)) (hg : Gd s) : VCalls Tryz.prog 35 [.ref ρ 0] σ (fun x σ' => x = .agg (exA (exp s).1) ∧ σ' = σ.set ρ (rdA (exp s).2)) := (qRD 11 0 (by decide) (by decide) (by decide)).ex ρ s σ hρ hg.wf hg.d
def coA (c : Co) : List AV := [.s (bs c.1), .i c.2.1, .b c.2.2.1, .b c.2.2.2]
theorem zero75 : ∃ z, Q0l Tryz.prog 132 = some (some z, 4, 32) ∧ ofValue z = .agg [.s (bs []), .i 0, .b false, .b false] := ⟨_, info132, by rfl⟩
theorem c43 (σ : Sg) (hρ : σ ρ = some (rdA s)) (hg : Gd s) : VCalls Tryz.prog 139 [.ref ρ 0] σ (fun x σ' => x = .agg (coA s.columnOf.1) ∧ σ' = σ.set ρ (rdA s.columnOf.2)) := by
  obtain ⟨z75, h75, hz75⟩ := zero75
  (refine vfun (fun _ => .no) Q0h Tryz.func139 (by kernel_rfl) ?_; simp only [Q0f, Tryz.f139, zw])
  (have zz := Bx.mk (j7 ui3 ui4 ui9 Tryz.underlying132 h75 hz75 ui75); (repeat' (first | exact zc | (with_reducible first | apply And.intro | apply Q0a | apply Q0b | refine Q0c (by decide +kernel) ?_ | intro _) | refine zaW zz.out ?_ | ((first | (with_reducible refine uc (c42 _ _ _ (by exact zK) (by exact zG)) ?_) | (with_reducible refine uc (c22 _ _ _ [[73, 78, 84], [84, 69, 88, 84]] _ _ (by with_unfolding_all rfl) (by exact zK) (by exact zG) (by decide)) ?_) | (with_reducible refine uc (c14 _ _ _ _ (by exact zK) (by exact zG)) ?_) | (with_reducible refine uc (c13 _ _ [78, 79, 84] _ (by exact zK) (by exact zG)) ?_) | (with_reducible refine uc (c13 _ _ [85, 78, 73, 81, 85, 69] _ (by exact zK) (by exact zG)) ?_) | (with_reducible refine uc (c41 _ _ _ [[78, 85, 76, 76]] _ _ (by with_unfolding_all rfl) (by exact zK) (by exact zG) (by decide)) ?_) | (refine Q0d (by exact zK) ?_) | (refine Q0e (by exact zK) ?_)); (try refine zs zz.out ?_)) | refine zo ?_ | omega | refine zt zz.out ?_ | fail)); try (all_goals clear zz))
  all_goals (try simp only [Rd.columnOf, Q9g, Q8l, coA, X5i, *, ↓reduceIte, if_true, if_false, not_true_eq_false, not_false_eq_true, Bool.false_eq_true, Bool.not_eq_true, Bool.true_eq_false, true_and, Int.reduceEq, Int.reduceNeg, Int.reduceLT, Int.reduceLE, Int.reduceAdd])
  all_goals (exact zE)
end Go.Proofs.YtjdapkelojdefaaGreatDoor
namespace Go.Proofs.YtjdapkelojdefaaGreatDoor
open Go Go.V Go.Lex Go.Parse
theorem manyL_yes {β : Type} {one : Rd → β × Rd} {sep : By} {k : Nat} {acc : List β} {s : Rd} (h : (one s).2.has sep = true) : Q3s one sep (k + 1) acc s = Q3s one sep k (acc ++ [(one s).1]) ((one s).2.pass [sep]) := by
  rw [Q3s, if_pos h]
theorem manyL_no {β : Type} {one : Rd → β × Rd} {sep : By} {k : Nat} {acc : List β} {s : Rd} (h : ¬ (one s).2.has sep = true) : Q3s one sep (k + 1) acc s = (acc ++ [(one s).1], (one s).2.pass [sep]) := by
  rw [Q3s, if_neg h]
theorem bad_has {s : Rd} {w : By} (h : s.c ≠ 0) : s.has w = false := by
  unfold Rd.has
  refine decide_eq_false (fun hk => h (X5c hk).1)
structure Ones {β : Type} (f : FuncId) (cap : List AV) (one : Rd → β × Rd) (ρ : Nat) (store : Nat → List β → Rd → Sg) (good : Nat → List β → Prop) : Prop where
  nice : Q6d one
  at0 : ∀ τ acc s, good τ acc → store τ acc s ρ = some (rdA s)
  set : ∀ τ acc s s', good τ acc → (store τ acc s).set ρ (rdA s') = store τ acc s'
  one : ∀ τ acc s, good τ acc → Gd s → acc.length ≤ 16 → VCalls Tryz.prog f cap (store τ acc s) (fun x σ' => x = .tup [] ∧ ∃ τ', good τ' (acc ++ [(one s).1]) ∧ σ' = store τ' (acc ++ [(one s).1]) (one s).2)
theorem c44 {β : Type} {f : FuncId} {cap : List AV} {one : Rd → β × Rd} {ρ : Nat} {store : Nat → List β → Rd → Sg} {good : Nat → List β → Prop} (H : Ones f cap one ρ store good) (most : Nat) (hm : most ≤ 16) (τ0 : Nat) (s : Rd) (hg0 : good τ0 []) (hs : Gd s) :
    VCalls Tryz.prog 140 [.ref ρ 0, .i most, .fn f cap] (store τ0 [] s) (fun x σ' => x = .tup [] ∧ ∃ τ', good τ' (many one most s).1 ∧ σ' = store τ' (many one most s).1 (many one most s).2) := by
  have h14 := fun τ acc s (hg : good τ acc) (hs : Gd s) => c14 ρ s 2 (store τ acc s) (H.at0 τ acc s hg) hs
  have h13 := fun τ acc s (hg : good τ acc) (hs : Gd s) => c13 ρ s [44] (store τ acc s) (H.at0 τ acc s hg) hs
  (refine vfun (fun _ => .no) Q0h Tryz.func140 (by kernel_rfl) ?_; simp only [Q0f, Tryz.f140, zw])
  repeat' (first | exact zc | (with_reducible first | apply And.intro | apply Q0a | apply Q0b | refine Q0c (by decide +kernel) ?_ | intro _) | refine zaW (j2 ui3 ui9) ?_ | refine zo ?_ | omega | refine zt (j2 ui3 ui9) ?_ | fail)
  refine VW.loop3 ([] : List β) s τ0 (fun acc s' τ => acc.length ≤ most ∧ Q3s one [44] (most - acc.length) acc s' = many one most s ∧ Gd s' ∧ good τ acc) (fun acc _ _ => [(0, .ref ρ 0), (1, .i most), (2, .fn f cap), (6, .i acc.length)]) (fun acc s' τ => store τ acc s') (fun acc _ _ => most - acc.length) ⟨by simp, by simp, hs, hg0⟩ (.refl _) ?_ ?_
  · simp only [vO, vQ, ↓vP, vE, vS, vB, vL, vF, vM, vN, Q0g, Nat.reduceEqDiff, Nat.reduceAdd, Nat.reduceLeDiff, ne_eq, not_false_eq_true, Nat.reduceMul, Nat.reduceSub, Int.toNat_zero, Int.reduceToNat, vT]
    all_goals rfl
  rintro acc s' τ ⟨h1, h2, h3, h4⟩
  have hN := H.nice
  by_cases hk : acc.length = most
  · have k14 := h14 τ acc s' h4 h3
    rw [H.set _ _ _ _ h4] at k14
    have g1 := Y0t (e := 2) h3
    have k1 := H.one τ acc (s'.fail 2) h4 g1 (by omega)
    have g2 : Gd (one (s'.fail 2)).2 := X4j hN g1
    have k13 := fun τ' hg' => h13 τ' (acc ++ [(one (s'.fail 2)).1]) (one (s'.fail 2)).2 hg' g2
    have hb : (one (s'.fail 2)).2.has [44] = false := by
      refine bad_has ?_
      have := fail_c (s := s') (e := 2) (by decide)
      rw [((hN _ g1.wf).c this).1]
      exact this
    simp only [hb] at k13
    have hr : many one most s = (acc ++ [(one (s'.fail 2)).1], (one (s'.fail 2)).2.pass [[44]]) := by
      rw [← h2, hk, Nat.sub_self]; rfl
    rw [hr]
    generalize acc ++ [(one (s'.fail 2)).1] = acc2 at *
    generalize (one (s'.fail 2)).2 = s2 at *
    generalize s2.pass [[44]] = s3 at *
    (have zz := Bx.mk (j3 ui3 ui9 hk); (repeat' (first | exact zc | (with_reducible first | apply And.intro | apply Q0a | apply Q0b | refine Q0c (by decide +kernel) ?_ | intro _) | refine zaW zz.out ?_ | ((first | ((with_reducible refine zU k14 ?_); rintro _ S ⟨rfl, rfl⟩) | ((with_reducible refine zU k1 ?_); rintro _ S ⟨rfl, τ', hg', rfl⟩) | ((with_reducible refine zU (k13 _ (by assumption)) ?_); rintro _ S ⟨rfl, rfl⟩)); (try refine zs zz.out ?_)) | refine zo ?_ | omega | refine zt zz.out ?_ | fail)); try (all_goals clear zz))
    rw [H.set _ _ _ _ hg']
    exact ⟨_, .refl _, τ', hg', rfl⟩
  · have k1 := H.one τ acc s' h4 h3 (by omega)
    have g2 : Gd (one s').2 := X4j hN h3
    have k13 := fun τ' hg' => h13 τ' (acc ++ [(one s').1]) (one s').2 hg' g2
    obtain ⟨k, hk2⟩ : ∃ k, most - acc.length = k + 1 := ⟨most - acc.length - 1, by omega⟩
    rw [hk2] at h2
    have hl : (acc ++ [(one s').1]).length = acc.length + 1 := by simp
    by_cases hb : (one s').2.has [44] = true
    · rw [manyL_yes hb] at h2
      simp only [hb] at k13
      generalize acc ++ [(one s').1] = acc2 at *
      generalize (one s').2 = s2 at *
      (have zz := Bx.mk (j3 ui3 ui9 hk); (repeat' (first | exact zc | (with_reducible first | apply And.intro | apply Q0a | apply Q0b | refine Q0c (by decide +kernel) ?_ | intro _) | refine zaW zz.out ?_ | ((first | ((with_reducible refine zU k1 ?_); rintro _ S ⟨rfl, τ', hg', rfl⟩) | ((with_reducible refine zU (k13 _ (by assumption)) ?_); rintro _ S ⟨rfl, rfl⟩)); (try refine zs zz.out ?_)) | refine zo ?_ | omega | refine zt zz.out ?_ | fail)); try (all_goals clear zz))
      rw [H.set _ _ _ _ hg']
      exact ⟨acc2, s2.pass [[44]], τ', ⟨⟨by omega, by rw [show most - acc2.length = k by omega]; exact h2, Q5y g2, hg'⟩, by omega⟩, .refl _, by rw [hl]; rfl⟩
    · rw [manyL_no hb] at h2
      rw [← h2]
      simp only [hb] at k13
      generalize acc ++ [(one s').1] = acc2 at *
      generalize (one s').2 = s2 at *
      (have zz := Bx.mk (j3 ui3 ui9 hk); (repeat' (first | exact zc | (with_reducible first | apply And.intro | apply Q0a | apply Q0b | refine Q0c (by decide +kernel) ?_ | intro _) | refine zaW zz.out ?_ | ((first | ((with_reducible refine zU k1 ?_); rintro _ S ⟨rfl, τ', hg', rfl⟩) | ((with_reducible refine zU (k13 _ (by assumption)) ?_); rintro _ S ⟨rfl, rfl⟩)); (try refine zs zz.out ?_)) | refine zo ?_ | omega | refine zt zz.out ?_ | fail)); try (all_goals clear zz))
      rw [H.set _ _ _ _ hg']
      exact ⟨_, .refl _, τ', hg', rfl⟩
def valA (v : Vl) : List AV := [.i v.1, .i v.2.1, .s (bs v.2.2)]
def X0m (l : List Vl) : List (List AV) := l.map valA
def grow (τ sz n : Nat) : Own := if n = 0 then .nil else .tok τ sz
def tset (σ : Sg) (τ n : Nat) (t : TypeId) : Sg := if n = 0 then σ else σ.set τ (.tok (some t))
theorem grow1 {τ sz n : Nat} : grow τ sz (n + 1) = .tok τ sz := by unfold grow; rw [if_neg (by omega)]
theorem tset1 {σ : Sg} {τ n : Nat} {t : TypeId} : tset σ τ (n + 1) t = σ.set τ (.tok (some t)) := by unfold tset; rw [if_neg (by omega)]
theorem many_len {β : Type} {one : Rd → β × Rd} {sep : By} : ∀ (k : Nat) (acc : List β) (s : Rd), acc.length < (Q3s one sep k acc s).1.length ∧ (Q3s one sep k acc s).1.length ≤ acc.length + k + 1
  | 0, acc, s => by simp [Q3s]
  | k + 1, acc, s => by
    unfold Q3s
    split
    · have := many_len (one := one) (sep := sep) k (acc ++ [(one s).1]) ((one s).2.pass [sep])
      simp only [List.length_append, zy, List.length_nil] at this
      omega
    · simp only [List.length_append, zy, List.length_nil]
      omega
theorem many_ne {β : Type} {one : Rd → β × Rd} {sep : By} {k : Nat} {s : Rd} : (Q3s one sep k [] s).1 ≠ [] := fun h => by
  have := (many_len (one := one) (sep := sep) k [] s).1
  rw [h] at this
  cases this
structure Gr (β : Type) where
  C : Own → List (List AV) → Ob
  A : β → List AV
  sz : Nat
  t : TypeId
variable {β : Type}
def stG (G : Gr β) (σ : Sg) (ρ ω : Nat) (τ : Nat) (acc : List β) (s : Rd) : Sg := tset ((σ.set ω (G.C (grow τ G.sz acc.length) (acc.map G.A))).set ρ (rdA s)) τ acc.length G.t
def okG (σ : Sg) (ρ ω : Nat) (τ : Nat) (acc : List β) : Prop := acc ≠ [] → σ τ = none ∧ τ ≠ ρ ∧ τ ≠ ω
theorem stG_nil {G : Gr β} {σ : Sg} {ρ ω τ : Nat} {s : Rd} : stG G σ ρ ω τ [] s = (σ.set ω (G.C .nil [])).set ρ (rdA s) := rfl
theorem X0i {G : Gr β} {σ : Sg} {ρ ω τ : Nat} {acc : List β} {s : Rd} (h : acc ≠ []) : stG G σ ρ ω τ acc s = ((σ.set ω (G.C (.tok τ G.sz) (acc.map G.A))).set ρ (rdA s)).set τ (.tok (some G.t)) := by
  cases acc with
  | nil => exact absurd rfl h
  | cons v r =>
    unfold stG
    rw [zy, grow1, tset1]
theorem stG_at {G : Gr β} {σ : Sg} {ρ ω τ : Nat} {acc : List β} {s : Rd} (h : okG σ ρ ω τ acc) : stG G σ ρ ω τ acc s ρ = some (rdA s) := by
  cases acc with
  | nil => exact zn _ _ _
  | cons v r =>
    rw [X0i (by simp), Sg.set_other _ _ (h (by simp)).2.1.symm, zn]
theorem stG_set {G : Gr β} {σ : Sg} {ρ ω τ : Nat} {acc : List β} {s s' : Rd} (h : okG σ ρ ω τ acc) : (stG G σ ρ ω τ acc s).set ρ (rdA s') = stG G σ ρ ω τ acc s' := by
  cases acc with
  | nil => exact Sg.set_set _ _ _ _
  | cons v r =>
    have h1 := (h (by simp)).2.1
    rw [X0i (by simp), X0i (by simp)]
    funext y
    simp only [Sg.set_apply]
    grind
theorem ones {G : Gr β} {f : FuncId} {cap : List AV} {one : Rd → β × Rd} {ρ ω : Nat} {σ : Sg} (hN : Q6d one)
    (h0 : ∀ s, Gd s → VCalls Tryz.prog f cap ((σ.set ω (G.C .nil [])).set ρ (rdA s)) (fun x σ' => x = .tup [] ∧ ∃ τ', (σ τ' = none ∧ τ' ≠ ρ ∧ τ' ≠ ω) ∧ σ' = ((σ.set ω (G.C (.tok τ' G.sz) [G.A (one s).1])).set ρ (rdA (one s).2)).set τ' (.tok (some G.t))))
    (h1 : ∀ τ V s, σ τ = none → τ ≠ ρ → τ ≠ ω → Gd s → V.length ≤ 16 → Q1t V G.sz = True → VCalls Tryz.prog f cap (((σ.set ω (G.C (.tok τ G.sz) V)).set ρ (rdA s)).set τ (.tok (some G.t))) (fun x σ' => x = .tup [] ∧ ∃ τ', (σ τ' = none ∧ τ' ≠ ρ ∧ τ' ≠ ω) ∧ σ' = ((σ.set ω (G.C (.tok τ' G.sz) (V ++ [G.A (one s).1]))).set ρ (rdA (one s).2)).set τ' (.tok (some G.t))))
    (hA : ∀ v, (G.A v).length = G.sz) : Ones f cap one ρ (stG G σ ρ ω) (okG σ ρ ω) where
  nice := hN
  at0 := fun τ acc s h => stG_at h
  set := fun τ acc s s' h => stG_set h
  one := fun τ acc s h hs hl => by
    cases acc with
    | nil =>
      refine (h0 s hs).mono (fun x σ' hx => ?_)
      obtain ⟨rfl, τ', h2, rfl⟩ := hx
      exact ⟨rfl, τ', fun _ => h2, by rw [X0i (by simp)]; rfl⟩
    | cons v r =>
      obtain ⟨g1, g2, g3⟩ := h (by simp)
      rw [X0i (by simp)]
      refine (h1 τ ((v :: r).map G.A) s g1 g2 g3 hs (by rw [List.length_map]; exact hl) (eq_true (fun e he => by
        obtain ⟨w, _, rfl⟩ := List.mem_map.1 he
        exact hA w))).mono (fun x σ' hx => ?_)
      obtain ⟨rfl, τ', h2, rfl⟩ := hx
      exact ⟨rfl, τ', fun _ => h2, by rw [X0i (by simp), List.map_append]; rfl⟩
theorem c44G {G : Gr β} {f : FuncId} {cap : List AV} {one : Rd → β × Rd} {ρ ω : Nat} {σ : Sg} (H : Ones f cap one ρ (stG G σ ρ ω) (okG σ ρ ω)) (most : Nat) (hm : most ≤ 16) (s : Rd) (hs : Gd s) :
    VCalls Tryz.prog 140 [.ref ρ 0, .i most, .fn f cap] ((σ.set ω (G.C .nil [])).set ρ (rdA s)) (fun x σ' => x = .tup [] ∧ ∃ τ', (σ τ' = none ∧ τ' ≠ ρ ∧ τ' ≠ ω) ∧ σ' = ((σ.set ω (G.C (.tok τ' G.sz) ((many one most s).1.map G.A))).set ρ (rdA (many one most s).2)).set τ' (.tok (some G.t))) := by
  refine (c44 H most hm 0 s (fun h => absurd rfl h) hs).mono (fun x σ' hx => ?_)
  obtain ⟨rfl, τ', h2, rfl⟩ := hx
  exact ⟨rfl, τ', h2 many_ne, by rw [X0i many_ne]⟩
theorem lose_sl {P : Program} {f : FuncId} {args : List AV} {es : List (List AV)} {σ S : Sg} (h : VCalls P f args σ (fun x σ' => ∃ o, x = .sl o es ∧ S.sub σ')) : VCalls P f args σ (fun x σ' => x = .sl .any es ∧ σ' = S) :=
  h.lose fun x σ' hx => by
    obtain ⟨o, rfl, hs⟩ := hx
    exact ⟨_, S, AVw.any _ _, hs, rfl, rfl⟩
theorem X1h (c : Prop) [Decidable c] (e : TypeId) (s : Nat) (es : List (List AV)) (σ : Sg) (R : AV → Sg → Prop) : X2x (if c then .ro else .no) e s es σ R = R (.sl .full es) σ := by split <;> rfl
def grT : Gr Vl := ⟨fun o V => .cells 107 [.sl o V], valA, 3, 23⟩
theorem c66 (ρ ω : Nat) (σ : Sg) (hω : ω ≠ ρ) : Ones 172 [.ro [.ref ρ 0], .ref ω 0] litV ρ (stG grT σ ρ ω) (okG σ ρ ω) := by
  obtain ⟨z24, h24, hz24⟩ := zero24
  have hρω : ρ ≠ ω := hω.symm
  refine ones X7j ?_ ?_ (fun v => rfl)
  · intro s hs
    simp only [grT]
    (refine vfun (fun _ => .no) Q0h Tryz.func172 (by kernel_rfl) ?_; simp only [Q0f, Tryz.f172, zw])
    (have zz := Bx.mk (j8 ui3 ui4 ui9 Tryz.underlying23 h24 hz24 ui78 Q1e); (repeat' (first | exact zc | (with_reducible first | apply And.intro | apply Q0a | apply Q0b | refine Q0c (by decide +kernel) ?_ | intro _) | refine zaW zz.out ?_ | ((first | (with_reducible refine uc (c67 _ _ _ (by exact zK) (by exact zG)) ?_) | (with_reducible refine uc (c14 _ _ _ _ (by exact zK) (by exact zG)) ?_) | (refine Q0d (by exact zK) ?_) | (refine Q0e (by exact zK) ?_)); (try refine zs zz.out ?_)) | refine zo ?_ | omega | refine zt zz.out ?_ | fail)); try (all_goals clear zz))
    all_goals (refine ⟨_, ?_, _, ⟨‹σ _ = none›, by assumption, by assumption⟩, rfl⟩; simp only [valA, litV, *, ↓reduceIte, Bool.false_eq_true]; (exact zu))
  · intro τ V s g1 g2 g3 hs hl ha
    simp only [grT] at ha ⊢
    (refine vfun (fun _ => .no) Q0h Tryz.func172 (by kernel_rfl) ?_; simp only [Q0f, Tryz.f172, zw])
    (have zz := Bx.mk (j9 ui3 ui4 ui9 Tryz.underlying23 h24 hz24 ui78 Q1e ha); (repeat' (first | exact zc | (with_reducible first | apply And.intro | apply Q0a | apply Q0b | refine Q0c (by decide +kernel) ?_ | intro _) | refine zaW zz.out ?_ | ((first | (with_reducible refine uc (c67 _ _ _ (by exact zK) (by exact zG)) ?_) | (with_reducible refine uc (c14 _ _ _ _ (by exact zK) (by exact zG)) ?_) | (refine Q0d (by exact zK) ?_) | (refine Q0e (by exact zK) ?_)); (try refine zs zz.out ?_)) | refine zo ?_ | omega | refine zt zz.out ?_ | fail)); try (all_goals clear zz))
    all_goals (refine ⟨_, ?_, _, ⟨‹σ _ = none›, by assumption, by assumption⟩, rfl⟩; simp only [valA, litV, *, ↓reduceIte, Bool.false_eq_true]; (exact zu))
theorem c46 (ρ : Nat) (s : Rd) (σ : Sg) (hρ : σ ρ = some (rdA s)) (hg : Gd s) : VCalls Tryz.prog 142 [.ref ρ 0] σ (fun x σ' => x = .sl .any (X0m (Q6t s).1) ∧ σ' = σ.set ρ (rdA (Q6t s).2)) := by
  refine lose_sl ?_
  have g1 : Gd (s.must [[40]]) := Q3q hg
  have h44 : ∀ ω, σ ω = none → VCalls Tryz.prog 140 [.ref ρ 0, .i 8, .fn 172 [.ro [.ref ρ 0], .ref ω 0]] ((σ.set ω (.cells 107 [.sl .nil []])).set ρ (rdA (s.must [[40]]))) (fun x σ' => x = .tup [] ∧ ∃ τ', (σ τ' = none ∧ τ' ≠ ρ ∧ τ' ≠ ω) ∧ σ' = ((σ.set ω (.cells 107 [.sl (.tok τ' 3) (X0m (Q6t s).1)])).set ρ (rdA (many litV 8 (s.must [[40]])).2)).set τ' (.tok (some 23))) := fun ω hω => c44G (c66 ρ ω σ (Go.Cert.ne_of2a hω hρ)) 8 (by decide) _ g1
  have g2 : Gd (many litV 8 (s.must [[40]])).2 := Y0u X7j g1
  have e2 : (Q6t s).2 = (many litV 8 (s.must [[40]])).2.must [[41]] := rfl
  rw [e2]
  generalize (many litV 8 (s.must [[40]])).2 = s2 at *
  generalize X0m (Q6t s).1 = V at *
  (refine vfun (fun k => if k = 1 then .ro else .no) Q0h Tryz.func142 (by kernel_rfl) ?_; simp only [Q0f, Tryz.f142, zw])
  (have zz := Bx.mk (j7 ui3 ui4 ui9 ui78 Q1e ui75 @X1h); (repeat' (first | exact zc | (with_reducible first | apply And.intro | apply Q0a | apply Q0b | refine Q0c (by decide +kernel) ?_ | intro _) | refine zaW zz.out ?_ | ((first | (with_reducible refine uc (c41 _ _ _ [[40]] _ _ (by with_unfolding_all rfl) (by exact zK) (by exact zG) (by decide)) ?_) | (with_reducible refine uc (c41 _ _ _ [[41]] _ _ (by with_unfolding_all rfl) (by exact zK) (by exact zG) (by decide)) ?_) | ((with_reducible refine zU (h44 _ (by assumption)) ?_); rintro _ S ⟨rfl, τ', hτ1, hτ2, hτ3, rfl⟩) | (refine Q0d (by exact zK) ?_) | (refine Q0e (by exact zK) ?_)); (try refine zs zz.out ?_)) | refine zo ?_ | omega | refine zt zz.out ?_ | fail)); try (all_goals clear zz))
  all_goals (refine ⟨_, .refl _, _, rfl, ?_⟩; (first | exact Sg.sub.refl _ | ((repeat (first | exact Sg.sub.refl _ | refine Sg.sub.set_both ?_ | refine Sg.sub.set_fresh ?_ (by first | assumption | exact Sg.set_none (by assumption) (by first | assumption | (apply Go.Cert.ne_of2a; assumption; assumption))))); done) | (intro y p hy; simp only [Sg.set_apply, Sg.del_apply] at hy ⊢; grind)))
end Go.Proofs.YtjdapkelojdefaaGreatDoor
namespace Go.Proofs.YtjdapkelojdefaaGreatDoor
open Go Go.V Go.Lex Go.Parse
def optA : List Ex → AV
  | [] => .sl .nil []
  | e :: r => .sl .any (exsA (e :: r))
def optK (o : Own) : List Ex → AV
  | [] => .sl .nil []
  | e :: r => .sl o (exsA (e :: r))
def rowA (r : List Vl) : List AV := [.sl .any (X0m r)]
def setA (x : Se) : List AV := .s (bs x.1) :: exA x.2
def Q2z (x : It) : List AV := [.i x.1, .sl .any (exsA x.2)]
def stmC (oc or os oi oo : Own) (x : Stm) : List AV := [.i x.k, .s (bs x.t), .sl oc (x.cols.map coA), .s (bs x.pk), .sl or (x.rows.map rowA), .sl os (x.sets.map setA), .sl oi (x.items.map Q2z), .s (bs x.join), optK oo x.on, optA x.wh, optA x.gr, optA x.or, .b x.desc, .i x.lim]
def stmK (oc or os oi oo : Own) (x : Stm) : Ob := .cells 42 (stmC oc or os oi oo x)
def stmZ (k : Int) : Ob := .cells 42 [.i k, .s (bs []), .sl .nil [], .s (bs []), .sl .nil [], .sl .nil [], .sl .nil [], .s (bs []), .sl .nil [], .sl .nil [], .sl .nil [], .sl .nil [], .b false, .i (-1)]
def Kind (f : FuncId) (F : Rd → Stm × Rd) (k : Int) : Prop := ∀ (ρ γ : Nat) (s : Rd) (σ : Sg), σ ρ = some (rdA s) → σ γ = some (stmZ k) → Gd s →
  VCalls Tryz.prog f [.ref ρ 0, .ref γ 0] σ (fun x σ' => x = .tup [] ∧ ∃ oc or os oi oo, σ' = (σ.set γ (stmK oc or os oi oo (F s).1)).set ρ (rdA (F s).2))
theorem Q9j {f : FuncId} {args : List AV} {x : Stm} {s' : Rd} {ρ γ : Nat} {σ : Sg} (h : VCalls Tryz.prog f args σ (fun y σ' => y = .tup [] ∧ ∃ oc or os oi oo, ((σ.set γ (stmK oc or os oi oo x)).set ρ (rdA s')).sub σ')) :
    VCalls Tryz.prog f args σ (fun y σ' => y = .tup [] ∧ ∃ oc or os oi oo, σ' = (σ.set γ (stmK oc or os oi oo x)).set ρ (rdA s')) :=
  h.lose fun y σ' hx => by
    obtain ⟨rfl, oc, or, os, oi, oo, hs⟩ := hx
    exact ⟨_, _, AVw.refl _, hs, rfl, oc, or, os, oi, oo, rfl⟩
theorem X9f {ρ γ : Nat} {s : Rd} {k : Int} {σ : Sg} (h : σ ρ = some (rdA s)) (h2 : σ γ = some (stmZ k)) : γ ≠ ρ := fun e => by
  rw [e, h] at h2
  cases h2
def grR (t : By) : Gr (List Vl) := ⟨fun o V => .cells 42 [.i 3, .s (bs t), .sl .nil [], .s (bs []), .sl o V, .sl .nil [], .sl .nil [], .s (bs []), .sl .nil [], .sl .nil [], .sl .nil [], .sl .nil [], .b false, .i (-1)], rowA, 1, 107⟩
theorem c45 (ρ γ : Nat) (t : By) (σ : Sg) (hω : γ ≠ ρ) : Ones 141 [.ro [.ref γ 0], .ro [.ref ρ 0]] Q6t ρ (stG (grR t) σ ρ γ) (okG σ ρ γ) := by
  have hρω : ρ ≠ γ := hω.symm
  refine ones X9d ?_ ?_ (fun v => rfl)
  · intro s hs
    simp only [grR]
    (refine vfun (fun _ => .no) Q0h Tryz.func141 (by kernel_rfl) ?_; simp only [Q0f, Tryz.f141, zw])
    (have zz := Bx.mk (j8 ui3 ui4 ui9 ui78 ui38 Q1e ui42 Q6k); (repeat' (first | exact zc | (with_reducible first | apply And.intro | apply Q0a | apply Q0b | refine Q0c (by decide +kernel) ?_ | intro _) | ((with_reducible refine .dm (fun β => β = γ) [(0, false), (1, false), (2, false), (3, false), (4, false), (5, false), (6, true), (7, false), (8, true), (9, true), (10, false), (11, true)] (by decide) (by decide +kernel) ?_); (refine zs zz.out ?_)) | refine zaW zz.out ?_ | ((first | (refine Q0j (by intro β h; first | (rcases h with h | h <;> subst h <;> (simp (disch := first | assumption | (apply zQ; assumption; assumption) | (apply zR; assumption; assumption; (intro e; cases e; done)) | omega) only [zn, zp, zq, zr, zv])) | (subst h; (simp (disch := first | assumption | (apply zQ; assumption; assumption) | (apply zR; assumption; assumption; (intro e; cases e; done)) | omega) only [zn, zp, zq, zr, zv]))) ?_) | (with_reducible refine uc (c46 _ _ _ (by exact zK) (by exact zG)) ?_) | (refine Q0d (o' := some (.cells 42 [.i 3, .s (bs t), .sl .nil [], .s (bs []), .sl .nil [], .sl .nil [], .sl .nil [], .s (bs []), .sl .nil [], .sl .nil [], .sl .nil [], .sl .nil [], .b false, .i (-1)])) (Q8f (by assumption) (by exact zK)) ?_) | (refine Q0d (by exact zK) ?_) | (refine Q0e (by exact zK) ?_)); (try refine zs zz.out ?_)) | refine zo ?_ | omega | refine zt zz.out ?_ | fail)); try (all_goals clear zz))
    all_goals (refine ⟨_, ?_, _, ⟨‹σ _ = none›, by assumption, by assumption⟩, rfl⟩; simp only [rowA]; (exact zu))
  · intro τ V s g1 g2 g3 hs hl ha
    simp only [grR] at ha ⊢
    (refine vfun (fun _ => .no) Q0h Tryz.func141 (by kernel_rfl) ?_; simp only [Q0f, Tryz.f141, zw])
    (have zz := Bx.mk (j9 ui3 ui4 ui9 ui78 ui38 Q1e ui42 Q6k ha); (repeat' (first | exact zc | (with_reducible first | apply And.intro | apply Q0a | apply Q0b | refine Q0c (by decide +kernel) ?_ | intro _) | ((with_reducible refine .dm (fun β => β = γ) [(0, false), (1, false), (2, false), (3, false), (4, false), (5, false), (6, true), (7, false), (8, true), (9, true), (10, false), (11, true)] (by decide) (by decide +kernel) ?_); (refine zs zz.out ?_)) | refine zaW zz.out ?_ | ((first | (refine Q0j (by intro β h; first | (rcases h with h | h <;> subst h <;> (simp (disch := first | assumption | (apply zQ; assumption; assumption) | (apply zR; assumption; assumption; (intro e; cases e; done)) | omega) only [zn, zp, zq, zr, zv])) | (subst h; (simp (disch := first | assumption | (apply zQ; assumption; assumption) | (apply zR; assumption; assumption; (intro e; cases e; done)) | omega) only [zn, zp, zq, zr, zv]))) ?_) | (with_reducible refine uc (c46 _ _ _ (by exact zK) (by exact zG)) ?_) | (refine Q0d (o' := some (.cells 42 [.i 3, .s (bs t), .sl .nil [], .s (bs []), .sl (.tok τ 1) V, .sl .nil [], .sl .nil [], .s (bs []), .sl .nil [], .sl .nil [], .sl .nil [], .sl .nil [], .b false, .i (-1)])) (Q8f (by assumption) (by exact zK)) ?_) | (refine Q0d (by exact zK) ?_) | (refine Q0e (by exact zK) ?_)); (try refine zs zz.out ?_)) | refine zo ?_ | omega | refine zt zz.out ?_ | fail)); try (all_goals clear zz))
    all_goals (refine ⟨_, ?_, _, ⟨‹σ _ = none›, by assumption, by assumption⟩, rfl⟩; simp only [rowA]; (exact zu))
theorem c25 : Kind 90 Q8y 3 := by
  intro ρ γ s σ hρ hγ hg
  have hne := X9f hρ hγ
  have hne' := hne.symm
  refine Q9j ?_
  have g1 : Gd (s.must [[73, 78, 84, 79]]) := Q3q hg
  have g2 : Gd (((s.must [[73, 78, 84, 79]]).take 1).must [[86, 65, 76, 85, 69, 83]]) := Q3q (Q6q (by decide) g1)
  have h44 : ∀ σ, VCalls Tryz.prog 140 [.ref ρ 0, .i 16, .fn 141 [.ro [.ref γ 0], .ro [.ref ρ 0]]] _ _ := fun σ => c44G (c45 ρ γ ((s.must [[73, 78, 84, 79]]).tok 1).2.1 σ hne) 16 (by decide) _ g2
  have e2 : Q8y s = ({ stm0 with k := 3, t := ((s.must [[73, 78, 84, 79]]).tok 1).2.1, rows := (many Q6t 16 (((s.must [[73, 78, 84, 79]]).take 1).must [[86, 65, 76, 85, 69, 83]])).1 }, (many Q6t 16 (((s.must [[73, 78, 84, 79]]).take 1).must [[86, 65, 76, 85, 69, 83]])).2) := rfl
  rw [e2]
  simp only [grR, stmK, stmC, List.map_nil, optA, optK] at h44 ⊢
  unfold stmZ at hγ
  generalize (many Q6t 16 (((s.must [[73, 78, 84, 79]]).take 1).must [[86, 65, 76, 85, 69, 83]])).2 = s2 at *
  generalize ((many Q6t 16 (((s.must [[73, 78, 84, 79]]).take 1).must [[86, 65, 76, 85, 69, 83]])).1).map rowA = V at *
  (refine vfun (fun k => if k = 2 ∨ k = 3 then .ro else .no) Q0h Tryz.func90 (by kernel_rfl) ?_; simp only [Q0f, Tryz.f90, zw])
  (have zz := Bx.mk (j5 ui3 ui4 ui9 ui78 (j9 ui42 Q6k ui75 @X1h true_or or_true or_self or_false false_or)); (repeat' (first | exact zc | (with_reducible first | apply And.intro | apply Q0a | apply Q0b | refine Q0c (by decide +kernel) ?_ | intro _) | ((with_reducible refine .dms (fun _ => False) [(0, false), (1, false), (2, true), (3, true), (4, false), (5, true)] (by decide) (by decide +kernel) ?_); (refine zs zz.out ?_)) | refine zaW zz.out ?_ | ((first | with_reducible refine Q0j (fun _ h => h.elim) ?_ | (with_reducible refine uc (c41 _ _ _ [[73, 78, 84, 79]] _ _ (by with_unfolding_all rfl) (by exact zK) (by exact zG) (by decide)) ?_) | (with_reducible refine uc (c41 _ _ _ [[86, 65, 76, 85, 69, 83]] _ _ (by with_unfolding_all rfl) (by exact zK) (by exact zG) (by decide)) ?_) | (with_reducible refine uc (c42 _ _ _ (by exact zK) (by exact zG)) ?_) | ((with_reducible refine zU (h44 _) ?_); rintro _ S ⟨rfl, τ', ⟨hτ1, hτ2, hτ3⟩, rfl⟩) | (refine Q0d (by exact zK) ?_) | (refine Q0e (by exact zK) ?_)); (try refine zs zz.out ?_)) | refine zo ?_ | omega | refine zt zz.out ?_ | fail)); try (all_goals clear zz))
  rw [Sg.set_other _ _ hτ2] at hτ1
  exact ⟨_, .refl _, .nil, .tok τ' 1, .nil, .nil, .nil, (by intro y p hy; simp only [Sg.set_apply, Sg.del_apply] at hy ⊢; grind)⟩
def grS (t : By) : Gr Se := ⟨fun o V => .cells 42 [.i 4, .s (bs t), .sl .nil [], .s (bs []), .sl .nil [], .sl o V, .sl .nil [], .s (bs []), .sl .nil [], .sl .nil [], .sl .nil [], .sl .nil [], .b false, .i (-1)], setA, 9, 68⟩
theorem zero81 : ∃ z, Q0l Tryz.prog 68 = some (some z, 9, 120) ∧ ofValue z = .agg [.s (bs []), .i 0, .i 0, .s (bs []), .s (bs []), .i 0, .i 0, .s (bs []), .sl .nil []] := ⟨_, info68, by rfl⟩
theorem c47 (ρ γ : Nat) (t : By) (σ : Sg) (hω : γ ≠ ρ) : Ones 143 [.ro [.ref ρ 0], .ro [.ref γ 0]] setL ρ (stG (grS t) σ ρ γ) (okG σ ρ γ) := by
  obtain ⟨z81, h81, hz81⟩ := zero81
  obtain ⟨z27, h27, hz27⟩ := Q5u
  have hρω : ρ ≠ γ := hω.symm
  refine ones Y0s ?_ ?_ (fun v => by show (setA v).length = 9; unfold setA; rw [zy, Q0r])
  · intro s hs
    have g : Gd ((s.take 1).must [[61]]) := Q3q (Q6q (by decide) hs)
    have h10 := fun S hS => c10 ρ ((s.take 1).must [[61]]) S hS g
    have he : setL s = (((s.tok 1).2.1, (exp ((s.take 1).must [[61]])).1), (exp ((s.take 1).must [[61]])).2) := rfl
    rw [he]
    generalize (exp ((s.take 1).must [[61]])).2 = s2 at *
    generalize (exp ((s.take 1).must [[61]])).1 = e at *
    have hel := Q0r e
    have ho := Q1f e
    have ht := Q0q e
    have hd := Q0x e
    generalize hE : exA e = E at *
    simp only [grS]
    (refine vfun (fun _ => .no) Q0h Tryz.func143 (by kernel_rfl) ?_; simp only [Q0f, Tryz.f143, zw])
    (have zz := Bx.mk (j2 ui3 (j9 ui4 ui9 ui78 ui39 Tryz.underlying68 h81 hz81 Z26 (j9 h27 hz27 ui42 Q6k ui75 hel ho ht hd))); (repeat' (first | exact zc | (with_reducible first | apply And.intro | apply Q0a | apply Q0b | refine Q0c (by decide +kernel) ?_ | intro _) | ((with_reducible refine .dm (fun β => β = γ) [(0, false), (1, false), (2, false), (3, false), (4, false), (5, false), (6, false), (7, true), (8, false), (9, false), (10, true), (11, true), (12, false), (13, true)] (by decide) (by decide +kernel) ?_); (refine zs zz.out ?_)) | refine zaW zz.out ?_ | ((first | (refine Q0j (by intro β h; first | (rcases h with h | h <;> subst h <;> (simp (disch := first | assumption | (apply zQ; assumption; assumption) | (apply zR; assumption; assumption; (intro e; cases e; done)) | omega) only [zn, zp, zq, zr, zv])) | (subst h; (simp (disch := first | assumption | (apply zQ; assumption; assumption) | (apply zR; assumption; assumption; (intro e; cases e; done)) | omega) only [zn, zp, zq, zr, zv]))) ?_) | (with_reducible refine uc (c41 _ _ _ [[61]] _ _ (by with_unfolding_all rfl) (by exact zK) (by exact zG) (by decide)) ?_) | (with_reducible refine uc (c42 _ _ _ (by exact zK) (by exact zG)) ?_) | (with_reducible refine uc (h10 _ (by exact zK)) ?_) | (refine Q0d (o' := some (.cells 42 [.i 4, .s (bs t), .sl .nil [], .s (bs []), .sl .nil [], .sl .nil [], .sl .nil [], .s (bs []), .sl .nil [], .sl .nil [], .sl .nil [], .sl .nil [], .b false, .i (-1)])) (Q8f (by assumption) (by exact zK)) ?_) | (refine Q0d (by exact zK) ?_) | (refine Q0e (by exact zK) ?_)); (try refine zs zz.out ?_)) | refine zo ?_ | omega | refine zt zz.out ?_ | fail)); try (all_goals clear zz))
    all_goals (refine ⟨_, ?_, _, ⟨‹σ _ = none›, by assumption, by assumption⟩, rfl⟩; simp only [setA, hE]; (exact zu))
  · intro τ V s g1 g2 g3 hs hl ha
    have g : Gd ((s.take 1).must [[61]]) := Q3q (Q6q (by decide) hs)
    have h10 := fun S hS => c10 ρ ((s.take 1).must [[61]]) S hS g
    have he : setL s = (((s.tok 1).2.1, (exp ((s.take 1).must [[61]])).1), (exp ((s.take 1).must [[61]])).2) := rfl
    rw [he]
    generalize (exp ((s.take 1).must [[61]])).2 = s2 at *
    generalize (exp ((s.take 1).must [[61]])).1 = e at *
    have hel := Q0r e
    have ho := Q1f e
    have ht := Q0q e
    have hd := Q0x e
    generalize hE : exA e = E at *
    simp only [grS] at ha ⊢
    (refine vfun (fun _ => .no) Q0h Tryz.func143 (by kernel_rfl) ?_; simp only [Q0f, Tryz.f143, zw])
    (have zz := Bx.mk (j3 ui3 ui4 (j9 ui9 ui78 ui39 Tryz.underlying68 h81 hz81 Z26 h27 (j9 hz27 ui42 Q6k ui75 hel ho ht hd ha))); (repeat' (first | exact zc | (with_reducible first | apply And.intro | apply Q0a | apply Q0b | refine Q0c (by decide +kernel) ?_ | intro _) | ((with_reducible refine .dm (fun β => β = γ) [(0, false), (1, false), (2, false), (3, false), (4, false), (5, false), (6, false), (7, true), (8, false), (9, false), (10, true), (11, true), (12, false), (13, true)] (by decide) (by decide +kernel) ?_); (refine zs zz.out ?_)) | refine zaW zz.out ?_ | ((first | (refine Q0j (by intro β h; first | (rcases h with h | h <;> subst h <;> (simp (disch := first | assumption | (apply zQ; assumption; assumption) | (apply zR; assumption; assumption; (intro e; cases e; done)) | omega) only [zn, zp, zq, zr, zv])) | (subst h; (simp (disch := first | assumption | (apply zQ; assumption; assumption) | (apply zR; assumption; assumption; (intro e; cases e; done)) | omega) only [zn, zp, zq, zr, zv]))) ?_) | (with_reducible refine uc (c41 _ _ _ [[61]] _ _ (by with_unfolding_all rfl) (by exact zK) (by exact zG) (by decide)) ?_) | (with_reducible refine uc (c42 _ _ _ (by exact zK) (by exact zG)) ?_) | (with_reducible refine uc (h10 _ (by exact zK)) ?_) | (refine Q0d (o' := some (.cells 42 [.i 4, .s (bs t), .sl .nil [], .s (bs []), .sl .nil [], .sl (.tok τ 9) V, .sl .nil [], .s (bs []), .sl .nil [], .sl .nil [], .sl .nil [], .sl .nil [], .b false, .i (-1)])) (Q8f (by assumption) (by exact zK)) ?_) | (refine Q0d (by exact zK) ?_) | (refine Q0e (by exact zK) ?_)); (try refine zs zz.out ?_)) | refine zo ?_ | omega | refine zt zz.out ?_ | fail)); try (all_goals clear zz))
    all_goals (refine ⟨_, ?_, _, ⟨‹σ _ = none›, by assumption, by assumption⟩, rfl⟩; simp only [setA, hE]; (exact zu))
theorem lose_opt {f : FuncId} {args : List AV} {l : List Ex} {σ S : Sg} (h : VCalls Tryz.prog f args σ (fun x σ' => ∃ o, x = optK o l ∧ S.sub σ')) : VCalls Tryz.prog f args σ (fun x σ' => x = optA l ∧ σ' = S) :=
  h.lose fun x σ' hx => by
    obtain ⟨o, rfl, hs⟩ := hx
    refine ⟨_, S, ?_, hs, rfl, rfl⟩
    cases l with
    | nil => exact AVw.refl _
    | cons e r => exact AVw.any _ _
theorem c48 (w : By) (ρ : Nat) (s : Rd) (σ : Sg) (hρ : σ ρ = some (rdA s)) (hg : Gd s) : VCalls Tryz.prog 144 [.ref ρ 0, .s (bs w)] σ (fun x σ' => x = optA (Q3t w s).1 ∧ σ' = σ.set ρ (rdA (Q3t w s).2)) := by
  refine lose_opt ?_
  obtain ⟨z27, h27, hz27⟩ := Q5u
  simp only [ex0, Q3e, Q0s] at hz27
  have h13 := fun S hS => c13 ρ s w S hS hg
  have g : Gd (s.pass [w]) := Q5y hg
  have h10 := fun S hS => c10 ρ (s.pass [w]) S hS g
  unfold Q3t
  generalize (exp (s.pass [w])).2 = s2 at *
  generalize (exp (s.pass [w])).1 = e at *
  have hel := Q0r e
  have ho := Q1f e
  have ht := Q0q e
  have hd := Q0x e
  have hK : ∀ o, optK o [e] = .sl o [exA e] := fun o => by show AV.sl o (exsA [e]) = _; rw [ofA]
  generalize hE : exA e = E at *
  generalize s.pass [w] = s1 at *
  by_cases hb : s.has w = true
  · rw [if_pos hb]
    simp only [hb] at h13
    (refine vfun (fun _ => .no) Q0h Tryz.func144 (by kernel_rfl) ?_; simp only [Q0f, Tryz.f144, zw])
    (have zz := Bx.mk (j3 ui3 ui4 (j9 ui9 ui24 Z26 h27 hz27 hel ho ht hd)); (repeat' (first | exact zc | (with_reducible first | apply And.intro | apply Q0a | apply Q0b | refine Q0c (by decide +kernel) ?_ | intro _) | refine zaW zz.out ?_ | ((first | (with_reducible refine uc (h13 _ (by exact zK)) ?_) | (with_reducible refine uc (h10 _ (by exact zK)) ?_)); (try refine zs zz.out ?_)) | refine zo ?_ | omega | refine zt zz.out ?_ | fail)); try (all_goals clear zz))
    all_goals (refine ⟨_, .refl _, .full, by rw [hK], ?_⟩; (exact zu))
  · rw [if_neg hb]
    simp only [hb] at h13
    (refine vfun (fun _ => .no) Q0h Tryz.func144 (by kernel_rfl) ?_; simp only [Q0f, Tryz.f144, zw])
    (have zz := Bx.mk (j3 ui3 ui4 (j9 ui9 ui24 Z26 h27 hz27 hel ho ht hd)); (repeat' (first | exact zc | (with_reducible first | apply And.intro | apply Q0a | apply Q0b | refine Q0c (by decide +kernel) ?_ | intro _) | refine zaW zz.out ?_ | ((first | (with_reducible refine uc (h13 _ (by exact zK)) ?_) | (with_reducible refine uc (h10 _ (by exact zK)) ?_)); (try refine zs zz.out ?_)) | refine zo ?_ | omega | refine zt zz.out ?_ | fail)); try (all_goals clear zz))
    all_goals (refine ⟨_, .refl _, .full, rfl, ?_⟩; (exact zu))
theorem c51 (w : By) (ρ : Nat) (s : Rd) (σ : Sg) (hρ : σ ρ = some (rdA s)) (hg : Gd s) : VCalls Tryz.prog 147 [.ref ρ 0, .s (bs w)] σ (fun x σ' => x = optA (byL w s).1 ∧ σ' = σ.set ρ (rdA (byL w s).2)) := by
  refine lose_opt ?_
  obtain ⟨z27, h27, hz27⟩ := Q5u
  simp only [ex0, Q3e, Q0s] at hz27
  have h13 := fun S hS => c13 ρ s w S hS hg
  have g : Gd (s.pass [w]) := Q5y hg
  have g2 : Gd ((s.pass [w]).must [[66, 89]]) := Q3q g
  have h68 := fun S hS => c68 ρ ((s.pass [w]).must [[66, 89]]) S hS g2
  unfold byL
  generalize (((s.pass [w]).must [[66, 89]]).column).2 = s2 at *
  generalize (((s.pass [w]).must [[66, 89]]).column).1 = e at *
  have hel := Q0r e
  have ho := Q1f e
  have ht := Q0q e
  have hd := Q0x e
  have hK : ∀ o, optK o [e] = .sl o [exA e] := fun o => by show AV.sl o (exsA [e]) = _; rw [ofA]
  generalize hE : exA e = E at *
  generalize s.pass [w] = s1 at *
  by_cases hb : s.has w = true
  · rw [if_pos hb]
    simp only [hb] at h13
    (refine vfun (fun _ => .no) Q0h Tryz.func147 (by kernel_rfl) ?_; simp only [Q0f, Tryz.f147, zw])
    (have zz := Bx.mk (j4 ui3 ui4 ui9 (j9 ui24 Z26 h27 hz27 ui75 hel ho ht hd)); (repeat' (first | exact zc | (with_reducible first | apply And.intro | apply Q0a | apply Q0b | refine Q0c (by decide +kernel) ?_ | intro _) | refine zaW zz.out ?_ | ((first | (with_reducible refine uc (h13 _ (by exact zK)) ?_) | (with_reducible refine uc (c41 _ _ _ [[66, 89]] _ _ (by with_unfolding_all rfl) (by exact zK) (by exact zG) (by decide)) ?_) | (with_reducible refine uc (h68 _ (by exact zK)) ?_)); (try refine zs zz.out ?_)) | refine zo ?_ | omega | refine zt zz.out ?_ | fail)); try (all_goals clear zz))
    all_goals (refine ⟨_, .refl _, .full, by rw [hK], ?_⟩; (exact zu))
  · rw [if_neg hb]
    simp only [hb] at h13
    (refine vfun (fun _ => .no) Q0h Tryz.func147 (by kernel_rfl) ?_; simp only [Q0f, Tryz.f147, zw])
    (have zz := Bx.mk (j3 ui3 ui4 (j9 ui9 ui24 Z26 h27 hz27 hel ho ht hd)); (repeat' (first | exact zc | (with_reducible first | apply And.intro | apply Q0a | apply Q0b | refine Q0c (by decide +kernel) ?_ | intro _) | refine zaW zz.out ?_ | ((with_reducible refine uc (h13 _ (by exact zK)) ?_); (try refine zs zz.out ?_)) | refine zo ?_ | omega | refine zt zz.out ?_ | fail)); try (all_goals clear zz))
    all_goals (refine ⟨_, .refl _, .full, rfl, ?_⟩; (exact zu))
theorem c24 : Kind 89 X8i 2 := by
  intro ρ γ s σ hρ hγ hg
  have hne := X9f hρ hγ
  have hne' := hne.symm
  refine Q9j ?_
  have e2 : X8i s = ({ stm0 with k := 2, t := ((s.must [[84, 65, 66, 76, 69]]).tok 1).2.1 }, (s.must [[84, 65, 66, 76, 69]]).take 1) := rfl
  rw [e2]
  simp only [stmK, stmC, List.map_nil, optA, optK]
  unfold stmZ at hγ
  (refine vfun (fun _ => .no) Q0h Tryz.func89 (by kernel_rfl) ?_; simp only [Q0f, Tryz.f89, zw])
  (have zz := Bx.mk (j6 ui3 ui4 ui9 ui42 Q6k ui75); (repeat' (first | exact zc | (with_reducible first | apply And.intro | apply Q0a | apply Q0b | refine Q0c (by decide +kernel) ?_ | intro _) | refine zaW zz.out ?_ | ((first | (with_reducible refine uc (c41 _ _ _ [[84, 65, 66, 76, 69]] _ _ (by with_unfolding_all rfl) (by exact zK) (by exact zG) (by decide)) ?_) | (with_reducible refine uc (c42 _ _ _ (by exact zK) (by exact zG)) ?_) | (refine Q0d (by exact zK) ?_) | (refine Q0e (by exact zK) ?_)); (try refine zs zz.out ?_)) | refine zo ?_ | omega | refine zt zz.out ?_ | fail)); try (all_goals clear zz))
  exact ⟨_, .refl _, .nil, .nil, .nil, .nil, .nil, (by intro y p hy; simp only [Sg.set_apply, Sg.del_apply] at hy ⊢; grind)⟩
theorem c27 : Kind 92 Q9a 5 := by
  intro ρ γ s σ hρ hγ hg
  have hne := X9f hρ hγ
  have hne' := hne.symm
  refine Q9j ?_
  have g1 : Gd ((s.must [[70, 82, 79, 77]]).take 1) := Q6q (by decide) (Q3q hg)
  have h48 : ∀ S, S ρ = some (rdA ((s.must [[70, 82, 79, 77]]).take 1)) → VCalls Tryz.prog 144 [.ref ρ 0, .s (bs [87, 72, 69, 82, 69])] S _ := fun S hS => c48 [87, 72, 69, 82, 69] ρ _ S hS g1
  have e2 : Q9a s = ({ stm0 with k := 5, t := ((s.must [[70, 82, 79, 77]]).tok 1).2.1, wh := (Q3t [87, 72, 69, 82, 69] ((s.must [[70, 82, 79, 77]]).take 1)).1 }, (Q3t [87, 72, 69, 82, 69] ((s.must [[70, 82, 79, 77]]).take 1)).2) := rfl
  rw [e2]
  have ho : ∀ l, (optA l).one = true := fun l => by cases l <;> rfl
  have hsl : ∀ l, (optA l).solid = true := fun l => by cases l <;> rfl
  have hc : ∀ l, (optA l).cells = [optA l] := fun l => by cases l <;> rfl
  generalize (Q3t [87, 72, 69, 82, 69] ((s.must [[70, 82, 79, 77]]).take 1)).2 = s2 at *
  generalize (Q3t [87, 72, 69, 82, 69] ((s.must [[70, 82, 79, 77]]).take 1)).1 = e at *
  simp only [stmK, stmC, List.map_nil, optK, show optA [] = .sl .nil [] from rfl]
  unfold stmZ at hγ
  (refine vfun (fun _ => .no) Q0h Tryz.func92 (by kernel_rfl) ?_; simp only [Q0f, Tryz.f92, zw])
  (have zz := Bx.mk (j2 ui3 (j9 ui4 ui9 ui24 ui42 Q6k ui75 ho hc hsl)); (repeat' (first | exact zc | (with_reducible first | apply And.intro | apply Q0a | apply Q0b | refine Q0c (by decide +kernel) ?_ | intro _) | refine zaW zz.out ?_ | ((first | (with_reducible refine uc (c41 _ _ _ [[70, 82, 79, 77]] _ _ (by with_unfolding_all rfl) (by exact zK) (by exact zG) (by decide)) ?_) | (with_reducible refine uc (c42 _ _ _ (by exact zK) (by exact zG)) ?_) | (with_reducible refine uc (h48 _ (by exact zK)) ?_) | (refine Q0d (by exact zK) ?_) | (refine Q0e (by exact zK) ?_)); (try refine zs zz.out ?_)) | refine zo ?_ | omega | refine zt zz.out ?_ | fail)); try (all_goals clear zz))
  exact ⟨_, .refl _, .nil, .nil, .nil, .nil, .nil, (by intro y p hy; simp only [Sg.set_apply, Sg.del_apply] at hy ⊢; grind)⟩
theorem c26 : Kind 91 Q8z 4 := by
  intro ρ γ s σ hρ hγ hg
  have hne := X9f hρ hγ
  have hne' := hne.symm
  refine Q9j ?_
  have g1 : Gd ((s.take 1).must [[83, 69, 84]]) := Q3q (Q6q (by decide) hg)
  have h44 : ∀ σ, VCalls Tryz.prog 140 [.ref ρ 0, .i 8, .fn 143 [.ro [.ref ρ 0], .ro [.ref γ 0]]] _ _ := fun σ => c44G (c47 ρ γ (s.tok 1).2.1 σ hne) 8 (by decide) _ g1
  have g2 : Gd (many setL 8 ((s.take 1).must [[83, 69, 84]])).2 := Y0u Y0s g1
  have h48 : ∀ S, S ρ = some (rdA (many setL 8 ((s.take 1).must [[83, 69, 84]])).2) → VCalls Tryz.prog 144 [.ref ρ 0, .s (bs [87, 72, 69, 82, 69])] S _ := fun S hS => c48 [87, 72, 69, 82, 69] ρ _ S hS g2
  have e2 : Q8z s = ({ stm0 with k := 4, t := (s.tok 1).2.1, sets := (many setL 8 ((s.take 1).must [[83, 69, 84]])).1, wh := (Q3t [87, 72, 69, 82, 69] (many setL 8 ((s.take 1).must [[83, 69, 84]])).2).1 }, (Q3t [87, 72, 69, 82, 69] (many setL 8 ((s.take 1).must [[83, 69, 84]])).2).2) := rfl
  rw [e2]
  have ho : ∀ l, (optA l).one = true := fun l => by cases l <;> rfl
  have hsl : ∀ l, (optA l).solid = true := fun l => by cases l <;> rfl
  have hc : ∀ l, (optA l).cells = [optA l] := fun l => by cases l <;> rfl
  generalize (Q3t [87, 72, 69, 82, 69] (many setL 8 ((s.take 1).must [[83, 69, 84]])).2).2 = s3 at *
  generalize (Q3t [87, 72, 69, 82, 69] (many setL 8 ((s.take 1).must [[83, 69, 84]])).2).1 = e at *
  simp only [grS, stmK, stmC, List.map_nil, optK, show optA [] = .sl .nil [] from rfl] at h44 ⊢
  unfold stmZ at hγ
  generalize (many setL 8 ((s.take 1).must [[83, 69, 84]])).2 = s2 at *
  generalize ((many setL 8 ((s.take 1).must [[83, 69, 84]])).1).map setA = V at *
  (refine vfun (fun k => if k = 2 ∨ k = 3 then .ro else .no) Q0h Tryz.func91 (by kernel_rfl) ?_; simp only [Q0f, Tryz.f91, zw])
  (have zz := Bx.mk (j9 ui3 ui4 ui9 ui24 ui78 ui42 Q6k ui75 (j9 @X1h true_or or_true or_self or_false false_or ho hc hsl)); (repeat' (first | exact zc | (with_reducible first | apply And.intro | apply Q0a | apply Q0b | refine Q0c (by decide +kernel) ?_ | intro _) | ((with_reducible refine .dms (fun _ => False) [(0, false), (1, false), (2, true), (3, true), (4, false), (5, true)] (by decide) (by decide +kernel) ?_); (refine zs zz.out ?_)) | ((with_reducible refine .dm (fun _ => False) [(0, false), (1, false), (2, true), (3, true), (4, false), (5, true)] (by decide) (by decide +kernel) ?_); (refine zs zz.out ?_)) | refine zaW zz.out ?_ | ((first | with_reducible refine Q0j (fun _ h => h.elim) ?_ | (with_reducible refine uc (c41 _ _ _ [[83, 69, 84]] _ _ (by with_unfolding_all rfl) (by exact zK) (by exact zG) (by decide)) ?_) | (with_reducible refine uc (c42 _ _ _ (by exact zK) (by exact zG)) ?_) | (with_reducible refine uc (h48 _ (by exact zK)) ?_) | ((with_reducible refine zU (h44 _) ?_); rintro _ S ⟨rfl, τ', ⟨hτ1, hτ2, hτ3⟩, rfl⟩) | (refine Q0d (by exact zK) ?_) | (refine Q0e (by exact zK) ?_)); (try refine zs zz.out ?_)) | refine zo ?_ | omega | refine zt zz.out ?_ | fail)); try (all_goals clear zz))
  rw [Sg.set_other _ _ hτ2] at hτ1
  exact ⟨_, .refl _, .nil, .nil, .tok τ' 9, .nil, .nil, (by intro y p hy; simp only [Sg.set_apply, Sg.del_apply] at hy ⊢; grind)⟩
theorem X1i {f : FuncId} {args : List AV} {k : Int} {l : List Ex} {σ S : Sg} (h : VCalls Tryz.prog f args σ (fun x σ' => ∃ o, x = .agg [.i k, .sl o (exsA l)] ∧ S.sub σ')) : VCalls Tryz.prog f args σ (fun x σ' => x = .agg (Q2z (k, l)) ∧ σ' = S) :=
  h.lose fun x σ' hx => by
    obtain ⟨o, rfl, hs⟩ := hx
    refine ⟨.agg (Q2z (k, l)), S, AVw.agg rfl (fun i x x' h1 h2 => ?_), hs, rfl, rfl⟩
    match i with
    | 0 => cases h1; cases h2; exact AVw.refl _
    | 1 => cases h1; cases h2; exact AVw.any _ _
    | i + 2 => simp at h1
theorem zero84 : ∃ z, Q0l Tryz.prog 71 = some (some z, 2, 32) ∧ ofValue z = .agg [.i 0, .sl .nil []] := ⟨_, info71, by rfl⟩
theorem c50 (ρ : Nat) (s : Rd) (σ : Sg) (hρ : σ ρ = some (rdA s)) (hg : Gd s) : VCalls Tryz.prog 146 [.ref ρ 0] σ (fun x σ' => x = .agg (Q2z (Q9h s).1) ∧ σ' = σ.set ρ (rdA (Q9h s).2)) := by
  obtain ⟨z84, h84, hz84⟩ := zero84
  obtain ⟨z27, h27, hz27⟩ := Q5u
  simp only [ex0, Q3e, Q0s] at hz27
  have h22 : ∀ S es, S ρ = some (rdA s) → es = strs Q2o → VCalls Tryz.prog 87 [.ref ρ 0, .sl .full es] S _ := fun S es hS he => c22 ρ s .full Q2o es S he hS hg (by decide)
  have hlt := is_lt s Q2o
  simp only [zy, List.length_nil] at hlt
  have g : Gd (s.pass Q2o) := Q5y hg
  unfold Q9h
  generalize s.is Q2o = k at *
  generalize s.pass Q2o = s1 at *
  by_cases h0 : k < 0
  · rw [if_pos h0]
    refine X1i ?_
    have h10 := fun S hS => c10 ρ s1 S hS g
    generalize (exp s1).2 = s2 at *
    generalize (exp s1).1 = e at *
    have hel := Q0r e
    have ho := Q1f e
    have ht := Q0q e
    have hd := Q0x e
    rw [ofA]
    generalize hE : exA e = E at *
    (refine vfun (fun _ => .no) Q0h Tryz.func146 (by kernel_rfl) ?_; simp only [Q0f, Tryz.f146, zw])
    (have zz := Bx.mk (j7 ui3 ui4 ui9 ui24 ui75 Z71 (j9 h84 hz84 Z26 h27 hz27 hel ho ht hd)); (repeat' (first | exact zc | (with_reducible first | apply And.intro | apply Q0a | apply Q0b | refine Q0c (by decide +kernel) ?_ | intro _) | refine zaW zz.out ?_ | ((first | (with_reducible refine uc (h22 _ _ (by exact zK) (by with_unfolding_all rfl)) ?_) | (with_reducible refine uc (h10 _ (by exact zK)) ?_) | (refine Q0d (by exact zK) ?_) | (refine Q0e (by exact zK) ?_)); (try refine zs zz.out ?_)) | refine zo ?_ | omega | refine zt zz.out ?_ | fail)); try (all_goals clear zz))
    all_goals (refine ⟨_, .refl _, _, rfl, ?_⟩; (first | exact Sg.sub.refl _ | ((repeat (first | exact Sg.sub.refl _ | refine Sg.sub.set_both ?_ | refine Sg.sub.set_fresh ?_ (by first | assumption | exact Sg.set_none (by assumption) (by first | assumption | (apply Go.Cert.ne_of2a; assumption; assumption))))); done) | (intro y p hy; simp only [Sg.set_apply, Sg.del_apply] at hy ⊢; grind)))
  · rw [if_neg h0]
    by_cases h4 : k = 4
    · rw [if_pos h4]
      refine X1i ?_
      rw [Q0s]
      (refine vfun (fun _ => .no) Q0h Tryz.func146 (by kernel_rfl) ?_; simp only [Q0f, Tryz.f146, zw])
      (have zz := Bx.mk (j8 ui3 ui4 ui9 ui24 ui75 Z71 h84 hz84); (repeat' (first | exact zc | (with_reducible first | apply And.intro | apply Q0a | apply Q0b | refine Q0c (by decide +kernel) ?_ | intro _) | refine zaW zz.out ?_ | ((first | (with_reducible refine uc (h22 _ _ (by exact zK) (by with_unfolding_all rfl)) ?_) | (refine Q0d (by exact zK) ?_) | (refine Q0e (by exact zK) ?_)); (try refine zs zz.out ?_)) | refine zo ?_ | omega | refine zt zz.out ?_ | fail)); try (all_goals clear zz))
      all_goals (refine ⟨_, .refl _, _, rfl, ?_⟩; (first | exact Sg.sub.refl _ | ((repeat (first | exact Sg.sub.refl _ | refine Sg.sub.set_both ?_ | refine Sg.sub.set_fresh ?_ (by first | assumption | exact Sg.set_none (by assumption) (by first | assumption | (apply Go.Cert.ne_of2a; assumption; assumption))))); done) | (intro y p hy; simp only [Sg.set_apply, Sg.del_apply] at hy ⊢; grind)))
    · rw [if_neg h4]
      have g2 : Gd (s1.must [[40]]) := Q3q g
      have h41 : ∀ S es, S ρ = some (rdA s1) → es = strs [[40]] → VCalls Tryz.prog 137 [.ref ρ 0, .sl .full es] S _ := fun S es hS he => c41 ρ s1 .full [[40]] es S he hS g (by decide)
      unfold X7h
      generalize s1.must [[40]] = s2 at *
      by_cases h1 : 0 < k
      · rw [if_pos h1]
        refine X1i ?_
        have h10 := fun S hS => c10 ρ s2 S hS g2
        have g3 : Gd (exp s2).2 := gd_exp g2
        have h41b : ∀ S es, S ρ = some (rdA (exp s2).2) → es = strs [[41]] → VCalls Tryz.prog 137 [.ref ρ 0, .sl .full es] S _ := fun S es hS he => c41 ρ (exp s2).2 .full [[41]] es S he hS g3 (by decide)
        generalize (exp s2).2 = s3 at *
        generalize (exp s2).1 = e at *
        have hel := Q0r e
        have ho := Q1f e
        have ht := Q0q e
        have hd := Q0x e
        rw [ofA]
        generalize hE : exA e = E at *
        (refine vfun (fun _ => .no) Q0h Tryz.func146 (by kernel_rfl) ?_; simp only [Q0f, Tryz.f146, zw])
        (have zz := Bx.mk (j7 ui3 ui4 ui9 ui24 ui75 Z71 (j9 h84 hz84 Z26 h27 hz27 hel ho ht hd)); (repeat' (first | exact zc | (with_reducible first | apply And.intro | apply Q0a | apply Q0b | refine Q0c (by decide +kernel) ?_ | intro _) | refine zaW zz.out ?_ | ((first | (with_reducible refine uc (h22 _ _ (by exact zK) (by with_unfolding_all rfl)) ?_) | (with_reducible refine uc (h41 _ _ (by exact zK) (by with_unfolding_all rfl)) ?_) | (with_reducible refine uc (h10 _ (by exact zK)) ?_) | (with_reducible refine uc (h41b _ _ (by exact zK) (by with_unfolding_all rfl)) ?_) | (refine Q0d (by exact zK) ?_) | (refine Q0e (by exact zK) ?_)); (try refine zs zz.out ?_)) | refine zo ?_ | omega | refine zt zz.out ?_ | fail)); try (all_goals clear zz))
        all_goals (refine ⟨_, .refl _, _, rfl, ?_⟩; (first | exact Sg.sub.refl _ | ((repeat (first | exact Sg.sub.refl _ | refine Sg.sub.set_both ?_ | refine Sg.sub.set_fresh ?_ (by first | assumption | exact Sg.set_none (by assumption) (by first | assumption | (apply Go.Cert.ne_of2a; assumption; assumption))))); done) | (intro y p hy; simp only [Sg.set_apply, Sg.del_apply] at hy ⊢; grind)))
      · rw [if_neg h1]
        have h13 : ∀ S, S ρ = some (rdA s2) → VCalls Tryz.prog 37 [.ref ρ 0, .s (bs [42])] S _ := fun S hS => c13 ρ s2 [42] S hS g2
        have g2' : Gd (s2.pass [[42]]) := Q5y g2
        by_cases hb : s2.has [42] = true
        · rw [if_pos hb]
          refine X1i ?_
          rw [Q0s]
          simp only [hb] at h13
          have h41b : ∀ S es, S ρ = some (rdA (s2.pass [[42]])) → es = strs [[41]] → VCalls Tryz.prog 137 [.ref ρ 0, .sl .full es] S _ := fun S es hS he => c41 ρ (s2.pass [[42]]) .full [[41]] es S he hS g2' (by decide)
          generalize s2.pass [[42]] = s3 at *
          (refine vfun (fun _ => .no) Q0h Tryz.func146 (by kernel_rfl) ?_; simp only [Q0f, Tryz.f146, zw])
          (have zz := Bx.mk (j8 ui3 ui4 ui9 ui24 ui75 Z71 h84 hz84); (repeat' (first | exact zc | (with_reducible first | apply And.intro | apply Q0a | apply Q0b | refine Q0c (by decide +kernel) ?_ | intro _) | refine zaW zz.out ?_ | ((first | (with_reducible refine uc (h22 _ _ (by exact zK) (by with_unfolding_all rfl)) ?_) | (with_reducible refine uc (h41 _ _ (by exact zK) (by with_unfolding_all rfl)) ?_) | (with_reducible refine uc (h13 _ (by exact zK)) ?_) | (with_reducible refine uc (h41b _ _ (by exact zK) (by with_unfolding_all rfl)) ?_) | (refine Q0d (by exact zK) ?_) | (refine Q0e (by exact zK) ?_)); (try refine zs zz.out ?_)) | refine zo ?_ | omega | refine zt zz.out ?_ | fail)); try (all_goals clear zz))
          all_goals (refine ⟨_, .refl _, _, rfl, ?_⟩; (first | exact Sg.sub.refl _ | ((repeat (first | exact Sg.sub.refl _ | refine Sg.sub.set_both ?_ | refine Sg.sub.set_fresh ?_ (by first | assumption | exact Sg.set_none (by assumption) (by first | assumption | (apply Go.Cert.ne_of2a; assumption; assumption))))); done) | (intro y p hy; simp only [Sg.set_apply, Sg.del_apply] at hy ⊢; grind)))
        · rw [if_neg hb]
          refine X1i ?_
          simp only [hb] at h13
          have h10 := fun S hS => c10 ρ (s2.pass [[42]]) S hS g2'
          have g3 : Gd (exp (s2.pass [[42]])).2 := gd_exp g2'
          have h41b : ∀ S es, S ρ = some (rdA (exp (s2.pass [[42]])).2) → es = strs [[41]] → VCalls Tryz.prog 137 [.ref ρ 0, .sl .full es] S _ := fun S es hS he => c41 ρ (exp (s2.pass [[42]])).2 .full [[41]] es S he hS g3 (by decide)
          generalize (exp (s2.pass [[42]])).2 = s4 at *
          generalize (exp (s2.pass [[42]])).1 = e at *
          generalize s2.pass [[42]] = s3 at *
          have hel := Q0r e
          have ho := Q1f e
          have ht := Q0q e
          have hd := Q0x e
          rw [ofA]
          generalize hE : exA e = E at *
          (refine vfun (fun _ => .no) Q0h Tryz.func146 (by kernel_rfl) ?_; simp only [Q0f, Tryz.f146, zw])
          (have zz := Bx.mk (j7 ui3 ui4 ui9 ui24 ui75 Z71 (j9 h84 hz84 Z26 h27 hz27 hel ho ht hd)); (repeat' (first | exact zc | (with_reducible first | apply And.intro | apply Q0a | apply Q0b | refine Q0c (by decide +kernel) ?_ | intro _) | refine zaW zz.out ?_ | ((first | (with_reducible refine uc (h22 _ _ (by exact zK) (by with_unfolding_all rfl)) ?_) | (with_reducible refine uc (h41 _ _ (by exact zK) (by with_unfolding_all rfl)) ?_) | (with_reducible refine uc (h13 _ (by exact zK)) ?_) | (with_reducible refine uc (h10 _ (by exact zK)) ?_) | (with_reducible refine uc (h41b _ _ (by exact zK) (by with_unfolding_all rfl)) ?_) | (refine Q0d (by exact zK) ?_) | (refine Q0e (by exact zK) ?_)); (try refine zs zz.out ?_)) | refine zo ?_ | omega | refine zt zz.out ?_ | fail)); try (all_goals clear zz))
          all_goals (refine ⟨_, .refl _, _, rfl, ?_⟩; (first | exact Sg.sub.refl _ | ((repeat (first | exact Sg.sub.refl _ | refine Sg.sub.set_both ?_ | refine Sg.sub.set_fresh ?_ (by first | assumption | exact Sg.set_none (by assumption) (by first | assumption | (apply Go.Cert.ne_of2a; assumption; assumption))))); done) | (intro y p hy; simp only [Sg.set_apply, Sg.del_apply] at hy ⊢; grind)))
def grI : Gr It := ⟨fun o V => .cells 42 [.i 6, .s (bs []), .sl .nil [], .s (bs []), .sl .nil [], .sl .nil [], .sl o V, .s (bs []), .sl .nil [], .sl .nil [], .sl .nil [], .sl .nil [], .b false, .i (-1)], Q2z, 2, 71⟩
theorem c49 (ρ γ : Nat) (σ : Sg) (hω : γ ≠ ρ) : Ones 145 [.ro [.ref γ 0], .ro [.ref ρ 0]] Q9h ρ (stG grI σ ρ γ) (okG σ ρ γ) := by
  obtain ⟨z84, h84, hz84⟩ := zero84
  have hρω : ρ ≠ γ := hω.symm
  refine ones X7k ?_ ?_ (fun v => rfl)
  · intro s hs
    have h50 := fun S hS => c50 ρ s S hS hs
    unfold Q2z at h50
    simp only [grI, Q2z]
    (refine vfun (fun _ => .no) Q0h Tryz.func145 (by kernel_rfl) ?_; simp only [Q0f, Tryz.f145, zw])
    (have zz := Bx.mk (j2 ui3 (j9 ui4 ui9 ui78 ui40 Z71 h84 hz84 ui42 Q6k)); (repeat' (first | exact zc | (with_reducible first | apply And.intro | apply Q0a | apply Q0b | refine Q0c (by decide +kernel) ?_ | intro _) | ((with_reducible refine .dm (fun β => β = γ) [(0, false), (1, false), (2, false), (3, false), (4, false), (5, false), (6, true), (7, false), (8, true), (9, true), (10, false), (11, true)] (by decide) (by decide +kernel) ?_); (refine zs zz.out ?_)) | refine zaW zz.out ?_ | ((first | (refine Q0j (by intro β h; first | (rcases h with h | h <;> subst h <;> (simp (disch := first | assumption | (apply zQ; assumption; assumption) | (apply zR; assumption; assumption; (intro e; cases e; done)) | omega) only [zn, zp, zq, zr, zv])) | (subst h; (simp (disch := first | assumption | (apply zQ; assumption; assumption) | (apply zR; assumption; assumption; (intro e; cases e; done)) | omega) only [zn, zp, zq, zr, zv]))) ?_) | (with_reducible refine uc (h50 _ (by exact zK)) ?_) | (refine Q0d (o' := some (.cells 42 [.i 6, .s (bs []), .sl .nil [], .s (bs []), .sl .nil [], .sl .nil [], .sl .nil [], .s (bs []), .sl .nil [], .sl .nil [], .sl .nil [], .sl .nil [], .b false, .i (-1)])) (Q8f (by assumption) (by exact zK)) ?_) | (refine Q0d (by exact zK) ?_) | (refine Q0e (by exact zK) ?_)); (try refine zs zz.out ?_)) | refine zo ?_ | omega | refine zt zz.out ?_ | fail)); try (all_goals clear zz))
    all_goals (refine ⟨_, ?_, _, ⟨‹σ _ = none›, by assumption, by assumption⟩, rfl⟩; (exact zu))
  · intro τ V s g1 g2 g3 hs hl ha
    have h50 := fun S hS => c50 ρ s S hS hs
    unfold Q2z at h50
    simp only [grI, Q2z] at ha ⊢
    (refine vfun (fun _ => .no) Q0h Tryz.func145 (by kernel_rfl) ?_; simp only [Q0f, Tryz.f145, zw])
    (have zz := Bx.mk (j3 ui3 ui4 (j9 ui9 ui78 ui40 Z71 h84 hz84 ui42 Q6k ha)); (repeat' (first | exact zc | (with_reducible first | apply And.intro | apply Q0a | apply Q0b | refine Q0c (by decide +kernel) ?_ | intro _) | ((with_reducible refine .dm (fun β => β = γ) [(0, false), (1, false), (2, false), (3, false), (4, false), (5, false), (6, true), (7, false), (8, true), (9, true), (10, false), (11, true)] (by decide) (by decide +kernel) ?_); (refine zs zz.out ?_)) | refine zaW zz.out ?_ | ((first | (refine Q0j (by intro β h; first | (rcases h with h | h <;> subst h <;> (simp (disch := first | assumption | (apply zQ; assumption; assumption) | (apply zR; assumption; assumption; (intro e; cases e; done)) | omega) only [zn, zp, zq, zr, zv])) | (subst h; (simp (disch := first | assumption | (apply zQ; assumption; assumption) | (apply zR; assumption; assumption; (intro e; cases e; done)) | omega) only [zn, zp, zq, zr, zv]))) ?_) | (with_reducible refine uc (h50 _ (by exact zK)) ?_) | (refine Q0d (o' := some (.cells 42 [.i 6, .s (bs []), .sl .nil [], .s (bs []), .sl .nil [], .sl .nil [], .sl (.tok τ 2) V, .s (bs []), .sl .nil [], .sl .nil [], .sl .nil [], .sl .nil [], .b false, .i (-1)])) (Q8f (by assumption) (by exact zK)) ?_) | (refine Q0d (by exact zK) ?_) | (refine Q0e (by exact zK) ?_)); (try refine zs zz.out ?_)) | refine zo ?_ | omega | refine zt zz.out ?_ | fail)); try (all_goals clear zz))
    all_goals (refine ⟨_, ?_, _, ⟨‹σ _ = none›, by assumption, by assumption⟩, rfl⟩; (exact zu))
theorem Q8m (l : List Ex) : (optA l).one = true := by cases l <;> rfl
theorem Q5e (l : List Ex) : (optA l).solid = true := by cases l <;> rfl
theorem Q5f (l : List Ex) : (optA l).cells = [optA l] := by cases l <;> rfl
theorem Q2v : optA [] = .sl .nil [] := rfl
theorem Q3i (e : Ex) (r : List Ex) : optA (e :: r) = .sl .any (exsA (e :: r)) := rfl
theorem AVw.on (o : Own) (e : Ex) : AVw (.sl o [exA e]) (optA [e]) := by
  rw [Q3i, ofA]
  exact AVw.any _ _
theorem sub2 {σ S : Sg} {γ ρ : Nat} {C R : Ob} (h1 : S γ = some C) (h2 : S ρ = some R) (h3 : ∀ y o, y ≠ γ → y ≠ ρ → σ y = some o → S y = some o) : ((σ.set γ C).set ρ R).sub S := fun y p hy => by
  simp only [Sg.set_apply] at hy
  split at hy
  · subst_vars; rw [h2]; exact hy
  · split at hy
    · subst_vars; rw [h1]; exact hy
    · exact h3 y p (by assumption) (by assumption) hy
theorem c28 : Kind 93 Q9b 6 := by
  intro ρ γ s σ hρ hγ hg
  have hne := X9f hρ hγ
  have hne' := hne.symm
  refine Q9j ?_
  have h44 : ∀ σ, VCalls Tryz.prog 140 [.ref ρ 0, .i 8, .fn 145 [.ro [.ref γ 0], .ro [.ref ρ 0]]] _ _ := fun σ => c44G (c49 ρ γ σ hne) 8 (by decide) s hg
  have h44 := h44 σ
  have hσ : (σ.set γ (stmZ 6)).set ρ (rdA s) = σ := by rw [Sg.set_id hγ, Sg.set_id hρ]
  simp only [grI, ← Q2v] at h44
  simp only [Q2v] at h44
  unfold stmZ at hσ hγ
  rw [hσ] at h44
  obtain ⟨z27, h27, hz27⟩ := Q5u
  simp only [ex0, Q3e, Q0s] at hz27
  have gA : Gd (seA s).2 := Y0u X7k hg
  have gB : Gd (seB s) := Q3q gA
  have g1 : Gd ((seB s).take 1) := Q6q (by decide) gB
  have gC : Gd (seC s).2.2 := g1.ok (ok_join g1.wf)
  have gD : Gd (seD s).2 := X4j (X1r _) gC
  have gE : Gd (seE s).2 := X4j (Y0r _) gD
  have gF : Gd (seF s).2 := X4j (Y0r _) gE
  have gG : Gd (seG s).2 := X4j (nice_desc _) gF
  have h41 : ∀ S es, S ρ = some (rdA (seA s).2) → es = strs [[70, 82, 79, 77]] → VCalls Tryz.prog 137 [.ref ρ 0, .sl .full es] S (fun x σ' => x = .tup [] ∧ σ' = S.set ρ (rdA (seB s))) := fun S es hS he => c41 ρ _ .full [[70, 82, 79, 77]] es S he hS gA (by decide)
  have h42 := fun S (hS : S ρ = some (rdA (seB s))) => c42 ρ _ S hS gB
  have h13 : ∀ S, S ρ = some (rdA ((seB s).take 1)) → VCalls Tryz.prog 37 [.ref ρ 0, .s (bs [74, 79, 73, 78])] S _ := fun S hS => c13 ρ _ [74, 79, 73, 78] S hS g1
  have h48 : ∀ S, S ρ = some (rdA (seC s).2.2) → VCalls Tryz.prog 144 [.ref ρ 0, .s (bs [87, 72, 69, 82, 69])] S (fun x σ' => x = optA (seD s).1 ∧ σ' = S.set ρ (rdA (seD s).2)) := fun S hS => c48 [87, 72, 69, 82, 69] ρ _ S hS gC
  have h51 : ∀ S, S ρ = some (rdA (seD s).2) → VCalls Tryz.prog 147 [.ref ρ 0, .s (bs [71, 82, 79, 85, 80])] S (fun x σ' => x = optA (seE s).1 ∧ σ' = S.set ρ (rdA (seE s).2)) := fun S hS => c51 [71, 82, 79, 85, 80] ρ _ S hS gD
  have h51b : ∀ S, S ρ = some (rdA (seE s).2) → VCalls Tryz.prog 147 [.ref ρ 0, .s (bs [79, 82, 68, 69, 82])] S (fun x σ' => x = optA (seF s).1 ∧ σ' = S.set ρ (rdA (seF s).2)) := fun S hS => c51 [79, 82, 68, 69, 82] ρ _ S hS gE
  have h13d : ∀ S, S ρ = some (rdA (seF s).2) → VCalls Tryz.prog 37 [.ref ρ 0, .s (bs [68, 69, 83, 67])] S _ := fun S hS => c13 ρ _ [68, 69, 83, 67] S hS gF
  have h13l : ∀ S, S ρ = some (rdA (seG s).2) → VCalls Tryz.prog 37 [.ref ρ 0, .s (bs [76, 73, 77, 73, 84])] S _ := fun S hS => c13 ρ _ [76, 73, 77, 73, 84] S hS gG
  have gL : Gd ((seG s).2.pass [[76, 73, 77, 73, 84]]) := Q5y gG
  have h52 := fun S (hS : S ρ = some (rdA ((seG s).2.pass [[76, 73, 77, 73, 84]]))) => c52 ρ _ S hS gL
  have eH : seH s = if (seG s).2.has [76, 73, 77, 73, 84] then ((((((seG s).2.pass [[76, 73, 77, 73, 84]]).tok 3).2.2.1 : Nat) : Int), ((seG s).2.pass [[76, 73, 77, 73, 84]]).take 3) else (-1, (seG s).2.pass [[76, 73, 77, 73, 84]]) := rfl
  have eG : seG s = if (seF s).1 = [] then (false, (seF s).2) else ((seF s).2.has [68, 69, 83, 67], (seF s).2.pass [[68, 69, 83, 67]]) := rfl
  have eC : seC s = if ((seB s).take 1).has [74, 79, 73, 78] then (((((seB s).take 1).pass [[74, 79, 73, 78]]).tok 1).2.1, [(exp (joinB ((seB s).take 1))).1], (exp (joinB ((seB s).take 1))).2) else ([], [], ((seB s).take 1).pass [[74, 79, 73, 78]]) := rfl
  have gJ : Gd (((seB s).take 1).pass [[74, 79, 73, 78]]) := Q5y g1
  have gJ2 : Gd ((((seB s).take 1).pass [[74, 79, 73, 78]]).take 1) := Q6q (by decide) gJ
  have gJ3 : Gd (joinB ((seB s).take 1)) := Q3q gJ2
  have h42j := fun S (hS : S ρ = some (rdA (((seB s).take 1).pass [[74, 79, 73, 78]]))) => c42 ρ _ S hS gJ
  have h41j : ∀ S es, S ρ = some (rdA ((((seB s).take 1).pass [[74, 79, 73, 78]]).take 1)) → es = strs [[79, 78]] → VCalls Tryz.prog 137 [.ref ρ 0, .sl .full es] S (fun x σ' => x = .tup [] ∧ σ' = S.set ρ (rdA (joinB ((seB s).take 1)))) := fun S es hS he => c41 ρ _ .full [[79, 78]] es S he hS gJ2 (by decide)
  have h10j := fun S (hS : S ρ = some (rdA (joinB ((seB s).take 1)))) => c10 ρ _ S hS gJ3
  have eZ : Q9b s = ({ stm0 with k := 6, t := ((seB s).tok 1).2.1, items := (seA s).1, join := (seC s).1, on := (seC s).2.1, wh := (seD s).1, gr := (seE s).1, or := (seF s).1, desc := (seG s).1, lim := (seH s).1 }, (seH s).2) := rfl
  rw [eZ]
  simp only [stmK, stmC, List.map_nil]
  clear eZ hσ gA gB g1 gD gE gF gG gL gJ gJ2 gJ3
  change VCalls Tryz.prog 140 _ _ (fun x σ' => x = .tup [] ∧ ∃ τ', (σ τ' = none ∧ τ' ≠ ρ ∧ τ' ≠ γ) ∧ σ' = ((σ.set γ (.cells 42 [.i 6, .s (bs []), .sl .nil [], .s (bs []), .sl .nil [], .sl .nil [], .sl (.tok τ' 2) ((seA s).1.map Q2z), .s (bs []), .sl .nil [], .sl .nil [], .sl .nil [], .sl .nil [], .b false, .i (-1)])).set ρ (rdA (seA s).2)).set τ' (.tok (some 71))) at h44
  generalize (seA s).1.map Q2z = V at *
  generalize (seA s).2 = sA at *
  generalize hsB : seB s = sB at *
  generalize joinB (sB.take 1) = sJ at *
  generalize ((sB.take 1).pass [[74, 79, 73, 78]]).take 1 = sK at *
  generalize seH s = xH at *
  generalize seG s = xG at *
  obtain ⟨dG, sG⟩ := xG
  generalize seF s = xF at *
  obtain ⟨lF, sF⟩ := xF
  generalize seE s = xE at *
  obtain ⟨lE, sE⟩ := xE
  generalize seD s = xD at *
  obtain ⟨lD, sD⟩ := xD
  generalize seC s = xC at *
  obtain ⟨jC, oC, sC⟩ := xC
  simp only at *
  generalize (((sB.take 1).pass [[74, 79, 73, 78]]).tok 1).2.1 = tJ at *
  generalize (sB.tok 1).2.1 = t at *
  generalize (sG.pass [[76, 73, 77, 73, 84]]).take 3 = s5 at *
  generalize (sG.pass [[76, 73, 77, 73, 84]]).tok 3 = u5 at *
  generalize sG.pass [[76, 73, 77, 73, 84]] = s4 at *
  by_cases hj : (sB.take 1).has [74, 79, 73, 78] = true
  · rw [if_pos hj] at eC
    obtain ⟨rfl, rfl, rfl⟩ : jC = tJ ∧ oC = [(exp sJ).1] ∧ sC = (exp sJ).2 := by simpa using eC
    simp only [hj] at h13
    generalize sB.take 1 = s1 at *
    generalize s1.pass [[74, 79, 73, 78]] = s2 at *
    generalize (exp sJ).2 = sC at *
    generalize (exp sJ).1 = e at *
    have hel := Q0r e
    have hoo := Q1f e
    have ht := Q0q e
    have hd := Q0x e
    cases lF with
    | nil =>
      rw [if_pos rfl] at eG
      obtain ⟨rfl, rfl⟩ : dG = false ∧ sG = sF := by simpa using eG
      by_cases hlm : sG.has [76, 73, 77, 73, 84] = true
      · rw [if_pos hlm] at eH
        subst eH
        simp only [hlm] at h13l
        (refine vfun (fun k => if k = 2 ∨ k = 3 then .ro else .no) Q0h Tryz.func93 (by kernel_rfl) ?_; simp only [Q0f, Tryz.f93, zw])
        (have zz := Bx.mk (j2 ui3 (j9 ui4 ui9 ui24 ui78 ui42 Q6k ui75 Q0u (j9 @X1h true_or or_true or_self or_false false_or @Q8m @Q5e (j9 @Q5f @Q2v Z26 h27 hz27 hel hoo ht hd)))); (repeat' (first | exact zc | (with_reducible first | apply And.intro | apply Q0a | apply Q0b | refine Q0c (by decide +kernel) ?_ | intro _) | ((with_reducible refine .dms (fun _ => False) [(0, false), (1, false), (2, true), (3, true), (4, false), (5, true)] (by decide) (by decide +kernel) ?_); (refine zs zz.out ?_)) | ((with_reducible refine .dms (fun _ => False) [(0, false), (1, false), (2, true), (3, false), (4, true), (5, false), (6, true)] (by decide) (by decide +kernel) ?_); (refine zs zz.out ?_)) | ((with_reducible refine .dm (fun _ => False) [(0, false), (1, false), (2, true), (3, true), (4, false), (5, true)] (by decide) (by decide +kernel) ?_); (refine zs zz.out ?_)) | ((with_reducible refine .dm (fun _ => False) [(0, false), (1, false), (2, true), (3, false), (4, true), (5, false), (6, true)] (by decide) (by decide +kernel) ?_); (refine zs zz.out ?_)) | refine zaW zz.out ?_ | ((first | with_reducible refine Q0j (fun _ h => h.elim) ?_ | ((with_reducible refine zU h44 ?_); rintro _ S ⟨rfl, τ', ⟨hτ1, hτ2, hτ3⟩, rfl⟩) | (with_reducible refine uc (h41 _ _ (by exact zK) (by with_unfolding_all rfl)) ?_) | (with_reducible refine uc (h42 _ (by exact zK)) ?_) | (with_reducible refine uc (h13 _ (by exact zK)) ?_) | (with_reducible refine uc (h48 _ (by exact zK)) ?_) | (with_reducible refine uc (h51 _ (by exact zK)) ?_) | (with_reducible refine uc (h51b _ (by exact zK)) ?_) | (with_reducible refine uc (h13l _ (by exact zK)) ?_) | (with_reducible refine uc (h52 _ (by exact zK)) ?_) | (with_reducible refine uc (h42j _ (by exact zK)) ?_) | (with_reducible refine uc (h41j _ _ (by exact zK) (by with_unfolding_all rfl)) ?_) | (with_reducible refine uc (h10j _ (by exact zK)) ?_) | (refine Q0d (by exact zK) ?_) | (refine Q0e (by exact zK) ?_)); (try refine zs zz.out ?_)) | refine zo ?_ | omega | refine zt zz.out ?_ | fail)); try (all_goals clear zz))
        all_goals (simp only [optK, Q2v, Q3i, ofA]; refine ⟨_, .refl _, .nil, .nil, .nil, .tok τ' 2, .full, sub2 (by (simp (disch := first | assumption | (apply zQ; assumption; assumption) | (apply zR; assumption; assumption; (intro e; cases e; done)) | omega) only [zn, zp, zq, zr, zv]); first | done | rfl) (by (simp (disch := first | assumption | (apply zQ; assumption; assumption) | (apply zR; assumption; assumption; (intro e; cases e; done)) | omega) only [zn, zp, zq, zr, zv]); first | done | rfl) ?_⟩; intro y o hy1 hy2 hy; have hy3 := Go.Cert.ne_of hy hτ1; (simp (disch := first | assumption | (apply zQ; assumption; assumption) | (apply zR; assumption; assumption; (intro e; cases e; done)) | omega) only [zn, zp, zq, zr, zv]); exact hy)
      · rw [if_neg hlm] at eH
        subst eH
        simp only [hlm] at h13l
        (refine vfun (fun k => if k = 2 ∨ k = 3 then .ro else .no) Q0h Tryz.func93 (by kernel_rfl) ?_; simp only [Q0f, Tryz.f93, zw])
        (have zz := Bx.mk (j2 ui3 (j9 ui4 ui9 ui24 ui78 ui42 Q6k ui75 Q0u (j9 @X1h true_or or_true or_self or_false false_or @Q8m @Q5e (j9 @Q5f @Q2v Z26 h27 hz27 hel hoo ht hd)))); (repeat' (first | exact zc | (with_reducible first | apply And.intro | apply Q0a | apply Q0b | refine Q0c (by decide +kernel) ?_ | intro _) | ((with_reducible refine .dms (fun _ => False) [(0, false), (1, false), (2, true), (3, true), (4, false), (5, true)] (by decide) (by decide +kernel) ?_); (refine zs zz.out ?_)) | ((with_reducible refine .dms (fun _ => False) [(0, false), (1, false), (2, true), (3, false), (4, true), (5, false), (6, true)] (by decide) (by decide +kernel) ?_); (refine zs zz.out ?_)) | ((with_reducible refine .dm (fun _ => False) [(0, false), (1, false), (2, true), (3, true), (4, false), (5, true)] (by decide) (by decide +kernel) ?_); (refine zs zz.out ?_)) | ((with_reducible refine .dm (fun _ => False) [(0, false), (1, false), (2, true), (3, false), (4, true), (5, false), (6, true)] (by decide) (by decide +kernel) ?_); (refine zs zz.out ?_)) | refine zaW zz.out ?_ | ((first | with_reducible refine Q0j (fun _ h => h.elim) ?_ | ((with_reducible refine zU h44 ?_); rintro _ S ⟨rfl, τ', ⟨hτ1, hτ2, hτ3⟩, rfl⟩) | (with_reducible refine uc (h41 _ _ (by exact zK) (by with_unfolding_all rfl)) ?_) | (with_reducible refine uc (h42 _ (by exact zK)) ?_) | (with_reducible refine uc (h13 _ (by exact zK)) ?_) | (with_reducible refine uc (h48 _ (by exact zK)) ?_) | (with_reducible refine uc (h51 _ (by exact zK)) ?_) | (with_reducible refine uc (h51b _ (by exact zK)) ?_) | (with_reducible refine uc (h13l _ (by exact zK)) ?_) | (with_reducible refine uc (h52 _ (by exact zK)) ?_) | (with_reducible refine uc (h42j _ (by exact zK)) ?_) | (with_reducible refine uc (h41j _ _ (by exact zK) (by with_unfolding_all rfl)) ?_) | (with_reducible refine uc (h10j _ (by exact zK)) ?_) | (refine Q0d (by exact zK) ?_) | (refine Q0e (by exact zK) ?_)); (try refine zs zz.out ?_)) | refine zo ?_ | omega | refine zt zz.out ?_ | fail)); try (all_goals clear zz))
        all_goals (simp only [optK, Q2v, Q3i, ofA]; refine ⟨_, .refl _, .nil, .nil, .nil, .tok τ' 2, .full, sub2 (by (simp (disch := first | assumption | (apply zQ; assumption; assumption) | (apply zR; assumption; assumption; (intro e; cases e; done)) | omega) only [zn, zp, zq, zr, zv]); first | done | rfl) (by (simp (disch := first | assumption | (apply zQ; assumption; assumption) | (apply zR; assumption; assumption; (intro e; cases e; done)) | omega) only [zn, zp, zq, zr, zv]); first | done | rfl) ?_⟩; intro y o hy1 hy2 hy; have hy3 := Go.Cert.ne_of hy hτ1; (simp (disch := first | assumption | (apply zQ; assumption; assumption) | (apply zR; assumption; assumption; (intro e; cases e; done)) | omega) only [zn, zp, zq, zr, zv]); exact hy)
    | cons eF rF =>
      rw [if_neg (by simp)] at eG
      obtain ⟨rfl, rfl⟩ : dG = sF.has [68, 69, 83, 67] ∧ sG = sF.pass [[68, 69, 83, 67]] := by simpa using eG
      by_cases hlm : (sF.pass [[68, 69, 83, 67]]).has [76, 73, 77, 73, 84] = true
      · rw [if_pos hlm] at eH
        subst eH
        simp only [hlm] at h13l
        have hE := Q1y (eF :: rF)
        simp only [Q3i] at h51b ⊢
        generalize exsA (eF :: rF) = EF at *
        obtain ⟨x0, r0, rfl⟩ : ∃ x r, EF = x :: r := by
          cases EF with
          | nil => simp at hE
          | cons x r => exact ⟨x, r, rfl⟩
        (refine vfun (fun k => if k = 2 ∨ k = 3 then .ro else .no) Q0h Tryz.func93 (by kernel_rfl) ?_; simp only [Q0f, Tryz.f93, zw])
        (have zz := Bx.mk (j2 ui3 (j9 ui4 ui9 ui24 ui78 ui42 Q6k ui75 Q0u (j9 @X1h true_or or_true or_self or_false false_or @Q8m @Q5e (j9 @Q5f @Q2v Z26 h27 hz27 hel hoo ht hd)))); (repeat' (first | exact zc | (with_reducible first | apply And.intro | apply Q0a | apply Q0b | refine Q0c (by decide +kernel) ?_ | intro _) | ((with_reducible refine .dms (fun _ => False) [(0, false), (1, false), (2, true), (3, true), (4, false), (5, true)] (by decide) (by decide +kernel) ?_); (refine zs zz.out ?_)) | ((with_reducible refine .dms (fun _ => False) [(0, false), (1, false), (2, true), (3, false), (4, true), (5, false), (6, true)] (by decide) (by decide +kernel) ?_); (refine zs zz.out ?_)) | ((with_reducible refine .dm (fun _ => False) [(0, false), (1, false), (2, true), (3, true), (4, false), (5, true)] (by decide) (by decide +kernel) ?_); (refine zs zz.out ?_)) | ((with_reducible refine .dm (fun _ => False) [(0, false), (1, false), (2, true), (3, false), (4, true), (5, false), (6, true)] (by decide) (by decide +kernel) ?_); (refine zs zz.out ?_)) | refine zaW zz.out ?_ | ((first | with_reducible refine Q0j (fun _ h => h.elim) ?_ | ((with_reducible refine zU h44 ?_); rintro _ S ⟨rfl, τ', ⟨hτ1, hτ2, hτ3⟩, rfl⟩) | (with_reducible refine uc (h41 _ _ (by exact zK) (by with_unfolding_all rfl)) ?_) | (with_reducible refine uc (h42 _ (by exact zK)) ?_) | (with_reducible refine uc (h13 _ (by exact zK)) ?_) | (with_reducible refine uc (h48 _ (by exact zK)) ?_) | (with_reducible refine uc (h51 _ (by exact zK)) ?_) | (with_reducible refine uc (h51b _ (by exact zK)) ?_) | (with_reducible refine uc (h13l _ (by exact zK)) ?_) | (with_reducible refine uc (h52 _ (by exact zK)) ?_) | (with_reducible refine uc (h42j _ (by exact zK)) ?_) | (with_reducible refine uc (h41j _ _ (by exact zK) (by with_unfolding_all rfl)) ?_) | (with_reducible refine uc (h10j _ (by exact zK)) ?_) | (with_reducible refine uc (h13d _ (by exact zK)) ?_) | (refine Q0d (by exact zK) ?_) | (refine Q0e (by exact zK) ?_)); (try refine zs zz.out ?_)) | refine zo ?_ | omega | refine zt zz.out ?_ | fail)); try (all_goals clear zz))
        all_goals (simp only [optK, Q2v, Q3i, ofA]; refine ⟨_, .refl _, .nil, .nil, .nil, .tok τ' 2, .full, sub2 (by (simp (disch := first | assumption | (apply zQ; assumption; assumption) | (apply zR; assumption; assumption; (intro e; cases e; done)) | omega) only [zn, zp, zq, zr, zv]); first | done | rfl) (by (simp (disch := first | assumption | (apply zQ; assumption; assumption) | (apply zR; assumption; assumption; (intro e; cases e; done)) | omega) only [zn, zp, zq, zr, zv]); first | done | rfl) ?_⟩; intro y o hy1 hy2 hy; have hy3 := Go.Cert.ne_of hy hτ1; (simp (disch := first | assumption | (apply zQ; assumption; assumption) | (apply zR; assumption; assumption; (intro e; cases e; done)) | omega) only [zn, zp, zq, zr, zv]); exact hy)
      · rw [if_neg hlm] at eH
        subst eH
        simp only [hlm] at h13l
        have hE := Q1y (eF :: rF)
        simp only [Q3i] at h51b ⊢
        generalize exsA (eF :: rF) = EF at *
        obtain ⟨x0, r0, rfl⟩ : ∃ x r, EF = x :: r := by
          cases EF with
          | nil => simp at hE
          | cons x r => exact ⟨x, r, rfl⟩
        (refine vfun (fun k => if k = 2 ∨ k = 3 then .ro else .no) Q0h Tryz.func93 (by kernel_rfl) ?_; simp only [Q0f, Tryz.f93, zw])
        (have zz := Bx.mk (j2 ui3 (j9 ui4 ui9 ui24 ui78 ui42 Q6k ui75 Q0u (j9 @X1h true_or or_true or_self or_false false_or @Q8m @Q5e (j9 @Q5f @Q2v Z26 h27 hz27 hel hoo ht hd)))); (repeat' (first | exact zc | (with_reducible first | apply And.intro | apply Q0a | apply Q0b | refine Q0c (by decide +kernel) ?_ | intro _) | ((with_reducible refine .dms (fun _ => False) [(0, false), (1, false), (2, true), (3, true), (4, false), (5, true)] (by decide) (by decide +kernel) ?_); (refine zs zz.out ?_)) | ((with_reducible refine .dms (fun _ => False) [(0, false), (1, false), (2, true), (3, false), (4, true), (5, false), (6, true)] (by decide) (by decide +kernel) ?_); (refine zs zz.out ?_)) | ((with_reducible refine .dm (fun _ => False) [(0, false), (1, false), (2, true), (3, true), (4, false), (5, true)] (by decide) (by decide +kernel) ?_); (refine zs zz.out ?_)) | ((with_reducible refine .dm (fun _ => False) [(0, false), (1, false), (2, true), (3, false), (4, true), (5, false), (6, true)] (by decide) (by decide +kernel) ?_); (refine zs zz.out ?_)) | refine zaW zz.out ?_ | ((first | with_reducible refine Q0j (fun _ h => h.elim) ?_ | ((with_reducible refine zU h44 ?_); rintro _ S ⟨rfl, τ', ⟨hτ1, hτ2, hτ3⟩, rfl⟩) | (with_reducible refine uc (h41 _ _ (by exact zK) (by with_unfolding_all rfl)) ?_) | (with_reducible refine uc (h42 _ (by exact zK)) ?_) | (with_reducible refine uc (h13 _ (by exact zK)) ?_) | (with_reducible refine uc (h48 _ (by exact zK)) ?_) | (with_reducible refine uc (h51 _ (by exact zK)) ?_) | (with_reducible refine uc (h51b _ (by exact zK)) ?_) | (with_reducible refine uc (h13l _ (by exact zK)) ?_) | (with_reducible refine uc (h52 _ (by exact zK)) ?_) | (with_reducible refine uc (h42j _ (by exact zK)) ?_) | (with_reducible refine uc (h41j _ _ (by exact zK) (by with_unfolding_all rfl)) ?_) | (with_reducible refine uc (h10j _ (by exact zK)) ?_) | (with_reducible refine uc (h13d _ (by exact zK)) ?_) | (refine Q0d (by exact zK) ?_) | (refine Q0e (by exact zK) ?_)); (try refine zs zz.out ?_)) | refine zo ?_ | omega | refine zt zz.out ?_ | fail)); try (all_goals clear zz))
        all_goals (simp only [optK, Q2v, Q3i, ofA]; refine ⟨_, .refl _, .nil, .nil, .nil, .tok τ' 2, .full, sub2 (by (simp (disch := first | assumption | (apply zQ; assumption; assumption) | (apply zR; assumption; assumption; (intro e; cases e; done)) | omega) only [zn, zp, zq, zr, zv]); first | done | rfl) (by (simp (disch := first | assumption | (apply zQ; assumption; assumption) | (apply zR; assumption; assumption; (intro e; cases e; done)) | omega) only [zn, zp, zq, zr, zv]); first | done | rfl) ?_⟩; intro y o hy1 hy2 hy; have hy3 := Go.Cert.ne_of hy hτ1; (simp (disch := first | assumption | (apply zQ; assumption; assumption) | (apply zR; assumption; assumption; (intro e; cases e; done)) | omega) only [zn, zp, zq, zr, zv]); exact hy)
  · rw [if_neg hj] at eC
    obtain ⟨rfl, rfl, rfl⟩ : jC = [] ∧ oC = [] ∧ sC = (sB.take 1).pass [[74, 79, 73, 78]] := by simpa using eC
    simp only [hj] at h13
    generalize sB.take 1 = s1 at *
    generalize s1.pass [[74, 79, 73, 78]] = s2 at *
    cases lF with
    | nil =>
      rw [if_pos rfl] at eG
      obtain ⟨rfl, rfl⟩ : dG = false ∧ sG = sF := by simpa using eG
      by_cases hlm : sG.has [76, 73, 77, 73, 84] = true
      · rw [if_pos hlm] at eH
        subst eH
        simp only [hlm] at h13l
        (refine vfun (fun k => if k = 2 ∨ k = 3 then .ro else .no) Q0h Tryz.func93 (by kernel_rfl) ?_; simp only [Q0f, Tryz.f93, zw])
        (have zz := Bx.mk (j3 ui3 ui4 (j9 ui9 ui24 ui78 ui42 Q6k ui75 Q0u @X1h (j9 true_or or_true or_self or_false false_or @Q8m @Q5e @Q5f @Q2v))); (repeat' (first | exact zc | (with_reducible first | apply And.intro | apply Q0a | apply Q0b | refine Q0c (by decide +kernel) ?_ | intro _) | ((with_reducible refine .dms (fun _ => False) [(0, false), (1, false), (2, true), (3, true), (4, false), (5, true)] (by decide) (by decide +kernel) ?_); (refine zs zz.out ?_)) | ((with_reducible refine .dms (fun _ => False) [(0, false), (1, false), (2, true), (3, false), (4, true), (5, false), (6, true)] (by decide) (by decide +kernel) ?_); (refine zs zz.out ?_)) | ((with_reducible refine .dm (fun _ => False) [(0, false), (1, false), (2, true), (3, true), (4, false), (5, true)] (by decide) (by decide +kernel) ?_); (refine zs zz.out ?_)) | ((with_reducible refine .dm (fun _ => False) [(0, false), (1, false), (2, true), (3, false), (4, true), (5, false), (6, true)] (by decide) (by decide +kernel) ?_); (refine zs zz.out ?_)) | refine zaW zz.out ?_ | ((first | with_reducible refine Q0j (fun _ h => h.elim) ?_ | ((with_reducible refine zU h44 ?_); rintro _ S ⟨rfl, τ', ⟨hτ1, hτ2, hτ3⟩, rfl⟩) | (with_reducible refine uc (h41 _ _ (by exact zK) (by with_unfolding_all rfl)) ?_) | (with_reducible refine uc (h42 _ (by exact zK)) ?_) | (with_reducible refine uc (h13 _ (by exact zK)) ?_) | (with_reducible refine uc (h48 _ (by exact zK)) ?_) | (with_reducible refine uc (h51 _ (by exact zK)) ?_) | (with_reducible refine uc (h51b _ (by exact zK)) ?_) | (with_reducible refine uc (h13l _ (by exact zK)) ?_) | (with_reducible refine uc (h52 _ (by exact zK)) ?_) | (refine Q0d (by exact zK) ?_) | (refine Q0e (by exact zK) ?_)); (try refine zs zz.out ?_)) | refine zo ?_ | omega | refine zt zz.out ?_ | fail)); try (all_goals clear zz))
        all_goals (simp only [optK, Q2v, Q3i, ofA]; refine ⟨_, .refl _, .nil, .nil, .nil, .tok τ' 2, .full, sub2 (by (simp (disch := first | assumption | (apply zQ; assumption; assumption) | (apply zR; assumption; assumption; (intro e; cases e; done)) | omega) only [zn, zp, zq, zr, zv]); first | done | rfl) (by (simp (disch := first | assumption | (apply zQ; assumption; assumption) | (apply zR; assumption; assumption; (intro e; cases e; done)) | omega) only [zn, zp, zq, zr, zv]); first | done | rfl) ?_⟩; intro y o hy1 hy2 hy; have hy3 := Go.Cert.ne_of hy hτ1; (simp (disch := first | assumption | (apply zQ; assumption; assumption) | (apply zR; assumption; assumption; (intro e; cases e; done)) | omega) only [zn, zp, zq, zr, zv]); exact hy)
      · rw [if_neg hlm] at eH
        subst eH
        simp only [hlm] at h13l
        (refine vfun (fun k => if k = 2 ∨ k = 3 then .ro else .no) Q0h Tryz.func93 (by kernel_rfl) ?_; simp only [Q0f, Tryz.f93, zw])
        (have zz := Bx.mk (j3 ui3 ui4 (j9 ui9 ui24 ui78 ui42 Q6k ui75 Q0u @X1h (j9 true_or or_true or_self or_false false_or @Q8m @Q5e @Q5f @Q2v))); (repeat' (first | exact zc | (with_reducible first | apply And.intro | apply Q0a | apply Q0b | refine Q0c (by decide +kernel) ?_ | intro _) | ((with_reducible refine .dms (fun _ => False) [(0, false), (1, false), (2, true), (3, true), (4, false), (5, true)] (by decide) (by decide +kernel) ?_); (refine zs zz.out ?_)) | ((with_reducible refine .dms (fun _ => False) [(0, false), (1, false), (2, true), (3, false), (4, true), (5, false), (6, true)] (by decide) (by decide +kernel) ?_); (refine zs zz.out ?_)) | ((with_reducible refine .dm (fun _ => False) [(0, false), (1, false), (2, true), (3, true), (4, false), (5, true)] (by decide) (by decide +kernel) ?_); (refine zs zz.out ?_)) | ((with_reducible refine .dm (fun _ => False) [(0, false), (1, false), (2, true), (3, false), (4, true), (5, false), (6, true)] (by decide) (by decide +kernel) ?_); (refine zs zz.out ?_)) | refine zaW zz.out ?_ | ((first | with_reducible refine Q0j (fun _ h => h.elim) ?_ | ((with_reducible refine zU h44 ?_); rintro _ S ⟨rfl, τ', ⟨hτ1, hτ2, hτ3⟩, rfl⟩) | (with_reducible refine uc (h41 _ _ (by exact zK) (by with_unfolding_all rfl)) ?_) | (with_reducible refine uc (h42 _ (by exact zK)) ?_) | (with_reducible refine uc (h13 _ (by exact zK)) ?_) | (with_reducible refine uc (h48 _ (by exact zK)) ?_) | (with_reducible refine uc (h51 _ (by exact zK)) ?_) | (with_reducible refine uc (h51b _ (by exact zK)) ?_) | (with_reducible refine uc (h13l _ (by exact zK)) ?_) | (with_reducible refine uc (h52 _ (by exact zK)) ?_) | (refine Q0d (by exact zK) ?_) | (refine Q0e (by exact zK) ?_)); (try refine zs zz.out ?_)) | refine zo ?_ | omega | refine zt zz.out ?_ | fail)); try (all_goals clear zz))
        all_goals (simp only [optK, Q2v, Q3i, ofA]; refine ⟨_, .refl _, .nil, .nil, .nil, .tok τ' 2, .full, sub2 (by (simp (disch := first | assumption | (apply zQ; assumption; assumption) | (apply zR; assumption; assumption; (intro e; cases e; done)) | omega) only [zn, zp, zq, zr, zv]); first | done | rfl) (by (simp (disch := first | assumption | (apply zQ; assumption; assumption) | (apply zR; assumption; assumption; (intro e; cases e; done)) | omega) only [zn, zp, zq, zr, zv]); first | done | rfl) ?_⟩; intro y o hy1 hy2 hy; have hy3 := Go.Cert.ne_of hy hτ1; (simp (disch := first | assumption | (apply zQ; assumption; assumption) | (apply zR; assumption; assumption; (intro e; cases e; done)) | omega) only [zn, zp, zq, zr, zv]); exact hy)
    | cons eF rF =>
      rw [if_neg (by simp)] at eG
      obtain ⟨rfl, rfl⟩ : dG = sF.has [68, 69, 83, 67] ∧ sG = sF.pass [[68, 69, 83, 67]] := by simpa using eG
      by_cases hlm : (sF.pass [[68, 69, 83, 67]]).has [76, 73, 77, 73, 84] = true
      · rw [if_pos hlm] at eH
        subst eH
        simp only [hlm] at h13l
        have hE := Q1y (eF :: rF)
        simp only [Q3i] at h51b ⊢
        generalize exsA (eF :: rF) = EF at *
        obtain ⟨x0, r0, rfl⟩ : ∃ x r, EF = x :: r := by
          cases EF with
          | nil => simp at hE
          | cons x r => exact ⟨x, r, rfl⟩
        (refine vfun (fun k => if k = 2 ∨ k = 3 then .ro else .no) Q0h Tryz.func93 (by kernel_rfl) ?_; simp only [Q0f, Tryz.f93, zw])
        (have zz := Bx.mk (j3 ui3 ui4 (j9 ui9 ui24 ui78 ui42 Q6k ui75 Q0u @X1h (j9 true_or or_true or_self or_false false_or @Q8m @Q5e @Q5f @Q2v))); (repeat' (first | exact zc | (with_reducible first | apply And.intro | apply Q0a | apply Q0b | refine Q0c (by decide +kernel) ?_ | intro _) | ((with_reducible refine .dms (fun _ => False) [(0, false), (1, false), (2, true), (3, true), (4, false), (5, true)] (by decide) (by decide +kernel) ?_); (refine zs zz.out ?_)) | ((with_reducible refine .dms (fun _ => False) [(0, false), (1, false), (2, true), (3, false), (4, true), (5, false), (6, true)] (by decide) (by decide +kernel) ?_); (refine zs zz.out ?_)) | ((with_reducible refine .dm (fun _ => False) [(0, false), (1, false), (2, true), (3, true), (4, false), (5, true)] (by decide) (by decide +kernel) ?_); (refine zs zz.out ?_)) | ((with_reducible refine .dm (fun _ => False) [(0, false), (1, false), (2, true), (3, false), (4, true), (5, false), (6, true)] (by decide) (by decide +kernel) ?_); (refine zs zz.out ?_)) | refine zaW zz.out ?_ | ((first | with_reducible refine Q0j (fun _ h => h.elim) ?_ | ((with_reducible refine zU h44 ?_); rintro _ S ⟨rfl, τ', ⟨hτ1, hτ2, hτ3⟩, rfl⟩) | (with_reducible refine uc (h41 _ _ (by exact zK) (by with_unfolding_all rfl)) ?_) | (with_reducible refine uc (h42 _ (by exact zK)) ?_) | (with_reducible refine uc (h13 _ (by exact zK)) ?_) | (with_reducible refine uc (h48 _ (by exact zK)) ?_) | (with_reducible refine uc (h51 _ (by exact zK)) ?_) | (with_reducible refine uc (h51b _ (by exact zK)) ?_) | (with_reducible refine uc (h13l _ (by exact zK)) ?_) | (with_reducible refine uc (h52 _ (by exact zK)) ?_) | (with_reducible refine uc (h13d _ (by exact zK)) ?_) | (refine Q0d (by exact zK) ?_) | (refine Q0e (by exact zK) ?_)); (try refine zs zz.out ?_)) | refine zo ?_ | omega | refine zt zz.out ?_ | fail)); try (all_goals clear zz))
        all_goals (simp only [optK, Q2v, Q3i, ofA]; refine ⟨_, .refl _, .nil, .nil, .nil, .tok τ' 2, .full, sub2 (by (simp (disch := first | assumption | (apply zQ; assumption; assumption) | (apply zR; assumption; assumption; (intro e; cases e; done)) | omega) only [zn, zp, zq, zr, zv]); first | done | rfl) (by (simp (disch := first | assumption | (apply zQ; assumption; assumption) | (apply zR; assumption; assumption; (intro e; cases e; done)) | omega) only [zn, zp, zq, zr, zv]); first | done | rfl) ?_⟩; intro y o hy1 hy2 hy; have hy3 := Go.Cert.ne_of hy hτ1; (simp (disch := first | assumption | (apply zQ; assumption; assumption) | (apply zR; assumption; assumption; (intro e; cases e; done)) | omega) only [zn, zp, zq, zr, zv]); exact hy)
      · rw [if_neg hlm] at eH
        subst eH
        simp only [hlm] at h13l
        have hE := Q1y (eF :: rF)
        simp only [Q3i] at h51b ⊢
        generalize exsA (eF :: rF) = EF at *
        obtain ⟨x0, r0, rfl⟩ : ∃ x r, EF = x :: r := by
          cases EF with
          | nil => simp at hE
          | cons x r => exact ⟨x, r, rfl⟩
        (refine vfun (fun k => if k = 2 ∨ k = 3 then .ro else .no) Q0h Tryz.func93 (by kernel_rfl) ?_; simp only [Q0f, Tryz.f93, zw])
        (have zz := Bx.mk (j3 ui3 ui4 (j9 ui9 ui24 ui78 ui42 Q6k ui75 Q0u @X1h (j9 true_or or_true or_self or_false false_or @Q8m @Q5e @Q5f @Q2v))); (repeat' (first | exact zc | (with_reducible first | apply And.intro | apply Q0a | apply Q0b | refine Q0c (by decide +kernel) ?_ | intro _) | ((with_reducible refine .dms (fun _ => False) [(0, false), (1, false), (2, true), (3, true), (4, false), (5, true)] (by decide) (by decide +kernel) ?_); (refine zs zz.out ?_)) | ((with_reducible refine .dms (fun _ => False) [(0, false), (1, false), (2, true), (3, false), (4, true), (5, false), (6, true)] (by decide) (by decide +kernel) ?_); (refine zs zz.out ?_)) | ((with_reducible refine .dm (fun _ => False) [(0, false), (1, false), (2, true), (3, true), (4, false), (5, true)] (by decide) (by decide +kernel) ?_); (refine zs zz.out ?_)) | ((with_reducible refine .dm (fun _ => False) [(0, false), (1, false), (2, true), (3, false), (4, true), (5, false), (6, true)] (by decide) (by decide +kernel) ?_); (refine zs zz.out ?_)) | refine zaW zz.out ?_ | ((first | with_reducible refine Q0j (fun _ h => h.elim) ?_ | ((with_reducible refine zU h44 ?_); rintro _ S ⟨rfl, τ', ⟨hτ1, hτ2, hτ3⟩, rfl⟩) | (with_reducible refine uc (h41 _ _ (by exact zK) (by with_unfolding_all rfl)) ?_) | (with_reducible refine uc (h42 _ (by exact zK)) ?_) | (with_reducible refine uc (h13 _ (by exact zK)) ?_) | (with_reducible refine uc (h48 _ (by exact zK)) ?_) | (with_reducible refine uc (h51 _ (by exact zK)) ?_) | (with_reducible refine uc (h51b _ (by exact zK)) ?_) | (with_reducible refine uc (h13l _ (by exact zK)) ?_) | (with_reducible refine uc (h52 _ (by exact zK)) ?_) | (with_reducible refine uc (h13d _ (by exact zK)) ?_) | (refine Q0d (by exact zK) ?_) | (refine Q0e (by exact zK) ?_)); (try refine zs zz.out ?_)) | refine zo ?_ | omega | refine zt zz.out ?_ | fail)); try (all_goals clear zz))
        all_goals (simp only [optK, Q2v, Q3i, ofA]; refine ⟨_, .refl _, .nil, .nil, .nil, .tok τ' 2, .full, sub2 (by (simp (disch := first | assumption | (apply zQ; assumption; assumption) | (apply zR; assumption; assumption; (intro e; cases e; done)) | omega) only [zn, zp, zq, zr, zv]); first | done | rfl) (by (simp (disch := first | assumption | (apply zQ; assumption; assumption) | (apply zR; assumption; assumption; (intro e; cases e; done)) | omega) only [zn, zp, zq, zr, zv]); first | done | rfl) ?_⟩; intro y o hy1 hy2 hy; have hy3 := Go.Cert.ne_of hy hτ1; (simp (disch := first | assumption | (apply zQ; assumption; assumption) | (apply zR; assumption; assumption; (intro e; cases e; done)) | omega) only [zn, zp, zq, zr, zv]); exact hy)
end Go.Proofs.YtjdapkelojdefaaGreatDoor
