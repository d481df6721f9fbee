/- Part 12 of the proof: S1, B15, B16, B17, B18, B19, B31, E2, V17, V20, V21, E3, E4, E7, E6, E5, E8. -/
import Derived.Test.YtjdapkelojdefaaGreatDoorN7
import Derived.Test.YtjdapkelojdefaaGreatDoorN11
import Derived.Test.YtjdapkelojdefaaGreatDoorN10
import Derived.Test.YtjdapkelojdefaaGreatDoorN4
import Derived.Test.YtjdapkelojdefaaGreatDoorN8
import Derived.Lib.Bytealg
import Derived.Lib.MakeNoZero
import Derived.Test.YtjdapkelojdefaaGreatDoorN6

set_option linter.all false
set_option maxRecDepth 100000
set_option maxHeartbeats 4000000
open Nat renaming reduceEqDiff → zb, reduceAdd → zc, reduceLeDiff → zd, reduceMul → ze, reduceSub → zf, lt_of_lt_of_le → zh
open Int renaming toNat_zero → zj, reduceToNat → zk
open Option renaming getD_some → zv
open List renaming length_append → zw, length_map → zA, append_assoc → zB, nil_append → zD
open Go.V.VCalls renaming mono → zR
open Go.Proofs.Tryz renaming underlying3 → Z3, underlying4 → Z4, underlying5 → Z5, underlying9 → Z9, underlying150 → Z150, underlying179 → Z179, underlying187 → Z187
namespace Go.Parse
open Go.V Go.Lex Go.Proofs.YtjdapkelojdefaaGreatDoor
def SmL (l : List Ex) : Prop := l.length ≤ 100 ∧ ∀ e ∈ l, Sm e
structure SmS (x : Stm) : Prop where
  cols : x.cols.length ≤ 100
  rows : x.rows.length ≤ 100
  row : ∀ r ∈ x.rows, r.length ≤ 100
  sets : x.sets.length ≤ 100
  set : ∀ y ∈ x.sets, Sm y.2
  items : x.items.length ≤ 100
  item : ∀ y ∈ x.items, SmL y.2
  on : SmL x.on
  wh : SmL x.wh
  gr : SmL x.gr
  or : SmL x.or
theorem SmL.nil : SmL [] := ⟨by decide, fun e h => by cases h⟩
theorem SmL.one {e : Ex} (h : Sm e) : SmL [e] := ⟨by simp, fun f hf => by simp at hf; rw [hf]; exact h⟩
theorem X9b (s : Rd) : Sm (exp s).1 := (dp_sm 11).ex s
theorem X4p {β : Type} {one : Rd → β × Rd} {P : β → Prop} (h : ∀ s, P (one s).1) (sep : By) : ∀ (k : Nat) (acc : List β) (s : Rd), (∀ x ∈ acc, P x) → (∀ x ∈ (Q2w one sep k acc s).1, P x) ∧ (Q2w one sep k acc s).1.length ≤ acc.length + k + 1
  | 0, acc, s, ha => ⟨fun x hx => by
      rcases List.mem_append.1 hx with q | q
      · exact ha x q
      · simp at q; rw [q]; exact h _, by simp [Q2w]⟩
  | k + 1, acc, s, ha => by
    have ha2 : ∀ x ∈ acc ++ [(one s).1], P x := fun x hx => by
      rcases List.mem_append.1 hx with q | q
      · exact ha x q
      · simp at q; rw [q]; exact h _
    unfold Q2w
    split
    · obtain ⟨h1, h2⟩ := X4p h sep k (acc ++ [(one s).1]) ((one s).2.pass [sep]) ha2
      refine ⟨h1, ?_⟩
      simp at h2; omega
    · refine ⟨ha2, ?_⟩
      simp
theorem Y0s (w : By) (s : Rd) : SmL (Q2r w s).1 := by
  unfold Q2r
  split
  · exact .one (X9b _)
  · exact .nil
theorem sm_by (w : By) (s : Rd) : SmL (byL w s).1 := by
  unfold byL
  split
  · exact .one (sm_column _)
  · exact .nil
theorem sm_tuple (s : Rd) : (Q4w s).1.length ≤ 100 := by
  have := (X4p (one := litV) (P := fun _ => True) (fun _ => trivial) [44] 8 [] (s.must [[40]]) (fun x h => by cases h)).2
  show (many litV 8 (s.must [[40]])).1.length ≤ 100
  exact Nat.le_trans this (by decide)
theorem sm_itemB (k : Int) (s : Rd) : SmL (X1m k s).1.2 := by
  unfold X1m
  split
  · exact .one (X9b _)
  · split
    · exact .nil
    · exact .one (X9b _)
theorem sm_item (s : Rd) : SmL (Q6h s).1.2 := by
  unfold Q6h
  split
  · exact .one (X9b _)
  · split
    · exact .nil
    · exact sm_itemB _ _
theorem sm_cols : ∀ (k : Nat) (acc : List Co) (s : Rd), (Q5b k acc s).1.length ≤ acc.length + k + 1
  | 0, acc, s => by unfold Q5b; split <;> simp
  | k + 1, acc, s => by
    unfold Q5b
    split
    · have := sm_cols k (acc ++ [(Q2x acc s).columnOf.1]) ((Q2x acc s).columnOf.2.must [[44]])
      simp at this; omega
    · simp; omega
theorem sm_join (s : Rd) : SmL (Q9r s).2.1 := by
  unfold Q9r
  split
  · exact .one (X9b _)
  · exact .nil
theorem sms0 : SmS stm0 := ⟨by decide, by decide, fun r h => (by cases h), by decide, fun r h => (by cases h), by decide, fun r h => (by cases h), .nil, .nil, .nil, .nil⟩
theorem sm_state (s : Rd) : SmS (Q1e s).1 := by
  unfold Q1e Q8y
  split
  · exact sms0
  split
  · exact { sms0 with cols := Nat.le_trans (sm_cols 8 [] (crB (s.pass wKinds))) (by decide) }
  split
  · exact { sms0 with }
  split
  · obtain ⟨h1, h2⟩ := X4p (one := Q4w) (P := fun r => r.length ≤ 100) sm_tuple [44] 16 [] (((inA (s.pass wKinds)).take 1).must [[86, 65, 76, 85, 69, 83]]) (fun x h => by cases h)
    exact { sms0 with rows := Nat.le_trans h2 (by decide), row := h1 }
  split
  · obtain ⟨h1, h2⟩ := X4p (one := setL) (P := fun r => Sm r.2) (fun s => X9b _) [44] 8 [] (((s.pass wKinds).take 1).must [[83, 69, 84]]) (fun x h => by cases h)
    exact { sms0 with sets := Nat.le_trans h2 (by decide), set := h1, wh := Y0s _ _ }
  split
  · exact { sms0 with wh := Y0s _ _ }
  split
  · obtain ⟨h1, h2⟩ := X4p (one := Q6h) (P := fun r => SmL r.2) (fun s => sm_item _) [44] 8 [] (s.pass wKinds) (fun x h => by cases h)
    exact { sms0 with items := Nat.le_trans h2 (by decide), item := h1, on := sm_join _, wh := Y0s _ _, gr := sm_by _ _, or := sm_by _ _ }
  · exact sms0
theorem sm_script (b : By) : (Q0r b).1.length ≤ 100 ∧ ∀ x ∈ (Q0r b).1, SmS x := by
  unfold Q0r
  split
  · rename_i l _
    unfold Q9k
    split
    · obtain ⟨h1, h2⟩ := X4p (one := Q1e) (P := SmS) sm_state [59] 8 [] (rd0 l) (fun x h => by cases h)
      refine ⟨?_, h1⟩
      exact Nat.le_trans h2 (by decide)
    · exact ⟨Nat.zero_le _, fun x h => by cases h⟩
  · exact ⟨Nat.zero_le _, fun x h => by cases h⟩
end Go.Parse
namespace Go.Proofs.YtjdapkelojdefaaGreatDoor
open Go Go.V Go.Lex Go.Parse
theorem Q3y {α : Type} {f : α → List AV} {l : List α} {k : Nat} (h : k < l.length) : (l.map f).getD k [] = f l[k] := by
  rw [List.getD_eq_getElem?_getD, List.getElem?_map, List.getElem?_eq_getElem h]; rfl
theorem Q3z {α : Type} {f : α → List AV} {n : Nat} (l : List α) (h : ∀ x, (f x).length = n) : Q1t (l.map f) n = True := eq_true fun e he => by
  obtain ⟨x, _, rfl⟩ := List.mem_map.1 he
  exact h x
theorem X9c {P : Program} {d : Nat} {t : TypeId} {a b : Bool} (hu : P.underlying t = some .bool) : X0x P (d + 1) t (.b a) (.b b) = some (a == b) := by
  simp only [X0x, hu, veq]
theorem eqCo {d : TypeDesc} {s s' : ByteArray} {a a' : Int} {p p' q q' : Bool} : veqT Tryz.prog 132 d (.agg [.s s, .i a, .b p, .b q]) (.agg [.s s', .i a', .b p', .b q']) = some (sEq s s' && (decide (a = a') && ((p == p') && ((q == q') && true)))) := by
  rw [Y0b (by kernel_rfl), X1f (d := 9999) Tryz.underlying132 (by kernel_rfl)]
  exact Q3w (by decide) (Q1x Q2k Z9 rfl) (Q1x Q2k Z9 rfl) (X6u Z9) (Q3w (by decide) (Q1x Q2b Z3 rfl) (Q1x Q2b Z3 rfl) (X1g Z3) (Q3w (by decide) (Q1x Q5g Z4 rfl) (Q1x Q5g Z4 rfl) (X9c Z4) (Q3w (by decide) (Q1x Q5g Z4 rfl) (Q1x Q5g Z4 rfl) (X9c Z4) rfl)))
theorem q_vals (l : List Vl) (hl : l.length ≤ 100) (σ : Sg) : VCalls Tryz.prog 149 [.sl .any (X0w l), .sl .any (X0w l)] σ (fun x σ' => x = .b true ∧ σ' = σ) := by
  unfold X0w
  have hn : (l.map valA).length = l.length := zA ..
  have hall := Q3z (f := valA) (n := 3) l (fun _ => rfl)
  have hgt := fun k (h : k < l.length) => Q3y (f := valA) h
  generalize l.map valA = L at *
  (refine vfun (fun _ => .ro) Q0h Tryz.func149 (by kernel_rfl) ?_; simp only [Q0f, Tryz.f149, zv])
  (have zz := Bx.mk (j9 ui0 ui3 ui4 ui9 ui22 ui23 Q1p hn hall); (repeat' (first | with_reducible rfl | exact trivial | (with_reducible first | apply And.intro | apply Q0a | apply Q0b | refine Q0c (by decide +kernel) ?_ | intro _) | refine zaY zz.out ?_ | ((first | (refine Q0d (by exact Go.V.zK) ?_) | (refine Q0e (by exact Go.V.zK) ?_)); (try refine zsY zz.out ?_)) | refine zo ?_ | omega | refine ztY zz.out ?_ | fail)); try (all_goals clear zz))
  refine VW.loop3 (0 : Nat) () () (fun k _ _ => k ≤ l.length) (fun k _ _ => [(0, .sl .any L), (1, .sl .any L), (5, .i k)]) (fun _ _ _ => σ) (fun k _ _ => l.length - k) (by omega) (.refl _) ?_ ?_
  · simp only [vO, vQ, ↓vP, vE, vS, vB, vL, vF, vM, vN, Q0g, zb, zc, zd, ne_eq, not_false_eq_true, ze, zf, zj, zk, vT]
    all_goals rfl
  rintro k _ _ hk
  rcases Nat.lt_or_ge k l.length with hk2 | hk2
  · have hg := hgt k hk2
    have hg2 : valA l[k] = [.i l[k].1, .i l[k].2.1, .s (bs l[k].2.2)] := rfl
    rw [hg2] at hg
    have he : ∀ d, veqT Tryz.prog 23 d (.agg [.i l[k].1, .i l[k].2.1, .s (bs l[k].2.2)]) (.agg [.i l[k].1, .i l[k].2.1, .s (bs l[k].2.2)]) = some true := fun d => by rw [eq24]; simp [sEq]
    clear hg2
    generalize l[k].1 = va at *
    generalize l[k].2.1 = vb at *
    generalize l[k].2.2 = vc at *
    (have zz := Bx.mk (j3 ui0 ui3 (j9 ui4 ui9 ui22 ui23 Q1p hn hall hg he)); (repeat' (first | with_reducible rfl | exact trivial | (with_reducible first | apply And.intro | apply Q0a | apply Q0b | refine Q0c (by decide +kernel) ?_ | intro _) | refine zaY zz.out ?_ | ((first | (refine Q0d (by exact Go.V.zK) ?_) | (refine Q0e (by exact Go.V.zK) ?_)); (try refine zsY zz.out ?_)) | refine zo ?_ | omega | refine ztY zz.out ?_ | fail)); try (all_goals clear zz))
    exact ⟨k + 1, (), (), ⟨hk2, by omega⟩, .refl _, rfl⟩
  · (have zz := Bx.mk (j9 ui0 ui3 ui4 ui9 ui22 ui23 Q1p hn hall); (repeat' (first | with_reducible rfl | exact trivial | (with_reducible first | apply And.intro | apply Q0a | apply Q0b | refine Q0c (by decide +kernel) ?_ | intro _) | refine zaY zz.out ?_ | ((first | (refine Q0d (by exact Go.V.zK) ?_) | (refine Q0e (by exact Go.V.zK) ?_)); (try refine zsY zz.out ?_)) | refine zo ?_ | omega | refine ztY zz.out ?_ | fail)); try (all_goals clear zz))
    exact ⟨_, .refl _, rfl⟩
theorem q_rows (l : List (List Vl)) (hl : l.length ≤ 100) (hr : ∀ r ∈ l, r.length ≤ 100) (σ : Sg) : VCalls Tryz.prog 95 [.sl .any (l.map rowA), .sl .any (l.map rowA)] σ (fun x σ' => x = .b true ∧ σ' = σ) := by
  have hn : (l.map rowA).length = l.length := zA ..
  have hall := Q3z (f := rowA) (n := 1) l (fun _ => rfl)
  have hgt := fun k (h : k < l.length) => Q3y (f := rowA) h
  generalize l.map rowA = L at *
  (refine vfun (fun _ => .no) Q0h Tryz.func95 (by kernel_rfl) ?_; simp only [Q0f, Tryz.f95, zv])
  (have zz := Bx.mk (j2 ui0 (j9 ui3 ui4 ui9 ui22 ui23 ui38 Q1p hn hall)); (repeat' (first | with_reducible rfl | exact trivial | (with_reducible first | apply And.intro | apply Q0a | apply Q0b | refine Q0c (by decide +kernel) ?_ | intro _) | refine zaY zz.out ?_ | ((first | (with_reducible refine uc (q_vals _ (by assumption) _) ?_) | (refine Q0d (by exact Go.V.zK) ?_) | (refine Q0e (by exact Go.V.zK) ?_)); (try refine zsY zz.out ?_)) | refine zo ?_ | omega | refine ztY zz.out ?_ | fail)); try (all_goals clear zz))
  refine VW.loop3 (0 : Nat) () () (fun k _ _ => k ≤ l.length) (fun k _ _ => [(0, .sl .any L), (1, .sl .any L), (5, .i k)]) (fun _ _ _ => σ) (fun k _ _ => l.length - k) (by omega) (.refl _) ?_ ?_
  · simp only [vO, vQ, ↓vP, vE, vS, vB, vL, vF, vM, vN, Q0g, zb, zc, zd, ne_eq, not_false_eq_true, ze, zf, zj, zk, vT]
    all_goals rfl
  rintro k _ _ hk
  rcases Nat.lt_or_ge k l.length with hk2 | hk2
  · have hg := hgt k hk2
    have h1 : (l[k]).length ≤ 100 := hr _ (List.getElem_mem hk2)
    unfold rowA at hg
    generalize l[k] = R at *
    (have zz := Bx.mk (j3 ui0 ui3 (j9 ui4 ui9 ui22 ui23 ui38 Q1p hn hall hg)); (repeat' (first | with_reducible rfl | exact trivial | (with_reducible first | apply And.intro | apply Q0a | apply Q0b | refine Q0c (by decide +kernel) ?_ | intro _) | refine zaY zz.out ?_ | ((first | (with_reducible refine uc (q_vals _ (by assumption) _) ?_) | (refine Q0d (by exact Go.V.zK) ?_) | (refine Q0e (by exact Go.V.zK) ?_)); (try refine zsY zz.out ?_)) | refine zo ?_ | omega | refine ztY zz.out ?_ | fail)); try (all_goals clear zz))
    exact ⟨k + 1, (), (), ⟨hk2, by omega⟩, .refl _, rfl⟩
  · (have zz := Bx.mk (j2 ui0 (j9 ui3 ui4 ui9 ui22 ui23 ui38 Q1p hn hall)); (repeat' (first | with_reducible rfl | exact trivial | (with_reducible first | apply And.intro | apply Q0a | apply Q0b | refine Q0c (by decide +kernel) ?_ | intro _) | refine zaY zz.out ?_ | ((first | (with_reducible refine uc (q_vals _ (by assumption) _) ?_) | (refine Q0d (by exact Go.V.zK) ?_) | (refine Q0e (by exact Go.V.zK) ?_)); (try refine zsY zz.out ?_)) | refine zo ?_ | omega | refine ztY zz.out ?_ | fail)); try (all_goals clear zz))
    exact ⟨_, .refl _, rfl⟩
theorem q_cols (l : List Co) (hl : l.length ≤ 100) (σ : Sg) : VCalls Tryz.prog 94 [.sl .any (l.map coA), .sl .any (l.map coA)] σ (fun x σ' => x = .b true ∧ σ' = σ) := by
  have hn : (l.map coA).length = l.length := zA ..
  have hall := Q3z (f := coA) (n := 4) l (fun _ => rfl)
  have hgt := fun k (h : k < l.length) => Q3y (f := coA) h
  generalize l.map coA = L at *
  (refine vfun (fun _ => .ro) Q0h Tryz.func94 (by kernel_rfl) ?_; simp only [Q0f, Tryz.f94, zv])
  (have zz := Bx.mk (j9 ui0 ui3 ui4 ui9 ui37 Q2c Q2d hn hall); (repeat' (first | with_reducible rfl | exact trivial | (with_reducible first | apply And.intro | apply Q0a | apply Q0b | refine Q0c (by decide +kernel) ?_ | intro _) | refine zaY zz.out ?_ | ((first | (refine Q0d (by exact Go.V.zK) ?_) | (refine Q0e (by exact Go.V.zK) ?_)); (try refine zsY zz.out ?_)) | refine zo ?_ | omega | refine ztY zz.out ?_ | fail)); try (all_goals clear zz))
  refine VW.loop3 (0 : Nat) () () (fun k _ _ => k ≤ l.length) (fun k _ _ => [(0, .sl .any L), (1, .sl .any L), (5, .i k)]) (fun _ _ _ => σ) (fun k _ _ => l.length - k) (by omega) (.refl _) ?_ ?_
  · simp only [vO, vQ, ↓vP, vE, vS, vB, vL, vF, vM, vN, Q0g, zb, zc, zd, ne_eq, not_false_eq_true, ze, zf, zj, zk, vT]
    all_goals rfl
  rintro k _ _ hk
  rcases Nat.lt_or_ge k l.length with hk2 | hk2
  · have hg := hgt k hk2
    have hg2 : coA l[k] = [.s (bs l[k].1), .i l[k].2.1, .b l[k].2.2.1, .b l[k].2.2.2] := rfl
    rw [hg2] at hg
    have he : ∀ d, veqT Tryz.prog 132 d (.agg [.s (bs l[k].1), .i l[k].2.1, .b l[k].2.2.1, .b l[k].2.2.2]) (.agg [.s (bs l[k].1), .i l[k].2.1, .b l[k].2.2.1, .b l[k].2.2.2]) = some true := fun d => by rw [eqCo]; simp [sEq]
    clear hg2
    generalize l[k].1 = va at *
    generalize l[k].2.1 = vb at *
    generalize l[k].2.2.1 = vc at *
    generalize l[k].2.2.2 = vd at *
    (have zz := Bx.mk (j3 ui0 ui3 (j9 ui4 ui9 ui37 Q2c Q2d hn hall hg he)); (repeat' (first | with_reducible rfl | exact trivial | (with_reducible first | apply And.intro | apply Q0a | apply Q0b | refine Q0c (by decide +kernel) ?_ | intro _) | refine zaY zz.out ?_ | ((first | (refine Q0d (by exact Go.V.zK) ?_) | (refine Q0e (by exact Go.V.zK) ?_)); (try refine zsY zz.out ?_)) | refine zo ?_ | omega | refine ztY zz.out ?_ | fail)); try (all_goals clear zz))
    exact ⟨k + 1, (), (), ⟨hk2, by omega⟩, .refl _, rfl⟩
  · (have zz := Bx.mk (j9 ui0 ui3 ui4 ui9 ui37 Q2c Q2d hn hall); (repeat' (first | with_reducible rfl | exact trivial | (with_reducible first | apply And.intro | apply Q0a | apply Q0b | refine Q0c (by decide +kernel) ?_ | intro _) | refine zaY zz.out ?_ | ((first | (refine Q0d (by exact Go.V.zK) ?_) | (refine Q0e (by exact Go.V.zK) ?_)); (try refine zsY zz.out ?_)) | refine zo ?_ | omega | refine ztY zz.out ?_ | fail)); try (all_goals clear zz))
    exact ⟨_, .refl _, rfl⟩
theorem q_exps {l : List Ex} (h : SmL l) (σ : Sg) : VCalls Tryz.prog 26 [.sl .any (exsA l), .sl .any (exsA l)] σ (fun x σ' => x = .b true ∧ σ' = σ) := p12 l (fun i hi σ => p7 (h.2 _ (List.getElem_mem hi)) σ) h.1 σ
theorem q_sets (l : List Se) (hl : l.length ≤ 100) (hr : ∀ r ∈ l, Sm r.2) (σ : Sg) : VCalls Tryz.prog 96 [.sl .any (l.map setA), .sl .any (l.map setA)] σ (fun x σ' => x = .b true ∧ σ' = σ) := by
  have hn : (l.map setA).length = l.length := zA ..
  have hall := Q3z (f := setA) (n := 9) l (fun x => by simp [setA, Q0u])
  have hgt := fun k (h : k < l.length) => Q3y (f := setA) h
  generalize l.map setA = L at *
  (refine vfun (fun _ => .no) Q0h Tryz.func96 (by kernel_rfl) ?_; simp only [Q0f, Tryz.f96, zv])
  (have zz := Bx.mk (j6 ui0 ui3 ui4 ui9 ui22 (j9 ui23 ui24 ui25 ui26 ui39 ui67 ui68 hn hall)); (repeat' (first | with_reducible rfl | exact trivial | (with_reducible first | apply And.intro | apply Q0a | apply Q0b | refine Q0c (by decide +kernel) ?_ | intro _) | refine zaY zz.out ?_ | ((first | (with_reducible refine uc (p7 (by assumption) _) ?_) | (refine Q0d (by exact Go.V.zK) ?_) | (refine Q0e (by exact Go.V.zK) ?_)); (try refine zsY zz.out ?_)) | refine zo ?_ | omega | refine ztY zz.out ?_ | fail)); try (all_goals clear zz))
  refine VW.loop3 (0 : Nat) () () (fun k _ _ => k ≤ l.length) (fun k _ _ => [(0, .sl .any L), (1, .sl .any L), (5, .i k)]) (fun _ _ _ => σ) (fun k _ _ => l.length - k) (by omega) (.refl _) ?_ ?_
  · simp only [vO, vQ, ↓vP, vE, vS, vB, vL, vF, vM, vN, Q0g, zb, zc, zd, ne_eq, not_false_eq_true, ze, zf, zj, zk, vT]
    all_goals rfl
  rintro k _ _ hk
  rcases Nat.lt_or_ge k l.length with hk2 | hk2
  · have hg := hgt k hk2
    have h1 : Sm (l[k]).2 := hr _ (List.getElem_mem hk2)
    have h7 := p7 h1
    have hFl := Q0u (l[k]).2
    have hFt := Q0t (l[k]).2
    have hFd := Q1a (l[k]).2
    unfold setA at hg
    generalize exA (l[k]).2 = E at *
    generalize (l[k]).1 = nm at *
    (have zz := Bx.mk (j2 ui0 (j9 ui3 ui4 ui9 ui22 ui23 ui24 ui25 ui26 (j9 ui39 ui67 ui68 hn hall hg hFl hFt hFd))); (repeat' (first | with_reducible rfl | exact trivial | (with_reducible first | apply And.intro | apply Q0a | apply Q0b | refine Q0c (by decide +kernel) ?_ | intro _) | refine zaY zz.out ?_ | ((first | (with_reducible refine uc (h7 _) ?_) | (with_reducible refine uc (p7 (by assumption) _) ?_) | (refine Q0d (by exact Go.V.zK) ?_) | (refine Q0e (by exact Go.V.zK) ?_)); (try refine zsY zz.out ?_)) | refine zo ?_ | omega | refine ztY zz.out ?_ | fail)); try (all_goals clear zz))
    exact ⟨k + 1, (), (), ⟨hk2, by omega⟩, .refl _, rfl⟩
  · (have zz := Bx.mk (j6 ui0 ui3 ui4 ui9 ui22 (j9 ui23 ui24 ui25 ui26 ui39 ui67 ui68 hn hall)); (repeat' (first | with_reducible rfl | exact trivial | (with_reducible first | apply And.intro | apply Q0a | apply Q0b | refine Q0c (by decide +kernel) ?_ | intro _) | refine zaY zz.out ?_ | ((first | (with_reducible refine uc (p7 (by assumption) _) ?_) | (refine Q0d (by exact Go.V.zK) ?_) | (refine Q0e (by exact Go.V.zK) ?_)); (try refine zsY zz.out ?_)) | refine zo ?_ | omega | refine ztY zz.out ?_ | fail)); try (all_goals clear zz))
    exact ⟨_, .refl _, rfl⟩
theorem q_items (l : List It) (hl : l.length ≤ 100) (hr : ∀ r ∈ l, SmL r.2) (σ : Sg) : VCalls Tryz.prog 97 [.sl .any (l.map Q3x), .sl .any (l.map Q3x)] σ (fun x σ' => x = .b true ∧ σ' = σ) := by
  have hn : (l.map Q3x).length = l.length := zA ..
  have hall := Q3z (f := Q3x) (n := 2) l (fun _ => rfl)
  have hgt := fun k (h : k < l.length) => Q3y (f := Q3x) h
  generalize l.map Q3x = L at *
  (refine vfun (fun _ => .no) Q0h Tryz.func97 (by kernel_rfl) ?_; simp only [Q0f, Tryz.f97, zv])
  (have zz := Bx.mk (j6 ui0 ui3 ui4 ui9 ui22 (j9 ui23 ui24 ui25 ui26 ui40 ui70 ui71 hn hall)); (repeat' (first | with_reducible rfl | exact trivial | (with_reducible first | apply And.intro | apply Q0a | apply Q0b | refine Q0c (by decide +kernel) ?_ | intro _) | refine zaY zz.out ?_ | ((first | (with_reducible refine uc (q_exps (by assumption) _) ?_) | (refine Q0d (by exact Go.V.zK) ?_) | (refine Q0e (by exact Go.V.zK) ?_)); (try refine zsY zz.out ?_)) | refine zo ?_ | omega | refine ztY zz.out ?_ | fail)); try (all_goals clear zz))
  refine VW.loop3 (0 : Nat) () () (fun k _ _ => k ≤ l.length) (fun k _ _ => [(0, .sl .any L), (1, .sl .any L), (5, .i k)]) (fun _ _ _ => σ) (fun k _ _ => l.length - k) (by omega) (.refl _) ?_ ?_
  · simp only [vO, vQ, ↓vP, vE, vS, vB, vL, vF, vM, vN, Q0g, zb, zc, zd, ne_eq, not_false_eq_true, ze, zf, zj, zk, vT]
    all_goals rfl
  rintro k _ _ hk
  rcases Nat.lt_or_ge k l.length with hk2 | hk2
  · have hg := hgt k hk2
    have h1 : SmL (l[k]).2 := hr _ (List.getElem_mem hk2)
    unfold Q3x at hg
    generalize (l[k]).2 = E at *
    generalize (l[k]).1 = nm at *
    (have zz := Bx.mk (j7 ui0 ui3 ui4 ui9 ui22 ui23 (j9 ui24 ui25 ui26 ui40 ui70 ui71 hn hall hg)); (repeat' (first | with_reducible rfl | exact trivial | (with_reducible first | apply And.intro | apply Q0a | apply Q0b | refine Q0c (by decide +kernel) ?_ | intro _) | refine zaY zz.out ?_ | ((first | (with_reducible refine uc (q_exps (by assumption) _) ?_) | (refine Q0d (by exact Go.V.zK) ?_) | (refine Q0e (by exact Go.V.zK) ?_)); (try refine zsY zz.out ?_)) | refine zo ?_ | omega | refine ztY zz.out ?_ | fail)); try (all_goals clear zz))
    exact ⟨k + 1, (), (), ⟨hk2, by omega⟩, .refl _, rfl⟩
  · (have zz := Bx.mk (j6 ui0 ui3 ui4 ui9 ui22 (j9 ui23 ui24 ui25 ui26 ui40 ui70 ui71 hn hall)); (repeat' (first | with_reducible rfl | exact trivial | (with_reducible first | apply And.intro | apply Q0a | apply Q0b | refine Q0c (by decide +kernel) ?_ | intro _) | refine zaY zz.out ?_ | ((first | (with_reducible refine uc (q_exps (by assumption) _) ?_) | (refine Q0d (by exact Go.V.zK) ?_) | (refine Q0e (by exact Go.V.zK) ?_)); (try refine zsY zz.out ?_)) | refine zo ?_ | omega | refine ztY zz.out ?_ | fail)); try (all_goals clear zz))
    exact ⟨_, .refl _, rfl⟩
theorem Y0t {x : Stm} (h : SmS x) (σ : Sg) : VCalls Tryz.prog 40 [.agg (stmA x), .agg (stmA x)] σ (fun x σ' => x = .b true ∧ σ' = σ) := by
  obtain ⟨h1, h2, h3, h4, h5, h6, h7, h8, h9, h10, h11⟩ := h
  unfold stmA
  cases x with
  | mk k t cols pk rows sets items join on wh gr or desc lim =>
  (refine vfun (fun _ => .no) Q0h Tryz.func40 (by kernel_rfl) ?_; simp only [Q0f, Tryz.f40, zv])
  (have zz := Bx.mk (j6 ui0 ui3 ui4 ui9 ui22 (j9 ui23 ui24 ui25 ui26 ui37 ui38 ui39 ui40 (j9 ui41 ui42 ui67 ui68 ui70 ui71 Q1p Q2c Q2d))); (repeat' (first | with_reducible rfl | exact trivial | (with_reducible first | apply And.intro | apply Q0a | apply Q0b | refine Q0c (by decide +kernel) ?_ | intro _) | refine zaY zz.out ?_ | ((first | (with_reducible refine uc (q_exps (by assumption) _) ?_) | (with_reducible refine uc (q_cols _ (by assumption) _) ?_) | (with_reducible refine uc (q_rows _ (by assumption) (by assumption) _) ?_) | (with_reducible refine uc (q_sets _ (by assumption) (by assumption) _) ?_) | (with_reducible refine uc (q_items _ (by assumption) (by assumption) _) ?_) | (refine Q0d (by exact Go.V.zK) ?_) | (refine Q0e (by exact Go.V.zK) ?_)); (try refine zsY zz.out ?_)) | refine zo ?_ | omega | refine ztY zz.out ?_ | fail)); try (all_goals clear zz))
  all_goals (first | (exact Go.V.zE) | exact absurd (beq_self_eq_true _) (by assumption))
theorem q_all (l : List Stm) (hl : l.length ≤ 100) (hr : ∀ r ∈ l, SmS r) (σ : Sg) : VCalls Tryz.prog 19 [.sl .any (l.map stmA), .sl .any (l.map stmA)] σ (fun x σ' => x = .b true ∧ σ' = σ) := by
  have hn : (l.map stmA).length = l.length := zA ..
  have hall := Q3z (f := stmA) (n := 14) l (fun _ => rfl)
  have hgt := fun k (h : k < l.length) => Q3y (f := stmA) h
  generalize l.map stmA = L at *
  (refine vfun (fun _ => .no) Q0h Tryz.func19 (by kernel_rfl) ?_; simp only [Q0f, Tryz.f19, zv])
  (have zz := Bx.mk (j9 ui0 ui3 ui4 ui9 ui22 ui23 ui24 ui25 (j9 ui26 ui35 ui37 ui38 ui39 ui40 ui41 ui42 (j9 ui67 ui68 ui70 ui71 Q1p Q2c Q2d hn hall))); (repeat' (first | with_reducible rfl | exact trivial | (with_reducible first | apply And.intro | apply Q0a | apply Q0b | refine Q0c (by decide +kernel) ?_ | intro _) | refine zaY zz.out ?_ | ((first | (with_reducible refine uc (Y0t (by assumption) _) ?_) | (refine Q0d (by exact Go.V.zK) ?_) | (refine Q0e (by exact Go.V.zK) ?_)); (try refine zsY zz.out ?_)) | refine zo ?_ | omega | refine ztY zz.out ?_ | fail)); try (all_goals clear zz))
  refine VW.loop3 (0 : Nat) () () (fun k _ _ => k ≤ l.length) (fun k _ _ => [(0, .sl .any L), (1, .sl .any L), (5, .i k)]) (fun _ _ _ => σ) (fun k _ _ => l.length - k) (by omega) (.refl _) ?_ ?_
  · simp only [vO, vQ, ↓vP, vE, vS, vB, vL, vF, vM, vN, Q0g, zb, zc, zd, ne_eq, not_false_eq_true, ze, zf, zj, zk, vT]
    all_goals rfl
  rintro k _ _ hk
  rcases Nat.lt_or_ge k l.length with hk2 | hk2
  · have hg := hgt k hk2
    have h1 : SmS l[k] := hr _ (List.getElem_mem hk2)
    have h7 := Y0t h1
    have hFl := X0n l[k]
    have hFt := Q8i l[k]
    generalize stmA l[k] = R at *
    (have zz := Bx.mk (j4 ui0 ui3 ui4 (j9 ui9 ui22 ui23 ui24 ui25 ui26 ui35 ui37 (j9 ui38 ui39 ui40 ui41 ui42 ui67 ui68 ui70 (j9 ui71 Q1p Q2c Q2d hn hall hg hFl hFt)))); (repeat' (first | with_reducible rfl | exact trivial | (with_reducible first | apply And.intro | apply Q0a | apply Q0b | refine Q0c (by decide +kernel) ?_ | intro _) | refine zaY zz.out ?_ | ((first | (with_reducible refine uc (h7 _) ?_) | (with_reducible refine uc (Y0t (by assumption) _) ?_) | (refine Q0d (by exact Go.V.zK) ?_) | (refine Q0e (by exact Go.V.zK) ?_)); (try refine zsY zz.out ?_)) | refine zo ?_ | omega | refine ztY zz.out ?_ | fail)); try (all_goals clear zz))
    exact ⟨k + 1, (), (), ⟨hk2, by omega⟩, .refl _, rfl⟩
  · (have zz := Bx.mk (j9 ui0 ui3 ui4 ui9 ui22 ui23 ui24 ui25 (j9 ui26 ui35 ui37 ui38 ui39 ui40 ui41 ui42 (j9 ui67 ui68 ui70 ui71 Q1p Q2c Q2d hn hall))); (repeat' (first | with_reducible rfl | exact trivial | (with_reducible first | apply And.intro | apply Q0a | apply Q0b | refine Q0c (by decide +kernel) ?_ | intro _) | refine zaY zz.out ?_ | ((first | (with_reducible refine uc (Y0t (by assumption) _) ?_) | (refine Q0d (by exact Go.V.zK) ?_) | (refine Q0e (by exact Go.V.zK) ?_)); (try refine zsY zz.out ?_)) | refine zo ?_ | omega | refine ztY zz.out ?_ | fail)); try (all_goals clear zz))
    exact ⟨_, .refl _, rfl⟩
end Go.Proofs.YtjdapkelojdefaaGreatDoor
namespace Go.Parse
open Go.V Go.Lex Go.Proofs.YtjdapkelojdefaaGreatDoor
variable {δ : Int} {w : By} {d : Int}
end Go.Parse
namespace Go.Parse
open Go.V Go.Lex Go.Proofs.YtjdapkelojdefaaGreatDoor
def Ex.args : Ex → List Ex
  | .mk _ _ _ _ _ l => l
end Go.Parse
namespace Go.Proofs.YtjdapkelojdefaaGreatDoor
open Go Go.V Go.Lex Go.Parse
end Go.Proofs.YtjdapkelojdefaaGreatDoor
namespace Go.Lex
open Go.V Go.Proofs.YtjdapkelojdefaaGreatDoor
def padD : Nat → Nat → List UInt8
  | 0, _ => []
  | k + 1, u => padD k (u / 10) ++ [UInt8.ofNat (48 + u % 10)]
theorem X2b : ∀ k u, (padD k u).length = k
  | 0, u => rfl
  | k + 1, u => by rw [padD, zw, X2b k]; rfl
theorem padD_add (j : Nat) : ∀ k u, padD (j + k) u = padD j (u / 10 ^ k) ++ padD k u
  | 0, u => by rw [Nat.add_zero, Nat.pow_zero, Nat.div_one, padD, List.append_nil]
  | k + 1, u => by
    rw [← Nat.add_assoc, padD, padD_add j k, padD, Nat.div_div_eq_div_mul, Nat.pow_succ, Nat.mul_comm 10, zB]
theorem Y0u : ∀ (k u : Nat), (k = 0 ∨ 10 ^ k ≤ u) → u < 10 ^ (k + 1) → dec u = padD (k + 1) u
  | 0, u, _, h => by
    rw [X5l (by omega), padD, padD, zD, Nat.mod_eq_of_lt (by omega)]
  | k + 1, u, h1, h2 => by
    have h3 : 10 ^ (k + 1) ≤ u := by rcases h1 with h | h <;> omega
    rw [Nat.pow_succ] at h2 h3
    have hp : 1 ≤ 10 ^ k := Nat.one_le_pow _ _ (by decide)
    rw [X6x (by omega), padD, Y0u k (u / 10) (.inr (by omega)) (by omega)]
theorem pad2 (u : Nat) : padD 2 u = [UInt8.ofNat (48 + u / 10 % 10), UInt8.ofNat (48 + u % 10)] := rfl
theorem pad4 (u : Nat) : padD 4 u = [UInt8.ofNat (48 + u / 10 / 10 / 10 % 10), UInt8.ofNat (48 + u / 10 / 10 % 10), UInt8.ofNat (48 + u / 10 % 10), UInt8.ofNat (48 + u % 10)] := rfl
theorem pad8 (u : Nat) : padD 8 u = [UInt8.ofNat (48 + u / 10 / 10 / 10 / 10 / 10 / 10 / 10 % 10), UInt8.ofNat (48 + u / 10 / 10 / 10 / 10 / 10 / 10 % 10), UInt8.ofNat (48 + u / 10 / 10 / 10 / 10 / 10 % 10), UInt8.ofNat (48 + u / 10 / 10 / 10 / 10 % 10), UInt8.ofNat (48 + u / 10 / 10 / 10 % 10), UInt8.ofNat (48 + u / 10 / 10 % 10), UInt8.ofNat (48 + u / 10 % 10), UInt8.ofNat (48 + u % 10)] := rfl
def nd10 (len : Nat) : Nat := len * 78913 / 262144
theorem nd10_ok : ∀ len, len ≤ 64 → 1 ≤ len → 2 ^ len ≤ 10 ^ (nd10 len + 1) ∧ (nd10 len = 0 ∨ 10 ^ (nd10 len - 1) ≤ 2 ^ (len - 1)) ∧ nd10 len ≤ 19 := by decide +kernel
theorem digits_ok {len u : Nat} (h1 : 1 ≤ len) (h2 : len ≤ 64) (h3 : 2 ^ (len - 1) ≤ u) (h4 : u < 2 ^ len) :
    (10 ^ nd10 len ≤ u → dec u = padD (nd10 len + 1) u) ∧ (u < 10 ^ nd10 len → 1 ≤ nd10 len ∧ dec u = padD (nd10 len) u) := by
  obtain ⟨a, b, c⟩ := nd10_ok len h2 h1
  have hp : 1 ≤ 2 ^ (len - 1) := Nat.one_le_pow _ _ (by decide)
  refine ⟨fun h => Y0u _ u (.inr h) (by omega), fun h => ?_⟩
  rcases b with b | b
  · rw [b] at h; omega
  · obtain ⟨m, hm⟩ : ∃ m, nd10 len = m + 1 := by
      cases hn : nd10 len with
      | zero => rw [hn] at h; omega
      | succ m => exact ⟨m, rfl⟩
    rw [hm] at b h ⊢
    exact ⟨by omega, Y0u m u (.inr (by simpa using Nat.le_trans b h3)) h⟩
theorem dec_pow : ∀ n, n < 10 ^ (dec n).length := fun n => by
  induction n using Nat.strongRecOn with
  | ind n ih =>
    by_cases h : n < 10
    · rw [X5l h]; simpa using h
    · rw [X6x h, zw, List.length_singleton, Nat.pow_succ]
      have := ih (n / 10) (by omega)
      omega
theorem dec_padlen : ∀ n, dec n = padD (dec n).length n := fun n => by
  induction n using Nat.strongRecOn with
  | ind n ih =>
    by_cases h : n < 10
    · rw [X5l h]
      show _ = padD 1 n
      rw [padD, padD, zD, Nat.mod_eq_of_lt h]
    · rw [X6x h, zw, List.length_singleton, padD, ← ih (n / 10) (by omega)]
end Go.Lex
namespace Go.V
open Go.RowKit
variable {P : Program}
end Go.V
namespace Go.V
open Go.RowKit
variable {P : Program}
end Go.V
namespace Go.V
open Go.RowKit
variable {P : Program} {σ : Sg}
theorem vCountString {f : FuncId} {fn : Func} {s : ByteArray} {c : UInt8} (hf : P.funcs[f]? = some fn) (hname : (fn.name == "runtime.NumGoroutine") = false) (hb : fn.body.isNone = true) (hn : Extern.findNext fn = none) (he : Extern.find fn = some Extern.BytealgCount.count) :
    VCalls P f [.s s, .u8 c.toNat] σ (fun y σ' => y = .i (s.data.toList.count c : Nat) ∧ σ' = σ) :=
  X9s hf hname hb hn he (fun κ vs hst hargs => by
    obtain ⟨u, v, rfl, hx, hy⟩ := X2q hargs
    cases hx
    cases hy
    have h := Lib.run_countString (P := P) s (c.toNat : Int) κ.w
    have hcc : ((c.toNat : Int).toNat).toUInt8 = c := by simp
    rw [hcc] at h
    exact ⟨_, κ.w, h, Q0i hst (.val _) ⟨rfl, rfl⟩⟩)
theorem vMakeNoZero {f : FuncId} {fn : Func} {ps : Array TypeId} {t e : TypeId} {n : Nat} (hf : P.funcs[f]? = some fn) (hname : (fn.name == "runtime.NumGoroutine") = false) (hb : fn.body.isNone = true) (hn : Extern.findNext fn = none) (he : Extern.find fn = some (Extern.BytealgMakeNoZero.makeNoZero ps #[t]))
    (ht : P.underlying t = some (.slice e)) (hsz : n ≤ 281474976710656) :
    VCalls P f [.i n] σ (fun y σ' => ∃ τ, σ τ = none ∧ y = .nz τ n 1 ∧ σ' = σ.set τ (.tok (some e))) :=
  X9s hf hname hb hn he (fun κ vs hst hargs => by
    obtain ⟨u, rfl, hx⟩ := X4g hargs
    cases hx
    obtain ⟨cs, h1, h2, _⟩ := Lib.run_makeNoZero (P := P) κ.w ps t e ht n hsz
    have hst2 := hst.drew.drew
    obtain ⟨τ, hτ, hτσ⟩ := hst2.fresh
    obtain ⟨hle, hs⟩ := hst2.newTok (τ := τ) (lo := 0) (c := cs) (t := e) (fz := (0, 0)) (e := some e) (Nat.zero_le _) (fun i _ h => by simp at h) (fun t' h => by cases h; exact ⟨rfl, rfl⟩) hτ
    refine ⟨_, _, h1, ⟨_, _, _, ?_, (K.le_drew κ).trans ((K.le_drew _).trans hle), hs, ?_, τ, hτσ σ (.refl σ), rfl, rfl⟩⟩
    · rfl
    · refine .nz τ n 1 κ.w.heap.size cs.size ?_ h2
      simp [K.named, K.drew])
theorem cap_nil (t e ty : TypeId) (l : List TypeId) (σ : Sg) (R : AV → Sg → Prop) (he : P.underlying t = some (.slice e)) : Q2o P .cap [.sl .nil []] (List.toArray (t :: l)) ty σ R = R (.i 0) σ := by
  simp only [Q2o, true_and, List.getElem?_toArray, List.getElem?_cons_zero, Option.bind_some, he]
  refine propext ⟨fun h => h.2, fun h => ⟨⟨e, rfl⟩, h⟩⟩
theorem vsl_nz (e : TypeId) (τ n sz : Nat) (k : IntKind) (σ : Sg) (R : AV → Prop) : vsl P (some (.slice e)) (.nz τ n sz) none (some (.val (.int k 0))) none σ R = vixE (Q0l P e) (fun s => s = sz ∧ R (.sl (.tok τ sz) [])) := by
  unfold vsl vixE
  simp only [Q1v]
  cases Q0l P e <;> simp
theorem vcopy_nil (t e : TypeId) (τ sz : Nat) (σ : Sg) (R : AV → Sg → Prop) (he : P.underlying t = some (.slice e)) (hi : (Q0l P e).isSome = true) : X9j P t (.sl (.tok τ sz) []) (.sl .nil []) σ R = R (.i 0) σ := by
  unfold X9j
  simp only [he, X6i, hi, true_and]
theorem ev_global (ρ : Nat → AV) (g : Nat) (cs : List Value) (h : gtab g = some cs) : ev ρ (.global g) = .ro (cs.map .val) := by
  show (match gtab g with | some cs => AV.ro (cs.map .val) | none => .val (.pointer (some ⟨g, 0, none⟩))) = _
  rw [h]
end Go.V
namespace Go.Lex
open Go.V Go.Proofs.YtjdapkelojdefaaGreatDoor
theorem Y0v (x k : Nat) (t : IntKind) (h : k ≤ t.bits) : ((x : Nat) : Int).fdiv (2 ^ min k t.bits) = ((x / 2 ^ k : Nat) : Int) := by
  rw [Nat.min_eq_left h, Int.fdiv_eq_ediv_of_nonneg _ (by exact_mod_cast Nat.zero_le (2 ^ k))]
  norm_cast
theorem shr32 (x : Nat) : ((x : Nat) : Int).fdiv (2 ^ min 32 IntKind.u64.bits) = ((x / 4294967296 : Nat) : Int) := Y0v x 32 _ (by decide)
theorem shr16 (x : Nat) : ((x : Nat) : Int).fdiv (2 ^ min 16 IntKind.u64.bits) = ((x / 65536 : Nat) : Int) := Y0v x 16 _ (by decide)
theorem shr8 (x : Nat) : ((x : Nat) : Int).fdiv (2 ^ min 8 IntKind.u64.bits) = ((x / 256 : Nat) : Int) := Y0v x 8 _ (by decide)
theorem shr18 (x : Nat) : ((x : Nat) : Int).fdiv (2 ^ min 18 IntKind.i64.bits) = ((x / 262144 : Nat) : Int) := Y0v x 18 _ (by decide)
theorem Q9a {L : List UInt8} {b u v : Nat} {c : Int} (hc : c = (b : Nat)) (hv : u / 2 ^ b = v) (h8 : v < 256) (hb : b ≤ 56) (h0 : 1 ≤ v)
    (hL : ∀ k, k < 256 → k < 2 ^ (L.getD k 0).toNat ∧ (1 ≤ k → 1 ≤ (L.getD k 0).toNat ∧ 2 ^ ((L.getD k 0).toNat - 1) ≤ k) ∧ (L.getD k 0).toNat ≤ 8) : ∃ n : Nat, 1 ≤ n ∧ n ≤ 64 ∧ 2 ^ (n - 1) ≤ u ∧ u < 2 ^ n ∧ AV.val (.int .i64 (IntKind.i64.wrap (c + IntKind.i64.wrap ((L.getD v 0).toNat : Int)))) = AV.i n := by
  obtain ⟨a1, a2, a3⟩ := hL v h8
  obtain ⟨a4, a5⟩ := a2 h0
  generalize (L.getD v 0).toNat = t at *
  have hp : 0 < 2 ^ b := Nat.pow_pos (by decide)
  refine ⟨b + t, by omega, by omega, ?_, ?_, by rw [w64 (n := (t : Int)) (by omega) (by omega), w64 (by omega) (by omega), hc]; rfl⟩
  · rw [show b + t - 1 = b + (t - 1) by omega, Nat.pow_add]
    calc 2 ^ b * 2 ^ (t - 1) ≤ 2 ^ b * v := Nat.mul_le_mul_left _ a5
      _ ≤ u := by rw [← hv]; exact Nat.mul_div_le u (2 ^ b)
  · rw [Nat.pow_add]
    have h1 : u < 2 ^ b * (v + 1) := by
      have := Nat.lt_mul_div_succ u hp
      rwa [hv] at this
    exact zh h1 (Nat.mul_le_mul_left _ a1)
end Go.Lex
namespace Go.Proofs.YtjdapkelojdefaaGreatDoor
open Go Go.V Go.Lex
theorem e55 (b : Bool) (σ : Sg) : VCalls Tryz.prog 200 [.b b] σ (fun x σ' => x = .i (if b then 1 else 0) ∧ σ' = σ) := by
  cases b
  · (refine vfun (fun _ => .no) Q0h Tryz.func200 (by kernel_rfl) ?_; simp only [Q0f, Tryz.f200, zv])
    repeat' (first | with_reducible rfl | exact trivial | (with_reducible first | apply And.intro | apply Q0a | apply Q0b | refine Q0c (by decide +kernel) ?_ | intro _) | refine zaW (j2 ui3 ui4) ?_ | refine zo ?_ | omega | refine zt (j2 ui3 ui4) ?_ | fail)
    all_goals (exact Go.V.zE)
  · (refine vfun (fun _ => .no) Q0h Tryz.func200 (by kernel_rfl) ?_; simp only [Q0f, Tryz.f200, zv])
    repeat' (first | with_reducible rfl | exact trivial | (with_reducible first | apply And.intro | apply Q0a | apply Q0b | refine Q0c (by decide +kernel) ?_ | intro _) | refine zaW (j2 ui3 ui4) ?_ | refine zo ?_ | omega | refine zt (j2 ui3 ui4) ?_ | fail)
    all_goals (exact Go.V.zE)
theorem e53 (n : Nat) (hn : n ≤ 64) (σ : Sg) : VCalls Tryz.prog 198 [.i n] σ (fun x σ' => x = .i (nd10 n) ∧ σ' = σ) := by
  (refine vfun (fun _ => .no) Q0h Tryz.func198 (by kernel_rfl) ?_; simp only [Q0f, Tryz.f198, zv])
  repeat' (first | with_reducible rfl | exact trivial | (with_reducible first | apply And.intro | apply Q0a | apply Q0b | refine Q0c (by decide +kernel) ?_ | intro _) | refine zaW (j2 ui3 ui4) ?_ | refine zo ?_ | omega | refine zt (j2 ui3 ui4) ?_ | fail)
  refine ⟨_, .refl _, ?_, rfl⟩
  have : ((n : Nat) : Int) * 78913 = ((n * 78913 : Nat) : Int) := by omega
  rw [this, shr18]
  rfl
theorem e54 (u : Nat) (h1 : 1 ≤ u) (h2 : u < 2 ^ 64) (σ : Sg) : VCalls Tryz.prog 199 [.val (.int .u64 u)] σ (fun x σ' => (∃ n : Nat, 1 ≤ n ∧ n ≤ 64 ∧ 2 ^ (n - 1) ≤ u ∧ u < 2 ^ n ∧ x = .i n) ∧ σ' = σ) := by
  (refine vfun (fun _ => .no) Q0h Tryz.func199 (by kernel_rfl) ?_; simp only [Q0f, Tryz.f199, zv])
  (have zz := Bx.mk (j8 ui3 ui4 X0t ui5 ui9 @shr32 @shr16 @shr8); (repeat' (first | with_reducible rfl | exact trivial | (with_reducible first | apply And.intro | apply Q0a | apply Q0b | refine Q0c (by decide +kernel) ?_ | intro _) | refine zaW zz.out ?_ | refine zo ?_ | omega | refine zt zz.out ?_ | fail)); try (all_goals clear zz))
  all_goals first
    | exact zh (m := 256) (by omega) (by decide +kernel)
    | exact ⟨_, .refl _, Q9a (b := 56) (u := u) (by decide) (by omega) (by omega) (by decide) (by omega) (by decide +kernel), rfl⟩
    | exact ⟨_, .refl _, Q9a (b := 48) (u := u) (by decide) (by omega) (by omega) (by decide) (by omega) (by decide +kernel), rfl⟩
    | exact ⟨_, .refl _, Q9a (b := 40) (u := u) (by decide) (by omega) (by omega) (by decide) (by omega) (by decide +kernel), rfl⟩
    | exact ⟨_, .refl _, Q9a (b := 32) (u := u) (by decide) (by omega) (by omega) (by decide) (by omega) (by decide +kernel), rfl⟩
    | exact ⟨_, .refl _, Q9a (b := 24) (u := u) (by decide) (by omega) (by omega) (by decide) (by omega) (by decide +kernel), rfl⟩
    | exact ⟨_, .refl _, Q9a (b := 16) (u := u) (by decide) (by omega) (by omega) (by decide) (by omega) (by decide +kernel), rfl⟩
    | exact ⟨_, .refl _, Q9a (b := 8) (u := u) (by decide) (by omega) (by omega) (by decide) (by omega) (by decide +kernel), rfl⟩
    | exact ⟨_, .refl _, Q9a (b := 0) (u := u) (by decide) (by omega) (by omega) (by decide) (by omega) (by decide +kernel), rfl⟩
theorem dec_len1 {u r : Nat} (h : dec u = padD r u) : (dec u).length = r := by rw [h, X2b]
theorem pow_drop : ∀ k, k ≤ 19 → List.drop (k * 1) (List.map AV.val pow10tab) = .val (.int .u64 ((10 ^ k : Nat) : Int)) :: List.drop (k + 1) (List.map AV.val pow10tab)
  | 0, _ => rfl
  | 1, _ => rfl
  | 2, _ => rfl
  | 3, _ => rfl
  | 4, _ => rfl
  | 5, _ => rfl
  | 6, _ => rfl
  | 7, _ => rfl
  | 8, _ => rfl
  | 9, _ => rfl
  | 10, _ => rfl
  | 11, _ => rfl
  | 12, _ => rfl
  | 13, _ => rfl
  | 14, _ => rfl
  | 15, _ => rfl
  | 16, _ => rfl
  | 17, _ => rfl
  | 18, _ => rfl
  | 19, _ => rfl
  | k + 20, h => by omega
theorem nd_le {n : Nat} (h2 : n ≤ 64) (h1 : 1 ≤ n) : nd10 n ≤ 19 := (nd10_ok n h2 h1).2.2
theorem e43 (u : Nat) (h1 : 1 ≤ u) (h2 : u < 2 ^ 64) (σ : Sg) : VCalls Tryz.prog 190 [.val (.int .u64 u)] σ (fun x σ' => x = .i (dec u).length ∧ σ' = σ) := by
  have h54 := fun σ => e54 u h1 h2 σ
  have h53 := fun n hn σ => e53 n hn σ
  have h55 := fun b σ => e55 b σ
  have hg := fun ρ => ev_global ρ 1 pow10tab rfl
  (refine vfun (fun _ => .no) Q0h Tryz.func190 (by kernel_rfl) ?_; simp only [Q0f, Tryz.f190, zv])
  (have zz := Bx.mk (j5 ui3 ui4 X0t ui186 hg); (repeat' (first | with_reducible rfl | exact trivial | (with_reducible first | apply And.intro | apply Q0a | apply Q0b | refine Q0c (by decide +kernel) ?_ | intro _) | refine zaW zz.out ?_ | ((first | ((with_reducible refine zR (h54 _) ?_); rintro _ S ⟨⟨n, hn1, hn2, hn3, hn4, rfl⟩, rfl⟩; have hnd := nd_le hn2 hn1) | ((with_reducible refine zR (h53 _ (by assumption) _) ?_); rintro _ S ⟨rfl, rfl⟩) | ((with_reducible refine zR (h55 _ _) ?_); rintro _ S ⟨rfl, rfl⟩) | with_reducible rw [pow_drop _ (by assumption)]); (try refine zs zz.out ?_)) | refine zo ?_ | omega | refine zt zz.out ?_ | fail)); try (all_goals clear zz))
  obtain ⟨d1, d2⟩ := digits_ok hn1 hn2 hn3 hn4
  refine ⟨_, .refl _, ?_, rfl⟩
  by_cases hc : 10 ^ nd10 n ≤ u
  · rw [if_pos (by exact_mod_cast hc), dec_len1 (d1 hc)]
    rfl
  · rw [if_neg (by exact_mod_cast hc), dec_len1 (d2 (by omega)).2]
    simp
theorem small1 : ∀ n, n < 10 → List.drop n (48 :: List.take n [49, 50, 51, 52, 53, 54, 55, 56, 57, 97, 98, 99, 100, 101, 102, 103, 104, 105, 106, 107, 108, 109, 110, 111, 112, 113, 114, 115, 116, 117, 118, 119, 120, 121, 122]) = [UInt8.ofNat (48 + n)] := by decide +kernel
theorem small2 {L : List UInt8} {n : Nat} (h1 : 10 ≤ n) (h2 : n < 100) (hL : ∀ n, n < 100 → List.drop (n * 2) (List.take (n * 2 + 2) L) = padD 2 n) : AV.s (bs (List.drop ((n : Int) * 2).toNat (List.take ((n : Int) * 2 + 2).toNat L))) = AV.s (bs (dec n)) := by
  have e1 : ((n : Int) * 2).toNat = n * 2 := by omega
  have e2 : ((n : Int) * 2 + 2).toNat = n * 2 + 2 := by omega
  rw [e1, e2, hL n h2, Y0u 1 n (.inr (by omega)) (by omega)]
theorem e42 (n : Nat) (hn : n < 100) (σ : Sg) : VCalls Tryz.prog 189 [.i n] σ (fun x σ' => x = .s (bs (dec n)) ∧ σ' = σ) := by
  (refine vfun (fun _ => .no) Q0h Tryz.func189 (by kernel_rfl) ?_; simp only [Q0f, Tryz.f189, zv])
  (have zz := Bx.mk (j3 ui3 ui4 ui9); (repeat' (first | with_reducible rfl | exact trivial | (with_reducible first | apply And.intro | apply Q0a | apply Q0b | refine Q0c (by decide +kernel) ?_ | intro _) | refine zaW zz.out ?_ | refine zo ?_ | omega | refine zt zz.out ?_ | fail)); try (all_goals clear zz))
  all_goals first
    | exact ⟨_, .refl _, by rw [X5l (by omega), small1 n (by omega)], rfl⟩
    | exact Int.le_trans (b := 200) (by omega) (by decide +kernel)
    | exact ⟨_, .refl _, small2 (by omega) hn (by decide +kernel), rfl⟩
end Go.Proofs.YtjdapkelojdefaaGreatDoor
namespace Go.Lex
open Go.V Go.Proofs.YtjdapkelojdefaaGreatDoor
def smallsL : List UInt8 := (([48, 48, 48, 49, 48, 50, 48, 51, 48, 52, 48, 53, 48, 54, 48, 55, 48, 56, 48, 57, 49, 48, 49, 49, 49, 50, 49, 51, 49, 52, 49, 53, 49, 54, 49, 55, 49, 56, 49, 57, 50, 48, 50, 49, 50, 50, 50, 51, 50, 52].append [50, 53, 50, 54, 50, 55, 50, 56, 50, 57, 51, 48, 51, 49, 51, 50, 51, 51, 51, 52, 51, 53, 51, 54, 51, 55, 51, 56, 51, 57, 52, 48, 52, 49, 52, 50, 52, 51, 52, 52, 52, 53, 52, 54, 52, 55, 52, 56, 52, 57]).append ([53, 48, 53, 49, 53, 50, 53, 51, 53, 52, 53, 53, 53, 54, 53, 55, 53, 56, 53, 57, 54, 48, 54, 49, 54, 50, 54, 51, 54, 52, 54, 53, 54, 54, 54, 55, 54, 56, 54, 57, 55, 48, 55, 49, 55, 50, 55, 51, 55, 52].append [55, 53, 55, 54, 55, 55, 55, 56, 55, 57, 56, 48, 56, 49, 56, 50, 56, 51, 56, 52, 56, 53, 56, 54, 56, 55, 56, 56, 56, 57, 57, 48, 57, 49, 57, 50, 57, 51, 57, 52, 57, 53, 57, 54, 57, 55, 57, 56, 57, 57]))
theorem sm_fold : (⟨((([48, 48, 48, 49, 48, 50, 48, 51, 48, 52, 48, 53, 48, 54, 48, 55, 48, 56, 48, 57, 49, 48, 49, 49, 49, 50, 49, 51, 49, 52, 49, 53, 49, 54, 49, 55, 49, 56, 49, 57, 50, 48, 50, 49, 50, 50, 50, 51, 50, 52].append [50, 53, 50, 54, 50, 55, 50, 56, 50, 57, 51, 48, 51, 49, 51, 50, 51, 51, 51, 52, 51, 53, 51, 54, 51, 55, 51, 56, 51, 57, 52, 48, 52, 49, 52, 50, 52, 51, 52, 52, 52, 53, 52, 54, 52, 55, 52, 56, 52, 57]).append ([53, 48, 53, 49, 53, 50, 53, 51, 53, 52, 53, 53, 53, 54, 53, 55, 53, 56, 53, 57, 54, 48, 54, 49, 54, 50, 54, 51, 54, 52, 54, 53, 54, 54, 54, 55, 54, 56, 54, 57, 55, 48, 55, 49, 55, 50, 55, 51, 55, 52].append [55, 53, 55, 54, 55, 55, 55, 56, 55, 57, 56, 48, 56, 49, 56, 50, 56, 51, 56, 52, 56, 53, 56, 54, 56, 55, 56, 56, 56, 57, 57, 48, 57, 49, 57, 50, 57, 51, 57, 52, 57, 53, 57, 54, 57, 55, 57, 56, 57, 57]))).toArray⟩ : ByteArray) = bs smallsL := rfl
theorem X7q : smallsL.length = 200 := by decide +kernel
theorem sm_even : ∀ j, j < 100 → smallsL.getD (j * 2) 0 = UInt8.ofNat (48 + j / 10) := by decide +kernel
theorem sm_odd : ∀ j, j < 100 → smallsL.getD (j * 2 + 1) 0 = UInt8.ofNat (48 + j % 10) := by decide +kernel
theorem Q4e {α : Type} (P L : List α) (k : Nat) : List.take (P.length + k) (P ++ L) = P ++ List.take k L := by simp [List.take_append, List.take_of_length_le]
theorem Q4f {α : Type} (P L : List α) (k : Nat) : List.drop (P.length + k + 1) (P ++ L) = List.drop (k + 1) L := by
  rw [Nat.add_assoc]
  simp [List.drop_append, List.drop_of_length_le]
theorem Q2z {α : Type} (P L : List α) : List.take P.length (P ++ L) = P := by simp
theorem Q3a {α : Type} (P L : List α) : List.drop (P.length + 1) (P ++ L) = List.drop 1 L := by
  simp [List.drop_append, List.drop_of_length_le]
theorem smE {k : Nat} (h : k < 100) : (smallsL.getD (k * 2) 0).toNat = 48 + k / 10 := by
  rw [sm_even k h, UInt8.toNat_ofNat']
  omega
theorem smO {k : Nat} (h : k < 100) : (smallsL.getD (k * 2 + 1) 0).toNat = 48 + k % 10 := by
  rw [sm_odd k h, UInt8.toNat_ofNat']
  omega
theorem nz8 : ((100000000 : Int) = 0) = False := by simp
theorem nz4 : ((10000 : Int) = 0) = False := by simp
theorem nz2 : ((100 : Int) = 0) = False := by simp
theorem tm8 (v : Nat) : (v : Int).tmod 100000000 = ((v % 100000000 : Nat) : Int) := rfl
theorem tm4 (v : Nat) : (v : Int).tmod 10000 = ((v % 10000 : Nat) : Int) := rfl
theorem tm2 (v : Nat) : (v : Int).tmod 100 = ((v % 100 : Nat) : Int) := rfl
theorem td8 (v : Nat) : (v : Int).tdiv 100000000 = ((v / 100000000 : Nat) : Int) := rfl
theorem td4 (v : Nat) : (v : Int).tdiv 10000 = ((v / 10000 : Nat) : Int) := rfl
theorem td2 (v : Nat) : (v : Int).tdiv 100 = ((v / 100 : Nat) : Int) := rfl
theorem cm2 (v : Nat) : (v : Int) * 2 = ((v * 2 : Nat) : Int) := rfl
theorem ca1 (v : Nat) : (v : Int) + 1 = ((v + 1 : Nat) : Int) := rfl
theorem wr32 (v : Nat) : IntKind.u32.wrap (v : Int) = ((v % 4294967296 : Nat) : Int) := rfl
theorem wr64 (v : Nat) : IntKind.u64.wrap (v : Int) = ((v % 18446744073709551616 : Nat) : Int) := rfl
theorem wrN {n : Nat} (h : n < 4294967296) : IntKind.u32.wrap (n : Int) = n := by rw [wr32, Nat.mod_eq_of_lt h]
theorem wrM {n : Nat} (h : n < 18446744073709551616) : IntKind.u64.wrap (n : Int) = n := by rw [wr64, Nat.mod_eq_of_lt h]
def u8s (l : List UInt8) : List AV := l.map fun c => AV.u8 c.toNat
theorem Y0w (a b : List UInt8) : u8s (a ++ b) = u8s a ++ u8s b := by simp [u8s]
theorem u8s_len (a : List UInt8) : (u8s a).length = a.length := by simp [u8s]
end Go.Lex
namespace Go.Proofs.YtjdapkelojdefaaGreatDoor
open Go Go.V Go.Lex
theorem len8 {l : List AV} (h : l.length = 8) : ∃ a b c d e f g i, l = [a, b, c, d, e, f, g, i] := by
  match l, h with
  | [a, b, c, d, e, f, g, i], _ => exact ⟨a, b, c, d, e, f, g, i, rfl⟩
theorem cutq {P : Program} {H : Nat → Hint} {n : Nat} {Q : VX → (Nat → AV) → Sg → Prop} {ρ : Nat → AV} {σ : Sg} {α : Type} {x y : Code} (Inv : α → Prop) (vals : α → List (Nat × AV)) (sg : α → Sg) (h : VW P H n x (sq (At Inv vals sg) Q) ρ σ) (h' : ∀ z, Inv z → VW P H n y Q (env (vals z)) (sg z)) : VW P H n x (sq (VW P H n y Q) Q) ρ σ := by
  refine h.mono (fun e ρ σ hq => ?_)
  cases e with
  | normal =>
    obtain ⟨z, hz, hs, hv⟩ := hq
    exact ((h' z hz).weak (Holds.weak hv)).forget hs
  | exit id => exact hq
  | ret => exact hq
theorem X6e (A mid : List AV) (m n off : Nat) (hA : A.length = off) (hmn : m + n ≤ mid.length) : ∃ P E : List AV, A ++ mid.take m = P ∧ P.length = off + m ∧ E.length = n ∧ A ++ mid.take (m + n) = P ++ E :=
  ⟨_, (mid.drop m).take n, rfl, by simp; omega, by simp; omega, by rw [List.take_add, zB]⟩
theorem len4 {l : List AV} (h : l.length = 4) : ∃ a b c d, l = [a, b, c, d] := by
  match l, h with
  | [a, b, c, d], _ => exact ⟨a, b, c, d, rfl⟩
theorem len2 {l : List AV} (h : l.length = 2) : ∃ a b, l = [a, b] := by
  match l, h with
  | [a, b], _ => exact ⟨a, b, rfl⟩
theorem cons_u8 {a b : Nat} {T T' : List AV} (h : a = b) (h' : T = T') : AV.u8 a :: T = AV.u8 b :: T' := by rw [h, h']
theorem u8s8 (x : Nat) (hx : x < 100000000) (T : List AV) : u8s (padD 8 x) ++ T = .u8 (48 + x / 10000 / 100 / 10 : Nat) :: .u8 (48 + x / 10000 / 100 % 10 : Nat) :: .u8 (48 + x / 10000 % 100 / 10 : Nat) :: .u8 (48 + x / 10000 % 100 % 10 : Nat) :: .u8 (48 + x % 10000 / 100 / 10 : Nat) :: .u8 (48 + x % 10000 / 100 % 10 : Nat) :: .u8 (48 + x % 10000 % 100 / 10 : Nat) :: .u8 (48 + x % 10000 % 100 % 10 : Nat) :: T := by
  rw [pad8]
  simp only [u8s, List.map_cons, List.map_nil, List.cons_append, zD, UInt8.toNat_ofNat']
  repeat (refine cons_u8 (by omega) ?_)
  rfl
theorem u8s4 (x : Nat) (hx : x < 10000) (T : List AV) : u8s (padD 4 x) ++ T = .u8 (48 + x / 100 / 10 : Nat) :: .u8 (48 + x / 100 % 10 : Nat) :: .u8 (48 + x % 100 / 10 : Nat) :: .u8 (48 + x % 100 % 10 : Nat) :: T := by
  rw [pad4]
  simp only [u8s, List.map_cons, List.map_nil, List.cons_append, zD, UInt8.toNat_ofNat']
  repeat (refine cons_u8 (by omega) ?_)
  rfl
theorem u8s2 (x : Nat) (hx : x < 100) (T : List AV) : u8s (padD 2 x) ++ T = .u8 (48 + x / 10 : Nat) :: .u8 (48 + x % 10 : Nat) :: T := by
  rw [pad2]
  simp only [u8s, List.map_cons, List.map_nil, List.cons_append, zD, UInt8.toNat_ofNat']
  repeat (refine cons_u8 (by omega) ?_)
  rfl
theorem pad_lt (k m v : Nat) (h : v < 10 ^ (m + k)) : v / 10 ^ k < 10 ^ m := Nat.div_lt_of_lt_mul (by rw [Nat.pow_add, Nat.mul_comm] at h; exact h)
theorem padD_mod : ∀ (k v : Nat), padD k (v % 10 ^ k) = padD k v
  | 0, _ => rfl
  | k + 1, v => by
    have e1 : v % 10 ^ (k + 1) / 10 = v / 10 % 10 ^ k := by rw [Nat.pow_succ, Nat.mul_comm]; exact Nat.mod_mul_right_div_self ..
    have e2 : v % 10 ^ (k + 1) % 10 = v % 10 := by rw [Nat.pow_succ, Nat.mul_comm]; exact Nat.mod_mul_right_mod ..
    rw [padD, e1, e2, padD_mod k, padD]
theorem Y0x (k m v : Nat) (dn L : List UInt8) (h : padD (m + k) v ++ dn = L) : padD m (v / 10 ^ k) ++ (padD k (v % 10 ^ k) ++ dn) = L := by
  rw [← h, padD_add, padD_mod, zB]
theorem e44 (β off ND u : Nat) (A mid D : List AV) (σ : Sg) (hβ : σ β = some (.cells 178 (A ++ mid ++ D))) (hA : A.length = off) (hm : mid.length = ND) (hu : u < 10 ^ ND) (h64 : u < 2 ^ 64) (hND : ND ≤ 20) :
    VCalls Tryz.prog 191 [.ms β off ND 1, .val (.int .u64 u)] σ (fun x σ' => x = .tup [] ∧ σ' = σ.set β (.cells 178 (A ++ u8s (padD ND u) ++ D))) := by
  (refine vfun (fun _ => .no) Q0h Tryz.func191 (by kernel_rfl) ?_; simp only [Q0f, Tryz.f191, zv])
  simp only [sm_fold]
  (have zz := Bx.mk (j6 ui3 Q5a X0t X2s ui5 ui9); (repeat' (first | with_reducible rfl | exact trivial | (with_reducible first | apply And.intro | apply Q0a | apply Q0b | refine Q0c (by decide +kernel) ?_ | intro _) | refine zaW zz.out ?_ | refine zo ?_ | omega | refine zt zz.out ?_ | fail)); try (all_goals clear zz))
  refine VW.loop3 ND u ([] : List UInt8) (fun nd v dn => nd ≤ ND ∧ padD nd v ++ dn = padD ND u ∧ v < 10 ^ nd ∧ v < 2 ^ 64) (fun nd v _ => [(0, .ms β off ND 1), (1, .val (.int .u64 v)), (4, .i nd)]) (fun nd _ dn => σ.set β (.cells 178 (A ++ mid.take nd ++ (u8s dn ++ D)))) (fun nd _ _ => nd) ⟨Nat.le_refl _, by simp, hu, h64⟩ ?_ ?_ ?_
  · rw [List.take_of_length_le (by omega)]
    show (σ.set β (.cells 178 (A ++ mid ++ ([] ++ D)))).sub σ
    rw [zD, Sg.set_id hβ]
    exact .refl _
  · simp only [vO, vQ, ↓vP, vE, vS, vB, vL, vF, vM, vN, Q0g, zb, zc, zd, ne_eq, not_false_eq_true, ze, zf, zj, zk, vT]
    all_goals rfl
  rintro nd v dn ⟨g1, g2, g3, g4⟩
  by_cases h8 : 8 ≤ nd
  · obtain ⟨m, rfl⟩ : ∃ m, nd = m + 8 := ⟨nd - 8, by omega⟩
    obtain ⟨P, E, hPe, hP, hE, hc⟩ := X6e A mid m 8 off hA (by omega)
    obtain ⟨a, b, c, d, e, f, g, i, rfl⟩ := len8 hE
    have hc2 : A ++ mid.take (m + 8) ++ (u8s dn ++ D) = P ++ a :: b :: c :: d :: e :: f :: g :: i :: (u8s dn ++ D) := by rw [hc]; simp
    rw [hc2]
    clear hc2
    have hleaf : ∀ S, (σ.set β (.cells 178 (A ++ mid.take m ++ (u8s (padD 8 (v % 10 ^ 8) ++ dn) ++ D)))).sub S ↔ (σ.set β (.cells 178 (P ++ (u8s (padD 8 (v % 100000000)) ++ (u8s dn ++ D))))).sub S := fun S => by rw [hPe, Y0w, zB]
    rw [u8s8 _ (by omega)] at hleaf
    generalize hT : u8s dn ++ D = T at *
    simp only [vO, vQ, ↓vP, vE, vS, vB, vL, vF, vM, vN, Q0g, zb, zc, zd, ne_eq, not_false_eq_true, ze, zf, zj, zk, vT]
    iterate 12 (all_goals (try ((first | (with_reducible first | refine .rs ?_ | refine .ds (by kernel_rfl) ?_ | refine .dg (by kernel_rfl) ?_ | refine .rg ?_ | refine .ite ?_ | refine .ret ?_ | refine .skip ?_ | refine .exit ?_ | refine .scope ?_ | refine .seq (.label ?_) | refine .block ?_ | refine .seq ?_)); (try simp only [vO, vQ, ↓vP, vE, vS, vB, vL, vF, vM, vN, Q0g, zb, zc, zd, ne_eq, not_false_eq_true, ze, zf, zj, zk, Z3, Q2b, Z150, Q6z, Z179, Q7a, Z187, Q7b, Z5, X3f, Z9, Q2k, vT]))))
    refine Q1l (fun _ => ?_) (fun h => absurd (show (8:Int) ≤ ((m+8 : Nat) : Int) by omega) h)
    iterate 7 ((first | (with_reducible first | refine .rs ?_ | refine .ds (by kernel_rfl) ?_ | refine .dg (by kernel_rfl) ?_ | refine .rg ?_ | refine .ite ?_ | refine .ret ?_ | refine .skip ?_ | refine .exit ?_ | refine .scope ?_ | refine .seq (.label ?_) | refine .block ?_ | refine .seq ?_)); (try simp only [vO, vQ, ↓vP, vE, vS, vB, vL, vF, vM, vN, Q0g, zb, zc, zd, ne_eq, not_false_eq_true, ze, zf, zj, zk, Z3, Q2b, Z150, Q6z, Z179, Q7a, Z187, Q7b, Z5, X3f, Z9, Q2k, nz8, nz4, nz2, not_false_eq_true, true_and, vT]))
    simp (disch := omega) only [tm8, td8, wrN, wrM, tm4, td4, tm2, td2, cm2]
    refine VW.weak (Holds.weak (vals := [(0, .ms β off ND 1), (1, .val (.int .u64 (v / 100000000 : Nat))), (4, .i (m + 8 : Nat)), (8, .val (.int .u32 (v % 100000000 % 10000 / 100 * 2 : Nat))), (9, .val (.int .u32 (v % 100000000 % 10000 % 100 * 2 : Nat))), (10, .val (.int .u32 (v % 100000000 / 10000 / 100 * 2 : Nat))), (11, .val (.int .u32 (v % 100000000 / 10000 % 100 * 2 : Nat)))]) ?_) ?_
    · refine Q0x ?_
      simp only [vO, vQ, ↓vP, vE, vS, vB, vL, vF, vM, vN, Q0g, zb, zc, zd, ne_eq, not_false_eq_true, ze, zf, zj, zk, vT]
    have j1 : v % 100000000 % 10000 % 100 < 100 := by omega
    have j2 : v % 100000000 % 10000 / 100 < 100 := by omega
    have j3 : v % 100000000 / 10000 % 100 < 100 := by omega
    have j4 : v % 100000000 / 10000 / 100 < 100 := by omega
    generalize v % 100000000 % 10000 % 100 = k1 at *
    generalize v % 100000000 % 10000 / 100 = k2 at *
    generalize v % 100000000 / 10000 % 100 = k3 at *
    generalize v % 100000000 / 10000 / 100 = k4 at *
    generalize hw : v / 100000000 = w at *
    have hm64 : m + 8 < 2 ^ 63 := by omega
    have hw1 : IntKind.i64.wrap (((m + 8 : Nat) : Int) - 1) = ((m + 7 : Nat) : Int) := by rw [w64 (by omega) (by omega)]; omega
    have hw2 : IntKind.i64.wrap (((m + 8 : Nat) : Int) - 2) = ((m + 6 : Nat) : Int) := by rw [w64 (by omega) (by omega)]; omega
    have hw3 : IntKind.i64.wrap (((m + 8 : Nat) : Int) - 3) = ((m + 5 : Nat) : Int) := by rw [w64 (by omega) (by omega)]; omega
    have hw4 : IntKind.i64.wrap (((m + 8 : Nat) : Int) - 4) = ((m + 4 : Nat) : Int) := by rw [w64 (by omega) (by omega)]; omega
    have hw5 : IntKind.i64.wrap (((m + 8 : Nat) : Int) - 5) = ((m + 3 : Nat) : Int) := by rw [w64 (by omega) (by omega)]; omega
    have hw6 : IntKind.i64.wrap (((m + 8 : Nat) : Int) - 6) = ((m + 2 : Nat) : Int) := by rw [w64 (by omega) (by omega)]; omega
    have hw7 : IntKind.i64.wrap (((m + 8 : Nat) : Int) - 7) = ((m + 1 : Nat) : Int) := by rw [w64 (by omega) (by omega)]; omega
    have hw8 : IntKind.i64.wrap (((m + 8 : Nat) : Int) - 8) = ((m : Nat) : Int) := by rw [w64 (by omega) (by omega)]; omega
    have ho1 : off + (m + 7) = P.length + 7 := by omega
    have ho2 : off + (m + 6) = P.length + 6 := by omega
    have ho3 : off + (m + 5) = P.length + 5 := by omega
    have ho4 : off + (m + 4) = P.length + 4 := by omega
    have ho5 : off + (m + 3) = P.length + 3 := by omega
    have ho6 : off + (m + 2) = P.length + 2 := by omega
    have ho7 : off + (m + 1) = P.length + 1 := by omega
    have ho8 : off + m = P.length := by omega
    have hu1 : IntKind.u32.wrap ((k1 * 2 + 1 : Nat) : Int) = ((k1 * 2 + 1 : Nat) : Int) := wrN (by omega)
    have hu2 : IntKind.u32.wrap ((k2 * 2 + 1 : Nat) : Int) = ((k2 * 2 + 1 : Nat) : Int) := wrN (by omega)
    have hu3 : IntKind.u32.wrap ((k3 * 2 + 1 : Nat) : Int) = ((k3 * 2 + 1 : Nat) : Int) := wrN (by omega)
    have hu4 : IntKind.u32.wrap ((k4 * 2 + 1 : Nat) : Int) = ((k4 * 2 + 1 : Nat) : Int) := wrN (by omega)
    refine VW.cut (α := Unit) (fun _ => True) (fun _ => [(0, .ms β off ND 1), (1, .val (.int .u64 (w : Nat))), (4, .i (m + 8 : Nat)), (8, .val (.int .u32 (k2 * 2 : Nat))), (10, .val (.int .u32 (k4 * 2 : Nat))), (11, .val (.int .u32 (k3 * 2 : Nat)))]) (fun _ => σ.set β (.cells 178 (P ++ a :: b :: c :: d :: e :: f :: .u8 (48 + k1 / 10 : Nat) :: .u8 (48 + k1 % 10 : Nat) :: T))) ?_ (fun _ _ => ?_)
    · clear hu g3 g2 h64 g4 hE hc hND hleaf
      (have zz := Bx.mk (j5 ui3 Q5a X0t X2s (j9 ui5 ui9 @ca1 @cm2 hu1 hw1 hw2 @Int.toNat_natCast (j9 @Nat.mul_one ho1 ho2 @Q2z @Q4e @Q3a @Q4f @List.length_append.{0} @X7q))); (repeat' (first | with_reducible rfl | exact trivial | (with_reducible first | apply And.intro | apply Q0a | apply Q0b | refine Q0c (by decide +kernel) ?_ | intro _) | ((with_reducible refine .dm (fun _ => False) [(0, false), (1, false), (2, false), (3, false), (4, false), (5, false), (6, false), (7, false), (8, false), (9, false), (10, false), (11, false), (12, true), (13, false), (14, true)] (by decide) (by decide +kernel) ?_); (refine zs zz.out ?_)) | refine zaW zz.out ?_ | ((first | with_reducible refine Q0j (fun _ h => h.elim) ?_ | (refine Q0d (by exact Go.V.zK) ?_) | (refine Q0e (by exact Go.V.zK) ?_)); (try refine zs zz.out ?_)) | refine zo ?_ | omega | refine zt zz.out ?_ | fail)); try (all_goals clear zz))
      · exact ⟨_, _, rfl⟩
      · exact ⟨_, _, rfl⟩
      refine ⟨(), trivial, ?_, Q0x ?_⟩
      · simp only [vO, vQ, ↓vP, vE, vS, vB, vL, vF, vM, vN, Q0g, zb, zc, zd, ne_eq, not_false_eq_true, ze, zf, zj, zk, vT]
        simp only [smE j1, smO j1, zB, Q4e, Q4f, Q2z, Q3a]
        exact .refl _
      · simp only [vO, vQ, ↓vP, vE, vS, vB, vL, vF, vM, vN, Q0g, zb, zc, zd, ne_eq, not_false_eq_true, ze, zf, zj, zk, vT]
    refine VW.cut (α := Unit) (fun _ => True) (fun _ => [(0, .ms β off ND 1), (1, .val (.int .u64 (w : Nat))), (4, .i (m + 8 : Nat)), (10, .val (.int .u32 (k4 * 2 : Nat))), (11, .val (.int .u32 (k3 * 2 : Nat)))]) (fun _ => σ.set β (.cells 178 (P ++ a :: b :: c :: d :: .u8 (48 + k2 / 10 : Nat) :: .u8 (48 + k2 % 10 : Nat) :: .u8 (48 + k1 / 10 : Nat) :: .u8 (48 + k1 % 10 : Nat) :: T))) ?_ (fun _ _ => ?_)
    · clear hu g3 g2 h64 g4 hE hc hND hleaf
      (have zz := Bx.mk (j5 ui3 Q5a X0t X2s (j9 ui5 ui9 @ca1 @cm2 hu2 hw3 hw4 @Int.toNat_natCast (j9 @Nat.mul_one ho3 ho4 @Q2z @Q4e @Q3a @Q4f @List.length_append.{0} @X7q))); (repeat' (first | with_reducible rfl | exact trivial | (with_reducible first | apply And.intro | apply Q0a | apply Q0b | refine Q0c (by decide +kernel) ?_ | intro _) | ((with_reducible refine .dm (fun _ => False) [(0, false), (1, false), (2, false), (3, false), (4, false), (5, false), (6, false), (7, false), (8, false), (9, false), (10, false), (11, false), (12, true), (13, false), (14, true)] (by decide) (by decide +kernel) ?_); (refine zs zz.out ?_)) | refine zaW zz.out ?_ | ((first | with_reducible refine Q0j (fun _ h => h.elim) ?_ | (refine Q0d (by exact Go.V.zK) ?_) | (refine Q0e (by exact Go.V.zK) ?_)); (try refine zs zz.out ?_)) | refine zo ?_ | omega | refine zt zz.out ?_ | fail)); try (all_goals clear zz))
      · exact ⟨_, _, rfl⟩
      · exact ⟨_, _, rfl⟩
      refine ⟨(), trivial, ?_, Q0x ?_⟩
      · simp only [vO, vQ, ↓vP, vE, vS, vB, vL, vF, vM, vN, Q0g, zb, zc, zd, ne_eq, not_false_eq_true, ze, zf, zj, zk, vT]
        simp only [smE j2, smO j2, zB, Q4e, Q4f, Q2z, Q3a]
        exact .refl _
      · simp only [vO, vQ, ↓vP, vE, vS, vB, vL, vF, vM, vN, Q0g, zb, zc, zd, ne_eq, not_false_eq_true, ze, zf, zj, zk, vT]
    refine VW.cut (α := Unit) (fun _ => True) (fun _ => [(0, .ms β off ND 1), (1, .val (.int .u64 (w : Nat))), (4, .i (m + 8 : Nat)), (10, .val (.int .u32 (k4 * 2 : Nat)))]) (fun _ => σ.set β (.cells 178 (P ++ a :: b :: .u8 (48 + k3 / 10 : Nat) :: .u8 (48 + k3 % 10 : Nat) :: .u8 (48 + k2 / 10 : Nat) :: .u8 (48 + k2 % 10 : Nat) :: .u8 (48 + k1 / 10 : Nat) :: .u8 (48 + k1 % 10 : Nat) :: T))) ?_ (fun _ _ => ?_)
    · clear hu g3 g2 h64 g4 hE hc hND hleaf
      (have zz := Bx.mk (j5 ui3 Q5a X0t X2s (j9 ui5 ui9 @ca1 @cm2 hu3 hw5 hw6 @Int.toNat_natCast (j9 @Nat.mul_one ho5 ho6 @Q2z @Q4e @Q3a @Q4f @List.length_append.{0} @X7q))); (repeat' (first | with_reducible rfl | exact trivial | (with_reducible first | apply And.intro | apply Q0a | apply Q0b | refine Q0c (by decide +kernel) ?_ | intro _) | ((with_reducible refine .dm (fun _ => False) [(0, false), (1, false), (2, false), (3, false), (4, false), (5, false), (6, false), (7, false), (8, false), (9, false), (10, false), (11, false), (12, true), (13, false), (14, true)] (by decide) (by decide +kernel) ?_); (refine zs zz.out ?_)) | refine zaW zz.out ?_ | ((first | with_reducible refine Q0j (fun _ h => h.elim) ?_ | (refine Q0d (by exact Go.V.zK) ?_) | (refine Q0e (by exact Go.V.zK) ?_)); (try refine zs zz.out ?_)) | refine zo ?_ | omega | refine zt zz.out ?_ | fail)); try (all_goals clear zz))
      · exact ⟨_, _, rfl⟩
      · exact ⟨_, _, rfl⟩
      refine ⟨(), trivial, ?_, Q0x ?_⟩
      · simp only [vO, vQ, ↓vP, vE, vS, vB, vL, vF, vM, vN, Q0g, zb, zc, zd, ne_eq, not_false_eq_true, ze, zf, zj, zk, vT]
        simp only [smE j3, smO j3, zB, Q4e, Q4f, Q2z, Q3a]
        exact .refl _
      · simp only [vO, vQ, ↓vP, vE, vS, vB, vL, vF, vM, vN, Q0g, zb, zc, zd, ne_eq, not_false_eq_true, ze, zf, zj, zk, vT]
    refine VW.cut (α := Unit) (fun _ => True) (fun _ => [(0, .ms β off ND 1), (1, .val (.int .u64 (w : Nat))), (4, .i (m + 8 : Nat))]) (fun _ => σ.set β (.cells 178 (P ++ .u8 (48 + k4 / 10 : Nat) :: .u8 (48 + k4 % 10 : Nat) :: .u8 (48 + k3 / 10 : Nat) :: .u8 (48 + k3 % 10 : Nat) :: .u8 (48 + k2 / 10 : Nat) :: .u8 (48 + k2 % 10 : Nat) :: .u8 (48 + k1 / 10 : Nat) :: .u8 (48 + k1 % 10 : Nat) :: T))) ?_ (fun _ _ => ?_)
    · clear hu g3 g2 h64 g4 hE hc hND hleaf
      (have zz := Bx.mk (j5 ui3 Q5a X0t X2s (j9 ui5 ui9 @ca1 @cm2 hu4 hw7 hw8 @Int.toNat_natCast (j9 @Nat.mul_one ho7 ho8 @Q2z @Q4e @Q3a @Q4f @List.length_append.{0} @X7q))); (repeat' (first | with_reducible rfl | exact trivial | (with_reducible first | apply And.intro | apply Q0a | apply Q0b | refine Q0c (by decide +kernel) ?_ | intro _) | ((with_reducible refine .dm (fun _ => False) [(0, false), (1, false), (2, false), (3, false), (4, false), (5, false), (6, false), (7, false), (8, false), (9, false), (10, false), (11, false), (12, true), (13, false), (14, true)] (by decide) (by decide +kernel) ?_); (refine zs zz.out ?_)) | refine zaW zz.out ?_ | ((first | with_reducible refine Q0j (fun _ h => h.elim) ?_ | (refine Q0d (by exact Go.V.zK) ?_) | (refine Q0e (by exact Go.V.zK) ?_)); (try refine zs zz.out ?_)) | refine zo ?_ | omega | refine zt zz.out ?_ | fail)); try (all_goals clear zz))
      · exact ⟨_, _, rfl⟩
      · exact ⟨_, _, rfl⟩
      refine ⟨(), trivial, ?_, Q0x ?_⟩
      · simp only [vO, vQ, ↓vP, vE, vS, vB, vL, vF, vM, vN, Q0g, zb, zc, zd, ne_eq, not_false_eq_true, ze, zf, zj, zk, vT]
        simp only [smE j4, smO j4, zB, Q4e, Q4f, Q2z, Q3a]
        exact .refl _
      · simp only [vO, vQ, ↓vP, vE, vS, vB, vL, vF, vM, vN, Q0g, zb, zc, zd, ne_eq, not_false_eq_true, ze, zf, zj, zk, vT]
    (have zz := Bx.mk (j7 ui3 Q5a X0t X2s ui5 ui9 hw8); (repeat' (first | with_reducible rfl | exact trivial | (with_reducible first | apply And.intro | apply Q0a | apply Q0b | refine Q0c (by decide +kernel) ?_ | intro _) | refine zaW zz.out ?_ | refine zo ?_ | omega | refine zt zz.out ?_ | fail)); try (all_goals clear zz))
    refine ⟨m, w, padD 8 (v % 10 ^ 8) ++ dn, ⟨⟨by omega, ?_, by rw [← hw]; exact pad_lt 8 m v g3, by rw [← hw]; exact Nat.lt_of_le_of_lt (Nat.div_le_self ..) g4⟩, by omega⟩, (hleaf _).2 (.refl _), rfl, rfl⟩
    rw [← hw]
    exact Y0x 8 m v dn _ g2
  · simp only [vO, vQ, ↓vP, vE, vS, vB, vL, vF, vM, vN, Q0g, zb, zc, zd, ne_eq, not_false_eq_true, ze, zf, zj, zk, vT]
    iterate 12 (all_goals (try ((first | (with_reducible first | refine .rs ?_ | refine .ds (by kernel_rfl) ?_ | refine .dg (by kernel_rfl) ?_ | refine .rg ?_ | refine .ite ?_ | refine .ret ?_ | refine .skip ?_ | refine .exit ?_ | refine .scope ?_ | refine .seq (.label ?_) | refine .block ?_ | refine .seq ?_)); (try simp only [vO, vQ, ↓vP, vE, vS, vB, vL, vF, vM, vN, Q0g, zb, zc, zd, ne_eq, not_false_eq_true, ze, zf, zj, zk, Z3, Q2b, Z150, Q6z, Z179, Q7a, Z187, Q7b, Z5, X3f, Z9, Q2k, vT]))))
    refine Q1l (fun h => absurd (show ¬ (8:Int) ≤ (nd : Int) by omega) (not_not_intro h)) (fun _ => ?_)
    iterate 4 ((first | (with_reducible first | refine .rs ?_ | refine .ds (by kernel_rfl) ?_ | refine .dg (by kernel_rfl) ?_ | refine .rg ?_ | refine .ite ?_ | refine .ret ?_ | refine .skip ?_ | refine .exit ?_ | refine .scope ?_ | refine .seq (.label ?_) | refine .block ?_ | refine .seq ?_)); (try simp only [vO, vQ, ↓vP, vE, vS, vB, vL, vF, vM, vN, Q0g, zb, zc, zd, ne_eq, not_false_eq_true, ze, zf, zj, zk, Z3, Q2b, Z150, Q6z, Z179, Q7a, Z187, Q7b, Z5, X3f, Z9, Q2k, nz8, nz4, nz2, not_false_eq_true, true_and, vT]))
    have hv : v < 10 ^ 7 := zh g3 (Nat.pow_le_pow_right (by omega) (by omega))
    simp (disch := omega) only [wrN]
    refine VW.weak (Holds.weak (vals := [(0, .ms β off ND 1), (4, .i nd), (12, .val (.int .u32 v)), (99, .b (decide ((4 : Int) ≤ (nd : Int))))]) ?_) ?_
    · refine Q0x ?_
      simp only [vO, vQ, ↓vP, vE, vS, vB, vL, vF, vM, vN, Q0g, zb, zc, zd, ne_eq, not_false_eq_true, ze, zf, zj, zk, vT]
    clear h8 g4
    refine cutq (α := Nat × Nat × List UInt8) (fun z => z.1 < 4 ∧ z.1 ≤ ND ∧ padD z.1 z.2.1 ++ z.2.2 = padD ND u ∧ z.2.1 < 10 ^ z.1) (fun z => [(0, .ms β off ND 1), (4, .i z.1), (12, .val (.int .u32 (z.2.1 : Nat)))]) (fun z => σ.set β (.cells 178 (A ++ mid.take z.1 ++ (u8s z.2.2 ++ D)))) ?_ ?_
    · by_cases h4 : 4 ≤ nd
      · obtain ⟨m, rfl⟩ : ∃ m, nd = m + 4 := ⟨nd - 4, by omega⟩
        obtain ⟨P, E, hPe, hP, hE, hc⟩ := X6e A mid m 4 off hA (by omega)
        obtain ⟨a, b, c, d, rfl⟩ := len4 hE
        have hc2 : A ++ mid.take (m + 4) ++ (u8s dn ++ D) = P ++ a :: b :: c :: d :: (u8s dn ++ D) := by rw [hc]; simp
        rw [hc2]
        clear hc2
        have hleaf : ∀ S, (σ.set β (.cells 178 (A ++ mid.take m ++ (u8s (padD 4 (v % 10 ^ 4) ++ dn) ++ D)))).sub S ↔ (σ.set β (.cells 178 (P ++ (u8s (padD 4 (v % 10000)) ++ (u8s dn ++ D))))).sub S := fun S => by rw [hPe, Y0w, zB]
        rw [u8s4 _ (by omega)] at hleaf
        generalize hT : u8s dn ++ D = T at *
        (first | (with_reducible first | refine .rs ?_ | refine .ds (by kernel_rfl) ?_ | refine .dg (by kernel_rfl) ?_ | refine .rg ?_ | refine .ite ?_ | refine .ret ?_ | refine .skip ?_ | refine .exit ?_ | refine .scope ?_ | refine .seq (.label ?_) | refine .block ?_ | refine .seq ?_)); (try simp only [vO, vQ, ↓vP, vE, vS, vB, vL, vF, vM, vN, Q0g, zb, zc, zd, ne_eq, not_false_eq_true, ze, zf, zj, zk, Z3, Q2b, Z150, Q6z, Z179, Q7a, Z187, Q7b, Z5, X3f, Z9, Q2k, vT])
        refine Q1l (fun _ => ?_) (fun h => absurd (show (4:Int) ≤ ((m+4 : Nat) : Int) by omega) h)
        iterate 3 ((first | (with_reducible first | refine .rs ?_ | refine .ds (by kernel_rfl) ?_ | refine .dg (by kernel_rfl) ?_ | refine .rg ?_ | refine .ite ?_ | refine .ret ?_ | refine .skip ?_ | refine .exit ?_ | refine .scope ?_ | refine .seq (.label ?_) | refine .block ?_ | refine .seq ?_)); (try simp only [vO, vQ, ↓vP, vE, vS, vB, vL, vF, vM, vN, Q0g, zb, zc, zd, ne_eq, not_false_eq_true, ze, zf, zj, zk, Z3, Q2b, Z150, Q6z, Z179, Q7a, Z187, Q7b, Z5, X3f, Z9, Q2k, nz8, nz4, nz2, not_false_eq_true, true_and, vT]))
        simp (disch := omega) only [tm4, td4, wrN, tm2, td2, cm2]
        refine VW.weak (Holds.weak (vals := [(0, .ms β off ND 1), (4, .i (m + 4 : Nat)), (12, .val (.int .u32 (v / 10000 : Nat))), (14, .val (.int .u32 (v % 10000 / 100 * 2 : Nat))), (15, .val (.int .u32 (v % 10000 % 100 * 2 : Nat)))]) ?_) ?_
        · refine Q0x ?_
          simp only [vO, vQ, ↓vP, vE, vS, vB, vL, vF, vM, vN, Q0g, zb, zc, zd, ne_eq, not_false_eq_true, ze, zf, zj, zk, vT]
        have j1 : v % 10000 % 100 < 100 := by omega
        have j2 : v % 10000 / 100 < 100 := by omega
        generalize v % 10000 % 100 = k1 at *
        generalize v % 10000 / 100 = k2 at *
        generalize hw : v / 10000 = w at *
        have hm64 : m + 4 < 2 ^ 63 := by omega
        have hw1 : IntKind.i64.wrap (((m + 4 : Nat) : Int) - 1) = ((m + 3 : Nat) : Int) := by rw [w64 (by omega) (by omega)]; omega
        have hw2 : IntKind.i64.wrap (((m + 4 : Nat) : Int) - 2) = ((m + 2 : Nat) : Int) := by rw [w64 (by omega) (by omega)]; omega
        have hw3 : IntKind.i64.wrap (((m + 4 : Nat) : Int) - 3) = ((m + 1 : Nat) : Int) := by rw [w64 (by omega) (by omega)]; omega
        have hw4 : IntKind.i64.wrap (((m + 4 : Nat) : Int) - 4) = ((m : Nat) : Int) := by rw [w64 (by omega) (by omega)]; omega
        have ho1 : off + (m + 3) = P.length + 3 := by omega
        have ho2 : off + (m + 2) = P.length + 2 := by omega
        have ho3 : off + (m + 1) = P.length + 1 := by omega
        have ho4 : off + m = P.length := by omega
        have hu1 : IntKind.u32.wrap ((k1 * 2 + 1 : Nat) : Int) = ((k1 * 2 + 1 : Nat) : Int) := wrN (by omega)
        have hu2 : IntKind.u32.wrap ((k2 * 2 + 1 : Nat) : Int) = ((k2 * 2 + 1 : Nat) : Int) := wrN (by omega)
        refine VW.cut (α := Unit) (fun _ => True) (fun _ => [(0, .ms β off ND 1), (4, .i (m + 4 : Nat)), (12, .val (.int .u32 (w : Nat))), (14, .val (.int .u32 (k2 * 2 : Nat)))]) (fun _ => σ.set β (.cells 178 (P ++ a :: b :: .u8 (48 + k1 / 10 : Nat) :: .u8 (48 + k1 % 10 : Nat) :: T))) ?_ (fun _ _ => ?_)
        · clear hu g3 g2 h64 hE hc hND hleaf hv
          (have zz := Bx.mk (j5 ui3 Q5a X0t X2s (j9 ui5 ui9 @ca1 @cm2 hu1 hw1 hw2 @Int.toNat_natCast (j9 @Nat.mul_one ho1 ho2 @Q2z @Q4e @Q3a @Q4f @List.length_append.{0} @X7q))); (repeat' (first | with_reducible rfl | exact trivial | (with_reducible first | apply And.intro | apply Q0a | apply Q0b | refine Q0c (by decide +kernel) ?_ | intro _) | ((with_reducible refine .dm (fun _ => False) [(0, false), (1, false), (2, false), (3, false), (4, false), (5, false), (6, false), (7, false), (8, false), (9, false), (10, false), (11, false), (12, true), (13, false), (14, true)] (by decide) (by decide +kernel) ?_); (refine zs zz.out ?_)) | refine zaW zz.out ?_ | ((first | with_reducible refine Q0j (fun _ h => h.elim) ?_ | (refine Q0d (by exact Go.V.zK) ?_) | (refine Q0e (by exact Go.V.zK) ?_)); (try refine zs zz.out ?_)) | refine zo ?_ | omega | refine zt zz.out ?_ | fail)); try (all_goals clear zz))
          · exact ⟨_, _, rfl⟩
          · exact ⟨_, _, rfl⟩
          refine ⟨(), trivial, ?_, Q0x ?_⟩
          · simp only [vO, vQ, ↓vP, vE, vS, vB, vL, vF, vM, vN, Q0g, zb, zc, zd, ne_eq, not_false_eq_true, ze, zf, zj, zk, vT]
            simp only [smE j1, smO j1, zB, Q4e, Q4f, Q2z, Q3a]
            exact .refl _
          · simp only [vO, vQ, ↓vP, vE, vS, vB, vL, vF, vM, vN, Q0g, zb, zc, zd, ne_eq, not_false_eq_true, ze, zf, zj, zk, vT]
        refine VW.cut (α := Unit) (fun _ => True) (fun _ => [(0, .ms β off ND 1), (4, .i (m + 4 : Nat)), (12, .val (.int .u32 (w : Nat)))]) (fun _ => σ.set β (.cells 178 (P ++ .u8 (48 + k2 / 10 : Nat) :: .u8 (48 + k2 % 10 : Nat) :: .u8 (48 + k1 / 10 : Nat) :: .u8 (48 + k1 % 10 : Nat) :: T))) ?_ (fun _ _ => ?_)
        · clear hu g3 g2 h64 hE hc hND hleaf hv
          (have zz := Bx.mk (j5 ui3 Q5a X0t X2s (j9 ui5 ui9 @ca1 @cm2 hu2 hw3 hw4 @Int.toNat_natCast (j9 @Nat.mul_one ho3 ho4 @Q2z @Q4e @Q3a @Q4f @List.length_append.{0} @X7q))); (repeat' (first | with_reducible rfl | exact trivial | (with_reducible first | apply And.intro | apply Q0a | apply Q0b | refine Q0c (by decide +kernel) ?_ | intro _) | ((with_reducible refine .dm (fun _ => False) [(0, false), (1, false), (2, false), (3, false), (4, false), (5, false), (6, false), (7, false), (8, false), (9, false), (10, false), (11, false), (12, true), (13, false), (14, true)] (by decide) (by decide +kernel) ?_); (refine zs zz.out ?_)) | refine zaW zz.out ?_ | ((first | with_reducible refine Q0j (fun _ h => h.elim) ?_ | (refine Q0d (by exact Go.V.zK) ?_) | (refine Q0e (by exact Go.V.zK) ?_)); (try refine zs zz.out ?_)) | refine zo ?_ | omega | refine zt zz.out ?_ | fail)); try (all_goals clear zz))
          · exact ⟨_, _, rfl⟩
          · exact ⟨_, _, rfl⟩
          refine ⟨(), trivial, ?_, Q0x ?_⟩
          · simp only [vO, vQ, ↓vP, vE, vS, vB, vL, vF, vM, vN, Q0g, zb, zc, zd, ne_eq, not_false_eq_true, ze, zf, zj, zk, vT]
            simp only [smE j2, smO j2, zB, Q4e, Q4f, Q2z, Q3a]
            exact .refl _
          · simp only [vO, vQ, ↓vP, vE, vS, vB, vL, vF, vM, vN, Q0g, zb, zc, zd, ne_eq, not_false_eq_true, ze, zf, zj, zk, vT]
        (have zz := Bx.mk (j7 ui3 Q5a X0t X2s ui5 ui9 hw4); (repeat' (first | with_reducible rfl | exact trivial | (with_reducible first | apply And.intro | apply Q0a | apply Q0b | refine Q0c (by decide +kernel) ?_ | intro _) | refine zaW zz.out ?_ | refine zo ?_ | omega | refine zt zz.out ?_ | fail)); try (all_goals clear zz))
        refine ⟨(m, w, padD 4 (v % 10 ^ 4) ++ dn), ⟨by simp only; clear hu h64 g3; omega, by simp only; clear hu h64 g3; omega, ?_, by simp only; rw [← hw]; exact pad_lt 4 m v g3⟩, (hleaf _).2 (.refl _), Q0x ?_⟩
        · rw [← hw]
          exact Y0x 4 m v dn _ g2
        · simp only [vO, vQ, ↓vP, vE, vS, vB, vL, vF, vM, vN, Q0g, zb, zc, zd, ne_eq, not_false_eq_true, ze, zf, zj, zk, vT]
      · (first | (with_reducible first | refine .rs ?_ | refine .ds (by kernel_rfl) ?_ | refine .dg (by kernel_rfl) ?_ | refine .rg ?_ | refine .ite ?_ | refine .ret ?_ | refine .skip ?_ | refine .exit ?_ | refine .scope ?_ | refine .seq (.label ?_) | refine .block ?_ | refine .seq ?_)); (try simp only [vO, vQ, ↓vP, vE, vS, vB, vL, vF, vM, vN, Q0g, zb, zc, zd, ne_eq, not_false_eq_true, ze, zf, zj, zk, Z3, Q2b, Z150, Q6z, Z179, Q7a, Z187, Q7b, Z5, X3f, Z9, Q2k, vT])
        refine Q1l (fun h => absurd (show ¬ (4:Int) ≤ (nd : Int) by omega) (not_not_intro h)) (fun _ => ?_)
        (have zz := Bx.mk (j6 ui3 Q5a X0t X2s ui5 ui9); (repeat' (first | with_reducible rfl | exact trivial | (with_reducible first | apply And.intro | apply Q0a | apply Q0b | refine Q0c (by decide +kernel) ?_ | intro _) | refine zaW zz.out ?_ | refine zo ?_ | omega | refine zt zz.out ?_ | fail)); try (all_goals clear zz))
        refine ⟨(nd, v, dn), ⟨by simp only; omega, g1, g2, g3⟩, .refl _, Q0x ?_⟩
        simp only [vO, vQ, ↓vP, vE, vS, vB, vL, vF, vM, vN, Q0g, zb, zc, zd, ne_eq, not_false_eq_true, ze, zf, zj, zk, vT]
    clear hv g1 g2 g3
    rintro ⟨nd, v, dn⟩ ⟨g0, g1, g2, g3⟩
    simp only at g0 g1 g2 g3
    simp only []
    iterate 2 ((first | (with_reducible first | refine .rs ?_ | refine .ds (by kernel_rfl) ?_ | refine .dg (by kernel_rfl) ?_ | refine .rg ?_ | refine .ite ?_ | refine .ret ?_ | refine .skip ?_ | refine .exit ?_ | refine .scope ?_ | refine .seq (.label ?_) | refine .block ?_ | refine .seq ?_)); (try simp only [vO, vQ, ↓vP, vE, vS, vB, vL, vF, vM, vN, Q0g, zb, zc, zd, ne_eq, not_false_eq_true, ze, zf, zj, zk, Z3, Q2b, Z150, Q6z, Z179, Q7a, Z187, Q7b, Z5, X3f, Z9, Q2k, nz8, nz4, nz2, not_false_eq_true, true_and, vT]))
    refine cutq (α := Nat × Nat × List UInt8) (fun z => z.1 < 2 ∧ z.1 ≤ ND ∧ padD z.1 z.2.1 ++ z.2.2 = padD ND u ∧ z.2.1 < 10 ^ z.1) (fun z => [(0, .ms β off ND 1), (4, .i z.1), (12, .val (.int .u32 (z.2.1 : Nat)))]) (fun z => σ.set β (.cells 178 (A ++ mid.take z.1 ++ (u8s z.2.2 ++ D)))) ?_ ?_
    · have hv : v < 10 ^ 3 := zh g3 (Nat.pow_le_pow_right (by omega) (by omega))
      by_cases h4 : 2 ≤ nd
      · obtain ⟨m, rfl⟩ : ∃ m, nd = m + 2 := ⟨nd - 2, by omega⟩
        obtain ⟨P, E, hPe, hP, hE, hc⟩ := X6e A mid m 2 off hA (by omega)
        obtain ⟨a, b, rfl⟩ := len2 hE
        have hc2 : A ++ mid.take (m + 2) ++ (u8s dn ++ D) = P ++ a :: b :: (u8s dn ++ D) := by rw [hc]; simp
        rw [hc2]
        clear hc2
        have hleaf : ∀ S, (σ.set β (.cells 178 (A ++ mid.take m ++ (u8s (padD 2 (v % 10 ^ 2) ++ dn) ++ D)))).sub S ↔ (σ.set β (.cells 178 (P ++ (u8s (padD 2 (v % 100)) ++ (u8s dn ++ D))))).sub S := fun S => by rw [hPe, Y0w, zB]
        rw [u8s2 _ (by omega)] at hleaf
        generalize hT : u8s dn ++ D = T at *
        (first | (with_reducible first | refine .rs ?_ | refine .ds (by kernel_rfl) ?_ | refine .dg (by kernel_rfl) ?_ | refine .rg ?_ | refine .ite ?_ | refine .ret ?_ | refine .skip ?_ | refine .exit ?_ | refine .scope ?_ | refine .seq (.label ?_) | refine .block ?_ | refine .seq ?_)); (try simp only [vO, vQ, ↓vP, vE, vS, vB, vL, vF, vM, vN, Q0g, zb, zc, zd, ne_eq, not_false_eq_true, ze, zf, zj, zk, Z3, Q2b, Z150, Q6z, Z179, Q7a, Z187, Q7b, Z5, X3f, Z9, Q2k, vT])
        refine Q1l (fun _ => ?_) (fun h => absurd (show (2:Int) ≤ ((m+2 : Nat) : Int) by omega) h)
        iterate 2 ((first | (with_reducible first | refine .rs ?_ | refine .ds (by kernel_rfl) ?_ | refine .dg (by kernel_rfl) ?_ | refine .rg ?_ | refine .ite ?_ | refine .ret ?_ | refine .skip ?_ | refine .exit ?_ | refine .scope ?_ | refine .seq (.label ?_) | refine .block ?_ | refine .seq ?_)); (try simp only [vO, vQ, ↓vP, vE, vS, vB, vL, vF, vM, vN, Q0g, zb, zc, zd, ne_eq, not_false_eq_true, ze, zf, zj, zk, Z3, Q2b, Z150, Q6z, Z179, Q7a, Z187, Q7b, Z5, X3f, Z9, Q2k, nz8, nz4, nz2, not_false_eq_true, true_and, vT]))
        simp (disch := omega) only [td4, wrN, tm2, td2, cm2]
        refine VW.weak (Holds.weak (vals := [(0, .ms β off ND 1), (4, .i (m + 2 : Nat)), (12, .val (.int .u32 (v / 100 : Nat))), (16, .val (.int .u32 (v % 100 * 2 : Nat)))]) ?_) ?_
        · refine Q0x ?_
          simp only [vO, vQ, ↓vP, vE, vS, vB, vL, vF, vM, vN, Q0g, zb, zc, zd, ne_eq, not_false_eq_true, ze, zf, zj, zk, vT]
        have j1 : v % 100 < 100 := by omega
        generalize hk1 : v % 100 = k1 at *
        generalize hw : v / 100 = w at *
        have hm64 : m + 2 < 2 ^ 63 := by omega
        have hw1 : IntKind.i64.wrap (((m + 2 : Nat) : Int) - 1) = ((m + 1 : Nat) : Int) := by rw [w64 (by omega) (by omega)]; omega
        have hw2 : IntKind.i64.wrap (((m + 2 : Nat) : Int) - 2) = ((m : Nat) : Int) := by rw [w64 (by omega) (by omega)]; omega
        have ho1 : off + (m + 1) = P.length + 1 := by omega
        have ho2 : off + m = P.length := by omega
        have hu1 : IntKind.u32.wrap ((k1 * 2 + 1 : Nat) : Int) = ((k1 * 2 + 1 : Nat) : Int) := wrN (by omega)
        refine VW.cut (α := Unit) (fun _ => True) (fun _ => [(0, .ms β off ND 1), (4, .i (m + 2 : Nat)), (12, .val (.int .u32 (w : Nat)))]) (fun _ => σ.set β (.cells 178 (P ++ .u8 (48 + k1 / 10 : Nat) :: .u8 (48 + k1 % 10 : Nat) :: T))) ?_ (fun _ _ => ?_)
        · clear hu g3 g2 h64 hE hc hND hleaf hv
          (have zz := Bx.mk (j5 ui3 Q5a X0t X2s (j9 ui5 ui9 @ca1 @cm2 hu1 hw1 hw2 @Int.toNat_natCast (j9 @Nat.mul_one ho1 ho2 @Q2z @Q4e @Q3a @Q4f @List.length_append.{0} @X7q))); (repeat' (first | with_reducible rfl | exact trivial | (with_reducible first | apply And.intro | apply Q0a | apply Q0b | refine Q0c (by decide +kernel) ?_ | intro _) | ((with_reducible refine .dm (fun _ => False) [(0, false), (1, false), (2, false), (3, false), (4, false), (5, false), (6, false), (7, false), (8, false), (9, false), (10, false), (11, false), (12, true), (13, false), (14, true)] (by decide) (by decide +kernel) ?_); (refine zs zz.out ?_)) | refine zaW zz.out ?_ | ((first | with_reducible refine Q0j (fun _ h => h.elim) ?_ | (refine Q0d (by exact Go.V.zK) ?_) | (refine Q0e (by exact Go.V.zK) ?_)); (try refine zs zz.out ?_)) | refine zo ?_ | omega | refine zt zz.out ?_ | fail)); try (all_goals clear zz))
          · exact ⟨_, _, rfl⟩
          · exact ⟨_, _, rfl⟩
          refine ⟨(), trivial, ?_, Q0x ?_⟩
          · simp only [vO, vQ, ↓vP, vE, vS, vB, vL, vF, vM, vN, Q0g, zb, zc, zd, ne_eq, not_false_eq_true, ze, zf, zj, zk, vT]
            simp only [smE j1, smO j1, zB, Q4e, Q4f, Q2z, Q3a]
            exact .refl _
          · simp only [vO, vQ, ↓vP, vE, vS, vB, vL, vF, vM, vN, Q0g, zb, zc, zd, ne_eq, not_false_eq_true, ze, zf, zj, zk, vT]
        (have zz := Bx.mk (j7 ui3 Q5a X0t X2s ui5 ui9 hw2); (repeat' (first | with_reducible rfl | exact trivial | (with_reducible first | apply And.intro | apply Q0a | apply Q0b | refine Q0c (by decide +kernel) ?_ | intro _) | refine zaW zz.out ?_ | refine zo ?_ | omega | refine zt zz.out ?_ | fail)); try (all_goals clear zz))
        refine ⟨(m, w, padD 2 k1 ++ dn), ⟨by simp only; clear hu h64 g3; omega, by simp only; clear hu h64 g3; omega, ?_, by simp only; rw [← hw]; exact pad_lt 2 m v g3⟩, (hleaf _).2 (.refl _), Q0x ?_⟩
        · rw [← hw, ← hk1]
          exact Y0x 2 m v dn _ g2
        · simp only [vO, vQ, ↓vP, vE, vS, vB, vL, vF, vM, vN, Q0g, zb, zc, zd, ne_eq, not_false_eq_true, ze, zf, zj, zk, vT]
      · (first | (with_reducible first | refine .rs ?_ | refine .ds (by kernel_rfl) ?_ | refine .dg (by kernel_rfl) ?_ | refine .rg ?_ | refine .ite ?_ | refine .ret ?_ | refine .skip ?_ | refine .exit ?_ | refine .scope ?_ | refine .seq (.label ?_) | refine .block ?_ | refine .seq ?_)); (try simp only [vO, vQ, ↓vP, vE, vS, vB, vL, vF, vM, vN, Q0g, zb, zc, zd, ne_eq, not_false_eq_true, ze, zf, zj, zk, Z3, Q2b, Z150, Q6z, Z179, Q7a, Z187, Q7b, Z5, X3f, Z9, Q2k, vT])
        refine Q1l (fun h => absurd (show ¬ (2:Int) ≤ (nd : Int) by omega) (not_not_intro h)) (fun _ => ?_)
        (have zz := Bx.mk (j6 ui3 Q5a X0t X2s ui5 ui9); (repeat' (first | with_reducible rfl | exact trivial | (with_reducible first | apply And.intro | apply Q0a | apply Q0b | refine Q0c (by decide +kernel) ?_ | intro _) | refine zaW zz.out ?_ | refine zo ?_ | omega | refine zt zz.out ?_ | fail)); try (all_goals clear zz))
        refine ⟨(nd, v, dn), ⟨by simp only; omega, g1, g2, g3⟩, .refl _, Q0x ?_⟩
        simp only [vO, vQ, ↓vP, vE, vS, vB, vL, vF, vM, vN, Q0g, zb, zc, zd, ne_eq, not_false_eq_true, ze, zf, zj, zk, vT]
    clear g0 g1 g2 g3
    rintro ⟨nd, v, dn⟩ ⟨g0, g1, g2, g3⟩
    simp only at g0 g1 g2 g3
    simp only []
    by_cases h0 : nd = 0
    · subst h0
      rw [padD, zD] at g2
      (have zz := Bx.mk (j6 ui3 Q5a X0t X2s ui5 ui9); (repeat' (first | with_reducible rfl | exact trivial | (with_reducible first | apply And.intro | apply Q0a | apply Q0b | refine Q0c (by decide +kernel) ?_ | intro _) | refine zaW zz.out ?_ | refine zo ?_ | omega | refine zt zz.out ?_ | fail)); try (all_goals clear zz))
      exact ⟨_, .refl _, by rw [g2]; simp⟩
    · obtain rfl : nd = 1 := by omega
      have hv : v < 10 := by omega
      obtain ⟨P, E, hPe, hP, hE, hc⟩ := X6e A mid 0 1 off hA (by omega)
      obtain ⟨a, rfl⟩ : ∃ a, E = [a] := by
        match E, hE with
        | [a], _ => exact ⟨a, rfl⟩
      have hPA : P = A := by rw [← hPe]; simp
      subst hPA
      rw [show 1 = 0 + 1 from rfl, hc]
      have hdig : IntKind.u8.wrap (IntKind.u32.wrap (48 + (v : Int))) = ((48 + v : Nat) : Int) := by
        rw [show (48 : Int) + (v : Int) = ((48 + v : Nat) : Int) from rfl, wrN (by omega)]
        show (((48 + v) % 256 : Nat) : Int) = _
        rw [Nat.mod_eq_of_lt (by omega)]
      (have zz := Bx.mk (j7 ui3 Q5a X0t X2s ui5 ui9 hdig); (repeat' (first | with_reducible rfl | exact trivial | (with_reducible first | apply And.intro | apply Q0a | apply Q0b | refine Q0c (by decide +kernel) ?_ | intro _) | refine zaW zz.out ?_ | ((first | (refine Q0d (by exact Go.V.zK) ?_) | (refine Q0e (by exact Go.V.zK) ?_)); (try refine zs zz.out ?_)) | refine zo ?_ | omega | refine zt zz.out ?_ | fail)); try (all_goals clear zz))
      · exact ⟨_, _, rfl⟩
      · simp; omega
      · refine ⟨_, .refl _, ?_⟩
        rw [← hA, zB P, Q2z, Q3a, ← g2, Y0w]
        have hd1 : u8s (padD 1 v) = [.u8 (48 + v : Nat)] := by
          rw [padD, padD, zD, Nat.mod_eq_of_lt hv]
          simp only [u8s, List.map_cons, List.map_nil, UInt8.toNat_ofNat']
          rw [Nat.mod_eq_of_lt (by omega)]
        rw [hd1]
        simp
theorem e47 (l : List UInt8) (c : UInt8) (σ : Sg) : VCalls Tryz.prog 194 [.s (bs l), .u8 c.toNat] σ (fun x σ' => x = .i (l.count c : Nat) ∧ σ' = σ) := by
  have := vCountString (P := Tryz.prog) (σ := σ) (s := bs l) (c := c) Tryz.func194 (by kernel_rfl) (by kernel_rfl) (by kernel_rfl) (by kernel_rfl)
  rw [Q7s] at this
  exact this
theorem e58 (n : Nat) (hn : n ≤ 281474976710656) (σ : Sg) : VCalls Tryz.prog 186 [.i n] σ (fun y σ' => ∃ τ, σ τ = none ∧ y = .nz τ n 1 ∧ σ' = σ.set τ (.tok (some 5))) :=
  vMakeNoZero (P := Tryz.prog) (σ := σ) (ps := Tryz.f186.params) (t := 150) Tryz.func186 (by kernel_rfl) (by kernel_rfl) (by kernel_rfl) (by kernel_rfl) Z150 hn
theorem e35 (l : List UInt8) (c : UInt8) (σ : Sg) : VCalls Tryz.prog 182 [.s (bs l), .s (bs [c])] σ (fun x σ' => x = .i (l.count c : Nat) ∧ σ' = σ) := by
  (refine vfun (fun _ => .no) Q0h Tryz.func182 (by kernel_rfl) ?_; simp only [Q0f, Tryz.f182, zv])
  (have zz := Bx.mk (j4 ui3 ui5 ui9 @List.getD_cons_zero.{0}); (repeat' (first | with_reducible rfl | exact trivial | (with_reducible first | apply And.intro | apply Q0a | apply Q0b | refine Q0c (by decide +kernel) ?_ | intro _) | refine zaW zz.out ?_ | (((with_reducible refine zR (e47 l c _) ?_); rintro _ S ⟨rfl, rfl⟩); (try refine zs zz.out ?_)) | refine zo ?_ | omega | refine zt zz.out ?_ | fail)); try (all_goals clear zz))
  all_goals (exact Go.V.zE)
theorem cap51 (ty : TypeId) (l : List TypeId) (σ : Sg) (R : AV → Sg → Prop) : Q2o Tryz.prog .cap [.sl .nil []] (List.toArray (150 :: l)) ty σ R = R (.i 0) σ := cap_nil 150 5 ty l σ R Z150
theorem vsl_nz0 (e : TypeId) (τ n sz : Nat) (k : IntKind) (σ : Sg) (R : AV → Prop) : vsl Tryz.prog (some (.slice e)) (.nz τ n sz) none (some (.val (.int k ((0 : Nat) : Int)))) none σ R = vixE (Q0l Tryz.prog e) (fun s => s = sz ∧ R (.sl (.tok τ sz) [])) := vsl_nz e τ n sz k σ R
theorem cpy51 (x y : AV) (ty : TypeId) (l : List TypeId) (σ : Sg) (R : AV → Sg → Prop) : Q2o Tryz.prog .copy [x, y] (List.toArray (150 :: l)) ty σ R = X9j Tryz.prog 150 x y σ R := rfl
theorem copy51 (τ sz : Nat) (σ : Sg) (R : AV → Sg → Prop) : X9j Tryz.prog 150 (.sl (.tok τ sz) []) (.sl .nil []) σ R = R (.i 0) σ := vcopy_nil 150 5 τ sz σ R Z150 (by rw [X3f]; rfl)
theorem e48 (β n : Nat) (σ : Sg) (hβ : σ β = some (.cells 152 [.ref β 0, .sl .nil []])) (hn : n ≤ 281474976710656) : VCalls Tryz.prog 178 [.ref β 0, .i n] σ (fun x σ' => x = .tup [] ∧ ∃ τ, σ τ = none ∧ σ' = (σ.set τ (.tok (some 5))).set β (.cells 152 [.ref β 0, .sl (.tok τ 1) []])) := by
  have h58 := fun S => e58 n hn S
  (refine vfun (fun _ => .no) Q0h Tryz.func178 (by kernel_rfl) ?_; simp only [Q0f, Tryz.f178, zv])
  (have zz := Bx.mk (j4 ui3 X6q Q9f (j9 Q5a ui5 hβ @cap51 @cpy51 @copy51 @vsl_nz0 @Int.mul_zero @Int.zero_add)); (repeat' (first | with_reducible rfl | exact trivial | (with_reducible first | apply And.intro | apply Q0a | apply Q0b | refine Q0c (by decide +kernel) ?_ | intro _) | ((with_reducible refine .dms (fun x => x = β) [(0, false), (1, false), (2, false), (3, false), (4, false), (5, false), (6, false), (7, false), (9, false), (10, false), (11, false), (12, false), (13, false), (8, true), (14, false), (15, false)] (by decide) (by decide +kernel) ?_); (refine zs zz.out ?_)) | refine zaW zz.out ?_ | ((first | (refine Q0j (by intro β h; first | (rcases h with h | h <;> subst h <;> (simp (disch := first | assumption | (apply Go.Cert.ne_of2; assumption; assumption) | (apply Go.Cert.ne_ob; assumption; assumption; (intro e; cases e; done)) | omega) only [Sg.set_same, Sg.set_ne, Sg.set_ne', Sg.del_ne, Sg.del_ne'])) | (subst h; (simp (disch := first | assumption | (apply Go.Cert.ne_of2; assumption; assumption) | (apply Go.Cert.ne_ob; assumption; assumption; (intro e; cases e; done)) | omega) only [Sg.set_same, Sg.set_ne, Sg.set_ne', Sg.del_ne, Sg.del_ne']))) ?_) | ((with_reducible refine zR (h58 _) ?_); rintro _ S ⟨τ, hτ, rfl, rfl⟩) | (refine Q0d (o' := some (.cells 152 [.ref β 0, .sl .nil []])) (Q8r (by assumption) (by exact Go.V.zK)) ?_) | (refine Q0d (by exact Go.V.zK) ?_) | (refine Q0e (by exact Go.V.zK) ?_)); (try refine zs zz.out ?_)) | refine zo ?_ | omega | refine zt zz.out ?_ | fail)); try (all_goals clear zz))
  all_goals exact ⟨_, .refl _, _, hτ, rfl⟩
theorem e36 (β n : Nat) (σ : Sg) (h0 : σ β = none) (hn0 : 0 < n) (hn : n ≤ 281474976710656) : VCalls Tryz.prog 154 [.ref β 0, .i n] (σ.set β (.cells 152 [.val (.pointer none), .sl .nil []])) (fun x σ' => x = .tup [] ∧ Bld β [] σ σ') := by
  have h48 := fun S hS => e48 β n S hS hn
  (refine vfun (fun _ => .no) Q0h Tryz.func154 (by kernel_rfl) ?_; simp only [Q0f, Tryz.f154, zv])
  (have zz := Bx.mk (j6 ui3 X6q Q9f Q5a ui5 @cap51); (repeat' (first | with_reducible rfl | exact trivial | (with_reducible first | apply And.intro | apply Q0a | apply Q0b | refine Q0c (by decide +kernel) ?_ | intro _) | refine zaW zz.out ?_ | ((first | with_reducible refine (t115 β _ _ _ (Sg.set_same _ _ _) (.inl rfl)).use ?_ | ((with_reducible refine zR (h48 _ (by exact Go.V.zK)) ?_); rintro _ S ⟨rfl, τ, hτ, rfl⟩) | (refine Q0d (by exact Go.V.zK) ?_) | (refine Q0e (by exact Go.V.zK) ?_)); (try refine zs zz.out ?_)) | refine zo ?_ | omega | refine zt zz.out ?_ | fail)); try (all_goals clear zz))
  obtain ⟨hne, h1⟩ := Sg.of_set_none hτ
  exact ⟨(σ.set τ (.tok (some 5))).set β (.cells 152 [.ref β 0, .sl (.tok τ 1) []]), (by intro y p hy; simp only [Sg.set_apply, Sg.del_apply] at hy ⊢; grind), h0, .inr ⟨τ, hne, h1, rfl⟩⟩
theorem e49 (l : List UInt8) (c : UInt8) (σ : Sg) : VCalls Tryz.prog 195 [.s (bs l), .s (bs [c])] σ (fun x σ' => x = .i (if upTo c l < l.length then (upTo c l : Nat) else -1) ∧ σ' = σ) := by
  have h39 := fun σ => t114 l c σ
  (refine vfun (fun _ => .no) Q0h Tryz.func195 (by kernel_rfl) ?_; simp only [Q0f, Tryz.f195, zv])
  (have zz := Bx.mk (j4 ui3 ui5 ui9 @List.getD_cons_zero.{0}); (repeat' (first | with_reducible rfl | exact trivial | (with_reducible first | apply And.intro | apply Q0a | apply Q0b | refine Q0c (by decide +kernel) ?_ | intro _) | refine zaW zz.out ?_ | (((with_reducible refine zR (h39 _) ?_); rintro _ S ⟨rfl, rfl⟩); (try refine zs zz.out ?_)) | refine zo ?_ | omega | refine zt zz.out ?_ | fail)); try (all_goals clear zz))
  · rename_i hc
    subst hc
    exact ⟨_, .refl _, by simp [upTo], rfl⟩
  · exact ⟨_, .refl _, rfl⟩
theorem e37 (l : List UInt8) (σ : Sg) : VCalls Tryz.prog 183 [.s (bs l), .s (bs [39])] σ (fun x σ' => x = .i (if upTo 39 l < l.length then (upTo 39 l : Nat) else -1) ∧ σ' = σ) := by
  have h49 : ∀ σ, VCalls Tryz.prog 195 [.s (bs l), .s (bs [39])] σ _ := fun σ => e49 l 39 σ
  (refine vfun (fun _ => .no) Q0h Tryz.func183 (by kernel_rfl) ?_; simp only [Q0f, Tryz.f183, zv])
  (have zz := Bx.mk (j3 ui3 ui5 ui9); (repeat' (first | with_reducible rfl | exact trivial | (with_reducible first | apply And.intro | apply Q0a | apply Q0b | refine Q0c (by decide +kernel) ?_ | intro _) | refine zaW zz.out ?_ | (((with_reducible refine zR (h49 _) ?_); rintro _ S ⟨rfl, rfl⟩); (try refine zs zz.out ?_)) | refine zo ?_ | omega | refine zt zz.out ?_ | fail)); try (all_goals clear zz))
  all_goals (exact Go.V.zE)
end Go.Proofs.YtjdapkelojdefaaGreatDoor
namespace Go.Lex
open Go.V Go.Proofs.YtjdapkelojdefaaGreatDoor
theorem X4q : ∀ {l : List UInt8}, l.count 39 = 0 → quo l = l
  | [], _ => rfl
  | c :: r, h => by
    rw [List.count_cons] at h
    have h1 : c ≠ 39 := fun e => by rw [e] at h; simp at h
    unfold quo
    rw [if_neg h1, X4q (by omega)]
theorem quo_step : ∀ {l : List UInt8}, 0 < l.count 39 → upTo 39 l < l.length ∧ quo l = l.take (upTo 39 l) ++ ([39, 39] ++ quo (l.drop (upTo 39 l + 1))) ∧ l.count 39 = 1 + (l.drop (upTo 39 l + 1)).count 39
  | [], h => by simp at h
  | c :: r, h => by
    by_cases hc : c = 39
    · subst hc
      have : upTo 39 (39 :: r) = 0 := by simp [upTo]
      rw [this]
      refine ⟨by simp, ?_, ?_⟩
      · rw [quo, if_pos rfl]; rfl
      · rw [List.count_cons]; simp; omega
    · have hu : upTo 39 (c :: r) = upTo 39 r + 1 := by simp [upTo, hc]
      have hcc : (c :: r).count 39 = r.count 39 := by rw [List.count_cons]; simp [hc]
      rw [hcc] at h ⊢
      obtain ⟨h1, h2, h3⟩ := quo_step h
      rw [hu]
      refine ⟨by simpa using h1, ?_, ?_⟩
      · rw [quo, if_neg hc, h2]; simp
      · rw [List.drop_succ_cons]; exact h3
end Go.Lex
namespace Go.Proofs.YtjdapkelojdefaaGreatDoor
open Go Go.V Go.Lex
theorem e24 (l : List UInt8) (hl : l.length < 2 ^ 38) (σ : Sg) : VCalls Tryz.prog 176 [.s (bs l), .s (bs [39]), .s (bs [39, 39]), .i (-1)] σ (fun x σ' => x = .s (bs (quo l)) ∧ σ' = σ) := by
  have h35 : ∀ σ, VCalls Tryz.prog 182 [.s (bs l), .s (bs [39])] σ _ := fun σ => e35 l 39 σ
  have hcl : l.count 39 ≤ l.length := List.count_le_length
  by_cases h0 : l.count 39 = 0
  · rw [X4q h0]
    simp only [h0] at h35
    (refine vfun (fun _ => .no) Q0h Tryz.func176 (by kernel_rfl) ?_; simp only [Q0f, Tryz.f176, zv])
    (have zz := Bx.mk (j3 ui3 ui5 ui9); (repeat' (first | with_reducible rfl | exact trivial | (with_reducible first | apply And.intro | apply Q0a | apply Q0b | refine Q0c (by decide +kernel) ?_ | intro _) | refine zaW zz.out ?_ | (((with_reducible refine zR (h35 _) ?_); rintro _ S ⟨rfl, rfl⟩); (try refine zs zz.out ?_)) | refine zo ?_ | omega | refine zt zz.out ?_ | fail)); try (all_goals clear zz))
    all_goals (exact Go.V.zE)
  · have h36 : ∀ β S, S β = none → VCalls Tryz.prog 154 [.ref β 0, .val (.int .i64 ((l.length : Int) + (l.count 39 : Nat) * (((2 : Nat) : Int) - ((1 : Nat) : Int))))] (S.set β (.cells 152 [.val (.pointer none), .sl .nil []])) (fun x σ' => x = .tup [] ∧ Bld β [] S σ') := fun β S hS => by
      have e : (l.length : Int) + (l.count 39 : Nat) * (((2 : Nat) : Int) - ((1 : Nat) : Int)) = ((l.length + l.count 39 : Nat) : Int) := by omega
      rw [e]
      exact e36 β (l.length + l.count 39) S hS (by omega) (by omega)
    (refine vfun (fun _ => .no) Q0h Tryz.func176 (by kernel_rfl) ?_; simp only [Q0f, Tryz.f176, zv])
    (have zz := Bx.mk (j4 ui3 ui5 ui9 Q9f); (repeat' (first | with_reducible rfl | exact trivial | (with_reducible first | apply And.intro | apply Q0a | apply Q0b | refine Q0c (by decide +kernel) ?_ | intro _) | refine zaW zz.out ?_ | ((first | ((with_reducible refine zR (h35 _) ?_); rintro _ S ⟨rfl, rfl⟩) | ((with_reducible refine zR (h36 _ _ (by assumption)) ?_); rintro _ S' ⟨rfl, hB⟩)); (try refine zs zz.out ?_)) | refine zo ?_ | omega | refine zt zz.out ?_ | fail)); try (all_goals clear zz))
    · rename_i hx
      cases hx
    rename_i b hb _
    refine VW.loop3 (0 : Nat) (([], 0) : List UInt8 × Nat) S' (fun k p S' => k ≤ l.count 39 ∧ p.2 ≤ l.length ∧ p.1 ++ quo (l.drop p.2) = quo l ∧ (l.drop p.2).count 39 + k = l.count 39 ∧ p.1.length ≤ 2 * p.2 ∧ Bld b p.1 S S') (fun k p _ => [(0, .s (bs l)), (1, .s (bs [39])), (2, .s (bs [39, 39])), (10, .ref b 0), (11, .i p.2), (52, .i (l.count 39 : Nat)), (53, .i k)]) (fun _ _ S' => S') (fun k _ _ => l.count 39 - k) ⟨by omega, by simp, rfl, by simp, by simp, hB⟩ (.refl _) ?_ ?_
    · simp only [vO, vQ, ↓vP, vE, vS, vB, vL, vF, vM, vN, Q0g, zb, zc, zd, ne_eq, not_false_eq_true, ze, zf, zj, zk, vT]
      all_goals exact ⟨rfl, rfl⟩
    clear hB
    rintro k ⟨acc, st⟩ S' ⟨g1, g2, g3, g4, g5, hB⟩
    simp only at g2 g3 g4 g5 hB
    by_cases hk : k < l.count 39
    · obtain ⟨q1, q2, q3⟩ := quo_step (l := l.drop st) (by omega)
      have h37 : VCalls Tryz.prog 183 [.s (bs (l.drop st)), .s (bs [39])] S' (fun x σ' => x = .i (upTo 39 (l.drop st) : Nat) ∧ σ' = S') := by
        have := e37 (l.drop st) S'
        rw [if_pos q1] at this
        exact this
      have hcut : (l.take (st + upTo 39 (l.drop st))).drop st = (l.drop st).take (upTo 39 (l.drop st)) := by rw [List.drop_take]; congr 1; omega
      rw [List.length_drop] at q1
      rw [List.drop_drop] at q2 q3
      generalize upTo 39 (l.drop st) = t at *
      (have zz := Bx.mk (j2 ui3 (j9 ui5 ui9 Q9f @nadd @X8b @X8c @X8d @X8e @X8f)); (repeat' (first | with_reducible rfl | exact trivial | (with_reducible first | apply And.intro | apply Q0a | apply Q0b | refine Q0c (by decide +kernel) ?_ | intro _) | refine zaW zz.out ?_ | ((first | ((with_reducible refine zR h37 ?_); rintro _ _ ⟨rfl, rfl⟩) | ((with_reducible refine zR (t100 _ _ _ _ _ hB (by simp; omega)) ?_); rintro _ S'' ⟨rfl, hB⟩)); (try refine zs zz.out ?_)) | refine zo ?_ | omega | refine zt zz.out ?_ | fail)); try (all_goals clear zz))
      rename_i _ S'' _ _ hB
      exact ⟨k + 1, (acc ++ (l.take (st + t)).drop st ++ [39, 39], st + t + 1), S'', ⟨⟨by omega, by simp only; omega, by simp only; rw [hcut, ← g3, q2, Nat.add_assoc]; simp only [zB], by simp only; rw [Nat.add_assoc]; omega, by simp only [zw, List.length_drop, List.length_take, List.length_cons, List.length_nil]; omega, hB⟩, by omega⟩, .refl _, rfl, rfl⟩
    · (have zz := Bx.mk (j2 ui3 (j9 ui5 ui9 Q9f @nadd @X8b @X8c @X8d @X8e @X8f)); (repeat' (first | with_reducible rfl | exact trivial | (with_reducible first | apply And.intro | apply Q0a | apply Q0b | refine Q0c (by decide +kernel) ?_ | intro _) | refine zaW zz.out ?_ | ((first | ((with_reducible refine zR (t100 _ _ _ _ _ hB (by simp; omega)) ?_); rintro _ S'' ⟨rfl, hB⟩) | with_reducible refine (t103 _ _ _ _ hB (by first | assumption | (simp; omega))).use ?_); (try refine zs zz.out ?_)) | refine zo ?_ | omega | refine zt zz.out ?_ | fail)); try (all_goals clear zz))
      exact ⟨S, hB.sub, by rw [← g3, X4q (by omega)], rfl⟩
end Go.Proofs.YtjdapkelojdefaaGreatDoor
namespace Go.V
open Go.Lex
variable {P : Program}
theorem vsl_arr {β off n e : Nat} {l h : Int} {k1 k2 : IntKind} {T : TypeId} {cs : List AV} {z : Option Value} {s b : Nat} {σ : Sg} {R : AV → Prop} (hc : σ β = some (.cells T cs)) (hi : Q0l P e = some (z, s, b)) (hl : off + n * s ≤ cs.length) (h1 : 0 ≤ l ∧ l ≤ h ∧ h ≤ n ∧ (l = 0 ∨ l < n)) (hR : R (.ms β (off + l.toNat * s) (h - l).toNat s)) :
    vsl P (some (.array n e)) (.ref β off) (some (.val (.int k1 l))) (some (.val (.int k2 h))) none σ R := by
  unfold vsl
  simp only [Q1v, hi, hc]
  exact ⟨⟨hl, h1⟩, hR⟩
theorem vcv_ms {β off n e : Nat} {q : Bool} {T : TypeId} {cs : List AV} {l : List UInt8} {σ : Sg} {R : AV → Sg → Prop} (he : P.underlying e = some (.int .u8)) (hc : σ β = some (.cells T cs)) (hl : (cs.drop off).take n = l.map fun c => AV.u8 c.toNat) (hn : l.length = n) (hR : R (.s (bs l)) σ) :
    vcv P q (some (.slice e)) (some .string) (.ms β off n 1) σ R := by
  unfold vcv
  simp only [he, hc]
  exact ⟨bs l, trivial, hl, hn, hR⟩
end Go.V
namespace Go.Proofs.YtjdapkelojdefaaGreatDoor
open Go Go.V Go.Lex
theorem e34 (n : Nat) (hn : n < 9223372036854775808) (σ : Sg) : VCalls Tryz.prog 181 [.i n, .i 10] σ (fun x σ' => x = .s (bs (dec n)) ∧ σ' = σ) := by
  by_cases h : n < 100
  · (refine vfun (fun _ => .no) Q0h Tryz.func181 (by kernel_rfl) ?_; simp only [Q0f, Tryz.f181, zv])
    (have zz := Bx.mk (j4 ui3 ui2 ui4 ui9); (repeat' (first | with_reducible rfl | exact trivial | (with_reducible first | apply And.intro | apply Q0a | apply Q0b | refine Q0c (by decide +kernel) ?_ | intro _) | refine zaW zz.out ?_ | (((with_reducible refine zR (e42 n h _) ?_); rintro _ S ⟨rfl, rfl⟩); (try refine zs zz.out ?_)) | refine zo ?_ | omega | refine zt zz.out ?_ | fail)); try (all_goals clear zz))
    all_goals (exact Go.V.zE)
  · have hU : IntKind.u64.wrap (n : Int) = (n : Int) := wrM (by omega)
    have hL : (dec n).length ≤ 19 := dec_len n 18 (by omega)
    have h1 : 1 ≤ n := by omega
    have h43 : ∀ σ, VCalls Tryz.prog 190 [.val (.int .u64 n)] σ _ := fun σ => e43 n h1 (by omega) σ
    generalize hLe : (dec n).length = L at *
    have hs1 : (((1 + L : Nat) : Int) - 1).toNat = L := by omega
    have hdec : dec n = padD L n := by rw [← hLe]; exact dec_padlen n
    have hlt : n < 10 ^ L := by rw [← hLe]; exact dec_pow n
    have h44 : ∀ b S, S b = some (.cells 178 ([.u8 0] ++ List.replicate L (.u8 0) ++ List.replicate (23 - L) (.u8 0))) → VCalls Tryz.prog 191 [.ms b 1 L 1, .val (.int .u64 n)] S _ := fun b S hS => e44 b 1 L n _ _ _ S hS rfl (by simp) hlt (by omega) (by omega)
    have hz : ([.u8 0] ++ List.replicate L (AV.u8 0) ++ List.replicate (23 - L) (.u8 0)) = [AV.val (.int .u8 0), AV.val (.int .u8 0), AV.val (.int .u8 0), AV.val (.int .u8 0), AV.val (.int .u8 0), AV.val (.int .u8 0), AV.val (.int .u8 0), AV.val (.int .u8 0), AV.val (.int .u8 0), AV.val (.int .u8 0), AV.val (.int .u8 0), AV.val (.int .u8 0), AV.val (.int .u8 0), AV.val (.int .u8 0), AV.val (.int .u8 0), AV.val (.int .u8 0), AV.val (.int .u8 0), AV.val (.int .u8 0), AV.val (.int .u8 0), AV.val (.int .u8 0), AV.val (.int .u8 0), AV.val (.int .u8 0), AV.val (.int .u8 0), AV.val (.int .u8 0)] := by
      rw [← List.replicate_one, List.replicate_append_replicate, List.replicate_append_replicate]
      exact (congrArg (fun k => List.replicate k (AV.u8 0)) (show 1 + L + (23 - L) = 24 by omega)).trans rfl
    simp only [hz] at h44
    (refine vfun (fun _ => .no) Q0h Tryz.func181 (by kernel_rfl) ?_; simp only [Q0f, Tryz.f181, zv])
    (have zz := Bx.mk (j8 ui3 ui2 ui4 ui9 X0t ui178 Q5a (j9 ui5 hU @nadd @X8b @X8c @X8d @X8e @X8f hs1)); (repeat' (first | with_reducible rfl | exact trivial | (with_reducible first | apply And.intro | apply Q0a | apply Q0b | refine Q0c (by decide +kernel) ?_ | intro _) | refine zaW zz.out ?_ | ((first | ((with_reducible refine zR (h43 _) ?_); rintro _ S ⟨rfl, rfl⟩) | ((with_reducible refine zR (h44 _ _ (by exact Go.V.zK)) ?_); rintro _ S ⟨rfl, rfl⟩) | (refine vsl_arr (by exact Go.V.zK) X3f (by simp [u8s_len, X2b]; try omega) ?_ ?_) | (refine vcv_ms (l := padD L n) Z5 (by exact Go.V.zK) ?_ ?_ ?_)); (try refine zs zz.out ?_)) | refine zo ?_ | omega | refine zt zz.out ?_ | fail)); try (all_goals clear zz))
    · rw [List.take_append_of_le_length (by rw [u8s_len, X2b]; exact Nat.le_refl _), List.take_of_length_le (by rw [u8s_len, X2b]; exact Nat.le_refl _)]
      rfl
    · exact X2b L n
    · exact ⟨σ, Sg.sub_set ‹_› _, by rw [hdec], rfl⟩
theorem e23 (n : Nat) (hn : n < 9223372036854775808) (σ : Sg) : VCalls Tryz.prog 175 [.i n] σ (fun x σ' => x = .s (bs (dec n)) ∧ σ' = σ) := by
  (refine vfun (fun _ => .no) Q0h Tryz.func175 (by kernel_rfl) ?_; simp only [Q0f, Tryz.f175, zv])
  (have zz := Bx.mk (j3 ui3 ui2 ui9); (repeat' (first | with_reducible rfl | exact trivial | (with_reducible first | apply And.intro | apply Q0a | apply Q0b | refine Q0c (by decide +kernel) ?_ | intro _) | refine zaW zz.out ?_ | (((with_reducible refine zR (e34 n hn _) ?_); rintro _ S ⟨rfl, rfl⟩); (try refine zs zz.out ?_)) | refine zo ?_ | omega | refine zt zz.out ?_ | fail)); try (all_goals clear zz))
  all_goals (exact Go.V.zE)
theorem e11 (n : Nat) (hn : n < 9223372036854775808) (σ : Sg) : VCalls Tryz.prog 152 [.i n] σ (fun x σ' => x = .s (bs (dec n)) ∧ σ' = σ) := by
  (refine vfun (fun _ => .no) Q0h Tryz.func152 (by kernel_rfl) ?_; simp only [Q0f, Tryz.f152, zv])
  (have zz := Bx.mk (j3 ui3 ui2 ui9); (repeat' (first | with_reducible rfl | exact trivial | (with_reducible first | apply And.intro | apply Q0a | apply Q0b | refine Q0c (by decide +kernel) ?_ | intro _) | refine zaW zz.out ?_ | (((with_reducible refine zR (e23 n hn _) ?_); rintro _ S ⟨rfl, rfl⟩); (try refine zs zz.out ?_)) | refine zo ?_ | omega | refine zt zz.out ?_ | fail)); try (all_goals clear zz))
  all_goals (exact Go.V.zE)
theorem e12 (l : List UInt8) (hl : l.length < 2 ^ 38) (σ : Sg) : VCalls Tryz.prog 153 [.s (bs l), .s (bs [39]), .s (bs [39, 39])] σ (fun x σ' => x = .s (bs (quo l)) ∧ σ' = σ) := by
  (refine vfun (fun _ => .no) Q0h Tryz.func153 (by kernel_rfl) ?_; simp only [Q0f, Tryz.f153, zv])
  repeat' (first | with_reducible rfl | exact trivial | (with_reducible first | apply And.intro | apply Q0a | apply Q0b | refine Q0c (by decide +kernel) ?_ | intro _) | refine zaW (j2 ui3 ui9) ?_ | (((with_reducible refine zR (e24 l hl _) ?_); rintro _ S ⟨rfl, rfl⟩); (try refine zs (j2 ui3 ui9) ?_)) | refine zo ?_ | omega | refine zt (j2 ui3 ui9) ?_ | fail)
  all_goals (exact Go.V.zE)
end Go.Proofs.YtjdapkelojdefaaGreatDoor
