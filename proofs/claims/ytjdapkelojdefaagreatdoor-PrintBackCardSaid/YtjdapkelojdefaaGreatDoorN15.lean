/- Part 15 of the proof: W28, W29, W30, W31, W32, W33, W34, W35, W36, W37, W38. -/
import Derived.Test.YtjdapkelojdefaaGreatDoorN7
import Derived.Test.YtjdapkelojdefaaGreatDoorN14
import Derived.Test.YtjdapkelojdefaaGreatDoorN11

set_option linter.all false
set_option maxRecDepth 100000
set_option maxHeartbeats 4000000
open Go.V.Sg renaming set_same → zn, set_ne → zp, set_ne' → zq, del_ne → zr, del_ne' → zv
open Option renaming getD_some → zw
open List renaming length_append → zx, length_cons → zy, length_nil → zA, length_map → zB
open Go.Cert renaming ne_of2 → zQ, ne_ob → zR
open Go.V.VCalls renaming mono → zU
namespace Go.Proofs.YtjdapkelojdefaaGreatDoor
open Go Go.V Go.Lex Go.Parse Go.Print
theorem v_bad (v : Vl) (σ : Sg) : VCalls Tryz.prog 117 [.agg (valA v)] σ (fun x σ' => x = .b (!okV v) ∧ σ' = σ) := by
  have hw := Q6c v
  unfold valA
  generalize okV v = b at *
  generalize v.1 = v1 at *
  generalize v.2.1 = v2 at *
  generalize v.2.2 = v3 at *
  (refine vfun (fun _ => .ro) Q0h Tryz.func117 (by kernel_rfl) ?_; simp only [Q0f, Tryz.f117, zw])
  (have zz := Bx.mk (j6 ui0 ui3 ui4 ui9 ui22 ui23); (repeat' (first | exact zc | (with_reducible first | apply And.intro | apply Q0a | apply Q0b | refine Q0c (by decide +kernel) ?_ | intro _) | refine zaY zz.out ?_ | ((first | (with_reducible refine uc (hw _) ?_) | (with_reducible refine uc (Q6c _ _) ?_) | (refine Q0d (by exact zK) ?_) | (refine Q0e (by exact zK) ?_)); (try refine zsY zz.out ?_)) | refine zo ?_ | omega | refine ztY zz.out ?_ | fail)); try (all_goals clear zz))
  all_goals first | exact ⟨_, .refl _, rfl⟩ | exact ⟨_, .refl _, rfl, rfl⟩
theorem v_index (l : List Vl) (hl : l.length ≤ 9223372036854775807) (σ : Sg) :
    VCalls Tryz.prog 160 [.sl .any (X0m l), .fn 117 []] σ (fun x σ' => ∃ n : Int, (0 ≤ n ↔ l.any (fun v => !okV v) = true) ∧ x = .i n ∧ σ' = σ) := by
  unfold X0m
  have hn : (l.map valA).length = l.length := zB ..
  have hgt := fun k (h : k < l.length) => Q3c (f := valA) h
  have hall := Q3d (f := valA) (n := 3) l (fun _ => rfl)
  generalize l.map valA = L at *
  (refine vfun (fun _ => .no) Q0h Tryz.func160 (by kernel_rfl) ?_; simp only [Q0f, Tryz.f160, zw])
  (have zz := Bx.mk (j2 ui0 (j9 ui3 ui4 ui9 ui22 ui23 ui86 Q1e hn hall)); (repeat' (first | exact zc | (with_reducible first | apply And.intro | apply Q0a | apply Q0b | refine Q0c (by decide +kernel) ?_ | intro _) | refine zaY zz.out ?_ | ((first | (refine Q0d (by exact zK) ?_) | (refine Q0e (by exact zK) ?_)); (try refine zsY zz.out ?_)) | refine zo ?_ | omega | refine ztY zz.out ?_ | fail)); try (all_goals clear zz))
  refine VW.loop3 (0 : Nat) () () (fun k _ _ => k ≤ l.length ∧ ∀ j (hj : j < l.length), j < k → okV l[j] = true) (fun k _ _ => [(0, .sl .any L), (1, .fn 117 []), (6, .sl .any L), (7, .i l.length), (8, .i k)]) (fun _ _ _ => σ) (fun k _ _ => l.length - k) ⟨Nat.zero_le _, fun j hj h => by omega⟩ (.refl _) ?_ ?_
  · simp only [vO, vQ, ↓vP, vE, vS, vB, vL, vF, vM, vN, Q0g, Nat.reduceEqDiff, Nat.reduceAdd, Nat.reduceLeDiff, ne_eq, not_false_eq_true, Nat.reduceMul, Nat.reduceSub, Int.toNat_zero, Int.reduceToNat, vT]
    all_goals rfl
  rintro k _ _ ⟨hk, hp⟩
  rcases Nat.lt_or_ge k l.length with hk2 | hk2
  · have hg := hgt k hk2
    have hc := v_bad l[k]
    have hpk : okV l[k] = false → l.any (fun v => !okV v) = true := fun hh => List.any_eq_true.2 ⟨_, List.getElem_mem hk2, by rw [hh]; rfl⟩
    have hkk : okV l[k] = true → ∀ j (hj : j < l.length), j < k + 1 → okV l[j] = true := fun hh j hj h => by
      rcases Nat.lt_or_ge j k with q | q
      · exact hp j hj q
      · obtain rfl : j = k := by omega
        exact hh
    have hg2 : valA l[k] = [.i l[k].1, .i l[k].2.1, .s (bs l[k].2.2)] := rfl
    rw [hg2] at hg hc
    clear hg2 hp
    generalize okV l[k] = b at *
    generalize l[k].1 = v1 at *
    generalize l[k].2.1 = v2 at *
    generalize l[k].2.2 = v3 at *
    cases b with
    | true =>
      (have zz := Bx.mk (j3 ui0 ui3 (j9 ui4 ui9 ui22 ui23 ui86 Q1e hn hall hg)); (repeat' (first | exact zc | (with_reducible first | apply And.intro | apply Q0a | apply Q0b | refine Q0c (by decide +kernel) ?_ | intro _) | refine zaY zz.out ?_ | ((first | (with_reducible refine uc (hc _) ?_) | (refine Q0d (by exact zK) ?_) | (refine Q0e (by exact zK) ?_)); (try refine zsY zz.out ?_)) | refine zo ?_ | omega | refine ztY zz.out ?_ | fail)); try (all_goals clear zz))
      all_goals exact ⟨k + 1, (), (), ⟨⟨hk2, hkk rfl⟩, by omega⟩, .refl _, rfl⟩
    | false =>
      (have zz := Bx.mk (j3 ui0 ui3 (j9 ui4 ui9 ui22 ui23 ui86 Q1e hn hall hg)); (repeat' (first | exact zc | (with_reducible first | apply And.intro | apply Q0a | apply Q0b | refine Q0c (by decide +kernel) ?_ | intro _) | refine zaY zz.out ?_ | ((first | (with_reducible refine uc (hc _) ?_) | (refine Q0d (by exact zK) ?_) | (refine Q0e (by exact zK) ?_)); (try refine zsY zz.out ?_)) | refine zo ?_ | omega | refine ztY zz.out ?_ | fail)); try (all_goals clear zz))
      all_goals exact ⟨_, .refl _, k, ⟨fun _ => hpk rfl, fun _ => by omega⟩, rfl, rfl⟩
  · have hno : l.any (fun v => !okV v) = false := by
      rw [List.any_eq_false]
      intro x hx
      obtain ⟨j, hj, rfl⟩ := List.getElem_of_mem hx
      rw [hp j hj (by omega)]; decide
    rw [hno]
    (have zz := Bx.mk (j2 ui0 (j9 ui3 ui4 ui9 ui22 ui23 ui86 Q1e hn hall)); (repeat' (first | exact zc | (with_reducible first | apply And.intro | apply Q0a | apply Q0b | refine Q0c (by decide +kernel) ?_ | intro _) | refine zaY zz.out ?_ | ((first | (refine Q0d (by exact zK) ?_) | (refine Q0e (by exact zK) ?_)); (try refine zsY zz.out ?_)) | refine zo ?_ | omega | refine ztY zz.out ?_ | fail)); try (all_goals clear zz))
    all_goals exact ⟨_, .refl _, -1, ⟨fun h => by omega, fun h => by cases h⟩, rfl, rfl⟩
theorem any_not (l : List Vl) : l.any (fun v => !okV v) = !l.all okV := by
  induction l with
  | nil => rfl
  | cons x r ih => rw [List.any_cons, List.all_cons, ih]; cases okV x <;> simp
theorem v_contains (l : List Vl) (hl : l.length ≤ 9223372036854775807) (σ : Sg) :
    VCalls Tryz.prog 116 [.sl .any (X0m l), .fn 117 []] σ (fun x σ' => x = .b (!l.all okV) ∧ σ' = σ) := by
  have hi := v_index l hl
  rw [any_not] at hi
  generalize (!l.all okV) = b at *
  (refine vfun (fun _ => .no) Q0h Tryz.func116 (by kernel_rfl) ?_; simp only [Q0f, Tryz.f116, zw])
  (have zz := Bx.mk (j7 ui3 ui4 ui9 ui22 ui23 ui86 Q1e); (repeat' (first | exact zc | (with_reducible first | apply And.intro | apply Q0a | apply Q0b | refine Q0c (by decide +kernel) ?_ | intro _) | refine zaY zz.out ?_ | ((first | ((with_reducible refine zU (hi _) ?_); rintro _ S ⟨n, hn, rfl, rfl⟩) | (refine Q0d (by exact zK) ?_) | (refine Q0e (by exact zK) ?_)); (try refine zsY zz.out ?_)) | refine zo ?_ | omega | refine ztY zz.out ?_ | fail)); try (all_goals clear zz))
  all_goals exact ⟨_, .refl _, b_eq (by simpa using hn), rfl⟩
theorem Q9l (l : List (List Vl)) (hl : l.length ≤ 9223372036854775807) (hL : ∀ r ∈ l, r.length ≤ 9223372036854775807) (σ : Sg) : VCalls Tryz.prog 60 [.sl .any (l.map rowA)] σ (fun x σ' => x = .b (X7q l) ∧ σ' = σ) := by
  have hn : (l.map rowA).length = l.length := zB ..
  have hall := Q3d (f := rowA) (n := 1) l (fun _ => rfl)
  have hgt := fun k (h : k < l.length) => Q3c (f := rowA) h
  unfold X7q
  generalize l.map rowA = L at *
  (refine vfun (fun _ => .no) Q0h Tryz.func60 (by kernel_rfl) ?_; simp only [Q0f, Tryz.f60, zw])
  (have zz := Bx.mk (j3 ui0 ui3 (j9 ui4 ui9 ui22 ui23 ui38 ui86 Q1e hn hall)); (repeat' (first | exact zc | (with_reducible first | apply And.intro | apply Q0a | apply Q0b | refine Q0c (by decide +kernel) ?_ | intro _) | refine zaY zz.out ?_ | ((first | (refine Q0d (by exact zK) ?_) | (refine Q0e (by exact zK) ?_)); (try refine zsY zz.out ?_)) | refine zo ?_ | omega | refine ztY zz.out ?_ | fail)); try (all_goals clear zz))
  refine VW.loop3 (0 : Nat) () () (fun k _ _ => k ≤ l.length ∧ l.all rowB = (l.drop k).all rowB) (fun k _ _ => [(0, .sl .any L), (5, .sl .any L), (6, .i l.length), (7, .i k)]) (fun _ _ _ => σ) (fun k _ _ => l.length - k) ⟨Nat.zero_le _, rfl⟩ (.refl _) ?_ ?_
  · simp only [vO, vQ, ↓vP, vE, vS, vB, vL, vF, vM, vN, Q0g, Nat.reduceEqDiff, Nat.reduceAdd, Nat.reduceLeDiff, ne_eq, not_false_eq_true, Nat.reduceMul, Nat.reduceSub, Int.toNat_zero, Int.reduceToNat, vT]
    all_goals rfl
  rintro k _ _ ⟨hk, hr⟩
  rcases Nat.lt_or_ge k l.length with hk2 | hk2
  · have hg := hgt k hk2
    have hO := v_contains l[k] (hL _ (List.getElem_mem hk2))
    have hn2 : (X0m l[k]).length = l[k].length := zB ..
    have hdr : (l.drop k).all rowB = (rowB l[k] && (l.drop (k + 1)).all rowB) := by rw [List.drop_eq_getElem_cons hk2, List.all_cons]
    have hco : rowB l[k] = (l[k].all okV && decide (1 ≤ l[k].length ∧ l[k].length ≤ 8)) := rfl
    rw [hco] at hdr
    clear hco
    unfold rowA at hg
    generalize l[k].all okV = rb at *
    generalize l[k].length = nl at *
    generalize X0m l[k] = EE at *
    rw [hr, hdr]
    (have zz := Bx.mk (j5 ui0 ui3 ui4 ui9 (j9 ui22 ui23 ui38 ui86 Q1e hn hall hg hn2)); (repeat' (first | exact zc | (with_reducible first | apply And.intro | apply Q0a | apply Q0b | refine Q0c (by decide +kernel) ?_ | intro _) | refine zaY zz.out ?_ | ((first | (with_reducible refine uc (hO _) ?_) | (refine Q0d (by exact zK) ?_) | (refine Q0e (by exact zK) ?_)); (try refine zsY zz.out ?_)) | refine zo ?_ | omega | refine ztY zz.out ?_ | fail)); try (all_goals clear zz))
    all_goals first | exact ⟨k + 1, (), (), ⟨⟨hk2, by simp_all <;> omega⟩, by omega⟩, .refl _, rfl⟩ | exact ⟨_, .refl _, b_eq (by simp_all <;> omega), rfl⟩ | (exfalso; omega)
  · rw [hr, List.drop_of_length_le hk2]
    (have zz := Bx.mk (j3 ui0 ui3 (j9 ui4 ui9 ui22 ui23 ui38 ui86 Q1e hn hall)); (repeat' (first | exact zc | (with_reducible first | apply And.intro | apply Q0a | apply Q0b | refine Q0c (by decide +kernel) ?_ | intro _) | refine zaY zz.out ?_ | ((first | (refine Q0d (by exact zK) ?_) | (refine Q0e (by exact zK) ?_)); (try refine zsY zz.out ?_)) | refine zo ?_ | omega | refine ztY zz.out ?_ | fail)); try (all_goals clear zz))
    all_goals exact ⟨_, .refl _, b_eq (by simp_all <;> omega), rfl⟩
structure LimS (x : Stm) : Prop where
  k : inR x.k
  lim : inR x.lim
  cols : x.cols.length ≤ 9223372036854775807
  rows : x.rows.length ≤ 9223372036854775807
  row : ∀ r ∈ x.rows, r.length ≤ 9223372036854775807
  sets : x.sets.length ≤ 9223372036854775807
  set : ∀ y ∈ x.sets, Lim y.2
  items : x.items.length ≤ 9223372036854775807
  item : ∀ y ∈ x.items, LimL y.2
  on : LimL x.on
  wh : LimL x.wh
  gr : LimL x.gr
  or : LimL x.or
theorem Q3k (x : Stm) (h : LimS x) (σ : Sg) : VCalls Tryz.prog 62 [.agg (stmA x)] σ (fun y σ' => y = .b (selB x) ∧ σ' = σ) := by
  obtain ⟨k, t, cols, pk, rows, sets, items, join, on, wh, gr, or, desc, lim⟩ := x
  obtain ⟨h1, h2, h3, h4, h5, h6, h7, h8, h9, h10, h11, h12, h13⟩ := h
  dsimp only at h1 h2 h3 h4 h5 h6 h7 h8 h9 h10 h11 h12 h13
  unfold stmA selB Go.Print.joinB
  dsimp only
  have i1 := v_items items h8 h9
  have i2 := Q7z on h10
  have i3 := Y0y gr h12
  have i4 := Y0y or h13
  have i5 := Q2n join
  have n1 := Q1y on
  have n2 := Q1y or
  generalize X0j items = b1 at *
  generalize oneB on = b2 at *
  generalize colB gr = b3 at *
  generalize colB or = b4 at *
  have hj : join = [] → isNm join = false := fun e => by rw [e]; rfl
  generalize isNm join = b5 at *
  generalize exsA on = L1 at *
  generalize exsA or = L2 at *
  generalize on.length = m1 at *
  generalize or.length = m2 at *
  (refine vfun (fun _ => .ro) Q0h Tryz.func62 (by kernel_rfl) ?_; simp only [Q0f, Tryz.f62, zw])
  (have zz := Bx.mk (j8 ui0 ui3 ui4 ui9 ui22 ui23 ui24 (j9 ui25 ui26 ui37 ui38 ui39 ui40 ui41 ui42 (j9 ui67 ui68 ui70 ui71 Q1e Q1r Q1s @n1 @n2))); (repeat' (first | exact zc | (with_reducible first | apply And.intro | apply Q0a | apply Q0b | refine Q0c (by decide +kernel) ?_ | intro _) | refine zaY zz.out ?_ | ((first | (with_reducible refine uc (i1 _) ?_) | (with_reducible refine uc (i2 _) ?_) | (with_reducible refine uc (i3 _) ?_) | (with_reducible refine uc (i4 _) ?_) | (with_reducible refine uc (i5 _) ?_) | (with_reducible refine uc (Q2n _ _) ?_) | (with_reducible refine uc (Q7z _ (by assumption) _) ?_) | (with_reducible refine uc (v_items _ (by assumption) (by assumption) _) ?_) | (with_reducible refine uc (Y0y _ (by assumption) _) ?_) | (refine Q0d (by exact zK) ?_) | (refine Q0e (by exact zK) ?_)); (try refine zsY zz.out ?_)) | refine zo ?_ | omega | refine ztY zz.out ?_ | fail)); try (all_goals clear zz))
  all_goals first | exact ⟨_, .refl _, b_eq (by simp_all <;> omega), rfl⟩ | trace_state
theorem Q9m (x : Stm) (h : LimS x) (hsm : x.items.length + x.on.length + x.gr.length + x.or.length ≤ 9223372036854775807) (σ : Sg) : VCalls Tryz.prog 28 [.agg (stmA x)] σ (fun y σ' => y = .b (fitB x) ∧ σ' = σ) := by
  have hS := Q3k x h
  obtain ⟨k, t, cols, pk, rows, sets, items, join, on, wh, gr, or, desc, lim⟩ := x
  obtain ⟨h1, h2, h3, h4, h5, h6, h7, h8, h9, h10, h11, h12, h13⟩ := h
  dsimp only at h1 h2 h3 h4 h5 h6 h7 h8 h9 h10 h11 h12 h13 hsm
  unfold fitB bareB
  generalize hcr : creates _ = cr
  generalize hch : chooses _ = ch
  unfold creates at hcr
  unfold chooses at hch
  dsimp only at hcr hch
  have iC := Q3j cols h3
  have iR := Q9l rows h4 h5
  have iS := Q9k sets h6 h7
  have iW := Q7z wh h11
  have iT := Q2n t
  have iP := Q2n pk
  have n1 := Q1y on
  have n2 := Q1y or
  have n3 := Q1y gr
  have n4 := Q1y wh
  have n5 : (cols.map coA).length = cols.length := zB ..
  have n6 : (rows.map rowA).length = rows.length := zB ..
  have n7 : (sets.map setA).length = sets.length := zB ..
  have n8 : (items.map Q2z).length = items.length := zB ..
  clear h5 h7 h9 h10 h11 h12 h13
  generalize selB _ = bS at *
  dsimp only
  unfold stmA at *
  dsimp only at *
  generalize X7p cols = bC at *
  generalize X7q rows = bR at *
  generalize X5l sets = bT at *
  generalize oneB wh = bW at *
  generalize isNm t = bt at *
  generalize isNm pk = bp at *
  generalize exsA on = L1 at *
  generalize exsA or = L2 at *
  generalize exsA gr = L3 at *
  generalize exsA wh = L4 at *
  generalize cols.map coA = L5 at *
  generalize rows.map rowA = L6 at *
  generalize sets.map setA = L7 at *
  generalize items.map Q2z = L8 at *
  generalize on.length = m1 at *
  generalize or.length = m2 at *
  generalize gr.length = m3 at *
  generalize wh.length = m4 at *
  generalize cols.length = m5 at *
  generalize rows.length = m6 at *
  generalize sets.length = m7 at *
  generalize items.length = m8 at *
  obtain ⟨C, hC⟩ : ∃ C : List AV, C = [.i k, .s (bs t), .sl .any L5, .s (bs pk), .sl .any L6, .sl .any L7, .sl .any L8, .s (bs join), .sl .any L1, .sl .any L4, .sl .any L3, .sl .any L2, .b desc, .i lim] := ⟨_, rfl⟩
  (refine vfun (fun _ => .ro) Q0h Tryz.func28 (by kernel_rfl) ?_; simp only [Q0f, Tryz.f28, zw])
  refine VW.cut (α := Unit) (fun _ => True) (fun _ => [(1, .ro C), (2, .b false)]) (fun _ => σ) ?_ (fun _ _ => ?_)
  · subst hC
    (have zz := Bx.mk (j6 ui0 ui3 ui4 ui9 ui22 (j9 ui23 ui24 ui25 ui26 ui37 ui38 ui39 ui40 (j9 ui41 ui42 ui67 ui68 ui70 ui71 Q1e Q1r Q1s))); (repeat' (first | exact zc | (with_reducible first | apply And.intro | apply Q0a | apply Q0b | refine Q0c (by decide +kernel) ?_ | intro _) | refine zaY zz.out ?_ | ((first | (with_reducible refine uc (Q2n _ _) ?_) | (with_reducible refine uc (Q7z _ (by assumption) _) ?_) | (with_reducible refine uc (Q3j _ (by assumption) _) ?_) | (with_reducible refine uc (Q9l _ (by assumption) (by assumption) _) ?_) | (with_reducible refine uc (Q9k _ (by assumption) (by assumption) _) ?_) | (with_reducible refine uc (Q3k _ (by assumption) _) ?_) | (refine Q0d (by exact zK) ?_) | (refine Q0e (by exact zK) ?_)); (try refine zsY zz.out ?_)) | refine zo ?_ | omega | refine ztY zz.out ?_ | fail)); try (all_goals clear zz))
    all_goals (refine ⟨(), trivial, .refl _, Q0v ?_⟩; (have zz := Bx.mk (j6 ui0 ui3 ui4 ui9 ui22 (j9 ui23 ui24 ui25 ui26 ui37 ui38 ui39 ui40 (j9 ui41 ui42 ui67 ui68 ui70 ui71 Q1e Q1r Q1s))); (repeat' (first | exact zc | (with_reducible first | apply And.intro | apply Q0a | apply Q0b | refine Q0c (by decide +kernel) ?_ | intro _) | refine zaY zz.out ?_ | ((first | (with_reducible refine uc (Q2n _ _) ?_) | (with_reducible refine uc (Q7z _ (by assumption) _) ?_) | (with_reducible refine uc (Q3j _ (by assumption) _) ?_) | (with_reducible refine uc (Q9l _ (by assumption) (by assumption) _) ?_) | (with_reducible refine uc (Q9k _ (by assumption) (by assumption) _) ?_) | (with_reducible refine uc (Q3k _ (by assumption) _) ?_) | (refine Q0d (by exact zK) ?_) | (refine Q0e (by exact zK) ?_)); (try refine zsY zz.out ?_)) | refine zo ?_ | omega | refine ztY zz.out ?_ | fail)); try (all_goals clear zz)))
  refine VW.cut (α := Unit) (fun _ => True) (fun _ => [(1, .ro C), (2, .b false), (3, .i k)]) (fun _ => σ) ?_ (fun _ _ => ?_)
  · subst hC
    (have zz := Bx.mk (j6 ui0 ui3 ui4 ui9 ui22 (j9 ui23 ui24 ui25 ui26 ui37 ui38 ui39 ui40 (j9 ui41 ui42 ui67 ui68 ui70 ui71 Q1e Q1r Q1s))); (repeat' (first | exact zc | (with_reducible first | apply And.intro | apply Q0a | apply Q0b | refine Q0c (by decide +kernel) ?_ | intro _) | refine zaY zz.out ?_ | ((first | (with_reducible refine uc (Q2n _ _) ?_) | (with_reducible refine uc (Q7z _ (by assumption) _) ?_) | (with_reducible refine uc (Q3j _ (by assumption) _) ?_) | (with_reducible refine uc (Q9l _ (by assumption) (by assumption) _) ?_) | (with_reducible refine uc (Q9k _ (by assumption) (by assumption) _) ?_) | (with_reducible refine uc (Q3k _ (by assumption) _) ?_) | (refine Q0d (by exact zK) ?_) | (refine Q0e (by exact zK) ?_)); (try refine zsY zz.out ?_)) | refine zo ?_ | omega | refine ztY zz.out ?_ | fail)); try (all_goals clear zz))
    all_goals (refine ⟨(), trivial, .refl _, Q0v ?_⟩; (have zz := Bx.mk (j6 ui0 ui3 ui4 ui9 ui22 (j9 ui23 ui24 ui25 ui26 ui37 ui38 ui39 ui40 (j9 ui41 ui42 ui67 ui68 ui70 ui71 Q1e Q1r Q1s))); (repeat' (first | exact zc | (with_reducible first | apply And.intro | apply Q0a | apply Q0b | refine Q0c (by decide +kernel) ?_ | intro _) | refine zaY zz.out ?_ | ((first | (with_reducible refine uc (Q2n _ _) ?_) | (with_reducible refine uc (Q7z _ (by assumption) _) ?_) | (with_reducible refine uc (Q3j _ (by assumption) _) ?_) | (with_reducible refine uc (Q9l _ (by assumption) (by assumption) _) ?_) | (with_reducible refine uc (Q9k _ (by assumption) (by assumption) _) ?_) | (with_reducible refine uc (Q3k _ (by assumption) _) ?_) | (refine Q0d (by exact zK) ?_) | (refine Q0e (by exact zK) ?_)); (try refine zsY zz.out ?_)) | refine zo ?_ | omega | refine ztY zz.out ?_ | fail)); try (all_goals clear zz)))
  refine VW.cut (α := Unit) (fun _ => True) (fun _ => [(1, .ro C), (2, .b false), (3, .i k), (4, .b cr)]) (fun _ => σ) ?_ (fun _ _ => ?_)
  · subst hC
    (have zz := Bx.mk (j7 ui0 ui3 ui4 ui9 ui22 ui23 (j9 ui24 ui25 ui26 ui37 ui38 ui39 ui40 ui41 (j9 ui42 ui67 ui68 ui70 ui71 Q1e Q1r Q1s n5))); (repeat' (first | exact zc | (with_reducible first | apply And.intro | apply Q0a | apply Q0b | refine Q0c (by decide +kernel) ?_ | intro _) | refine zaY zz.out ?_ | ((first | (with_reducible refine uc (Q2n _ _) ?_) | (with_reducible refine uc (Q7z _ (by assumption) _) ?_) | (with_reducible refine uc (Q3j _ (by assumption) _) ?_) | (with_reducible refine uc (Q9l _ (by assumption) (by assumption) _) ?_) | (with_reducible refine uc (Q9k _ (by assumption) (by assumption) _) ?_) | (with_reducible refine uc (Q3k _ (by assumption) _) ?_) | (refine Q0d (by exact zK) ?_) | (refine Q0e (by exact zK) ?_)); (try refine zsY zz.out ?_)) | refine zo ?_ | omega | refine ztY zz.out ?_ | fail)); try (all_goals clear zz))
    all_goals (refine ⟨(), trivial, .refl _, Q0v ?_⟩; (have zz := Bx.mk (j6 ui0 ui3 ui4 ui9 ui22 (j9 ui23 ui24 ui25 ui26 ui37 ui38 ui39 ui40 (j9 ui41 ui42 ui67 ui68 ui70 ui71 Q1e Q1r Q1s))); (repeat' (first | exact zc | (with_reducible first | apply And.intro | apply Q0a | apply Q0b | refine Q0c (by decide +kernel) ?_ | intro _) | refine zaY zz.out ?_ | ((first | (with_reducible refine uc (Q2n _ _) ?_) | (with_reducible refine uc (Q7z _ (by assumption) _) ?_) | (with_reducible refine uc (Q3j _ (by assumption) _) ?_) | (with_reducible refine uc (Q9l _ (by assumption) (by assumption) _) ?_) | (with_reducible refine uc (Q9k _ (by assumption) (by assumption) _) ?_) | (with_reducible refine uc (Q3k _ (by assumption) _) ?_) | (refine Q0d (by exact zK) ?_) | (refine Q0e (by exact zK) ?_)); (try refine zsY zz.out ?_)) | refine zo ?_ | omega | refine ztY zz.out ?_ | fail)); try (all_goals clear zz)))
    all_goals (refine b_eq ?_; subst hcr; rcases Nat.eq_zero_or_pos m5 with hz | hz <;> first | (exfalso; omega) | (by_cases hp : pk = [] <;> simp [hz, hp]))
  refine VW.cut (α := Unit) (fun _ => True) (fun _ => [(1, .ro C), (2, .b false), (3, .i k), (4, .b cr), (5, .b ch)]) (fun _ => σ) ?_ (fun _ _ => ?_)
  · subst hC
    clear hS iC iR iS iW iT iP
    (have zz := Bx.mk (j2 ui0 (j9 ui3 ui4 ui9 ui22 ui23 ui24 ui25 ui26 (j9 ui37 ui38 ui39 ui40 ui41 ui42 ui67 ui68 (j9 ui70 ui71 Q1e Q1r Q1s @n1 @n2 n3 n8)))); (repeat' (first | exact zc | (with_reducible first | apply And.intro | apply Q0a | apply Q0b | refine Q0c (by decide +kernel) ?_ | intro _) | refine zaY zz.out ?_ | ((first | (with_reducible refine uc (Q2n _ _) ?_) | (with_reducible refine uc (Q7z _ (by assumption) _) ?_) | (with_reducible refine uc (Q3j _ (by assumption) _) ?_) | (with_reducible refine uc (Q9l _ (by assumption) (by assumption) _) ?_) | (with_reducible refine uc (Q9k _ (by assumption) (by assumption) _) ?_) | (with_reducible refine uc (Q3k _ (by assumption) _) ?_) | (refine Q0d (by exact zK) ?_) | (refine Q0e (by exact zK) ?_)); (try refine zsY zz.out ?_)) | refine zo ?_ | omega | refine ztY zz.out ?_ | fail)); try (all_goals clear zz))
    all_goals (refine ⟨(), trivial, .refl _, Q0v ?_⟩; (have zz := Bx.mk (j6 ui0 ui3 ui4 ui9 ui22 (j9 ui23 ui24 ui25 ui26 ui37 ui38 ui39 ui40 (j9 ui41 ui42 ui67 ui68 ui70 ui71 Q1e Q1r Q1s))); (repeat' (first | exact zc | (with_reducible first | apply And.intro | apply Q0a | apply Q0b | refine Q0c (by decide +kernel) ?_ | intro _) | refine zaY zz.out ?_ | ((first | (with_reducible refine uc (Q2n _ _) ?_) | (with_reducible refine uc (Q7z _ (by assumption) _) ?_) | (with_reducible refine uc (Q3j _ (by assumption) _) ?_) | (with_reducible refine uc (Q9l _ (by assumption) (by assumption) _) ?_) | (with_reducible refine uc (Q9k _ (by assumption) (by assumption) _) ?_) | (with_reducible refine uc (Q3k _ (by assumption) _) ?_) | (refine Q0d (by exact zK) ?_) | (refine Q0e (by exact zK) ?_)); (try refine zsY zz.out ?_)) | refine zo ?_ | omega | refine ztY zz.out ?_ | fail)); try (all_goals clear zz)))
    all_goals (refine b_eq ?_; subst hch; rcases Nat.eq_zero_or_pos (m8 + m1 + m3 + m2) with hz | hz <;> first | (exfalso; omega) | (clear n1 n2 n3 n4 n5 n6 n7 n8 h1 h2 h3 h4 h6 h8; by_cases hj : join = [] <;> by_cases hl : lim = -1 <;> cases desc <;> first | (simp_all; done) | (simp [hz, hj, hl]; done) | trace_state))
  clear hcr hch
  refine VW.cut (α := Unit) (fun _ => bt = true ∧ (1 ≤ k ∧ k ≤ 6) ∧ (k = 1 ∨ cr = false) ∧ (k = 3 ∨ m6 = 0) ∧ (k = 4 ∨ m7 = 0) ∧ (k = 6 ∨ ch = false) ∧ (4 ≤ k ∨ m4 = 0) ∧ bW = true) (fun _ => [(1, .ro C), (2, .b false), (3, .i k)]) (fun _ => σ) ?_ (fun _ q => ?_)
  · subst hC
    clear hS iC iR iS iP
    (have zz := Bx.mk (j9 ui0 ui3 ui4 ui9 ui22 ui23 ui24 ui25 (j9 ui26 ui37 ui38 ui39 ui40 ui41 ui42 ui67 (j9 ui68 ui70 ui71 Q1e Q1r Q1s n4 n6 n7))); (repeat' (first | exact zc | (with_reducible first | apply And.intro | apply Q0a | apply Q0b | refine Q0c (by decide +kernel) ?_ | intro _) | refine zaY zz.out ?_ | ((first | (with_reducible refine uc (iW _) ?_) | (with_reducible refine uc (iT _) ?_) | (with_reducible refine uc (Q2n _ _) ?_) | (with_reducible refine uc (Q7z _ (by assumption) _) ?_) | (with_reducible refine uc (Q3j _ (by assumption) _) ?_) | (with_reducible refine uc (Q9l _ (by assumption) (by assumption) _) ?_) | (with_reducible refine uc (Q9k _ (by assumption) (by assumption) _) ?_) | (with_reducible refine uc (Q3k _ (by assumption) _) ?_) | (refine Q0d (by exact zK) ?_) | (refine Q0e (by exact zK) ?_)); (try refine zsY zz.out ?_)) | refine zo ?_ | omega | refine ztY zz.out ?_ | fail)); try (all_goals clear zz))
    all_goals first | exact ⟨_, .refl _, b_eq (by simp_all <;> omega), rfl⟩ | (refine ⟨(), ?_, .refl _, Q0v ?_⟩; (simp_all <;> omega); (have zz := Bx.mk (j6 ui0 ui3 ui4 ui9 ui22 (j9 ui23 ui24 ui25 ui26 ui37 ui38 ui39 ui40 (j9 ui41 ui42 ui67 ui68 ui70 ui71 Q1e Q1r Q1s))); (repeat' (first | exact zc | (with_reducible first | apply And.intro | apply Q0a | apply Q0b | refine Q0c (by decide +kernel) ?_ | intro _) | refine zaY zz.out ?_ | ((first | (with_reducible refine uc (Q2n _ _) ?_) | (with_reducible refine uc (Q7z _ (by assumption) _) ?_) | (with_reducible refine uc (Q3j _ (by assumption) _) ?_) | (with_reducible refine uc (Q9l _ (by assumption) (by assumption) _) ?_) | (with_reducible refine uc (Q9k _ (by assumption) (by assumption) _) ?_) | (with_reducible refine uc (Q3k _ (by assumption) _) ?_) | (refine Q0d (by exact zK) ?_) | (refine Q0e (by exact zK) ?_)); (try refine zsY zz.out ?_)) | refine zo ?_ | omega | refine ztY zz.out ?_ | fail)); try (all_goals clear zz))) | trace_state
  obtain ⟨q1, q2, q3, q4, q5, q6, q7, q8⟩ := q
  have hE : (bt && (decide (1 ≤ k ∧ k ≤ 6) && ((decide (k = 1) || !cr) && ((decide (k = 3) || decide (m6 = 0)) && ((decide (k = 4) || decide (m7 = 0)) && ((decide (k = 6) || !ch) && (decide (4 ≤ k) || decide (m4 = 0)))))))) = true := by
    simp only [q1, Bool.and_eq_true, Bool.or_eq_true, decide_eq_true_eq, Bool.not_eq_true']
    exact ⟨trivial, q2, q3, q4, q5, q6, q7⟩
  rw [hE, q8, Bool.true_and, Bool.true_and]
  clear hE q1 q3 q4 q5 q6 q7 q8
  subst hC
  (have zz := Bx.mk (j6 ui0 ui3 ui4 ui9 ui22 (j9 ui23 ui24 ui25 ui26 ui37 ui38 ui39 ui40 (j9 ui41 ui42 ui67 ui68 ui70 ui71 Q1e Q1r Q1s))); (repeat' (first | exact zc | (with_reducible first | apply And.intro | apply Q0a | apply Q0b | refine Q0c (by decide +kernel) ?_ | intro _) | refine zaY zz.out ?_ | ((first | (with_reducible refine uc (hS _) ?_) | (with_reducible refine uc (iC _) ?_) | (with_reducible refine uc (iR _) ?_) | (with_reducible refine uc (iS _) ?_) | (with_reducible refine uc (iP _) ?_) | (with_reducible refine uc (Q2n _ _) ?_) | (with_reducible refine uc (Q7z _ (by assumption) _) ?_) | (with_reducible refine uc (Q3j _ (by assumption) _) ?_) | (with_reducible refine uc (Q9l _ (by assumption) (by assumption) _) ?_) | (with_reducible refine uc (Q9k _ (by assumption) (by assumption) _) ?_) | (with_reducible refine uc (Q3k _ (by assumption) _) ?_) | (refine Q0d (by exact zK) ?_) | (refine Q0e (by exact zK) ?_)); (try refine zsY zz.out ?_)) | refine zo ?_ | omega | refine ztY zz.out ?_ | fail)); try (all_goals clear zz))
  all_goals first | exact ⟨_, .refl _, b_eq (by simp_all <;> omega), rfl⟩ | trace_state
end Go.Proofs.YtjdapkelojdefaaGreatDoor
namespace Go.Print
open Go.V Go.Lex Go.Parse Go.Proofs.YtjdapkelojdefaaGreatDoor
theorem sepT_snoc {β : Type} (one : β → List Tk) (x : β) : ∀ l : List β, sepT one (l ++ [x]) = sepT one l ++ ((if l = [] then [] else [wd [44]]) ++ one x)
  | [] => rfl
  | [y] => by show one y ++ wd [44] :: one x = _; simp [sepT]
  | y :: z :: r => by
    have ih := sepT_snoc one x (z :: r)
    show one y ++ wd [44] :: sepT one ((z :: r) ++ [x]) = (one y ++ wd [44] :: sepT one (z :: r)) ++ _
    rw [ih]; simp
theorem maxD_snoc {β : Type} (one : β → Nat) (x : β) : ∀ l : List β, maxD one (l ++ [x]) = max (maxD one l) (one x)
  | [] => by show max (one x) 0 = max 0 (one x); omega
  | y :: r => by
    have ih := maxD_snoc one x r
    show max (one y) (maxD one (r ++ [x])) = max (max (one y) (maxD one r)) (one x)
    rw [ih]; omega
theorem sepT_take {β : Type} (one : β → List Tk) {l : List β} {k : Nat} (h : k < l.length) : sepT one (l.take (k + 1)) = sepT one (l.take k) ++ ((if k = 0 then [] else [wd [44]]) ++ one l[k]) := by
  rw [List.take_succ_eq_append_getElem h, sepT_snoc]
  cases k with
  | zero => rfl
  | succ k =>
    have hq : (l.take (k + 1)).length = k + 1 := by rw [List.length_take]; omega
    have : l.take (k + 1) ≠ [] := fun e => by rw [e] at hq; cases hq
    rw [if_neg this, if_neg (by omega)]
theorem X7r {β : Type} (one : β → Nat) {l : List β} {k : Nat} (h : k < l.length) : maxD one (l.take (k + 1)) = max (maxD one (l.take k)) (one l[k]) := by
  rw [List.take_succ_eq_append_getElem h, maxD_snoc]
theorem sepT_le {β : Type} (one : β → List Tk) (l : List β) : ∀ k, (sepT one (l.take k)).length ≤ (sepT one l).length := fun k => by
  rcases Nat.lt_or_ge k l.length with hk | hk
  · have h2 : ∀ j, k + j ≤ l.length → (sepT one (l.take k)).length ≤ (sepT one (l.take (k + j))).length := fun j => by
      induction j with
      | zero => exact fun _ => Nat.le_refl _
      | succ j ih =>
        intro hj
        have h3 := sepT_take one (l := l) (k := k + j) (by omega)
        rw [← Nat.add_assoc, h3, zx]
        have := ih (by omega)
        omega
    have := h2 (l.length - k) (by omega)
    rwa [show k + (l.length - k) = l.length by omega, List.take_length] at this
  · rw [List.take_of_length_le hk]; exact Nat.le_refl _
theorem maxD_le {β : Type} (one : β → Nat) (l : List β) : ∀ k, maxD one (l.take k) ≤ maxD one l := fun k => by
  rcases Nat.lt_or_ge k l.length with hk | hk
  · have h2 : ∀ j, k + j ≤ l.length → maxD one (l.take k) ≤ maxD one (l.take (k + j)) := fun j => by
      induction j with
      | zero => exact fun _ => Nat.le_refl _
      | succ j ih =>
        intro hj
        have h3 := X7r one (l := l) (k := k + j) (by omega)
        rw [← Nat.add_assoc, h3]
        have := ih (by omega)
        omega
    have := h2 (l.length - k) (by omega)
    rwa [show k + (l.length - k) = l.length by omega, List.take_length] at this
  · rw [List.take_of_length_le hk]; exact Nat.le_refl _
end Go.Print
namespace Go.Proofs.YtjdapkelojdefaaGreatDoor
open Go Go.V Go.Lex Go.Parse Go.Print
theorem X9i {a b : Sg} (h : a = b) : a.sub b := h ▸ .refl _
def Wf (ω : Nat) (f : FuncId) (va : List AV) (tk : List Tk) (dp : Nat) : Prop := ∀ (B : Sg) (τ : Nat) (l : List Tk) (d m : Int), okS B ω τ → 0 ≤ d → d ≤ m → m ≤ 2 ^ 41 → d + dp ≤ 2 ^ 40 → l.length + tk.length ≤ 2 ^ 36 →
  VCalls Tryz.prog f va (WS B ω τ l d m) (fun x σ' => x = .tup [] ∧ ∃ τ', okS B ω τ' ∧ σ' = WS B ω τ' (l ++ tk) d (max m (d + dp)))
theorem wf_expr {e : Ex} (hr : rt e = true) (hL : Lim e) (ω : Nat) : Wf ω 21 [.ref ω 0, .agg (exA e)] (toTr e).tk (toTr e).dp := by
  obtain ⟨q1, q2⟩ := Q7r e hr
  have hX : Cx (toTr e) := Q9f (toTr e) q2 (X2a (toTr e) (by rw [q1]; exact hL))
  unfold Cx Wr at hX
  rw [q1] at hX
  intro B τ l d m h h0 h1 h2 h3 h4
  exact hX B ω τ l d m h h0 h1 h2 h3 h4
def expW (es : List (List AV)) : List Ex → List Tk
  | [] => []
  | e :: _ => wdsE es ++ (toTr e).tk
theorem expW1 (w : By) (l : List Ex) : expW [[.val (.string (bs w))]] l = expT [w] l := by
  cases l with
  | nil => rfl
  | cons e r => show wdsE _ ++ _ = _; rw [Q5k, Q8i]; rfl
theorem expW2 (w v : By) (l : List Ex) : expW [[.val (.string (bs w))], [.val (.string (bs v))]] l = expT [w, v] l := by
  cases l with
  | nil => rfl
  | cons e r => show wdsE _ ++ _ = _; rw [Q5k, Q5k, Q8i]; rfl
theorem X4q (ω : Nat) (x : List Ex) (hx : oneB x = true) (hL : ∀ e ∈ x, Lim e) (o o2 : Own) (es : List (List AV)) (he : okW es) : Wf ω 66 [.ref ω 0, .sl o (exsA x), .sl o2 es] (expW es x) (expD x) := by
  intro B τ l d m h h0 h1 h2 h3 h4
  cases x with
  | nil =>
    rw [Q0s]
    have hz0 : (0 < ((0 : Nat) : Int)) = False := by simp
    (refine vfun (fun _ => .no) Q0h Tryz.func66 (by kernel_rfl) ?_; simp only [Q0f, Tryz.f66, zw])
    (have zz := Bx.mk (j2 ui0 (j9 ui3 ui4 ui9 ui22 ui23 ui24 ui25 ui26 (j9 ui55 ui56 ui57 ui58 ui59 ui75 Q1k Q0u hz0))); (repeat' (first | exact zc | (with_reducible first | apply And.intro | apply Q0a | apply Q0b | refine Q0c (by decide +kernel) ?_ | intro _) | refine zaY zz.out ?_ | ((first | ((with_reducible refine zU (Q0m _ _ _ _ _ _ _ _ (by repeat (first | exact Q0p | refine Q0k ?_ (by simp))) (by exact zO) (by exact zN)) ?_); rintro _ S ⟨rfl, τ1, ⟨f1, n1⟩, rfl⟩; have n1s := n1.symm) | (refine Q0d (by exact zK) ?_) | (refine Q0e (by exact zK) ?_)); (try refine zsY zz.out ?_)) | refine zo ?_ | omega | refine ztY zz.out ?_ | fail)); try (all_goals clear zz))
    all_goals exact ⟨_, .refl _, τ, h, by show _ = WS B ω τ (l ++ []) d (max m (d + (0 : Nat))); exact Q2y (by simp) rfl (by omega)⟩
  | cons e r =>
    obtain ⟨g1, g2⟩ : (e :: r).length ≤ 1 ∧ rts (e :: r) = true := by
      unfold oneB at hx; simpa only [Bool.and_eq_true, decide_eq_true_eq] using hx
    have hr : r = [] := by cases r with | nil => rfl | cons => simp at g1
    subst hr
    have g2 : rt e = true := by rw [Q6y] at g2; exact (Bool.and_eq_true _ _ ▸ g2).1
    have hX := wf_expr g2 (hL e (by simp)) ω B
    have hel := Q0r e
    have het := Q0q e
    have hed := Q0x e
    have heo := Q1f e
    have ew : expW es [e] = wdsE es ++ (toTr e).tk := rfl
    have ed : expD [e] = (toTr e).dp := rfl
    have ewl : (wdsE es).length = es.length := zB ..
    rw [ew] at h4 ⊢
    rw [ed] at h3 ⊢
    rw [Q2e, Q0s]
    rw [zx] at h4
    generalize (toTr e).tk = TT at *
    generalize (toTr e).dp = D at *
    generalize exA e = E at *
    (refine vfun (fun _ => .no) Q0h Tryz.func66 (by kernel_rfl) ?_; simp only [Q0f, Tryz.f66, zw])
    (have zz := Bx.mk (j6 ui0 ui3 ui4 ui9 ui22 (j9 ui23 ui24 ui25 ui26 ui55 ui56 ui57 ui58 (j9 ui59 ui75 Q1k Q0u hel het hed heo ewl))); (repeat' (first | exact zc | (with_reducible first | apply And.intro | apply Q0a | apply Q0b | refine Q0c (by decide +kernel) ?_ | intro _) | refine zaY zz.out ?_ | ((first | ((with_reducible refine zU (Q0m _ _ _ _ _ _ _ _ he (by exact zO) (by exact zN)) ?_); rintro _ S ⟨rfl, τ1, ⟨f1, n1⟩, rfl⟩; have n1s := n1.symm) | ((with_reducible refine zU (hX _ _ _ _ (by exact zO) (by omega) (by omega) (by omega) (by omega) (by first | omega | (simp only [zx, ewl]; omega))) ?_); rintro _ S ⟨rfl, τ1, ⟨f1, n1⟩, rfl⟩; have n1s := n1.symm) | ((with_reducible refine zU (Q0m _ _ _ _ _ _ _ _ (by repeat (first | exact Q0p | refine Q0k ?_ (by simp))) (by exact zO) (by exact zN)) ?_); rintro _ S ⟨rfl, τ1, ⟨f1, n1⟩, rfl⟩; have n1s := n1.symm) | (refine Q0d (by exact zK) ?_) | (refine Q0e (by exact zK) ?_)); (try refine zsY zz.out ?_)) | refine zo ?_ | omega | refine ztY zz.out ?_ | fail)); try (all_goals clear zz))
    all_goals exact ⟨_, .refl _, τ1, ⟨f1, n1⟩, Q2y (by simp) rfl (by omega)⟩
theorem w_list {β : Type} (ω : Nat) (f : FuncId) (cap : List AV) (x : List β) (one : β → List Tk) (dpf : β → Nat) (n : Nat) (hxn : n = x.length) (hn : x.length ≤ 2 ^ 30) (hf : ∀ i (hi : i < x.length), Wf ω f (.i (i : Nat) :: cap) (one x[i]) (dpf x[i])) :
    Wf ω 120 [.ref ω 0, .i n, .fn f cap] (sepT one x) (maxD dpf x) := by
  subst hxn
  intro B τ l d m h h0 h1 h2 h3 h4
  have hle := sepT_le one x
  have hmd := maxD_le dpf x
  (refine vfun (fun _ => .no) Q0h Tryz.func120 (by kernel_rfl) ?_; simp only [Q0f, Tryz.f120, zw])
  (have zz := Bx.mk (j5 ui0 ui3 ui4 ui9 (j9 ui55 ui56 ui57 ui58 ui59 ui75 Q1k Q0u X9w)); (repeat' (first | exact zc | (with_reducible first | apply And.intro | apply Q0a | apply Q0b | refine Q0c (by decide +kernel) ?_ | intro _) | refine zaY zz.out ?_ | ((first | ((with_reducible refine zU (Q0m _ _ _ _ _ _ _ _ (by repeat (first | exact Q0p | refine Q0k ?_ (by simp))) (by exact zO) (by exact zN)) ?_); rintro _ S ⟨rfl, τ1, ⟨f1, n1⟩, rfl⟩; have n1s := n1.symm) | (refine Q0d (by exact zK) ?_) | (refine Q0e (by exact zK) ?_)); (try refine zsY zz.out ?_)) | refine zo ?_ | omega | refine ztY zz.out ?_ | fail)); try (all_goals clear zz))
  refine VW.loop3 (0 : Nat) τ () (fun k τ' _ => k ≤ x.length ∧ okS B ω τ') (fun k _ _ => [(0, .ref ω 0), (2, .fn f cap), (7, .i x.length), (8, .i k)]) (fun k τ' _ => WS B ω τ' (l ++ sepT one (x.take k)) d (max m (d + maxD dpf (x.take k)))) (fun k _ _ => x.length - k) ⟨Nat.zero_le _, h⟩ ?_ ?_ ?_
  · exact X9i (Q2y (by simp [sepT]) rfl (by show max m (d + (0 : Nat)) = m; omega))
  · simp only [vO, vQ, ↓vP, vE, vS, vB, vL, vF, vM, vN, Q0g, Nat.reduceEqDiff, Nat.reduceAdd, Nat.reduceLeDiff, ne_eq, not_false_eq_true, Nat.reduceMul, Nat.reduceSub, Int.toNat_zero, Int.reduceToNat, vT]
    all_goals rfl
  rintro k τ' _ ⟨hk, h5, h6⟩
  have h6' := h6.symm
  rcases Nat.lt_or_ge k x.length with hk2 | hk2
  · have hX := hf k hk2 B
    have hs := sepT_take one hk2
    have hm := X7r dpf hk2
    have hl1 := hle (k + 1)
    have hm1 := hmd (k + 1)
    rw [hs] at hl1
    rw [hm] at hm1
    rw [zx, zx] at hl1
    generalize one x[k] = TT at *
    generalize dpf x[k] = D at *
    generalize hA : sepT one (x.take k) = A at *
    generalize hMm : maxD dpf (x.take k) = M at *
    clear hle hmd hf
    by_cases hz : k = 0
    · rw [if_pos hz] at hl1
      simp only [zA] at hl1
      (have zz := Bx.mk (j7 ui0 ui3 ui4 ui9 ui55 ui56 (j9 ui57 ui58 ui59 ui75 Q1k Q0u X9w @List.cons_append.{0} @List.nil_append.{0})); (repeat' (first | exact zc | (with_reducible first | apply And.intro | apply Q0a | apply Q0b | refine Q0c (by decide +kernel) ?_ | intro _) | refine zaY zz.out ?_ | ((first | ((with_reducible refine zU (hX _ _ _ _ (by exact zO) (by omega) (by omega) (by omega) (by omega) (by first | omega | (simp only [zx, zy, zA]; omega))) ?_); rintro _ S ⟨rfl, τ1, ⟨f1, n1⟩, rfl⟩; have n1s := n1.symm) | ((with_reducible refine zU (Q0m _ _ _ _ _ _ _ _ (by repeat (first | exact Q0p | refine Q0k ?_ (by simp))) (by exact zO) (by exact zN)) ?_); rintro _ S ⟨rfl, τ1, ⟨f1, n1⟩, rfl⟩; have n1s := n1.symm) | (refine Q0d (by exact zK) ?_) | (refine Q0e (by exact zK) ?_)); (try refine zsY zz.out ?_)) | refine zo ?_ | omega | refine ztY zz.out ?_ | fail)); try (all_goals clear zz))
      all_goals exact ⟨k + 1, τ1, (), ⟨⟨hk2, f1, n1⟩, by omega⟩, X9i (Q2y (by rw [hs, if_pos hz]; simp) rfl (by rw [hm]; omega)), rfl⟩
    · rw [if_neg hz] at hl1
      simp only [zy, zA] at hl1
      (have zz := Bx.mk (j8 ui0 ui3 ui4 ui9 ui55 ui56 ui57 (j9 ui58 ui59 ui75 Q1k Q0u X9w @List.cons_append.{0} @List.nil_append.{0} WLg)); (repeat' (first | exact zc | (with_reducible first | apply And.intro | apply Q0a | apply Q0b | refine Q0c (by decide +kernel) ?_ | intro _) | refine zaY zz.out ?_ | ((first | ((with_reducible refine zU (hX _ _ _ _ (by exact zO) (by omega) (by omega) (by omega) (by omega) (by first | omega | (simp only [zx, zy, zA]; omega))) ?_); rintro _ S ⟨rfl, τ1, ⟨f1, n1⟩, rfl⟩; have n1s := n1.symm) | ((with_reducible refine zU (Q0m _ _ _ _ _ _ _ _ (by repeat (first | exact Q0p | refine Q0k ?_ (by simp))) (by exact zO) (by exact zN)) ?_); rintro _ S ⟨rfl, τ1, ⟨f1, n1⟩, rfl⟩; have n1s := n1.symm) | (refine Q0d (by exact zK) ?_) | (refine Q0e (by exact zK) ?_)); (try refine zsY zz.out ?_)) | refine zo ?_ | omega | refine ztY zz.out ?_ | fail)); try (all_goals clear zz))
      all_goals exact ⟨k + 1, τ1, (), ⟨⟨hk2, f1, n1⟩, by omega⟩, X9i (Q2y (by rw [hs, if_neg hz]; simp) rfl (by rw [hm]; omega)), rfl⟩
  · (have zz := Bx.mk (j5 ui0 ui3 ui4 ui9 (j9 ui55 ui56 ui57 ui58 ui59 ui75 Q1k Q0u X9w)); (repeat' (first | exact zc | (with_reducible first | apply And.intro | apply Q0a | apply Q0b | refine Q0c (by decide +kernel) ?_ | intro _) | refine zaY zz.out ?_ | ((first | ((with_reducible refine zU (Q0m _ _ _ _ _ _ _ _ (by repeat (first | exact Q0p | refine Q0k ?_ (by simp))) (by exact zO) (by exact zN)) ?_); rintro _ S ⟨rfl, τ1, ⟨f1, n1⟩, rfl⟩; have n1s := n1.symm) | (refine Q0d (by exact zK) ?_) | (refine Q0e (by exact zK) ?_)); (try refine zsY zz.out ?_)) | refine zo ?_ | omega | refine ztY zz.out ?_ | fail)); try (all_goals clear zz))
    rw [List.take_of_length_le hk2]
    all_goals exact ⟨_, .refl _, τ', ⟨h5, h6⟩, rfl⟩
theorem Q8o {x : It} (h : Q6u x = true) : ((x.1 = 1 ∨ x.1 = 3) ∧ x.2 = []) ∨ ((x.1 = 2 ∨ x.1 = 4 ∨ x.1 = 5 ∨ x.1 = 6 ∨ x.1 = 7) ∧ ∃ e, x.2 = [e] ∧ rt e = true) := by
  obtain ⟨k, l⟩ := x
  unfold Q6u at h
  simp only [Bool.and_eq_true, decide_eq_true_eq] at h ⊢
  obtain ⟨h1, h2, h3⟩ := h
  by_cases hk : k = 1 ∨ k = 3
  · rw [if_pos hk] at h2
    exact .inl ⟨hk, List.length_eq_zero_iff.1 h2⟩
  · rw [if_neg hk] at h2
    refine .inr ⟨by omega, ?_⟩
    match l, h2, h3 with
    | [e], _, h3 =>
      rw [Q6y, Bool.and_eq_true] at h3
      exact ⟨e, rfl, h3.1⟩
theorem w_item (ω : Nat) (x : It) (hx : Q6u x = true) (hL : ∀ e ∈ x.2, Lim e) : Wf ω 125 [.ref ω 0, .agg (Q2z x)] (Q7y x) (expD x.2) := by
  obtain ⟨k, a⟩ := x
  unfold Q2z
  rcases Q8o hx with ⟨hk, ha⟩ | ⟨hk, e, ha, hr⟩
  · dsimp only at hk ha hL ⊢
    subst ha
    rw [Q0s]
    rcases hk with rfl | rfl
    · intro B τ l d m h h0 h1 h2 h3 h4
      have e1 : Q7y (1, []) = wds [[42]] := rfl
      have e2 : expD [] = 0 := rfl
      rw [e1, e2] at *
      (refine vfun (fun _ => .ro) Q0h Tryz.func125 (by kernel_rfl) ?_; simp only [Q0f, Tryz.f125, zw])
      (have zz := Bx.mk (j4 ui0 ui3 ui4 (j9 ui9 ui22 ui23 ui24 ui25 ui26 ui55 ui56 (j9 ui57 ui58 ui59 ui70 ui71 ui75 Q1k Q0u WLg))); (repeat' (first | exact zc | (with_reducible first | apply And.intro | apply Q0a | apply Q0b | refine Q0c (by decide +kernel) ?_ | intro _) | refine zaY zz.out ?_ | ((first | ((with_reducible refine zU (Q0m _ _ _ _ _ _ _ _ (by repeat (first | exact Q0p | refine Q0k ?_ (by simp))) (by exact zO) (by exact zN)) ?_); rintro _ S ⟨rfl, τ1, ⟨f1, n1⟩, rfl⟩; have n1s := n1.symm) | (refine Q0d (by exact zK) ?_) | (refine Q0e (by exact zK) ?_)); (try refine zsY zz.out ?_)) | refine zo ?_ | omega | refine ztY zz.out ?_ | fail)); try (all_goals clear zz))
      all_goals exact ⟨_, .refl _, τ1, ⟨f1, n1⟩, Q2y rfl rfl (by omega)⟩
    · intro B τ l d m h h0 h1 h2 h3 h4
      have e1 : Q7y (3, []) = wds [[67, 79, 85, 78, 84], [40], [42], [41]] := rfl
      have e2 : expD [] = 0 := rfl
      rw [e1, e2] at *
      (refine vfun (fun _ => .ro) Q0h Tryz.func125 (by kernel_rfl) ?_; simp only [Q0f, Tryz.f125, zw])
      (have zz := Bx.mk (j4 ui0 ui3 ui4 (j9 ui9 ui22 ui23 ui24 ui25 ui26 ui55 ui56 (j9 ui57 ui58 ui59 ui70 ui71 ui75 Q1k Q0u WLg))); (repeat' (first | exact zc | (with_reducible first | apply And.intro | apply Q0a | apply Q0b | refine Q0c (by decide +kernel) ?_ | intro _) | refine zaY zz.out ?_ | ((first | ((with_reducible refine zU (Q0m _ _ _ _ _ _ _ _ (by repeat (first | exact Q0p | refine Q0k ?_ (by simp))) (by exact zO) (by exact zN)) ?_); rintro _ S ⟨rfl, τ1, ⟨f1, n1⟩, rfl⟩; have n1s := n1.symm) | (refine Q0d (by exact zK) ?_) | (refine Q0e (by exact zK) ?_)); (try refine zsY zz.out ?_)) | refine zo ?_ | omega | refine ztY zz.out ?_ | fail)); try (all_goals clear zz))
      all_goals exact ⟨_, .refl _, τ1, ⟨f1, n1⟩, Q2y rfl rfl (by omega)⟩
  · dsimp only at hk ha hL ⊢
    subst ha
    have hX := wf_expr hr (hL e (by simp)) ω
    have e2 : expD [e] = (toTr e).dp := rfl
    have hI : Q7y (k, [e]) = if k = 2 then (toTr e).tk else wds [(if k = 4 then [67, 79, 85, 78, 84] else if k = 5 then [83, 85, 77] else if k = 6 then [77, 73, 78] else [77, 65, 88]), [40]] ++ (toTr e).tk ++ [wd [41]] := by
      rcases hk with rfl | rfl | rfl | rfl | rfl <;> rfl
    have hel := Q0r e
    have het := Q0q e
    have hed := Q0x e
    have heo := Q1f e
    rw [e2, hI, Q2e, Q0s]
    clear e2 hI hL hr hx
    generalize (toTr e).tk = TT at *
    generalize (toTr e).dp = D at *
    generalize exA e = E at *
    rcases hk with rfl | hk
    · simp only [if_true]
      intro B τ l d m h h0 h1 h2 h3 h4
      have hX := hX B
      (refine vfun (fun _ => .ro) Q0h Tryz.func125 (by kernel_rfl) ?_; simp only [Q0f, Tryz.f125, zw])
      (have zz := Bx.mk (j8 ui0 ui3 ui4 ui9 ui22 ui23 ui24 (j9 ui25 ui26 ui55 ui56 ui57 ui58 ui59 ui70 (j9 ui71 ui75 Q1k Q0u hel het hed heo WLg))); (repeat' (first | exact zc | (with_reducible first | apply And.intro | apply Q0a | apply Q0b | refine Q0c (by decide +kernel) ?_ | intro _) | refine zaY zz.out ?_ | ((first | ((with_reducible refine zU (hX _ _ _ _ (by exact zO) (by omega) (by omega) (by omega) (by omega) (by exact zN)) ?_); rintro _ S ⟨rfl, τ1, ⟨f1, n1⟩, rfl⟩; have n1s := n1.symm) | ((with_reducible refine zU (Q0m _ _ _ _ _ _ _ _ (by repeat (first | exact Q0p | refine Q0k ?_ (by simp))) (by exact zO) (by exact zN)) ?_); rintro _ S ⟨rfl, τ1, ⟨f1, n1⟩, rfl⟩; have n1s := n1.symm) | (refine Q0d (by exact zK) ?_) | (refine Q0e (by exact zK) ?_)); (try refine zsY zz.out ?_)) | refine zo ?_ | omega | refine ztY zz.out ?_ | fail)); try (all_goals clear zz))
      all_goals exact ⟨_, .refl _, τ1, ⟨f1, n1⟩, Q2y rfl rfl (by omega)⟩
    · rcases hk with rfl | rfl | rfl | rfl <;> simp only [Int.reduceEq, if_true, if_false]
      all_goals
        intro B τ l d m h h0 h1 h2 h3 h4
        have hX := hX B
        rw [zx, zx, Q3o] at h4
        simp only [zy, zA] at h4
        (refine vfun (fun _ => .ro) Q0h Tryz.func125 (by kernel_rfl) ?_; simp only [Q0f, Tryz.f125, zw])
        (have zz := Bx.mk (j8 ui0 ui3 ui4 ui9 ui22 ui23 ui24 (j9 ui25 ui26 ui55 ui56 ui57 ui58 ui59 ui70 (j9 ui71 ui75 Q1k Q0u hel het hed heo WLg))); (repeat' (first | exact zc | (with_reducible first | apply And.intro | apply Q0a | apply Q0b | refine Q0c (by decide +kernel) ?_ | intro _) | refine zaY zz.out ?_ | ((first | ((with_reducible refine zU (hX _ _ _ _ (by exact zO) (by omega) (by omega) (by omega) (by omega) (by exact zN)) ?_); rintro _ S ⟨rfl, τ1, ⟨f1, n1⟩, rfl⟩; have n1s := n1.symm) | ((with_reducible refine zU (Q0m _ _ _ _ _ _ _ _ (by repeat (first | exact Q0p | refine Q0k ?_ (by simp))) (by exact zO) (by exact zN)) ?_); rintro _ S ⟨rfl, τ1, ⟨f1, n1⟩, rfl⟩; have n1s := n1.symm) | (refine Q0d (by exact zK) ?_) | (refine Q0e (by exact zK) ?_)); (try refine zsY zz.out ?_)) | refine zo ?_ | omega | refine ztY zz.out ?_ | fail)); try (all_goals clear zz))
        all_goals exact ⟨_, .refl _, τ1, ⟨f1, n1⟩, Q2y (by simp [wds]) rfl (by omega)⟩
theorem X7s {β : Type} : ∀ l : List β, maxD (fun _ => 0) l = 0
  | [] => rfl
  | x :: r => by show max 0 (maxD (fun _ => 0) r) = 0; rw [X7s r]; rfl
theorem u_lit (ω : Nat) (x : Stm) (i j : Nat) (hi : i < x.rows.length) (hj : j < x.rows[i].length) (h1 : x.rows.length ≤ 9223372036854775807) (h2 : x.rows[i].length ≤ 9223372036854775807) (hv : okV x.rows[i][j] = true) (hg : inR x.rows[i][j].2.1) :
    Wf ω 122 [.i j, .ro [.ref ω 0], .ro (stmA x), .ro [.i i]] (litT x.rows[i][j]) 0 := by
  intro B τ l d m h h0 hm1 h2' h3 h4
  obtain ⟨q1, q2⟩ := rgV (v := x.rows[i][j]) hv hg
  have hl := (X3h x.rows[i][j]).2
  have hL : ∀ T r, _ := fun T r => Q4i T r B ω τ l x.rows[i][j] h (by omega) q1 q2
  have a1 : (x.rows.map rowA).length = x.rows.length := zB ..
  have a2 := Q3d (f := rowA) (n := 1) x.rows (fun _ => rfl)
  have a3 : (x.rows.map rowA).getD i [] = [.sl .any (X0m x.rows[i])] := Q3c (f := rowA) hi
  have b1 : (X0m x.rows[i]).length = x.rows[i].length := zB ..
  have b2 : Q1t (X0m x.rows[i]) 3 = True := Q3d (f := valA) (n := 3) x.rows[i] (fun _ => rfl)
  have b3 : (X0m x.rows[i]).getD j [] = [.i x.rows[i][j].1, .i x.rows[i][j].2.1, .s (bs x.rows[i][j].2.2)] := Q3c (f := valA) hj
  unfold stmA
  generalize litT x.rows[i][j] = TT at *
  generalize x.rows[i][j].1 = v1 at *
  generalize x.rows[i][j].2.1 = v2 at *
  generalize x.rows[i][j].2.2 = v3 at *
  clear hv hg
  (refine vfun (fun _ => .no) Q0h Tryz.func122 (by kernel_rfl) ?_; simp only [Q0f, Tryz.f122, zw])
  (have zz := Bx.mk (j3 ui0 ui3 (j9 ui4 ui9 ui22 ui23 ui24 ui25 ui26 ui37 (j9 ui38 ui39 ui40 ui41 ui42 ui55 ui56 ui57 (j9 ui58 ui59 ui67 ui68 ui70 ui71 Q1k Q0u (j9 Q1e Q1r Q1s a1 a2 a3 b1 b2 b3))))); (repeat' (first | exact zc | (with_reducible first | apply And.intro | apply Q0a | apply Q0b | refine Q0c (by decide +kernel) ?_ | intro _) | ((with_reducible first | refine .dms (fun x => False) [(0, false), (1, false), (2, false), (3, false), (4, false), (5, false), (6, false), (7, false), (8, true), (9, true), (10, false), (11, true)] (by decide) (by decide +kernel) ?_ | refine .dm (fun x => False) [(0, false), (1, false), (2, false), (3, false), (4, false), (5, false), (6, false), (7, false), (8, true), (9, true), (10, false), (11, true)] (by decide) (by decide +kernel) ?_); (refine zsR zz.out ?_)) | refine zaR zz.out ?_ | refine zkN zz.out ?_ | ((first | (refine Q0j (by intro β h; first | (rcases h with h | h <;> subst h <;> (simp (disch := first | assumption | (apply zQ; assumption; assumption) | (apply zR; assumption; assumption; (intro e; cases e; done)) | omega) only [zn, zp, zq, zr, zv])) | (subst h; (simp (disch := first | assumption | (apply zQ; assumption; assumption) | (apply zR; assumption; assumption; (intro e; cases e; done)) | omega) only [zn, zp, zq, zr, zv]))) ?_) | ((with_reducible refine zU (hL _ _) ?_); rintro _ S ⟨rfl, τ1, ⟨f1, n1⟩, rfl⟩; have n1s := n1.symm) | ((with_reducible refine zU (Q4i _ _ _ _ _ _ _ (by exact zO) (by exact zN) (by assumption) (by assumption)) ?_); rintro _ S ⟨rfl, τ1, ⟨f1, n1⟩, rfl⟩; have n1s := n1.symm) | (refine Q0d (by exact zK) ?_) | (refine Q0e (by exact zK) ?_)); (try refine zsR zz.out ?_)) | refine zmR zz.out ?_ | refine zo ?_ | omega | refine ztR zz.out ?_ | fail)); try (all_goals clear zz))
  all_goals exact ⟨_, .refl _, τ1, ⟨f1, n1⟩, Q2y rfl rfl (by omega)⟩
theorem u_row (ω : Nat) (x : Stm) (i : Nat) (hi : i < x.rows.length) (h1 : x.rows.length ≤ 9223372036854775807) (hb : rowB x.rows[i] = true) (hg : ∀ v ∈ x.rows[i], inR v.2.1) :
    Wf ω 121 [.i i, .ro [.ref ω 0], .ro (stmA x)] (rowT x.rows[i]) 0 := by
  obtain ⟨g1, g2⟩ : x.rows[i].all okV = true ∧ (1 ≤ x.rows[i].length ∧ x.rows[i].length ≤ 8) := by
    unfold rowB at hb; simpa only [Bool.and_eq_true, decide_eq_true_eq] using hb
  have g1 := List.all_eq_true.1 g1
  have hLs := w_list ω 122 [.ro [.ref ω 0], .ro (stmA x), .ro [.i i]] x.rows[i] litT (fun _ => 0) x.rows[i].length rfl (by omega) (fun j hj => u_lit ω x i j hi hj h1 (by omega) (g1 _ (List.getElem_mem hj)) (hg _ (List.getElem_mem hj)))
  rw [X7s] at hLs
  intro B τ l d m h h0 hm1 h2' h3 h4
  have hLs := hLs B
  have a1 : (x.rows.map rowA).length = x.rows.length := zB ..
  have a2 := Q3d (f := rowA) (n := 1) x.rows (fun _ => rfl)
  have a3 : (x.rows.map rowA).getD i [] = [.sl .any (X0m x.rows[i])] := Q3c (f := rowA) hi
  have b1 : (X0m x.rows[i]).length = x.rows[i].length := zB ..
  have b4 : rowT x.rows[i] = wd [40] :: (sepT litT x.rows[i] ++ [wd [41]]) := rfl
  rw [b4] at h4 ⊢
  simp only [zx, zy, zA] at h4
  clear g1 hg hb b4
  unfold stmA at hLs ⊢
  generalize sepT litT x.rows[i] = TT at *
  (refine vfun (fun _ => .ro) Q0h Tryz.func121 (by kernel_rfl) ?_; simp only [Q0f, Tryz.f121, zw])
  (have zz := Bx.mk (j4 ui0 ui3 ui4 (j9 ui9 ui22 ui23 ui24 ui25 ui26 ui37 ui38 (j9 ui39 ui40 ui41 ui42 ui55 ui56 ui57 ui58 (j9 ui59 ui67 ui68 ui70 ui71 ui75 Q1k Q0u (j9 X9w Q1e Q1r Q1s a1 a2 a3 b1 WLg))))); (repeat' (first | exact zc | (with_reducible first | apply And.intro | apply Q0a | apply Q0b | refine Q0c (by decide +kernel) ?_ | intro _) | ((with_reducible first | refine .dms (fun x => False) [(0, false), (1, false), (2, false), (3, false), (4, false), (5, false), (6, false), (7, false), (8, true)] (by decide) (by decide +kernel) ?_ | refine .dm (fun x => False) [(0, false), (1, false), (2, false), (3, false), (4, false), (5, false), (6, false), (7, false), (8, true)] (by decide) (by decide +kernel) ?_); (refine zsR zz.out ?_)) | refine zaR zz.out ?_ | refine zkN zz.out ?_ | ((first | (refine Q0j (by intro β h; first | (rcases h with h | h <;> subst h <;> (simp (disch := first | assumption | (apply zQ; assumption; assumption) | (apply zR; assumption; assumption; (intro e; cases e; done)) | omega) only [zn, zp, zq, zr, zv])) | (subst h; (simp (disch := first | assumption | (apply zQ; assumption; assumption) | (apply zR; assumption; assumption; (intro e; cases e; done)) | omega) only [zn, zp, zq, zr, zv]))) ?_) | ((with_reducible refine zU (hLs _ _ _ _ (by exact zO) (by omega) (by omega) (by omega) (by omega) (by exact zN)) ?_); rintro _ S ⟨rfl, τ1, ⟨f1, n1⟩, rfl⟩; have n1s := n1.symm) | ((with_reducible refine zU (Q0m _ _ _ _ _ _ _ _ (by repeat (first | exact Q0p | refine Q0k ?_ (by simp))) (by exact zO) (by exact zN)) ?_); rintro _ S ⟨rfl, τ1, ⟨f1, n1⟩, rfl⟩; have n1s := n1.symm) | (refine Q0d (by exact zK) ?_) | (refine Q0e (by exact zK) ?_)); (try refine zsR zz.out ?_)) | refine zmR zz.out ?_ | refine zo ?_ | omega | refine ztR zz.out ?_ | fail)); try (all_goals clear zz))
  all_goals exact ⟨_, .refl _, τ1, ⟨f1, n1⟩, Q2y (by simp) rfl (by omega)⟩
theorem w_insert (ω : Nat) (x : Stm) (hb : X7q x.rows = true) (hg : ∀ r ∈ x.rows, ∀ v ∈ r, inR v.2.1) :
    Wf ω 64 [.ref ω 0, .agg (stmA x)] (X4m x) 0 := by
  obtain ⟨g1, g2⟩ : x.rows.all rowB = true ∧ (1 ≤ x.rows.length ∧ x.rows.length ≤ 16) := by
    unfold X7q at hb; simpa only [Bool.and_eq_true, decide_eq_true_eq] using hb
  have g1 := List.all_eq_true.1 g1
  have hLs := w_list ω 121 [.ro [.ref ω 0], .ro (stmA x)] x.rows rowT (fun _ => 0) x.rows.length rfl (by omega) (fun i hi => u_row ω x i hi (by omega) (g1 _ (List.getElem_mem hi)) (hg _ (List.getElem_mem hi)))
  rw [X7s] at hLs
  intro B τ l d m h h0 hm1 h2' h3 h4
  have hLs := hLs B
  have a1 : (x.rows.map rowA).length = x.rows.length := zB ..
  have b4 : X4m x = wds [[73, 78, 83, 69, 82, 84], [73, 78, 84, 79]] ++ (nT x.t :: wd [86, 65, 76, 85, 69, 83] :: sepT rowT x.rows) := rfl
  rw [b4] at h4 ⊢
  simp only [zx, zy, zA, Q3o] at h4
  clear g1 hg hb b4
  unfold stmA at hLs ⊢
  generalize sepT rowT x.rows = TT at *
  (refine vfun (fun _ => .ro) Q0h Tryz.func64 (by kernel_rfl) ?_; simp only [Q0f, Tryz.f64, zw])
  (have zz := Bx.mk (j9 ui0 ui3 ui4 ui9 ui22 ui23 ui24 ui25 (j9 ui26 ui37 ui38 ui39 ui40 ui41 ui42 ui55 (j9 ui56 ui57 ui58 ui59 ui67 ui68 ui70 ui71 (j9 ui75 Q1k Q0u X9w Q1e Q1r Q1s a1 WLg)))); (repeat' (first | exact zc | (with_reducible first | apply And.intro | apply Q0a | apply Q0b | refine Q0c (by decide +kernel) ?_ | intro _) | ((with_reducible first | refine .dms (fun x => False) [(0, false), (1, false), (2, false), (3, true), (4, false), (5, true)] (by decide) (by decide +kernel) ?_ | refine .dm (fun x => False) [(0, false), (1, false), (2, false), (3, true), (4, false), (5, true)] (by decide) (by decide +kernel) ?_); (refine zsR zz.out ?_)) | refine zaR zz.out ?_ | refine zkN zz.out ?_ | ((first | (refine Q0j (by intro β h; first | (rcases h with h | h <;> subst h <;> (simp (disch := first | assumption | (apply zQ; assumption; assumption) | (apply zR; assumption; assumption; (intro e; cases e; done)) | omega) only [zn, zp, zq, zr, zv])) | (subst h; (simp (disch := first | assumption | (apply zQ; assumption; assumption) | (apply zR; assumption; assumption; (intro e; cases e; done)) | omega) only [zn, zp, zq, zr, zv]))) ?_) | ((with_reducible refine zU (hLs _ _ _ _ (by exact zO) (by omega) (by omega) (by omega) (by omega) (by exact zN)) ?_); rintro _ S ⟨rfl, τ1, ⟨f1, n1⟩, rfl⟩; have n1s := n1.symm) | ((with_reducible refine zU (Q0m _ _ _ _ _ _ _ _ (by repeat (first | exact Q0p | refine Q0k ?_ (by simp))) (by exact zO) (by exact zN)) ?_); rintro _ S ⟨rfl, τ1, ⟨f1, n1⟩, rfl⟩; have n1s := n1.symm) | ((with_reducible refine zU (Q3r _ _ _ _ _ _ _ (by exact zO) (by exact zN)) ?_); rintro _ S ⟨rfl, τ1, ⟨f1, n1⟩, rfl⟩; have n1s := n1.symm) | (refine Q0d (by exact zK) ?_) | (refine Q0e (by exact zK) ?_)); (try refine zsR zz.out ?_)) | refine zmR zz.out ?_ | refine zo ?_ | omega | refine ztR zz.out ?_ | fail)); try (all_goals clear zz))
  all_goals exact ⟨_, .refl _, τ1, ⟨f1, n1⟩, Q2y (by simp [wds]) rfl (by omega)⟩
theorem u_set (ω : Nat) (x : Stm) (i : Nat) (hi : i < x.sets.length) (h1 : x.sets.length ≤ 9223372036854775807) (hr : rt x.sets[i].2 = true) (hL : Lim x.sets[i].2) :
    Wf ω 123 [.i i, .ro [.ref ω 0], .ro (stmA x)] (setT x.sets[i]) (toTr x.sets[i].2).dp := by
  have hX := wf_expr hr hL ω
  intro B τ l d m h h0 hm1 h2' h3 h4
  have hX := hX B
  have a1 : (x.sets.map setA).length = x.sets.length := zB ..
  have a2 := Q3d (f := setA) (n := 9) x.sets (fun x => by simp [setA, Q0r])
  have a3 : (x.sets.map setA).getD i [] = .s (bs x.sets[i].1) :: exA x.sets[i].2 := Q3c (f := setA) hi
  have b4 : setT x.sets[i] = nT x.sets[i].1 :: wd [61] :: (toTr x.sets[i].2).tk := rfl
  rw [b4] at h4 ⊢
  simp only [zx, zy, zA] at h4
  have hFl := Q0r x.sets[i].2
  have hFt := Q0q x.sets[i].2
  have hFd := Q0x x.sets[i].2
  have hFo := Q1f x.sets[i].2
  clear b4 hr hL
  unfold stmA
  generalize (toTr x.sets[i].2).tk = TT at *
  generalize (toTr x.sets[i].2).dp = D at *
  generalize exA x.sets[i].2 = E at *
  generalize x.sets[i].1 = N at *
  (refine vfun (fun _ => .no) Q0h Tryz.func123 (by kernel_rfl) ?_; simp only [Q0f, Tryz.f123, zw])
  (have zz := Bx.mk (j6 ui0 ui3 ui4 ui9 ui22 (j9 ui23 ui24 ui25 ui26 ui37 ui38 ui39 ui40 (j9 ui41 ui42 ui55 ui56 ui57 ui58 ui59 ui67 (j9 ui68 ui70 ui71 ui75 Q1k Q0u Q1e Q1r (j9 Q1s a1 a2 a3 hFl hFt hFd hFo WLg))))); (repeat' (first | exact zc | (with_reducible first | apply And.intro | apply Q0a | apply Q0b | refine Q0c (by decide +kernel) ?_ | intro _) | ((with_reducible first | refine .dms (fun x => False) [(0, false), (1, false), (2, false), (3, false), (4, false), (5, true), (6, true), (7, true), (8, false), (9, true)] (by decide) (by decide +kernel) ?_ | refine .dm (fun x => False) [(0, false), (1, false), (2, false), (3, false), (4, false), (5, true), (6, true), (7, true), (8, false), (9, true)] (by decide) (by decide +kernel) ?_); (refine zsR zz.out ?_)) | ((with_reducible first | refine .dms (fun x => False) [(0, false), (1, false), (2, false), (3, true), (4, true), (5, true), (6, false), (7, true)] (by decide) (by decide +kernel) ?_ | refine .dm (fun x => False) [(0, false), (1, false), (2, false), (3, true), (4, true), (5, true), (6, false), (7, true)] (by decide) (by decide +kernel) ?_); (refine zsR zz.out ?_)) | refine zaR zz.out ?_ | refine zkN zz.out ?_ | ((first | (refine Q0j (by intro β h; first | (rcases h with h | h <;> subst h <;> (simp (disch := first | assumption | (apply zQ; assumption; assumption) | (apply zR; assumption; assumption; (intro e; cases e; done)) | omega) only [zn, zp, zq, zr, zv])) | (subst h; (simp (disch := first | assumption | (apply zQ; assumption; assumption) | (apply zR; assumption; assumption; (intro e; cases e; done)) | omega) only [zn, zp, zq, zr, zv]))) ?_) | ((with_reducible refine zU (hX _ _ _ _ (by exact zO) (by omega) (by omega) (by omega) (by omega) (by exact zN)) ?_); rintro _ S ⟨rfl, τ1, ⟨f1, n1⟩, rfl⟩; have n1s := n1.symm) | ((with_reducible refine zU (Q0m _ _ _ _ _ _ _ _ (by repeat (first | exact Q0p | refine Q0k ?_ (by simp))) (by exact zO) (by exact zN)) ?_); rintro _ S ⟨rfl, τ1, ⟨f1, n1⟩, rfl⟩; have n1s := n1.symm) | ((with_reducible refine zU (Q3r _ _ _ _ _ _ _ (by exact zO) (by exact zN)) ?_); rintro _ S ⟨rfl, τ1, ⟨f1, n1⟩, rfl⟩; have n1s := n1.symm) | (refine Q0d (by exact zK) ?_) | (refine Q0e (by exact zK) ?_)); (try refine zsR zz.out ?_)) | refine zmR zz.out ?_ | refine zo ?_ | omega | refine ztR zz.out ?_ | fail)); try (all_goals clear zz))
  all_goals exact ⟨_, .refl _, τ1, ⟨f1, n1⟩, Q2y (by simp) rfl (by omega)⟩
theorem w_update (ω : Nat) (x : Stm) (hb : X5l x.sets = true) (hg : ∀ s ∈ x.sets, Lim s.2) (hw : oneB x.wh = true) (hwl : ∀ e ∈ x.wh, Lim e) :
    Wf ω 65 [.ref ω 0, .agg (stmA x)] (X4n x) (max (maxD (fun s => (toTr s.2).dp) x.sets) (expD x.wh)) := by
  obtain ⟨g1, g2⟩ : x.sets.all X3m = true ∧ (1 ≤ x.sets.length ∧ x.sets.length ≤ 8) := by
    unfold X5l at hb; simpa only [Bool.and_eq_true, decide_eq_true_eq] using hb
  have g1 := List.all_eq_true.1 g1
  have g3 : ∀ s ∈ x.sets, rt s.2 = true := fun s hs => by
    have := g1 s hs
    unfold X3m at this
    exact (Bool.and_eq_true _ _ ▸ this).2
  have hLs := w_list ω 123 [.ro [.ref ω 0], .ro (stmA x)] x.sets setT (fun s => (toTr s.2).dp) x.sets.length rfl (by omega) (fun i hi => u_set ω x i hi (by omega) (g3 _ (List.getElem_mem hi)) (hg _ (List.getElem_mem hi)))
  have hM := X4q ω x.wh hw hwl .any .full [[.s (bs [87, 72, 69, 82, 69])]] (Q0k Q0p (by simp))
  rw [show expW [[.s (bs [87, 72, 69, 82, 69])]] x.wh = expT [[87, 72, 69, 82, 69]] x.wh from expW1 _ _] at hM
  intro B τ l d m h h0 hm1 h2' h3 h4
  have hLs := hLs B
  have hM := hM B
  have a1 : (x.sets.map setA).length = x.sets.length := zB ..
  have b4 : X4n x = wd [85, 80, 68, 65, 84, 69] :: nT x.t :: wd [83, 69, 84] :: (sepT setT x.sets ++ expT [[87, 72, 69, 82, 69]] x.wh) := rfl
  rw [b4] at h4 ⊢
  simp only [zx, zy, zA, Q3o] at h4
  clear g1 g3 hg hb b4 hw hwl
  unfold stmA at hLs ⊢
  generalize sepT setT x.sets = TT at *
  generalize expT [[87, 72, 69, 82, 69]] x.wh = TW at *
  generalize maxD (fun s : Se => (toTr s.2).dp) x.sets = D1 at *
  generalize expD x.wh = D2 at *
  (refine vfun (fun _ => .ro) Q0h Tryz.func65 (by kernel_rfl) ?_; simp only [Q0f, Tryz.f65, zw])
  (have zz := Bx.mk (j9 ui0 ui3 ui4 ui9 ui22 ui23 ui24 ui25 (j9 ui26 ui37 ui38 ui39 ui40 ui41 ui42 ui55 (j9 ui56 ui57 ui58 ui59 ui67 ui68 ui70 ui71 (j9 ui75 Q1k Q0u X9w Q1e Q1r Q1s a1 WLg)))); (repeat' (first | exact zc | (with_reducible first | apply And.intro | apply Q0a | apply Q0b | refine Q0c (by decide +kernel) ?_ | intro _) | ((with_reducible first | refine .dms (fun x => False) [(0, false), (1, false), (2, false), (3, true), (4, false), (5, true)] (by decide) (by decide +kernel) ?_ | refine .dm (fun x => False) [(0, false), (1, false), (2, false), (3, true), (4, false), (5, true)] (by decide) (by decide +kernel) ?_); (refine zsR zz.out ?_)) | refine zaR zz.out ?_ | refine zkN zz.out ?_ | ((first | (refine Q0j (by intro β h; first | (rcases h with h | h <;> subst h <;> (simp (disch := first | assumption | (apply zQ; assumption; assumption) | (apply zR; assumption; assumption; (intro e; cases e; done)) | omega) only [zn, zp, zq, zr, zv])) | (subst h; (simp (disch := first | assumption | (apply zQ; assumption; assumption) | (apply zR; assumption; assumption; (intro e; cases e; done)) | omega) only [zn, zp, zq, zr, zv]))) ?_) | ((with_reducible refine zU (hLs _ _ _ _ (by exact zO) (by omega) (by omega) (by omega) (by omega) (by exact zN)) ?_); rintro _ S ⟨rfl, τ1, ⟨f1, n1⟩, rfl⟩; have n1s := n1.symm) | ((with_reducible refine zU (hM _ _ _ _ (by exact zO) (by omega) (by omega) (by omega) (by omega) (by exact zN)) ?_); rintro _ S ⟨rfl, τ1, ⟨f1, n1⟩, rfl⟩; have n1s := n1.symm) | ((with_reducible refine zU (Q0m _ _ _ _ _ _ _ _ (by repeat (first | exact Q0p | refine Q0k ?_ (by simp))) (by exact zO) (by exact zN)) ?_); rintro _ S ⟨rfl, τ1, ⟨f1, n1⟩, rfl⟩; have n1s := n1.symm) | ((with_reducible refine zU (Q3r _ _ _ _ _ _ _ (by exact zO) (by exact zN)) ?_); rintro _ S ⟨rfl, τ1, ⟨f1, n1⟩, rfl⟩; have n1s := n1.symm) | (refine Q0d (by exact zK) ?_) | (refine Q0e (by exact zK) ?_)); (try refine zsR zz.out ?_)) | refine zmR zz.out ?_ | refine zo ?_ | omega | refine ztR zz.out ?_ | fail)); try (all_goals clear zz))
  all_goals exact ⟨_, .refl _, τ1, ⟨f1, n1⟩, Q2y (by simp) rfl (by omega)⟩
theorem u_item (ω : Nat) (x : Stm) (i : Nat) (hi : i < x.items.length) (h1 : x.items.length ≤ 9223372036854775807) (hr : Q6u x.items[i] = true) (hL : ∀ e ∈ x.items[i].2, Lim e) :
    Wf ω 124 [.i i, .ro [.ref ω 0], .ro (stmA x)] (Q7y x.items[i]) (expD x.items[i].2) := by
  have hX := w_item ω x.items[i] hr hL
  intro B τ l d m h h0 hm1 h2' h3 h4
  have hX := hX B
  have a1 : (x.items.map Q2z).length = x.items.length := zB ..
  have a2 := Q3d (f := Q2z) (n := 2) x.items (fun _ => rfl)
  have a3 : (x.items.map Q2z).getD i [] = [.i x.items[i].1, .sl .any (exsA x.items[i].2)] := Q3c (f := Q2z) hi
  have a4 : Q2z x.items[i] = [.i x.items[i].1, .sl .any (exsA x.items[i].2)] := rfl
  rw [a4] at hX
  clear a4 hr hL
  unfold stmA
  generalize Q7y x.items[i] = TT at *
  generalize expD x.items[i].2 = D at *
  generalize exsA x.items[i].2 = E at *
  generalize x.items[i].1 = N at *
  (refine vfun (fun _ => .no) Q0h Tryz.func124 (by kernel_rfl) ?_; simp only [Q0f, Tryz.f124, zw])
  (have zz := Bx.mk (j9 ui0 ui3 ui4 ui9 ui22 ui23 ui24 ui25 (j9 ui26 ui37 ui38 ui39 ui40 ui41 ui42 ui55 (j9 ui56 ui57 ui58 ui59 ui67 ui68 ui70 ui71 (j9 Q1k Q0u Q1e Q1r Q1s a1 a2 a3 WLg)))); (repeat' (first | exact zc | (with_reducible first | apply And.intro | apply Q0a | apply Q0b | refine Q0c (by decide +kernel) ?_ | intro _) | ((with_reducible first | refine .dms (fun x => False) [(0, false), (1, false), (2, false), (3, true), (4, true), (5, false), (6, true)] (by decide) (by decide +kernel) ?_ | refine .dm (fun x => False) [(0, false), (1, false), (2, false), (3, true), (4, true), (5, false), (6, true)] (by decide) (by decide +kernel) ?_); (refine zsR zz.out ?_)) | refine zaR zz.out ?_ | refine zkN zz.out ?_ | ((first | (refine Q0j (by intro β h; first | (rcases h with h | h <;> subst h <;> (simp (disch := first | assumption | (apply zQ; assumption; assumption) | (apply zR; assumption; assumption; (intro e; cases e; done)) | omega) only [zn, zp, zq, zr, zv])) | (subst h; (simp (disch := first | assumption | (apply zQ; assumption; assumption) | (apply zR; assumption; assumption; (intro e; cases e; done)) | omega) only [zn, zp, zq, zr, zv]))) ?_) | ((with_reducible refine zU (hX _ _ _ _ (by exact zO) (by omega) (by omega) (by omega) (by omega) (by exact zN)) ?_); rintro _ S ⟨rfl, τ1, ⟨f1, n1⟩, rfl⟩; have n1s := n1.symm) | (refine Q0d (by exact zK) ?_) | (refine Q0e (by exact zK) ?_)); (try refine zsR zz.out ?_)) | refine zmR zz.out ?_ | refine zo ?_ | omega | refine ztR zz.out ?_ | fail)); try (all_goals clear zz))
  all_goals exact ⟨_, .refl _, τ1, ⟨f1, n1⟩, Q2y (by simp) rfl (by omega)⟩
def mx (a b : Int) : Int := max a b
theorem wf_at {ω : Nat} {f : FuncId} {va : List AV} {tk : List Tk} {D : Nat} (h : Wf ω f va tk D) (B : Sg) {d m : Int} {M : Nat} (h0 : 0 ≤ d) (h1 : d ≤ m) (h2 : m ≤ 2 ^ 41) (h3 : d + M ≤ 2 ^ 40) (hD : D ≤ M) (τ : Nat) (l : List Tk) (X : Nat) (hok : Print.okS B ω τ) (hX : X ≤ M) (hl : l.length + tk.length ≤ 2 ^ 36) :
    VCalls Tryz.prog f va (WS B ω τ l d (mx m (d + X))) (fun x σ' => x = .tup [] ∧ ∃ τ', Print.okS B ω τ' ∧ σ' = WS B ω τ' (l ++ tk) d (mx m (d + (max X D : Nat)))) := by
  refine (h B τ l d (mx m (d + X)) hok h0 (by unfold mx; omega) (by unfold mx; omega) (by omega) hl).mono fun x σ' hx => ?_
  obtain ⟨rfl, τ', ok, rfl⟩ := hx
  exact ⟨rfl, τ', ok, Q2y rfl rfl (by unfold mx; omega)⟩
theorem Q5o {l : List Ex} (h : colB l = true) : oneB l = true := by
  unfold colB at h
  exact (Bool.and_eq_true _ _ ▸ h).1
theorem w_choose (ω : Nat) (x : Stm) (hb : X0j x.items = true) (hg : ∀ y ∈ x.items, ∀ e ∈ y.2, Lim e) (ho : oneB x.on = true) (hol : ∀ e ∈ x.on, Lim e) (hw : oneB x.wh = true) (hwl : ∀ e ∈ x.wh, Lim e)
    (hgr : oneB x.gr = true) (hgl : ∀ e ∈ x.gr, Lim e) (hor : oneB x.or = true) (hrl : ∀ e ∈ x.or, Lim e) (hlim : inR x.lim) (hlim2 : -1 ≤ x.lim) :
    Wf ω 67 [.ref ω 0, .agg (stmA x)] (X4o x) (max (maxD (fun y => expD y.2) x.items) (max (if x.join = [] then 0 else expD x.on) (max (expD x.wh) (max (expD x.gr) (expD x.or))))) := by
  obtain ⟨g1, g2⟩ : x.items.all Q6u = true ∧ (1 ≤ x.items.length ∧ x.items.length ≤ 8) := by
    unfold X0j at hb; simpa only [Bool.and_eq_true, decide_eq_true_eq] using hb
  have g1 := List.all_eq_true.1 g1
  have hLs := w_list ω 124 [.ro [.ref ω 0], .ro (stmA x)] x.items Q7y (fun y => expD y.2) x.items.length rfl (by omega) (fun i hi => u_item ω x i hi (by omega) (g1 _ (List.getElem_mem hi)) (hg _ (List.getElem_mem hi)))
  have hM1 := X4q ω x.on ho hol .any .full [[.s (bs [79, 78])]] (Q0k Q0p (by simp))
  have hM2 := X4q ω x.wh hw hwl .any .full [[.s (bs [87, 72, 69, 82, 69])]] (Q0k Q0p (by simp))
  have hM3 := X4q ω x.gr hgr hgl .any .full [[.s (bs [71, 82, 79, 85, 80])], [.s (bs [66, 89])]] (Q0k (Q0k Q0p (by simp)) (by simp))
  have hM4 := X4q ω x.or hor hrl .any .full [[.s (bs [79, 82, 68, 69, 82])], [.s (bs [66, 89])]] (Q0k (Q0k Q0p (by simp)) (by simp))
  rw [show expW [[.s (bs [79, 78])]] x.on = expT [[79, 78]] x.on from expW1 _ _] at hM1
  rw [show expW [[.s (bs [87, 72, 69, 82, 69])]] x.wh = expT [[87, 72, 69, 82, 69]] x.wh from expW1 _ _] at hM2
  rw [show expW [[.s (bs [71, 82, 79, 85, 80])], [.s (bs [66, 89])]] x.gr = expT [[71, 82, 79, 85, 80], [66, 89]] x.gr from expW2 _ _ _] at hM3
  rw [show expW [[.s (bs [79, 82, 68, 69, 82])], [.s (bs [66, 89])]] x.or = expT [[79, 82, 68, 69, 82], [66, 89]] x.or from expW2 _ _ _] at hM4
  have hnl : inR' x.lim := by unfold inR at hlim; unfold inR'; omega
  have hnt : 0 ≤ x.lim → numT x.lim = [iT x.lim] := fun h => by unfold numT; rw [if_neg (by omega)]
  have hll : (numT x.lim).length ≤ 2 := by unfold numT; split <;> simp
  obtain ⟨M, hM⟩ : ∃ M : Nat, M = max (maxD (fun y => expD y.2) x.items) (max (if x.join = [] then 0 else expD x.on) (max (expD x.wh) (max (expD x.gr) (expD x.or)))) := ⟨_, rfl⟩
  rw [← hM]
  intro B τ l d m h h0 hm1 h2' h3 h4
  have z0 : 0 ≤ M := Nat.zero_le _
  have e0 : maxD (fun y => expD y.2) x.items ≤ M := by omega
  have e2 : expD x.wh ≤ M := by omega
  have e3 : expD x.gr ≤ M := by omega
  have e4 : expD x.or ≤ M := by omega
  have hLs := wf_at hLs B h0 hm1 h2' h3 e0
  have hM2 := wf_at hM2 B h0 hm1 h2' h3 e2
  have hM3 := wf_at hM3 B h0 hm1 h2' h3 e3
  have hM4 := wf_at hM4 B h0 hm1 h2' h3 e4
  rw [show WS B ω τ l d m = WS B ω τ l d (mx m (d + (0 : Nat))) from Q2y rfl rfl (by unfold mx; omega)]
  have a1 : (x.items.map Q2z).length = x.items.length := zB ..
  have b4 : X4o x = wd [83, 69, 76, 69, 67, 84] :: (sepT Q7y x.items ++ (wd [70, 82, 79, 77] :: nT x.t :: ((if x.join = [] then [] else wd [74, 79, 73, 78] :: nT x.join :: expT [[79, 78]] x.on) ++ (expT [[87, 72, 69, 82, 69]] x.wh ++ (expT [[71, 82, 79, 85, 80], [66, 89]] x.gr ++ (expT [[79, 82, 68, 69, 82], [66, 89]] x.or ++
    ((if x.desc = true then [wd [68, 69, 83, 67]] else []) ++ (if 0 ≤ x.lim then [wd [76, 73, 77, 73, 84], iT x.lim] else [])))))))) := rfl
  rw [b4] at h4 ⊢
  simp only [zx, zy, zA, Q3o] at h4
  clear g1 hg hb b4 hw hwl ho hol hgr hgl hor hrl
  unfold stmA at hLs ⊢
  generalize sepT Q7y x.items = TT at *
  generalize expT [[79, 78]] x.on = T1 at *
  generalize expT [[87, 72, 69, 82, 69]] x.wh = T2 at *
  generalize expT [[71, 82, 79, 85, 80], [66, 89]] x.gr = T3 at *
  generalize expT [[79, 82, 68, 69, 82], [66, 89]] x.or = T4 at *
  generalize maxD (fun y : It => expD y.2) x.items = D at *
  generalize expD x.on = D1 at *
  generalize expD x.wh = D2 at *
  generalize expD x.gr = D3 at *
  generalize expD x.or = D4 at *
  generalize x.items.length = N at *
  generalize x.items.map Q2z = L0 at *
  generalize exsA x.on = L1 at *
  generalize exsA x.wh = L2 at *
  generalize exsA x.gr = L3 at *
  generalize exsA x.or = L4 at *
  generalize x.join = join at *
  generalize x.desc = desc at *
  generalize x.lim = lim at *
  by_cases hj : join = []
  · rw [if_pos hj] at hM h4 ⊢
    subst hj
    simp only [zA] at h4
    have hMb : Bx (max (max (max (max 0 D) D2) D3) D4 = M) := ⟨by omega⟩
    clear hM1 hM
    (refine vfun (fun _ => .ro) Q0h Tryz.func67 (by kernel_rfl) ?_; simp only [Q0f, Tryz.f67, zw])
    (have zz := Bx.mk (j9 ui0 ui3 ui4 ui9 ui22 ui23 ui24 ui25 (j9 ui26 ui37 ui38 ui39 ui40 ui41 ui42 ui55 (j9 ui56 ui57 ui58 ui59 ui67 ui68 ui70 ui71 (j9 ui75 Q1k Q0u X9w Q1e Q1r Q1s a1 WLg)))); (repeat' (first | exact zc | (with_reducible first | apply And.intro | apply Q0a | apply Q0b | refine Q0c (by decide +kernel) ?_ | intro _) | ((with_reducible first | refine .dms (fun x => False) [(0, false), (1, false), (2, false), (3, true), (4, false), (5, true)] (by decide) (by decide +kernel) ?_ | refine .dm (fun x => False) [(0, false), (1, false), (2, false), (3, true), (4, false), (5, true)] (by decide) (by decide +kernel) ?_); (refine zsR zz.out ?_)) | ((with_reducible first | refine .dms (fun x => False) [(0, false), (1, false), (2, false), (3, true), (4, false), (5, true)] (by decide) (by decide +kernel) ?_ | refine .dm (fun x => False) [(0, false), (1, false), (2, false), (3, true), (4, false), (5, true)] (by decide) (by decide +kernel) ?_); (refine zsR zz.out ?_)) | ((with_reducible first | refine .dms (fun x => False) [(0, false), (1, false), (2, false), (3, true), (4, false), (5, true)] (by decide) (by decide +kernel) ?_ | refine .dm (fun x => False) [(0, false), (1, false), (2, false), (3, true), (4, false), (5, true)] (by decide) (by decide +kernel) ?_); (refine zsR zz.out ?_)) | refine zaR zz.out ?_ | refine zkN zz.out ?_ | ((first | (refine Q0j (by intro β h; first | (rcases h with h | h <;> subst h <;> (simp (disch := first | assumption | (apply zQ; assumption; assumption) | (apply zR; assumption; assumption; (intro e; cases e; done)) | omega) only [zn, zp, zq, zr, zv])) | (subst h; (simp (disch := first | assumption | (apply zQ; assumption; assumption) | (apply zR; assumption; assumption; (intro e; cases e; done)) | omega) only [zn, zp, zq, zr, zv]))) ?_) | ((with_reducible refine zU (hLs _ _ _ (by exact zO) (by repeat' (first | assumption | refine Nat.max_le.2 ⟨?_, ?_⟩)) (by exact zN)) ?_); rintro _ S ⟨rfl, τ1, ⟨f1, n1⟩, rfl⟩; have n1s := n1.symm) | ((with_reducible refine zU (hM2 _ _ _ (by exact zO) (by repeat' (first | assumption | refine Nat.max_le.2 ⟨?_, ?_⟩)) (by exact zN)) ?_); rintro _ S ⟨rfl, τ1, ⟨f1, n1⟩, rfl⟩; have n1s := n1.symm) | ((with_reducible refine zU (hM3 _ _ _ (by exact zO) (by repeat' (first | assumption | refine Nat.max_le.2 ⟨?_, ?_⟩)) (by exact zN)) ?_); rintro _ S ⟨rfl, τ1, ⟨f1, n1⟩, rfl⟩; have n1s := n1.symm) | ((with_reducible refine zU (hM4 _ _ _ (by exact zO) (by repeat' (first | assumption | refine Nat.max_le.2 ⟨?_, ?_⟩)) (by exact zN)) ?_); rintro _ S ⟨rfl, τ1, ⟨f1, n1⟩, rfl⟩; have n1s := n1.symm) | ((with_reducible refine zU (Q0m _ _ _ _ _ _ _ _ (by repeat (first | exact Q0p | refine Q0k ?_ (by simp))) (by exact zO) (by exact zN)) ?_); rintro _ S ⟨rfl, τ1, ⟨f1, n1⟩, rfl⟩; have n1s := n1.symm) | ((with_reducible refine zU (Q3r _ _ _ _ _ _ _ (by exact zO) (by exact zN)) ?_); rintro _ S ⟨rfl, τ1, ⟨f1, n1⟩, rfl⟩; have n1s := n1.symm) | ((with_reducible refine zU (X3g _ _ _ _ _ _ _ (by exact zO) (by exact zN) (by assumption)) ?_); rintro _ S ⟨rfl, τ1, ⟨f1, n1⟩, rfl⟩; have n1s := n1.symm) | (refine Q0d (by exact zK) ?_) | (refine Q0e (by exact zK) ?_)); (try refine zsR zz.out ?_)) | refine zmR zz.out ?_ | refine zo ?_ | omega | refine ztR zz.out ?_ | fail)); try (all_goals clear zz))
    all_goals (refine ⟨_, .refl _, τ1, ⟨f1, n1⟩, Q2y ?_ rfl (by rw [hMb.out]; rfl)⟩; (first | rw [if_pos (show 0 ≤ lim by omega), hnt (by omega)] | rw [if_neg (show ¬ 0 ≤ lim by omega)]); (first | rw [if_pos (show desc = true by assumption)] | rw [if_neg (show ¬ desc = true by assumption)]); simp)
  · rw [if_neg hj] at hM h4 ⊢
    have hM1 := wf_at hM1 B h0 hm1 h2' h3 (show D1 ≤ M by omega)
    have e1 : D1 ≤ M := by omega
    simp only [zy, zA] at h4
    have hMb : Bx (max (max (max (max (max 0 D) D1) D2) D3) D4 = M) := ⟨by omega⟩
    clear hM
    (refine vfun (fun _ => .ro) Q0h Tryz.func67 (by kernel_rfl) ?_; simp only [Q0f, Tryz.f67, zw])
    (have zz := Bx.mk (j9 ui0 ui3 ui4 ui9 ui22 ui23 ui24 ui25 (j9 ui26 ui37 ui38 ui39 ui40 ui41 ui42 ui55 (j9 ui56 ui57 ui58 ui59 ui67 ui68 ui70 ui71 (j9 ui75 Q1k Q0u X9w Q1e Q1r Q1s a1 WLg)))); (repeat' (first | exact zc | (with_reducible first | apply And.intro | apply Q0a | apply Q0b | refine Q0c (by decide +kernel) ?_ | intro _) | ((with_reducible first | refine .dms (fun x => False) [(0, false), (1, false), (2, false), (3, true), (4, false), (5, true)] (by decide) (by decide +kernel) ?_ | refine .dm (fun x => False) [(0, false), (1, false), (2, false), (3, true), (4, false), (5, true)] (by decide) (by decide +kernel) ?_); (refine zsR zz.out ?_)) | ((with_reducible first | refine .dms (fun x => False) [(0, false), (1, false), (2, false), (3, true), (4, false), (5, true)] (by decide) (by decide +kernel) ?_ | refine .dm (fun x => False) [(0, false), (1, false), (2, false), (3, true), (4, false), (5, true)] (by decide) (by decide +kernel) ?_); (refine zsR zz.out ?_)) | ((with_reducible first | refine .dms (fun x => False) [(0, false), (1, false), (2, false), (3, true), (4, false), (5, true)] (by decide) (by decide +kernel) ?_ | refine .dm (fun x => False) [(0, false), (1, false), (2, false), (3, true), (4, false), (5, true)] (by decide) (by decide +kernel) ?_); (refine zsR zz.out ?_)) | refine zaR zz.out ?_ | refine zkN zz.out ?_ | ((first | (refine Q0j (by intro β h; first | (rcases h with h | h <;> subst h <;> (simp (disch := first | assumption | (apply zQ; assumption; assumption) | (apply zR; assumption; assumption; (intro e; cases e; done)) | omega) only [zn, zp, zq, zr, zv])) | (subst h; (simp (disch := first | assumption | (apply zQ; assumption; assumption) | (apply zR; assumption; assumption; (intro e; cases e; done)) | omega) only [zn, zp, zq, zr, zv]))) ?_) | ((with_reducible refine zU (hLs _ _ _ (by exact zO) (by repeat' (first | assumption | refine Nat.max_le.2 ⟨?_, ?_⟩)) (by exact zN)) ?_); rintro _ S ⟨rfl, τ1, ⟨f1, n1⟩, rfl⟩; have n1s := n1.symm) | ((with_reducible refine zU (hM1 _ _ _ (by exact zO) (by repeat' (first | assumption | refine Nat.max_le.2 ⟨?_, ?_⟩)) (by exact zN)) ?_); rintro _ S ⟨rfl, τ1, ⟨f1, n1⟩, rfl⟩; have n1s := n1.symm) | ((with_reducible refine zU (hM2 _ _ _ (by exact zO) (by repeat' (first | assumption | refine Nat.max_le.2 ⟨?_, ?_⟩)) (by exact zN)) ?_); rintro _ S ⟨rfl, τ1, ⟨f1, n1⟩, rfl⟩; have n1s := n1.symm) | ((with_reducible refine zU (hM3 _ _ _ (by exact zO) (by repeat' (first | assumption | refine Nat.max_le.2 ⟨?_, ?_⟩)) (by exact zN)) ?_); rintro _ S ⟨rfl, τ1, ⟨f1, n1⟩, rfl⟩; have n1s := n1.symm) | ((with_reducible refine zU (hM4 _ _ _ (by exact zO) (by repeat' (first | assumption | refine Nat.max_le.2 ⟨?_, ?_⟩)) (by exact zN)) ?_); rintro _ S ⟨rfl, τ1, ⟨f1, n1⟩, rfl⟩; have n1s := n1.symm) | ((with_reducible refine zU (Q0m _ _ _ _ _ _ _ _ (by repeat (first | exact Q0p | refine Q0k ?_ (by simp))) (by exact zO) (by exact zN)) ?_); rintro _ S ⟨rfl, τ1, ⟨f1, n1⟩, rfl⟩; have n1s := n1.symm) | ((with_reducible refine zU (Q3r _ _ _ _ _ _ _ (by exact zO) (by exact zN)) ?_); rintro _ S ⟨rfl, τ1, ⟨f1, n1⟩, rfl⟩; have n1s := n1.symm) | ((with_reducible refine zU (X3g _ _ _ _ _ _ _ (by exact zO) (by exact zN) (by assumption)) ?_); rintro _ S ⟨rfl, τ1, ⟨f1, n1⟩, rfl⟩; have n1s := n1.symm) | (refine Q0d (by exact zK) ?_) | (refine Q0e (by exact zK) ?_)); (try refine zsR zz.out ?_)) | refine zmR zz.out ?_ | refine zo ?_ | omega | refine ztR zz.out ?_ | fail)); try (all_goals clear zz))
    all_goals try (exfalso; first | exact hj ‹join = []› | (simp_all; done))
    all_goals (refine ⟨_, .refl _, τ1, ⟨f1, n1⟩, Q2y ?_ rfl (by rw [hMb.out]; rfl)⟩; (first | rw [if_pos (show 0 ≤ lim by omega), hnt (by omega)] | rw [if_neg (show ¬ 0 ≤ lim by omega)]); (first | rw [if_pos (show desc = true by assumption)] | rw [if_neg (show ¬ desc = true by assumption)]); simp)
theorem wb_set {T : TypeId} {r : List AV} {B : Sg} {ω τ : Nat} {l : List Tk} {β : Nat} {o : Ob} (h1 : β ≠ ω) (h2 : β ≠ τ) : (WB T r B ω τ l).set β o = WB T r (B.set β o) ω τ l := by
  rw [Y0i, Y0i, Sg.set_comm _ _ _ (Ne.symm h1), Sg.set_comm _ _ _ (Ne.symm h2)]
theorem wb_sub {T : TypeId} {r : List AV} {B : Sg} {ω τ : Nat} {l : List Tk} {β : Nat} {o : Ob} (h : B β = none) : (WB T r B ω τ l).sub (WB T r (B.set β o) ω τ l) := by
  intro y p hy
  simp only [Y0i, Sg.set_apply] at hy ⊢
  grind
theorem colT_len (c : Co) : (colT c).length ≤ 6 := by
  unfold colT
  repeat' split
  all_goals simp [wds]
theorem cols_take {l : List Co} {k : Nat} (h : k < l.length) : ((l.take (k + 1)).map colT).flatten = ((l.take k).map colT).flatten ++ colT l[k] := by
  rw [List.take_succ_eq_append_getElem h, List.map_append, List.flatten_append]; simp
theorem Y0z (l : List Co) : ∀ k, (((l.take k).map colT).flatten).length ≤ 6 * k
  | 0 => by simp
  | k + 1 => by
    have ih := Y0z l k
    rcases Nat.lt_or_ge k l.length with h | h
    · rw [cols_take h, zx]
      have := colT_len l[k]
      omega
    · rw [List.take_of_length_le (by omega)]
      rw [List.take_of_length_le h] at ih
      omega
theorem w_create (ω : Nat) (x : Stm) (hb : X7p x.cols = true) :
    Wf ω 63 [.ref ω 0, .agg (stmA x)] (X4l x) 0 := by
  obtain ⟨g1, g2⟩ : x.cols.all X4p = true ∧ (1 ≤ x.cols.length ∧ x.cols.length ≤ 8) := by
    unfold X7p at hb; simpa only [Bool.and_eq_true, decide_eq_true_eq] using hb
  intro B τ l d m h h0 hm1 h2' h3 h4
  have a1 : (x.cols.map coA).length = x.cols.length := zB ..
  have a2 := Q3d (f := coA) (n := 4) x.cols (fun _ => rfl)
  have a3 := fun k (h : k < x.cols.length) => Q3c (f := coA) h
  have b4 : X4l x = wds [[67, 82, 69, 65, 84, 69], [84, 65, 66, 76, 69]] ++ (nT x.t :: wd [40] :: ((x.cols.map colT).flatten ++ (wds [[80, 82, 73, 77, 65, 82, 89], [75, 69, 89], [40]] ++ (nT x.pk :: wds [[41], [41]])))) := rfl
  have hcl := Y0z x.cols
  rw [b4] at h4 ⊢
  simp only [zx, zy, zA, Q3o] at h4
  clear b4 hb g1
  unfold stmA
  generalize x.cols.map coA = L5 at *
  obtain ⟨C, hC⟩ : ∃ C : List AV, C = [.i x.k, .s (bs x.t), .sl .any L5, .s (bs x.pk), .sl .any (x.rows.map rowA), .sl .any (x.sets.map setA), .sl .any (x.items.map Q2z), .s (bs x.join), .sl .any (exsA x.on), .sl .any (exsA x.wh), .sl .any (exsA x.gr), .sl .any (exsA x.or), .b x.desc, .i x.lim] := ⟨_, rfl⟩
  (refine vfun (fun i => if i = 3 then .ro else .no) Q0h Tryz.func63 (by kernel_rfl) ?_; simp only [Q0f, Tryz.f63, zw])
  (have zz := Bx.mk (j8 ui0 ui3 ui4 ui9 ui22 ui23 ui24 (j9 ui25 ui26 ui37 ui38 ui39 ui40 ui41 ui42 (j9 ui55 ui56 ui57 ui58 ui59 ui67 ui68 ui70 (j9 ui71 ui75 Q1k Q0u Q1e Q1r Q1s a1 WLg)))); (repeat' (first | exact zc | (with_reducible first | apply And.intro | apply Q0a | apply Q0b | refine Q0c (by decide +kernel) ?_ | intro _) | ((with_reducible first | refine .dms (fun x => False) [(0, false), (1, false), (2, false), (3, true), (4, false), (5, true)] (by decide) (by decide +kernel) ?_ | refine .dm (fun x => False) [(0, false), (1, false), (2, false), (3, true), (4, false), (5, true)] (by decide) (by decide +kernel) ?_); (refine zsR zz.out ?_)) | ((with_reducible first | refine .dms (fun x => False) [(0, false), (1, false), (2, false), (3, true), (4, false), (5, true)] (by decide) (by decide +kernel) ?_ | refine .dm (fun x => False) [(0, false), (1, false), (2, false), (3, true), (4, false), (5, true)] (by decide) (by decide +kernel) ?_); (refine zsR zz.out ?_)) | ((with_reducible first | refine .dms (fun x => False) [(0, false), (1, false), (2, false), (3, true), (4, false), (5, true)] (by decide) (by decide +kernel) ?_ | refine .dm (fun x => False) [(0, false), (1, false), (2, false), (3, true), (4, false), (5, true)] (by decide) (by decide +kernel) ?_); (refine zsR zz.out ?_)) | refine zaR zz.out ?_ | refine zkN zz.out ?_ | ((first | (refine Q0j (by intro β h; first | (rcases h with h | h <;> subst h <;> (simp (disch := first | assumption | (apply zQ; assumption; assumption) | (apply zR; assumption; assumption; (intro e; cases e; done)) | omega) only [zn, zp, zq, zr, zv])) | (subst h; (simp (disch := first | assumption | (apply zQ; assumption; assumption) | (apply zR; assumption; assumption; (intro e; cases e; done)) | omega) only [zn, zp, zq, zr, zv]))) ?_) | ((with_reducible refine zU (Q0m _ _ _ _ _ _ _ _ (by repeat (first | exact Q0p | refine Q0k ?_ (by simp))) (by exact zO) (by exact zN)) ?_); rintro _ S ⟨rfl, τ1, ⟨f1, n1⟩, rfl⟩; have n1s := n1.symm) | ((with_reducible refine zU (Q3r _ _ _ _ _ _ _ (by exact zO) (by exact zN)) ?_); rintro _ S ⟨rfl, τ1, ⟨f1, n1⟩, rfl⟩; have n1s := n1.symm) | (refine Q0d (by exact zK) ?_) | (refine Q0e (by exact zK) ?_)); (try refine zsR zz.out ?_)) | refine zmR zz.out ?_ | refine zo ?_ | omega | refine ztR zz.out ?_ | fail)); try (all_goals clear zz))
  refine VW.loop3 (0 : Nat) τ1 () (fun k τ' _ => k ≤ x.cols.length ∧ Print.okS B ω τ') (fun k _ _ => [(0, .ref ω 0), (3, .ro C), (23, .sl .any L5), (24, .i x.cols.length), (25, .i k)]) (fun k τ' _ => WS B ω τ' (l ++ wds [[67, 82, 69, 65, 84, 69], [84, 65, 66, 76, 69]] ++ [nT x.t] ++ [wd [40]] ++ ((x.cols.take k).map colT).flatten) d m) (fun k _ _ => x.cols.length - k) ⟨Nat.zero_le _, ⟨by assumption, by assumption⟩⟩ (X9i (Q2y (by simp [wds]) rfl rfl)) ?_ ?_
  · subst hC
    simp only [vO, vQ, ↓vP, vE, vS, vB, vL, vF, vM, vN, Q0g, Nat.reduceEqDiff, Nat.reduceAdd, Nat.reduceLeDiff, ne_eq, not_false_eq_true, Nat.reduceMul, Nat.reduceSub, Int.toNat_zero, Int.reduceToNat, vT]
    all_goals first | rfl | exact ⟨rfl, rfl⟩ | trace_state
  clear f1 n1 n1s
  rintro k τ' _ ⟨hk, f1, n1⟩
  have n1s := n1.symm
  have hck := hcl k
  generalize hA : l ++ wds [[67, 82, 69, 65, 84, 69], [84, 65, 66, 76, 69]] ++ [nT x.t] ++ [wd [40]] ++ ((x.cols.take k).map colT).flatten = A at *
  rcases Nat.lt_or_ge k x.cols.length with hk2 | hk2
  · have hg := a3 k hk2
    have hg2 : coA x.cols[k] = [.s (bs x.cols[k].1), .i x.cols[k].2.1, .b x.cols[k].2.2.1, .b x.cols[k].2.2.2] := rfl
    rw [hg2] at hg
    have hst := cols_take hk2
    have hct : colT x.cols[k] = nT x.cols[k].1 :: wd (if x.cols[k].2.1 = 1 then [73, 78, 84] else [84, 69, 88, 84]) :: ((if x.cols[k].2.2.1 = true then wds [[78, 79, 84], [78, 85, 76, 76]] else []) ++ ((if x.cols[k].2.2.2 = true then wds [[85, 78, 73, 81, 85, 69]] else []) ++ [wd [44]])) := rfl
    rw [hct] at hst
    have hAl : A.length ≤ 2 ^ 36 + 100 := by rw [← hA]; simp only [zx, zy, zA, Q3o]; omega
    clear hg2 hct a3 hcl
    have hfin : Bx (((x.cols.take k).map colT).flatten = ((x.cols.take k).map colT).flatten) := ⟨rfl⟩
    generalize x.cols[k].1 = va at *
    generalize x.cols[k].2.1 = vb at *
    generalize x.cols[k].2.2.1 = vc at *
    generalize x.cols[k].2.2.2 = vd at *
    (have zz := Bx.mk (j2 ui0 (j9 ui3 ui4 ui9 ui22 ui23 ui24 ui25 ui26 (j9 ui37 ui38 ui39 ui40 ui41 ui42 ui55 ui56 (j9 ui57 ui58 ui59 ui67 ui68 ui70 ui71 ui75 (j9 Q1k Q0u Q1e Q1r Q1s a1 a2 hg WLg))))); (repeat' (first | exact zc | (with_reducible first | apply And.intro | apply Q0a | apply Q0b | refine Q0c (by decide +kernel) ?_ | intro _) | ((with_reducible first | refine .dms (fun x => x = β) [(0, false), (1, false), (2, false), (3, true), (4, false), (5, true)] (by decide) (by decide +kernel) ?_ | refine .dm (fun x => x = β) [(0, false), (1, false), (2, false), (3, true), (4, false), (5, true)] (by decide) (by decide +kernel) ?_); (refine zsR zz.out ?_)) | ((with_reducible first | refine .dms (fun x => x = β) [(0, false), (1, false), (2, false), (3, true), (4, false), (5, true)] (by decide) (by decide +kernel) ?_ | refine .dm (fun x => x = β) [(0, false), (1, false), (2, false), (3, true), (4, false), (5, true)] (by decide) (by decide +kernel) ?_); (refine zsR zz.out ?_)) | ((with_reducible first | refine .dms (fun x => x = β) [(0, false), (1, false), (2, false), (3, true), (4, false), (5, true)] (by decide) (by decide +kernel) ?_ | refine .dm (fun x => x = β) [(0, false), (1, false), (2, false), (3, true), (4, false), (5, true)] (by decide) (by decide +kernel) ?_); (refine zsR zz.out ?_)) | refine zaR zz.out ?_ | refine zkK zz.out ?_ | ((first | (refine Q0j (by intro β h; first | (rcases h with h | h <;> subst h <;> (simp (disch := first | assumption | (apply zQ; assumption; assumption) | (apply zR; assumption; assumption; (intro e; cases e; done)) | omega) only [zn, zp, zq, zr, zv])) | (subst h; (simp (disch := first | assumption | (apply zQ; assumption; assumption) | (apply zR; assumption; assumption; (intro e; cases e; done)) | omega) only [zn, zp, zq, zr, zv]))) ?_) | (with_reducible first | refine Q1h ?_ | refine Q0w (fun β hβ => ?_)) | (rw [wb_set (by assumption) (by assumption)]) | ((with_reducible refine zU (Q3r _ _ _ _ _ _ _ ⟨Sg.set_none (by assumption) (by first | assumption | (apply Ne.symm; assumption)), by assumption⟩ (by exact zN)) ?_); rintro _ S ⟨rfl, τ1, ⟨f2, n1⟩, rfl⟩; have n1s := n1.symm; obtain ⟨nb, f1⟩ := Sg.none_set f2; have nbs := nb.symm) | ((with_reducible refine zU (Q0m _ _ _ _ _ _ _ _ (by repeat (first | exact Q0p | refine Q0k ?_ (by simp))) ⟨Sg.set_none (by assumption) (by first | assumption | (apply Ne.symm; assumption)), by assumption⟩ (by exact zN)) ?_); rintro _ S ⟨rfl, τ1, ⟨f2, n1⟩, rfl⟩; have n1s := n1.symm; obtain ⟨nb, f1⟩ := Sg.none_set f2; have nbs := nb.symm) | ((with_reducible refine zU (Q0m _ _ _ _ _ _ _ _ (by repeat (first | exact Q0p | refine Q0k ?_ (by simp))) (by exact zO) (by exact zN)) ?_); rintro _ S ⟨rfl, τ1, ⟨f1, n1⟩, rfl⟩; have n1s := n1.symm) | ((with_reducible refine zU (Q3r _ _ _ _ _ _ _ (by exact zO) (by exact zN)) ?_); rintro _ S ⟨rfl, τ1, ⟨f1, n1⟩, rfl⟩; have n1s := n1.symm) | (refine Q0d (by exact zK) ?_) | (refine Q0e (by exact zK) ?_)); (try refine zsR zz.out ?_)) | refine zmR zz.out ?_ | refine zo ?_ | omega | refine ztR zz.out ?_ | fail)); try (all_goals clear zz))
    all_goals exact ⟨k + 1, τ1, (), ⟨⟨hk2, f1, n1⟩, by omega⟩, (X9i (Q2y (by rw [hst, ← hA]; (first | rw [if_pos (show vb = 1 by assumption)] | rw [if_neg (show ¬ vb = 1 by assumption)]); (first | rw [if_pos (show vc = true by assumption)] | rw [if_neg (show ¬ vc = true by assumption)]); (first | rw [if_pos (show vd = true by assumption)] | rw [if_neg (show ¬ vd = true by assumption)]); simp [wds]) rfl rfl)).trans (wb_sub hβ), rfl⟩
  · subst hC
    rw [List.take_of_length_le hk2] at hA
    have hAl : A.length ≤ l.length + 4 + ((x.cols.map colT).flatten).length := by rw [← hA]; simp only [zx, zy, zA, Q3o]; omega
    (have zz := Bx.mk (j8 ui0 ui3 ui4 ui9 ui22 ui23 ui24 (j9 ui25 ui26 ui37 ui38 ui39 ui40 ui41 ui42 (j9 ui55 ui56 ui57 ui58 ui59 ui67 ui68 ui70 (j9 ui71 ui75 Q1k Q0u Q1e Q1r Q1s a1 WLg)))); (repeat' (first | exact zc | (with_reducible first | apply And.intro | apply Q0a | apply Q0b | refine Q0c (by decide +kernel) ?_ | intro _) | ((with_reducible first | refine .dms (fun x => False) [(0, false), (1, false), (2, false), (3, true), (4, false), (5, true)] (by decide) (by decide +kernel) ?_ | refine .dm (fun x => False) [(0, false), (1, false), (2, false), (3, true), (4, false), (5, true)] (by decide) (by decide +kernel) ?_); (refine zsR zz.out ?_)) | ((with_reducible first | refine .dms (fun x => False) [(0, false), (1, false), (2, false), (3, true), (4, false), (5, true)] (by decide) (by decide +kernel) ?_ | refine .dm (fun x => False) [(0, false), (1, false), (2, false), (3, true), (4, false), (5, true)] (by decide) (by decide +kernel) ?_); (refine zsR zz.out ?_)) | ((with_reducible first | refine .dms (fun x => False) [(0, false), (1, false), (2, false), (3, true), (4, false), (5, true)] (by decide) (by decide +kernel) ?_ | refine .dm (fun x => False) [(0, false), (1, false), (2, false), (3, true), (4, false), (5, true)] (by decide) (by decide +kernel) ?_); (refine zsR zz.out ?_)) | refine zaR zz.out ?_ | refine zkN zz.out ?_ | ((first | (refine Q0j (by intro β h; first | (rcases h with h | h <;> subst h <;> (simp (disch := first | assumption | (apply zQ; assumption; assumption) | (apply zR; assumption; assumption; (intro e; cases e; done)) | omega) only [zn, zp, zq, zr, zv])) | (subst h; (simp (disch := first | assumption | (apply zQ; assumption; assumption) | (apply zR; assumption; assumption; (intro e; cases e; done)) | omega) only [zn, zp, zq, zr, zv]))) ?_) | ((with_reducible refine zU (Q0m _ _ _ _ _ _ _ _ (by repeat (first | exact Q0p | refine Q0k ?_ (by simp))) (by exact zO) (by exact zN)) ?_); rintro _ S ⟨rfl, τ1, ⟨f1, n1⟩, rfl⟩; have n1s := n1.symm) | ((with_reducible refine zU (Q3r _ _ _ _ _ _ _ (by exact zO) (by exact zN)) ?_); rintro _ S ⟨rfl, τ1, ⟨f1, n1⟩, rfl⟩; have n1s := n1.symm) | (refine Q0d (by exact zK) ?_) | (refine Q0e (by exact zK) ?_)); (try refine zsR zz.out ?_)) | refine zmR zz.out ?_ | refine zo ?_ | omega | refine ztR zz.out ?_ | fail)); try (all_goals clear zz))
    all_goals exact ⟨_, .refl _, τ1, ⟨f1, n1⟩, Q2y (by rw [← hA]; simp [wds]) rfl (by omega)⟩
structure LimX (x : Stm) : Prop where
  s : LimS x
  v : ∀ r ∈ x.rows, ∀ v ∈ r, inR v.2.1
theorem Q9n {x : Stm} (h : fitB x = true) : (1 ≤ x.k ∧ x.k ≤ 6) ∧ isNm x.t = true ∧ oneB x.wh = true ∧ (x.k = 1 → X7p x.cols = true ∧ isNm x.pk = true) ∧ (x.k = 3 → X7q x.rows = true) ∧ (x.k = 4 → X5l x.sets = true) ∧ (x.k = 6 → selB x = true) := by
  unfold fitB bareB at h
  simp only [Bool.and_eq_true, decide_eq_true_eq] at h
  obtain ⟨⟨h1, h2, _⟩, h3, h4⟩ := h
  refine ⟨h2, h1, h3, fun e => ?_, fun e => ?_, fun e => ?_, fun e => ?_⟩
  · rw [if_pos e, Bool.and_eq_true] at h4; exact h4
  · rw [if_neg (by omega), if_pos e] at h4; exact h4
  · rw [if_neg (by omega), if_neg (by omega), if_pos e] at h4; exact h4
  · rw [if_neg (by omega), if_neg (by omega), if_neg (by omega), if_pos e] at h4; exact h4
theorem Q9o {x : Stm} (h : selB x = true) : X0j x.items = true ∧ oneB x.on = true ∧ colB x.gr = true ∧ colB x.or = true ∧ -1 ≤ x.lim := by
  unfold selB at h
  simp only [Bool.and_eq_true, decide_eq_true_eq] at h
  exact ⟨h.2.1, h.2.2.1, h.2.2.2.1, h.2.2.2.2.1, h.2.2.2.2.2.2⟩
theorem w_state (ω : Nat) (x : Stm) (hf : fitB x = true) (hL : LimX x) : Wf ω 30 [.ref ω 0, .agg (stmA x)] (stT x) (stD x) := by
  obtain ⟨p1, p2, p3, p4, p5, p6, p7⟩ := Q9n hf
  have hM := X4q ω x.wh p3 hL.s.wh.2 .any .full [[.s (bs [87, 72, 69, 82, 69])]] (Q0k Q0p (by simp))
  rw [show expW [[.s (bs [87, 72, 69, 82, 69])]] x.wh = expT [[87, 72, 69, 82, 69]] x.wh from expW1 _ _] at hM
  have hk : x.k = 1 ∨ x.k = 2 ∨ x.k = 3 ∨ x.k = 4 ∨ x.k = 5 ∨ x.k = 6 := by omega
  intro B τ l d m h h0 hm1 h2' h3 h4
  have hM := hM B
  rcases hk with hk | hk | hk | hk | hk | hk
  · have hX := w_create ω x (p4 hk).1 B
    have e1 : stT x = X4l x := by unfold stT; rw [if_pos hk]
    have e2 : stD x = 0 := by unfold stD; rw [if_neg (by omega), if_neg (by omega), if_neg (by omega)]
    rw [e1] at h4 ⊢
    rw [e2] at h3 ⊢
    clear hM p1 p2 p3 p4 p5 p6 p7 hf hL e1 e2
    generalize X4l x = TT at *
    unfold stmA at hX ⊢
    rw [hk] at hX ⊢
    (refine vfun (fun _ => .ro) Q0h Tryz.func30 (by kernel_rfl) ?_; simp only [Q0f, Tryz.f30, zw])
    (have zz := Bx.mk (j7 ui0 ui3 ui4 ui9 ui22 ui23 (j9 ui24 ui25 ui26 ui37 ui38 ui39 ui40 ui41 (j9 ui42 ui55 ui56 ui57 ui58 ui59 ui67 ui68 (j9 ui70 ui71 ui75 Q1k Q0u Q1e Q1r Q1s WLg)))); (repeat' (first | exact zc | (with_reducible first | apply And.intro | apply Q0a | apply Q0b | refine Q0c (by decide +kernel) ?_ | intro _) | refine zaY zz.out ?_ | ((first | ((with_reducible refine zU (hX _ _ _ _ (by exact zO) (by omega) (by omega) (by omega) (by omega) (by exact zN)) ?_); rintro _ S ⟨rfl, τ1, ⟨f1, n1⟩, rfl⟩; have n1s := n1.symm) | ((with_reducible refine zU (Q0m _ _ _ _ _ _ _ _ (by repeat (first | exact Q0p | refine Q0k ?_ (by simp))) (by exact zO) (by exact zN)) ?_); rintro _ S ⟨rfl, τ1, ⟨f1, n1⟩, rfl⟩; have n1s := n1.symm) | ((with_reducible refine zU (Q3r _ _ _ _ _ _ _ (by exact zO) (by exact zN)) ?_); rintro _ S ⟨rfl, τ1, ⟨f1, n1⟩, rfl⟩; have n1s := n1.symm) | (refine Q0d (by exact zK) ?_) | (refine Q0e (by exact zK) ?_)); (try refine zsY zz.out ?_)) | refine zo ?_ | omega | refine ztY zz.out ?_ | fail)); try (all_goals clear zz))
    all_goals exact ⟨_, .refl _, τ1, ⟨f1, n1⟩, Q2y rfl rfl rfl⟩
  · have e1 : stT x = wds [[68, 82, 79, 80], [84, 65, 66, 76, 69]] ++ [nT x.t] := by unfold stT; rw [if_neg (by omega), if_pos hk]; rfl
    have e2 : stD x = 0 := by unfold stD; rw [if_neg (by omega), if_neg (by omega), if_neg (by omega)]
    rw [e1] at h4 ⊢
    rw [e2] at h3 ⊢
    simp only [zx, zy, zA, Q3o] at h4
    clear hM p1 p2 p3 p4 p5 p6 p7 hf hL e1 e2
    unfold stmA
    rw [hk]
    (refine vfun (fun _ => .ro) Q0h Tryz.func30 (by kernel_rfl) ?_; simp only [Q0f, Tryz.f30, zw])
    (have zz := Bx.mk (j7 ui0 ui3 ui4 ui9 ui22 ui23 (j9 ui24 ui25 ui26 ui37 ui38 ui39 ui40 ui41 (j9 ui42 ui55 ui56 ui57 ui58 ui59 ui67 ui68 (j9 ui70 ui71 ui75 Q1k Q0u Q1e Q1r Q1s WLg)))); (repeat' (first | exact zc | (with_reducible first | apply And.intro | apply Q0a | apply Q0b | refine Q0c (by decide +kernel) ?_ | intro _) | ((with_reducible first | refine .dms (fun x => False) [(0, false), (1, false), (2, false), (3, true), (4, false), (5, true)] (by decide) (by decide +kernel) ?_ | refine .dm (fun x => False) [(0, false), (1, false), (2, false), (3, true), (4, false), (5, true)] (by decide) (by decide +kernel) ?_); (refine zsR zz.out ?_)) | ((with_reducible first | refine .dms (fun x => False) [(0, false), (1, false), (2, false), (3, true), (4, false), (5, true)] (by decide) (by decide +kernel) ?_ | refine .dm (fun x => False) [(0, false), (1, false), (2, false), (3, true), (4, false), (5, true)] (by decide) (by decide +kernel) ?_); (refine zsR zz.out ?_)) | refine zaR zz.out ?_ | refine zkN zz.out ?_ | ((first | (refine Q0j (by intro β h; first | (rcases h with h | h <;> subst h <;> (simp (disch := first | assumption | (apply zQ; assumption; assumption) | (apply zR; assumption; assumption; (intro e; cases e; done)) | omega) only [zn, zp, zq, zr, zv])) | (subst h; (simp (disch := first | assumption | (apply zQ; assumption; assumption) | (apply zR; assumption; assumption; (intro e; cases e; done)) | omega) only [zn, zp, zq, zr, zv]))) ?_) | ((with_reducible refine zU (Q0m _ _ _ _ _ _ _ _ (by repeat (first | exact Q0p | refine Q0k ?_ (by simp))) (by exact zO) (by exact zN)) ?_); rintro _ S ⟨rfl, τ1, ⟨f1, n1⟩, rfl⟩; have n1s := n1.symm) | ((with_reducible refine zU (Q3r _ _ _ _ _ _ _ (by exact zO) (by exact zN)) ?_); rintro _ S ⟨rfl, τ1, ⟨f1, n1⟩, rfl⟩; have n1s := n1.symm) | (refine Q0d (by exact zK) ?_) | (refine Q0e (by exact zK) ?_)); (try refine zsR zz.out ?_)) | refine zmR zz.out ?_ | refine zo ?_ | omega | refine ztR zz.out ?_ | fail)); try (all_goals clear zz))
    all_goals exact ⟨_, .refl _, τ1, ⟨f1, n1⟩, Q2y (by simp [wds]) rfl (by omega)⟩
  · have hX := w_insert ω x (p5 hk) hL.v B
    have e1 : stT x = X4m x := by unfold stT; rw [if_neg (by omega), if_neg (by omega), if_pos hk]
    have e2 : stD x = 0 := by unfold stD; rw [if_neg (by omega), if_neg (by omega), if_neg (by omega)]
    rw [e1] at h4 ⊢
    rw [e2] at h3 ⊢
    clear hM p1 p2 p3 p4 p5 p6 p7 hf hL e1 e2
    generalize X4m x = TT at *
    unfold stmA at hX ⊢
    rw [hk] at hX ⊢
    (refine vfun (fun _ => .ro) Q0h Tryz.func30 (by kernel_rfl) ?_; simp only [Q0f, Tryz.f30, zw])
    (have zz := Bx.mk (j7 ui0 ui3 ui4 ui9 ui22 ui23 (j9 ui24 ui25 ui26 ui37 ui38 ui39 ui40 ui41 (j9 ui42 ui55 ui56 ui57 ui58 ui59 ui67 ui68 (j9 ui70 ui71 ui75 Q1k Q0u Q1e Q1r Q1s WLg)))); (repeat' (first | exact zc | (with_reducible first | apply And.intro | apply Q0a | apply Q0b | refine Q0c (by decide +kernel) ?_ | intro _) | refine zaY zz.out ?_ | ((first | ((with_reducible refine zU (hX _ _ _ _ (by exact zO) (by omega) (by omega) (by omega) (by omega) (by exact zN)) ?_); rintro _ S ⟨rfl, τ1, ⟨f1, n1⟩, rfl⟩; have n1s := n1.symm) | ((with_reducible refine zU (Q0m _ _ _ _ _ _ _ _ (by repeat (first | exact Q0p | refine Q0k ?_ (by simp))) (by exact zO) (by exact zN)) ?_); rintro _ S ⟨rfl, τ1, ⟨f1, n1⟩, rfl⟩; have n1s := n1.symm) | ((with_reducible refine zU (Q3r _ _ _ _ _ _ _ (by exact zO) (by exact zN)) ?_); rintro _ S ⟨rfl, τ1, ⟨f1, n1⟩, rfl⟩; have n1s := n1.symm) | (refine Q0d (by exact zK) ?_) | (refine Q0e (by exact zK) ?_)); (try refine zsY zz.out ?_)) | refine zo ?_ | omega | refine ztY zz.out ?_ | fail)); try (all_goals clear zz))
    all_goals exact ⟨_, .refl _, τ1, ⟨f1, n1⟩, Q2y rfl rfl rfl⟩
  · have hX := w_update ω x (p6 hk) hL.s.set p3 hL.s.wh.2 B
    have e1 : stT x = X4n x := by unfold stT; rw [if_neg (by omega), if_neg (by omega), if_neg (by omega), if_pos hk]
    have e2 : stD x = max (maxD (fun s => (toTr s.2).dp) x.sets) (expD x.wh) := by unfold stD; rw [if_pos hk]
    rw [e1] at h4 ⊢
    rw [e2] at h3 ⊢
    clear hM p1 p2 p3 p4 p5 p6 p7 hf hL e1 e2
    generalize X4n x = TT at *
    generalize max (maxD (fun s : Se => (toTr s.2).dp) x.sets) (expD x.wh) = D at *
    unfold stmA at hX ⊢
    rw [hk] at hX ⊢
    (refine vfun (fun _ => .ro) Q0h Tryz.func30 (by kernel_rfl) ?_; simp only [Q0f, Tryz.f30, zw])
    (have zz := Bx.mk (j7 ui0 ui3 ui4 ui9 ui22 ui23 (j9 ui24 ui25 ui26 ui37 ui38 ui39 ui40 ui41 (j9 ui42 ui55 ui56 ui57 ui58 ui59 ui67 ui68 (j9 ui70 ui71 ui75 Q1k Q0u Q1e Q1r Q1s WLg)))); (repeat' (first | exact zc | (with_reducible first | apply And.intro | apply Q0a | apply Q0b | refine Q0c (by decide +kernel) ?_ | intro _) | refine zaY zz.out ?_ | ((first | ((with_reducible refine zU (hX _ _ _ _ (by exact zO) (by omega) (by omega) (by omega) (by omega) (by exact zN)) ?_); rintro _ S ⟨rfl, τ1, ⟨f1, n1⟩, rfl⟩; have n1s := n1.symm) | ((with_reducible refine zU (Q0m _ _ _ _ _ _ _ _ (by repeat (first | exact Q0p | refine Q0k ?_ (by simp))) (by exact zO) (by exact zN)) ?_); rintro _ S ⟨rfl, τ1, ⟨f1, n1⟩, rfl⟩; have n1s := n1.symm) | ((with_reducible refine zU (Q3r _ _ _ _ _ _ _ (by exact zO) (by exact zN)) ?_); rintro _ S ⟨rfl, τ1, ⟨f1, n1⟩, rfl⟩; have n1s := n1.symm) | (refine Q0d (by exact zK) ?_) | (refine Q0e (by exact zK) ?_)); (try refine zsY zz.out ?_)) | refine zo ?_ | omega | refine ztY zz.out ?_ | fail)); try (all_goals clear zz))
    all_goals exact ⟨_, .refl _, τ1, ⟨f1, n1⟩, Q2y rfl rfl rfl⟩
  · have e1 : stT x = wds [[68, 69, 76, 69, 84, 69], [70, 82, 79, 77]] ++ (nT x.t :: expT [[87, 72, 69, 82, 69]] x.wh) := by unfold stT; rw [if_neg (by omega), if_neg (by omega), if_neg (by omega), if_neg (by omega), if_pos hk]; rfl
    have e2 : stD x = expD x.wh := by unfold stD; rw [if_neg (by omega), if_pos hk]
    rw [e1] at h4 ⊢
    rw [e2] at h3 ⊢
    simp only [zx, zy, zA, Q3o] at h4
    clear p1 p2 p3 p4 p5 p6 p7 hf hL e1 e2
    generalize expT [[87, 72, 69, 82, 69]] x.wh = T2 at *
    generalize expD x.wh = D2 at *
    unfold stmA
    rw [hk]
    (refine vfun (fun _ => .ro) Q0h Tryz.func30 (by kernel_rfl) ?_; simp only [Q0f, Tryz.f30, zw])
    (have zz := Bx.mk (j7 ui0 ui3 ui4 ui9 ui22 ui23 (j9 ui24 ui25 ui26 ui37 ui38 ui39 ui40 ui41 (j9 ui42 ui55 ui56 ui57 ui58 ui59 ui67 ui68 (j9 ui70 ui71 ui75 Q1k Q0u Q1e Q1r Q1s WLg)))); (repeat' (first | exact zc | (with_reducible first | apply And.intro | apply Q0a | apply Q0b | refine Q0c (by decide +kernel) ?_ | intro _) | ((with_reducible first | refine .dms (fun x => False) [(0, false), (1, false), (2, false), (3, true), (4, false), (5, true)] (by decide) (by decide +kernel) ?_ | refine .dm (fun x => False) [(0, false), (1, false), (2, false), (3, true), (4, false), (5, true)] (by decide) (by decide +kernel) ?_); (refine zsR zz.out ?_)) | ((with_reducible first | refine .dms (fun x => False) [(0, false), (1, false), (2, false), (3, true), (4, false), (5, true)] (by decide) (by decide +kernel) ?_ | refine .dm (fun x => False) [(0, false), (1, false), (2, false), (3, true), (4, false), (5, true)] (by decide) (by decide +kernel) ?_); (refine zsR zz.out ?_)) | refine zaR zz.out ?_ | refine zkN zz.out ?_ | ((first | (refine Q0j (by intro β h; first | (rcases h with h | h <;> subst h <;> (simp (disch := first | assumption | (apply zQ; assumption; assumption) | (apply zR; assumption; assumption; (intro e; cases e; done)) | omega) only [zn, zp, zq, zr, zv])) | (subst h; (simp (disch := first | assumption | (apply zQ; assumption; assumption) | (apply zR; assumption; assumption; (intro e; cases e; done)) | omega) only [zn, zp, zq, zr, zv]))) ?_) | ((with_reducible refine zU (hM _ _ _ _ (by exact zO) (by omega) (by omega) (by omega) (by omega) (by exact zN)) ?_); rintro _ S ⟨rfl, τ1, ⟨f1, n1⟩, rfl⟩; have n1s := n1.symm) | ((with_reducible refine zU (Q0m _ _ _ _ _ _ _ _ (by repeat (first | exact Q0p | refine Q0k ?_ (by simp))) (by exact zO) (by exact zN)) ?_); rintro _ S ⟨rfl, τ1, ⟨f1, n1⟩, rfl⟩; have n1s := n1.symm) | ((with_reducible refine zU (Q3r _ _ _ _ _ _ _ (by exact zO) (by exact zN)) ?_); rintro _ S ⟨rfl, τ1, ⟨f1, n1⟩, rfl⟩; have n1s := n1.symm) | (refine Q0d (by exact zK) ?_) | (refine Q0e (by exact zK) ?_)); (try refine zsR zz.out ?_)) | refine zmR zz.out ?_ | refine zo ?_ | omega | refine ztR zz.out ?_ | fail)); try (all_goals clear zz))
    all_goals exact ⟨_, .refl _, τ1, ⟨f1, n1⟩, Q2y (by simp [wds]) rfl (by omega)⟩
  · obtain ⟨s1, s2, s3, s4, s5⟩ := Q9o (p7 hk)
    have hX := w_choose ω x s1 (fun y hy => (hL.s.item y hy).2) s2 hL.s.on.2 p3 hL.s.wh.2 (Q5o s3) hL.s.gr.2 (Q5o s4) hL.s.or.2 hL.s.lim s5 B
    have e1 : stT x = X4o x := by unfold stT; rw [if_neg (by omega), if_neg (by omega), if_neg (by omega), if_neg (by omega), if_neg (by omega), if_pos hk]
    have e2 : stD x = (max (maxD (fun y => expD y.2) x.items) (max (if x.join = [] then 0 else expD x.on) (max (expD x.wh) (max (expD x.gr) (expD x.or))))) := by unfold stD; rw [if_neg (by omega), if_neg (by omega), if_pos hk]
    rw [e1] at h4 ⊢
    rw [e2] at h3 ⊢
    clear hM p1 p2 p3 p4 p5 p6 p7 hf hL e1 e2 s1 s2 s3 s4 s5
    generalize X4o x = TT at *
    generalize (max (maxD (fun y : It => expD y.2) x.items) (max (if x.join = [] then 0 else expD x.on) (max (expD x.wh) (max (expD x.gr) (expD x.or))))) = D at *
    unfold stmA at hX ⊢
    rw [hk] at hX ⊢
    (refine vfun (fun _ => .ro) Q0h Tryz.func30 (by kernel_rfl) ?_; simp only [Q0f, Tryz.f30, zw])
    (have zz := Bx.mk (j7 ui0 ui3 ui4 ui9 ui22 ui23 (j9 ui24 ui25 ui26 ui37 ui38 ui39 ui40 ui41 (j9 ui42 ui55 ui56 ui57 ui58 ui59 ui67 ui68 (j9 ui70 ui71 ui75 Q1k Q0u Q1e Q1r Q1s WLg)))); (repeat' (first | exact zc | (with_reducible first | apply And.intro | apply Q0a | apply Q0b | refine Q0c (by decide +kernel) ?_ | intro _) | refine zaY zz.out ?_ | ((first | ((with_reducible refine zU (hX _ _ _ _ (by exact zO) (by omega) (by omega) (by omega) (by omega) (by exact zN)) ?_); rintro _ S ⟨rfl, τ1, ⟨f1, n1⟩, rfl⟩; have n1s := n1.symm) | ((with_reducible refine zU (Q0m _ _ _ _ _ _ _ _ (by repeat (first | exact Q0p | refine Q0k ?_ (by simp))) (by exact zO) (by exact zN)) ?_); rintro _ S ⟨rfl, τ1, ⟨f1, n1⟩, rfl⟩; have n1s := n1.symm) | ((with_reducible refine zU (Q3r _ _ _ _ _ _ _ (by exact zO) (by exact zN)) ?_); rintro _ S ⟨rfl, τ1, ⟨f1, n1⟩, rfl⟩; have n1s := n1.symm) | (refine Q0d (by exact zK) ?_) | (refine Q0e (by exact zK) ?_)); (try refine zsY zz.out ?_)) | refine zo ?_ | omega | refine ztY zz.out ?_ | fail)); try (all_goals clear zz))
    all_goals exact ⟨_, .refl _, τ1, ⟨f1, n1⟩, Q2y rfl rfl rfl⟩
end Go.Proofs.YtjdapkelojdefaaGreatDoor
