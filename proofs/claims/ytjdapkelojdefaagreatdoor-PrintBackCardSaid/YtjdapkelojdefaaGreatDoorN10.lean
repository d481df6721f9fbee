/- Part 10 of the proof: E6, E5, E8, E9, E11, E10, W7, W8, K17, G4. -/
import Derived.Test.YtjdapkelojdefaaGreatDoorN7
import Derived.Test.YtjdapkelojdefaaGreatDoorN9
import Derived.Test.YtjdapkelojdefaaGreatDoorN6
import Derived.Test.YtjdapkelojdefaaGreatDoorN8

set_option linter.all false
set_option maxRecDepth 100000
set_option maxHeartbeats 4000000
open Nat renaming reduceEqDiff → zb, reduceAdd → zd, reduceLeDiff → ze, reduceMul → zf, reduceSub → zg
open Int renaming toNat_zero → zk, reduceToNat → zl
open Go.V.Sg renaming set_same → zn, set_ne → zp, set_ne' → zq, del_ne → zr, del_ne' → zv
open Option renaming getD_some → zw
open List renaming append_assoc → zC, cons_append → zD, nil_append → zH
open Go.Cert renaming ne_of2 → zQ, ne_ob → zR
open Go.V.VCalls renaming mono → zU
open Go.Proofs.Tryz renaming underlying3 → Z3, underlying5 → Z5, underlying9 → Z9, underlying150 → Z150, underlying179 → Z179, underlying187 → Z187
namespace Go.Proofs.YtjdapkelojdefaaGreatDoor
open Go Go.V Go.Lex
theorem e44 (β off ND u : Nat) (A mid D : List AV) (σ : Sg) (hβ : σ β = some (.cells 178 (A ++ mid ++ D))) (hA : A.length = off) (hm : mid.length = ND) (hu : u < 10 ^ ND) (h64 : u < 2 ^ 64) (hND : ND ≤ 20) :
    VCalls Tryz.prog 191 [.ms β off ND 1, .val (.int .u64 u)] σ (fun x σ' => x = .tup [] ∧ σ' = σ.set β (.cells 178 (A ++ u8s (padD ND u) ++ D))) := by
  (refine vfun (fun _ => .no) Q0h Tryz.func191 (by kernel_rfl) ?_; simp only [Q0f, Tryz.f191, zw])
  simp only [sm_fold]
  (have zz := Bx.mk (j6 ui3 Q4r X0k X2m ui5 ui9); (repeat' (first | exact zc | (with_reducible first | apply And.intro | apply Q0a | apply Q0b | refine Q0c (by decide +kernel) ?_ | intro _) | refine zaW zz.out ?_ | refine zo ?_ | omega | refine zt zz.out ?_ | fail)); try (all_goals clear zz))
  refine VW.loop3 ND u ([] : List UInt8) (fun nd v dn => nd ≤ ND ∧ padD nd v ++ dn = padD ND u ∧ v < 10 ^ nd ∧ v < 2 ^ 64) (fun nd v _ => [(0, .ms β off ND 1), (1, .val (.int .u64 v)), (4, .i nd)]) (fun nd _ dn => σ.set β (.cells 178 (A ++ mid.take nd ++ (u8s dn ++ D)))) (fun nd _ _ => nd) ⟨Nat.le_refl _, by simp, hu, h64⟩ ?_ ?_ ?_
  · rw [List.take_of_length_le (by omega)]
    show (σ.set β (.cells 178 (A ++ mid ++ ([] ++ D)))).sub σ
    rw [zH, Sg.set_id hβ]
    exact .refl _
  · simp only [vO, vQ, ↓vP, vE, vS, vB, vL, vF, vM, vN, Q0g, zb, zd, ze, ne_eq, not_false_eq_true, zf, zg, zk, zl, vT]
    all_goals rfl
  rintro nd v dn ⟨g1, g2, g3, g4⟩
  by_cases h8 : 8 ≤ nd
  · obtain ⟨m, rfl⟩ : ∃ m, nd = m + 8 := ⟨nd - 8, by omega⟩
    obtain ⟨P, E, hPe, hP, hE, hc⟩ := X5t A mid m 8 off hA (by omega)
    obtain ⟨a, b, c, d, e, f, g, i, rfl⟩ := len8 hE
    have hc2 : A ++ mid.take (m + 8) ++ (u8s dn ++ D) = P ++ a :: b :: c :: d :: e :: f :: g :: i :: (u8s dn ++ D) := by rw [hc]; simp
    rw [hc2]
    clear hc2
    have hleaf : ∀ S, (σ.set β (.cells 178 (A ++ mid.take m ++ (u8s (padD 8 (v % 10 ^ 8) ++ dn) ++ D)))).sub S ↔ (σ.set β (.cells 178 (P ++ (u8s (padD 8 (v % 100000000)) ++ (u8s dn ++ D))))).sub S := fun S => by rw [hPe, Y0n, zC]
    rw [u8s8 _ (by omega)] at hleaf
    generalize hT : u8s dn ++ D = T at *
    simp only [vO, vQ, ↓vP, vE, vS, vB, vL, vF, vM, vN, Q0g, zb, zd, ze, ne_eq, not_false_eq_true, zf, zg, zk, zl, vT]
    iterate 12 (all_goals (try ((first | (with_reducible first | refine .rs ?_ | refine .ds (by kernel_rfl) ?_ | refine .dg (by kernel_rfl) ?_ | refine .rg ?_ | refine .ite ?_ | refine .ret ?_ | refine .skip ?_ | refine .exit ?_ | refine .scope ?_ | refine .seq (.label ?_) | refine .block ?_ | refine .seq ?_)); (try simp only [vO, vQ, ↓vP, vE, vS, vB, vL, vF, vM, vN, Q0g, zb, zd, ze, ne_eq, not_false_eq_true, zf, zg, zk, zl, Z3, Q2c, Z150, Q6h, Z179, Q6i, Z187, Q6j, Z5, X3a, Z9, Q2f, vT]))))
    refine Q1l (fun _ => ?_) (fun h => absurd (show (8:Int) ≤ ((m+8 : Nat) : Int) by omega) h)
    iterate 7 ((first | (with_reducible first | refine .rs ?_ | refine .ds (by kernel_rfl) ?_ | refine .dg (by kernel_rfl) ?_ | refine .rg ?_ | refine .ite ?_ | refine .ret ?_ | refine .skip ?_ | refine .exit ?_ | refine .scope ?_ | refine .seq (.label ?_) | refine .block ?_ | refine .seq ?_)); (try simp only [vO, vQ, ↓vP, vE, vS, vB, vL, vF, vM, vN, Q0g, zb, zd, ze, ne_eq, not_false_eq_true, zf, zg, zk, zl, Z3, Q2c, Z150, Q6h, Z179, Q6i, Z187, Q6j, Z5, X3a, Z9, Q2f, nz8, nz4, nz2, not_false_eq_true, true_and, vT]))
    simp (disch := omega) only [tm8, td8, wrN, wrM, tm4, td4, tm2, td2, cm2]
    refine VW.weak (Holds.weak (vals := [(0, .ms β off ND 1), (1, .val (.int .u64 (v / 100000000 : Nat))), (4, .i (m + 8 : Nat)), (8, .val (.int .u32 (v % 100000000 % 10000 / 100 * 2 : Nat))), (9, .val (.int .u32 (v % 100000000 % 10000 % 100 * 2 : Nat))), (10, .val (.int .u32 (v % 100000000 / 10000 / 100 * 2 : Nat))), (11, .val (.int .u32 (v % 100000000 / 10000 % 100 * 2 : Nat)))]) ?_) ?_
    · refine Q0v ?_
      simp only [vO, vQ, ↓vP, vE, vS, vB, vL, vF, vM, vN, Q0g, zb, zd, ze, ne_eq, not_false_eq_true, zf, zg, zk, zl, vT]
    have j1 : v % 100000000 % 10000 % 100 < 100 := by omega
    have j2 : v % 100000000 % 10000 / 100 < 100 := by omega
    have j3 : v % 100000000 / 10000 % 100 < 100 := by omega
    have j4 : v % 100000000 / 10000 / 100 < 100 := by omega
    generalize v % 100000000 % 10000 % 100 = k1 at *
    generalize v % 100000000 % 10000 / 100 = k2 at *
    generalize v % 100000000 / 10000 % 100 = k3 at *
    generalize v % 100000000 / 10000 / 100 = k4 at *
    generalize hw : v / 100000000 = w at *
    have hm64 : m + 8 < 2 ^ 63 := by omega
    have hw1 : IntKind.i64.wrap (((m + 8 : Nat) : Int) - 1) = ((m + 7 : Nat) : Int) := by rw [w64 (by omega) (by omega)]; omega
    have hw2 : IntKind.i64.wrap (((m + 8 : Nat) : Int) - 2) = ((m + 6 : Nat) : Int) := by rw [w64 (by omega) (by omega)]; omega
    have hw3 : IntKind.i64.wrap (((m + 8 : Nat) : Int) - 3) = ((m + 5 : Nat) : Int) := by rw [w64 (by omega) (by omega)]; omega
    have hw4 : IntKind.i64.wrap (((m + 8 : Nat) : Int) - 4) = ((m + 4 : Nat) : Int) := by rw [w64 (by omega) (by omega)]; omega
    have hw5 : IntKind.i64.wrap (((m + 8 : Nat) : Int) - 5) = ((m + 3 : Nat) : Int) := by rw [w64 (by omega) (by omega)]; omega
    have hw6 : IntKind.i64.wrap (((m + 8 : Nat) : Int) - 6) = ((m + 2 : Nat) : Int) := by rw [w64 (by omega) (by omega)]; omega
    have hw7 : IntKind.i64.wrap (((m + 8 : Nat) : Int) - 7) = ((m + 1 : Nat) : Int) := by rw [w64 (by omega) (by omega)]; omega
    have hw8 : IntKind.i64.wrap (((m + 8 : Nat) : Int) - 8) = ((m : Nat) : Int) := by rw [w64 (by omega) (by omega)]; omega
    have ho1 : off + (m + 7) = P.length + 7 := by omega
    have ho2 : off + (m + 6) = P.length + 6 := by omega
    have ho3 : off + (m + 5) = P.length + 5 := by omega
    have ho4 : off + (m + 4) = P.length + 4 := by omega
    have ho5 : off + (m + 3) = P.length + 3 := by omega
    have ho6 : off + (m + 2) = P.length + 2 := by omega
    have ho7 : off + (m + 1) = P.length + 1 := by omega
    have ho8 : off + m = P.length := by omega
    have hu1 : IntKind.u32.wrap ((k1 * 2 + 1 : Nat) : Int) = ((k1 * 2 + 1 : Nat) : Int) := wrN (by omega)
    have hu2 : IntKind.u32.wrap ((k2 * 2 + 1 : Nat) : Int) = ((k2 * 2 + 1 : Nat) : Int) := wrN (by omega)
    have hu3 : IntKind.u32.wrap ((k3 * 2 + 1 : Nat) : Int) = ((k3 * 2 + 1 : Nat) : Int) := wrN (by omega)
    have hu4 : IntKind.u32.wrap ((k4 * 2 + 1 : Nat) : Int) = ((k4 * 2 + 1 : Nat) : Int) := wrN (by omega)
    refine VW.cut (α := Unit) (fun _ => True) (fun _ => [(0, .ms β off ND 1), (1, .val (.int .u64 (w : Nat))), (4, .i (m + 8 : Nat)), (8, .val (.int .u32 (k2 * 2 : Nat))), (10, .val (.int .u32 (k4 * 2 : Nat))), (11, .val (.int .u32 (k3 * 2 : Nat)))]) (fun _ => σ.set β (.cells 178 (P ++ a :: b :: c :: d :: e :: f :: .u8 (48 + k1 / 10 : Nat) :: .u8 (48 + k1 % 10 : Nat) :: T))) ?_ (fun _ _ => ?_)
    · clear hu g3 g2 h64 g4 hE hc hND hleaf
      (have zz := Bx.mk (j5 ui3 Q4r X0k X2m (j9 ui5 ui9 @ca1 @cm2 hu1 hw1 hw2 @Int.toNat_natCast (j9 @Nat.mul_one ho1 ho2 @Q2s @Q3w @Q2t @Q3x @List.length_append.{0} @X6y))); (repeat' (first | exact zc | (with_reducible first | apply And.intro | apply Q0a | apply Q0b | refine Q0c (by decide +kernel) ?_ | intro _) | ((with_reducible refine .dm (fun _ => False) [(0, false), (1, false), (2, false), (3, false), (4, false), (5, false), (6, false), (7, false), (8, false), (9, false), (10, false), (11, false), (12, true), (13, false), (14, true)] (by decide) (by decide +kernel) ?_); (refine zs zz.out ?_)) | refine zaW zz.out ?_ | ((first | with_reducible refine Q0j (fun _ h => h.elim) ?_ | (refine Q0d (by exact zK) ?_) | (refine Q0e (by exact zK) ?_)); (try refine zs zz.out ?_)) | refine zo ?_ | omega | refine zt zz.out ?_ | fail)); try (all_goals clear zz))
      · exact ⟨_, _, rfl⟩
      · exact ⟨_, _, rfl⟩
      refine ⟨(), trivial, ?_, Q0v ?_⟩
      · simp only [vO, vQ, ↓vP, vE, vS, vB, vL, vF, vM, vN, Q0g, zb, zd, ze, ne_eq, not_false_eq_true, zf, zg, zk, zl, vT]
        simp only [smE j1, smO j1, zC, Q3w, Q3x, Q2s, Q2t]
        exact .refl _
      · simp only [vO, vQ, ↓vP, vE, vS, vB, vL, vF, vM, vN, Q0g, zb, zd, ze, ne_eq, not_false_eq_true, zf, zg, zk, zl, vT]
    refine VW.cut (α := Unit) (fun _ => True) (fun _ => [(0, .ms β off ND 1), (1, .val (.int .u64 (w : Nat))), (4, .i (m + 8 : Nat)), (10, .val (.int .u32 (k4 * 2 : Nat))), (11, .val (.int .u32 (k3 * 2 : Nat)))]) (fun _ => σ.set β (.cells 178 (P ++ a :: b :: c :: d :: .u8 (48 + k2 / 10 : Nat) :: .u8 (48 + k2 % 10 : Nat) :: .u8 (48 + k1 / 10 : Nat) :: .u8 (48 + k1 % 10 : Nat) :: T))) ?_ (fun _ _ => ?_)
    · clear hu g3 g2 h64 g4 hE hc hND hleaf
      (have zz := Bx.mk (j5 ui3 Q4r X0k X2m (j9 ui5 ui9 @ca1 @cm2 hu2 hw3 hw4 @Int.toNat_natCast (j9 @Nat.mul_one ho3 ho4 @Q2s @Q3w @Q2t @Q3x @List.length_append.{0} @X6y))); (repeat' (first | exact zc | (with_reducible first | apply And.intro | apply Q0a | apply Q0b | refine Q0c (by decide +kernel) ?_ | intro _) | ((with_reducible refine .dm (fun _ => False) [(0, false), (1, false), (2, false), (3, false), (4, false), (5, false), (6, false), (7, false), (8, false), (9, false), (10, false), (11, false), (12, true), (13, false), (14, true)] (by decide) (by decide +kernel) ?_); (refine zs zz.out ?_)) | refine zaW zz.out ?_ | ((first | with_reducible refine Q0j (fun _ h => h.elim) ?_ | (refine Q0d (by exact zK) ?_) | (refine Q0e (by exact zK) ?_)); (try refine zs zz.out ?_)) | refine zo ?_ | omega | refine zt zz.out ?_ | fail)); try (all_goals clear zz))
      · exact ⟨_, _, rfl⟩
      · exact ⟨_, _, rfl⟩
      refine ⟨(), trivial, ?_, Q0v ?_⟩
      · simp only [vO, vQ, ↓vP, vE, vS, vB, vL, vF, vM, vN, Q0g, zb, zd, ze, ne_eq, not_false_eq_true, zf, zg, zk, zl, vT]
        simp only [smE j2, smO j2, zC, Q3w, Q3x, Q2s, Q2t]
        exact .refl _
      · simp only [vO, vQ, ↓vP, vE, vS, vB, vL, vF, vM, vN, Q0g, zb, zd, ze, ne_eq, not_false_eq_true, zf, zg, zk, zl, vT]
    refine VW.cut (α := Unit) (fun _ => True) (fun _ => [(0, .ms β off ND 1), (1, .val (.int .u64 (w : Nat))), (4, .i (m + 8 : Nat)), (10, .val (.int .u32 (k4 * 2 : Nat)))]) (fun _ => σ.set β (.cells 178 (P ++ a :: b :: .u8 (48 + k3 / 10 : Nat) :: .u8 (48 + k3 % 10 : Nat) :: .u8 (48 + k2 / 10 : Nat) :: .u8 (48 + k2 % 10 : Nat) :: .u8 (48 + k1 / 10 : Nat) :: .u8 (48 + k1 % 10 : Nat) :: T))) ?_ (fun _ _ => ?_)
    · clear hu g3 g2 h64 g4 hE hc hND hleaf
      (have zz := Bx.mk (j5 ui3 Q4r X0k X2m (j9 ui5 ui9 @ca1 @cm2 hu3 hw5 hw6 @Int.toNat_natCast (j9 @Nat.mul_one ho5 ho6 @Q2s @Q3w @Q2t @Q3x @List.length_append.{0} @X6y))); (repeat' (first | exact zc | (with_reducible first | apply And.intro | apply Q0a | apply Q0b | refine Q0c (by decide +kernel) ?_ | intro _) | ((with_reducible refine .dm (fun _ => False) [(0, false), (1, false), (2, false), (3, false), (4, false), (5, false), (6, false), (7, false), (8, false), (9, false), (10, false), (11, false), (12, true), (13, false), (14, true)] (by decide) (by decide +kernel) ?_); (refine zs zz.out ?_)) | refine zaW zz.out ?_ | ((first | with_reducible refine Q0j (fun _ h => h.elim) ?_ | (refine Q0d (by exact zK) ?_) | (refine Q0e (by exact zK) ?_)); (try refine zs zz.out ?_)) | refine zo ?_ | omega | refine zt zz.out ?_ | fail)); try (all_goals clear zz))
      · exact ⟨_, _, rfl⟩
      · exact ⟨_, _, rfl⟩
      refine ⟨(), trivial, ?_, Q0v ?_⟩
      · simp only [vO, vQ, ↓vP, vE, vS, vB, vL, vF, vM, vN, Q0g, zb, zd, ze, ne_eq, not_false_eq_true, zf, zg, zk, zl, vT]
        simp only [smE j3, smO j3, zC, Q3w, Q3x, Q2s, Q2t]
        exact .refl _
      · simp only [vO, vQ, ↓vP, vE, vS, vB, vL, vF, vM, vN, Q0g, zb, zd, ze, ne_eq, not_false_eq_true, zf, zg, zk, zl, vT]
    refine VW.cut (α := Unit) (fun _ => True) (fun _ => [(0, .ms β off ND 1), (1, .val (.int .u64 (w : Nat))), (4, .i (m + 8 : Nat))]) (fun _ => σ.set β (.cells 178 (P ++ .u8 (48 + k4 / 10 : Nat) :: .u8 (48 + k4 % 10 : Nat) :: .u8 (48 + k3 / 10 : Nat) :: .u8 (48 + k3 % 10 : Nat) :: .u8 (48 + k2 / 10 : Nat) :: .u8 (48 + k2 % 10 : Nat) :: .u8 (48 + k1 / 10 : Nat) :: .u8 (48 + k1 % 10 : Nat) :: T))) ?_ (fun _ _ => ?_)
    · clear hu g3 g2 h64 g4 hE hc hND hleaf
      (have zz := Bx.mk (j5 ui3 Q4r X0k X2m (j9 ui5 ui9 @ca1 @cm2 hu4 hw7 hw8 @Int.toNat_natCast (j9 @Nat.mul_one ho7 ho8 @Q2s @Q3w @Q2t @Q3x @List.length_append.{0} @X6y))); (repeat' (first | exact zc | (with_reducible first | apply And.intro | apply Q0a | apply Q0b | refine Q0c (by decide +kernel) ?_ | intro _) | ((with_reducible refine .dm (fun _ => False) [(0, false), (1, false), (2, false), (3, false), (4, false), (5, false), (6, false), (7, false), (8, false), (9, false), (10, false), (11, false), (12, true), (13, false), (14, true)] (by decide) (by decide +kernel) ?_); (refine zs zz.out ?_)) | refine zaW zz.out ?_ | ((first | with_reducible refine Q0j (fun _ h => h.elim) ?_ | (refine Q0d (by exact zK) ?_) | (refine Q0e (by exact zK) ?_)); (try refine zs zz.out ?_)) | refine zo ?_ | omega | refine zt zz.out ?_ | fail)); try (all_goals clear zz))
      · exact ⟨_, _, rfl⟩
      · exact ⟨_, _, rfl⟩
      refine ⟨(), trivial, ?_, Q0v ?_⟩
      · simp only [vO, vQ, ↓vP, vE, vS, vB, vL, vF, vM, vN, Q0g, zb, zd, ze, ne_eq, not_false_eq_true, zf, zg, zk, zl, vT]
        simp only [smE j4, smO j4, zC, Q3w, Q3x, Q2s, Q2t]
        exact .refl _
      · simp only [vO, vQ, ↓vP, vE, vS, vB, vL, vF, vM, vN, Q0g, zb, zd, ze, ne_eq, not_false_eq_true, zf, zg, zk, zl, vT]
    (have zz := Bx.mk (j7 ui3 Q4r X0k X2m ui5 ui9 hw8); (repeat' (first | exact zc | (with_reducible first | apply And.intro | apply Q0a | apply Q0b | refine Q0c (by decide +kernel) ?_ | intro _) | refine zaW zz.out ?_ | refine zo ?_ | omega | refine zt zz.out ?_ | fail)); try (all_goals clear zz))
    refine ⟨m, w, padD 8 (v % 10 ^ 8) ++ dn, ⟨⟨by omega, ?_, by rw [← hw]; exact pad_lt 8 m v g3, by rw [← hw]; exact Nat.lt_of_le_of_lt (Nat.div_le_self ..) g4⟩, by omega⟩, (hleaf _).2 (.refl _), rfl, rfl⟩
    rw [← hw]
    exact Y0o 8 m v dn _ g2
  · simp only [vO, vQ, ↓vP, vE, vS, vB, vL, vF, vM, vN, Q0g, zb, zd, ze, ne_eq, not_false_eq_true, zf, zg, zk, zl, vT]
    iterate 12 (all_goals (try ((first | (with_reducible first | refine .rs ?_ | refine .ds (by kernel_rfl) ?_ | refine .dg (by kernel_rfl) ?_ | refine .rg ?_ | refine .ite ?_ | refine .ret ?_ | refine .skip ?_ | refine .exit ?_ | refine .scope ?_ | refine .seq (.label ?_) | refine .block ?_ | refine .seq ?_)); (try simp only [vO, vQ, ↓vP, vE, vS, vB, vL, vF, vM, vN, Q0g, zb, zd, ze, ne_eq, not_false_eq_true, zf, zg, zk, zl, Z3, Q2c, Z150, Q6h, Z179, Q6i, Z187, Q6j, Z5, X3a, Z9, Q2f, vT]))))
    refine Q1l (fun h => absurd (show ¬ (8:Int) ≤ (nd : Int) by omega) (not_not_intro h)) (fun _ => ?_)
    iterate 4 ((first | (with_reducible first | refine .rs ?_ | refine .ds (by kernel_rfl) ?_ | refine .dg (by kernel_rfl) ?_ | refine .rg ?_ | refine .ite ?_ | refine .ret ?_ | refine .skip ?_ | refine .exit ?_ | refine .scope ?_ | refine .seq (.label ?_) | refine .block ?_ | refine .seq ?_)); (try simp only [vO, vQ, ↓vP, vE, vS, vB, vL, vF, vM, vN, Q0g, zb, zd, ze, ne_eq, not_false_eq_true, zf, zg, zk, zl, Z3, Q2c, Z150, Q6h, Z179, Q6i, Z187, Q6j, Z5, X3a, Z9, Q2f, nz8, nz4, nz2, not_false_eq_true, true_and, vT]))
    have hv : v < 10 ^ 7 := Nat.lt_of_lt_of_le g3 (Nat.pow_le_pow_right (by omega) (by omega))
    simp (disch := omega) only [wrN]
    refine VW.weak (Holds.weak (vals := [(0, .ms β off ND 1), (4, .i nd), (12, .val (.int .u32 v)), (99, .b (decide ((4 : Int) ≤ (nd : Int))))]) ?_) ?_
    · refine Q0v ?_
      simp only [vO, vQ, ↓vP, vE, vS, vB, vL, vF, vM, vN, Q0g, zb, zd, ze, ne_eq, not_false_eq_true, zf, zg, zk, zl, vT]
    clear h8 g4
    refine cutq (α := Nat × Nat × List UInt8) (fun z => z.1 < 4 ∧ z.1 ≤ ND ∧ padD z.1 z.2.1 ++ z.2.2 = padD ND u ∧ z.2.1 < 10 ^ z.1) (fun z => [(0, .ms β off ND 1), (4, .i z.1), (12, .val (.int .u32 (z.2.1 : Nat)))]) (fun z => σ.set β (.cells 178 (A ++ mid.take z.1 ++ (u8s z.2.2 ++ D)))) ?_ ?_
    · by_cases h4 : 4 ≤ nd
      · obtain ⟨m, rfl⟩ : ∃ m, nd = m + 4 := ⟨nd - 4, by omega⟩
        obtain ⟨P, E, hPe, hP, hE, hc⟩ := X5t A mid m 4 off hA (by omega)
        obtain ⟨a, b, c, d, rfl⟩ := len4 hE
        have hc2 : A ++ mid.take (m + 4) ++ (u8s dn ++ D) = P ++ a :: b :: c :: d :: (u8s dn ++ D) := by rw [hc]; simp
        rw [hc2]
        clear hc2
        have hleaf : ∀ S, (σ.set β (.cells 178 (A ++ mid.take m ++ (u8s (padD 4 (v % 10 ^ 4) ++ dn) ++ D)))).sub S ↔ (σ.set β (.cells 178 (P ++ (u8s (padD 4 (v % 10000)) ++ (u8s dn ++ D))))).sub S := fun S => by rw [hPe, Y0n, zC]
        rw [u8s4 _ (by omega)] at hleaf
        generalize hT : u8s dn ++ D = T at *
        (first | (with_reducible first | refine .rs ?_ | refine .ds (by kernel_rfl) ?_ | refine .dg (by kernel_rfl) ?_ | refine .rg ?_ | refine .ite ?_ | refine .ret ?_ | refine .skip ?_ | refine .exit ?_ | refine .scope ?_ | refine .seq (.label ?_) | refine .block ?_ | refine .seq ?_)); (try simp only [vO, vQ, ↓vP, vE, vS, vB, vL, vF, vM, vN, Q0g, zb, zd, ze, ne_eq, not_false_eq_true, zf, zg, zk, zl, Z3, Q2c, Z150, Q6h, Z179, Q6i, Z187, Q6j, Z5, X3a, Z9, Q2f, vT])
        refine Q1l (fun _ => ?_) (fun h => absurd (show (4:Int) ≤ ((m+4 : Nat) : Int) by omega) h)
        iterate 3 ((first | (with_reducible first | refine .rs ?_ | refine .ds (by kernel_rfl) ?_ | refine .dg (by kernel_rfl) ?_ | refine .rg ?_ | refine .ite ?_ | refine .ret ?_ | refine .skip ?_ | refine .exit ?_ | refine .scope ?_ | refine .seq (.label ?_) | refine .block ?_ | refine .seq ?_)); (try simp only [vO, vQ, ↓vP, vE, vS, vB, vL, vF, vM, vN, Q0g, zb, zd, ze, ne_eq, not_false_eq_true, zf, zg, zk, zl, Z3, Q2c, Z150, Q6h, Z179, Q6i, Z187, Q6j, Z5, X3a, Z9, Q2f, nz8, nz4, nz2, not_false_eq_true, true_and, vT]))
        simp (disch := omega) only [tm4, td4, wrN, tm2, td2, cm2]
        refine VW.weak (Holds.weak (vals := [(0, .ms β off ND 1), (4, .i (m + 4 : Nat)), (12, .val (.int .u32 (v / 10000 : Nat))), (14, .val (.int .u32 (v % 10000 / 100 * 2 : Nat))), (15, .val (.int .u32 (v % 10000 % 100 * 2 : Nat)))]) ?_) ?_
        · refine Q0v ?_
          simp only [vO, vQ, ↓vP, vE, vS, vB, vL, vF, vM, vN, Q0g, zb, zd, ze, ne_eq, not_false_eq_true, zf, zg, zk, zl, vT]
        have j1 : v % 10000 % 100 < 100 := by omega
        have j2 : v % 10000 / 100 < 100 := by omega
        generalize v % 10000 % 100 = k1 at *
        generalize v % 10000 / 100 = k2 at *
        generalize hw : v / 10000 = w at *
        have hm64 : m + 4 < 2 ^ 63 := by omega
        have hw1 : IntKind.i64.wrap (((m + 4 : Nat) : Int) - 1) = ((m + 3 : Nat) : Int) := by rw [w64 (by omega) (by omega)]; omega
        have hw2 : IntKind.i64.wrap (((m + 4 : Nat) : Int) - 2) = ((m + 2 : Nat) : Int) := by rw [w64 (by omega) (by omega)]; omega
        have hw3 : IntKind.i64.wrap (((m + 4 : Nat) : Int) - 3) = ((m + 1 : Nat) : Int) := by rw [w64 (by omega) (by omega)]; omega
        have hw4 : IntKind.i64.wrap (((m + 4 : Nat) : Int) - 4) = ((m : Nat) : Int) := by rw [w64 (by omega) (by omega)]; omega
        have ho1 : off + (m + 3) = P.length + 3 := by omega
        have ho2 : off + (m + 2) = P.length + 2 := by omega
        have ho3 : off + (m + 1) = P.length + 1 := by omega
        have ho4 : off + m = P.length := by omega
        have hu1 : IntKind.u32.wrap ((k1 * 2 + 1 : Nat) : Int) = ((k1 * 2 + 1 : Nat) : Int) := wrN (by omega)
        have hu2 : IntKind.u32.wrap ((k2 * 2 + 1 : Nat) : Int) = ((k2 * 2 + 1 : Nat) : Int) := wrN (by omega)
        refine VW.cut (α := Unit) (fun _ => True) (fun _ => [(0, .ms β off ND 1), (4, .i (m + 4 : Nat)), (12, .val (.int .u32 (w : Nat))), (14, .val (.int .u32 (k2 * 2 : Nat)))]) (fun _ => σ.set β (.cells 178 (P ++ a :: b :: .u8 (48 + k1 / 10 : Nat) :: .u8 (48 + k1 % 10 : Nat) :: T))) ?_ (fun _ _ => ?_)
        · clear hu g3 g2 h64 hE hc hND hleaf hv
          (have zz := Bx.mk (j5 ui3 Q4r X0k X2m (j9 ui5 ui9 @ca1 @cm2 hu1 hw1 hw2 @Int.toNat_natCast (j9 @Nat.mul_one ho1 ho2 @Q2s @Q3w @Q2t @Q3x @List.length_append.{0} @X6y))); (repeat' (first | exact zc | (with_reducible first | apply And.intro | apply Q0a | apply Q0b | refine Q0c (by decide +kernel) ?_ | intro _) | ((with_reducible refine .dm (fun _ => False) [(0, false), (1, false), (2, false), (3, false), (4, false), (5, false), (6, false), (7, false), (8, false), (9, false), (10, false), (11, false), (12, true), (13, false), (14, true)] (by decide) (by decide +kernel) ?_); (refine zs zz.out ?_)) | refine zaW zz.out ?_ | ((first | with_reducible refine Q0j (fun _ h => h.elim) ?_ | (refine Q0d (by exact zK) ?_) | (refine Q0e (by exact zK) ?_)); (try refine zs zz.out ?_)) | refine zo ?_ | omega | refine zt zz.out ?_ | fail)); try (all_goals clear zz))
          · exact ⟨_, _, rfl⟩
          · exact ⟨_, _, rfl⟩
          refine ⟨(), trivial, ?_, Q0v ?_⟩
          · simp only [vO, vQ, ↓vP, vE, vS, vB, vL, vF, vM, vN, Q0g, zb, zd, ze, ne_eq, not_false_eq_true, zf, zg, zk, zl, vT]
            simp only [smE j1, smO j1, zC, Q3w, Q3x, Q2s, Q2t]
            exact .refl _
          · simp only [vO, vQ, ↓vP, vE, vS, vB, vL, vF, vM, vN, Q0g, zb, zd, ze, ne_eq, not_false_eq_true, zf, zg, zk, zl, vT]
        refine VW.cut (α := Unit) (fun _ => True) (fun _ => [(0, .ms β off ND 1), (4, .i (m + 4 : Nat)), (12, .val (.int .u32 (w : Nat)))]) (fun _ => σ.set β (.cells 178 (P ++ .u8 (48 + k2 / 10 : Nat) :: .u8 (48 + k2 % 10 : Nat) :: .u8 (48 + k1 / 10 : Nat) :: .u8 (48 + k1 % 10 : Nat) :: T))) ?_ (fun _ _ => ?_)
        · clear hu g3 g2 h64 hE hc hND hleaf hv
          (have zz := Bx.mk (j5 ui3 Q4r X0k X2m (j9 ui5 ui9 @ca1 @cm2 hu2 hw3 hw4 @Int.toNat_natCast (j9 @Nat.mul_one ho3 ho4 @Q2s @Q3w @Q2t @Q3x @List.length_append.{0} @X6y))); (repeat' (first | exact zc | (with_reducible first | apply And.intro | apply Q0a | apply Q0b | refine Q0c (by decide +kernel) ?_ | intro _) | ((with_reducible refine .dm (fun _ => False) [(0, false), (1, false), (2, false), (3, false), (4, false), (5, false), (6, false), (7, false), (8, false), (9, false), (10, false), (11, false), (12, true), (13, false), (14, true)] (by decide) (by decide +kernel) ?_); (refine zs zz.out ?_)) | refine zaW zz.out ?_ | ((first | with_reducible refine Q0j (fun _ h => h.elim) ?_ | (refine Q0d (by exact zK) ?_) | (refine Q0e (by exact zK) ?_)); (try refine zs zz.out ?_)) | refine zo ?_ | omega | refine zt zz.out ?_ | fail)); try (all_goals clear zz))
          · exact ⟨_, _, rfl⟩
          · exact ⟨_, _, rfl⟩
          refine ⟨(), trivial, ?_, Q0v ?_⟩
          · simp only [vO, vQ, ↓vP, vE, vS, vB, vL, vF, vM, vN, Q0g, zb, zd, ze, ne_eq, not_false_eq_true, zf, zg, zk, zl, vT]
            simp only [smE j2, smO j2, zC, Q3w, Q3x, Q2s, Q2t]
            exact .refl _
          · simp only [vO, vQ, ↓vP, vE, vS, vB, vL, vF, vM, vN, Q0g, zb, zd, ze, ne_eq, not_false_eq_true, zf, zg, zk, zl, vT]
        (have zz := Bx.mk (j7 ui3 Q4r X0k X2m ui5 ui9 hw4); (repeat' (first | exact zc | (with_reducible first | apply And.intro | apply Q0a | apply Q0b | refine Q0c (by decide +kernel) ?_ | intro _) | refine zaW zz.out ?_ | refine zo ?_ | omega | refine zt zz.out ?_ | fail)); try (all_goals clear zz))
        refine ⟨(m, w, padD 4 (v % 10 ^ 4) ++ dn), ⟨by simp only; clear hu h64 g3; omega, by simp only; clear hu h64 g3; omega, ?_, by simp only; rw [← hw]; exact pad_lt 4 m v g3⟩, (hleaf _).2 (.refl _), Q0v ?_⟩
        · rw [← hw]
          exact Y0o 4 m v dn _ g2
        · simp only [vO, vQ, ↓vP, vE, vS, vB, vL, vF, vM, vN, Q0g, zb, zd, ze, ne_eq, not_false_eq_true, zf, zg, zk, zl, vT]
      · (first | (with_reducible first | refine .rs ?_ | refine .ds (by kernel_rfl) ?_ | refine .dg (by kernel_rfl) ?_ | refine .rg ?_ | refine .ite ?_ | refine .ret ?_ | refine .skip ?_ | refine .exit ?_ | refine .scope ?_ | refine .seq (.label ?_) | refine .block ?_ | refine .seq ?_)); (try simp only [vO, vQ, ↓vP, vE, vS, vB, vL, vF, vM, vN, Q0g, zb, zd, ze, ne_eq, not_false_eq_true, zf, zg, zk, zl, Z3, Q2c, Z150, Q6h, Z179, Q6i, Z187, Q6j, Z5, X3a, Z9, Q2f, vT])
        refine Q1l (fun h => absurd (show ¬ (4:Int) ≤ (nd : Int) by omega) (not_not_intro h)) (fun _ => ?_)
        (have zz := Bx.mk (j6 ui3 Q4r X0k X2m ui5 ui9); (repeat' (first | exact zc | (with_reducible first | apply And.intro | apply Q0a | apply Q0b | refine Q0c (by decide +kernel) ?_ | intro _) | refine zaW zz.out ?_ | refine zo ?_ | omega | refine zt zz.out ?_ | fail)); try (all_goals clear zz))
        refine ⟨(nd, v, dn), ⟨by simp only; omega, g1, g2, g3⟩, .refl _, Q0v ?_⟩
        simp only [vO, vQ, ↓vP, vE, vS, vB, vL, vF, vM, vN, Q0g, zb, zd, ze, ne_eq, not_false_eq_true, zf, zg, zk, zl, vT]
    clear hv g1 g2 g3
    rintro ⟨nd, v, dn⟩ ⟨g0, g1, g2, g3⟩
    simp only at g0 g1 g2 g3
    simp only []
    iterate 2 ((first | (with_reducible first | refine .rs ?_ | refine .ds (by kernel_rfl) ?_ | refine .dg (by kernel_rfl) ?_ | refine .rg ?_ | refine .ite ?_ | refine .ret ?_ | refine .skip ?_ | refine .exit ?_ | refine .scope ?_ | refine .seq (.label ?_) | refine .block ?_ | refine .seq ?_)); (try simp only [vO, vQ, ↓vP, vE, vS, vB, vL, vF, vM, vN, Q0g, zb, zd, ze, ne_eq, not_false_eq_true, zf, zg, zk, zl, Z3, Q2c, Z150, Q6h, Z179, Q6i, Z187, Q6j, Z5, X3a, Z9, Q2f, nz8, nz4, nz2, not_false_eq_true, true_and, vT]))
    refine cutq (α := Nat × Nat × List UInt8) (fun z => z.1 < 2 ∧ z.1 ≤ ND ∧ padD z.1 z.2.1 ++ z.2.2 = padD ND u ∧ z.2.1 < 10 ^ z.1) (fun z => [(0, .ms β off ND 1), (4, .i z.1), (12, .val (.int .u32 (z.2.1 : Nat)))]) (fun z => σ.set β (.cells 178 (A ++ mid.take z.1 ++ (u8s z.2.2 ++ D)))) ?_ ?_
    · have hv : v < 10 ^ 3 := Nat.lt_of_lt_of_le g3 (Nat.pow_le_pow_right (by omega) (by omega))
      by_cases h4 : 2 ≤ nd
      · obtain ⟨m, rfl⟩ : ∃ m, nd = m + 2 := ⟨nd - 2, by omega⟩
        obtain ⟨P, E, hPe, hP, hE, hc⟩ := X5t A mid m 2 off hA (by omega)
        obtain ⟨a, b, rfl⟩ := len2 hE
        have hc2 : A ++ mid.take (m + 2) ++ (u8s dn ++ D) = P ++ a :: b :: (u8s dn ++ D) := by rw [hc]; simp
        rw [hc2]
        clear hc2
        have hleaf : ∀ S, (σ.set β (.cells 178 (A ++ mid.take m ++ (u8s (padD 2 (v % 10 ^ 2) ++ dn) ++ D)))).sub S ↔ (σ.set β (.cells 178 (P ++ (u8s (padD 2 (v % 100)) ++ (u8s dn ++ D))))).sub S := fun S => by rw [hPe, Y0n, zC]
        rw [u8s2 _ (by omega)] at hleaf
        generalize hT : u8s dn ++ D = T at *
        (first | (with_reducible first | refine .rs ?_ | refine .ds (by kernel_rfl) ?_ | refine .dg (by kernel_rfl) ?_ | refine .rg ?_ | refine .ite ?_ | refine .ret ?_ | refine .skip ?_ | refine .exit ?_ | refine .scope ?_ | refine .seq (.label ?_) | refine .block ?_ | refine .seq ?_)); (try simp only [vO, vQ, ↓vP, vE, vS, vB, vL, vF, vM, vN, Q0g, zb, zd, ze, ne_eq, not_false_eq_true, zf, zg, zk, zl, Z3, Q2c, Z150, Q6h, Z179, Q6i, Z187, Q6j, Z5, X3a, Z9, Q2f, vT])
        refine Q1l (fun _ => ?_) (fun h => absurd (show (2:Int) ≤ ((m+2 : Nat) : Int) by omega) h)
        iterate 2 ((first | (with_reducible first | refine .rs ?_ | refine .ds (by kernel_rfl) ?_ | refine .dg (by kernel_rfl) ?_ | refine .rg ?_ | refine .ite ?_ | refine .ret ?_ | refine .skip ?_ | refine .exit ?_ | refine .scope ?_ | refine .seq (.label ?_) | refine .block ?_ | refine .seq ?_)); (try simp only [vO, vQ, ↓vP, vE, vS, vB, vL, vF, vM, vN, Q0g, zb, zd, ze, ne_eq, not_false_eq_true, zf, zg, zk, zl, Z3, Q2c, Z150, Q6h, Z179, Q6i, Z187, Q6j, Z5, X3a, Z9, Q2f, nz8, nz4, nz2, not_false_eq_true, true_and, vT]))
        simp (disch := omega) only [td4, wrN, tm2, td2, cm2]
        refine VW.weak (Holds.weak (vals := [(0, .ms β off ND 1), (4, .i (m + 2 : Nat)), (12, .val (.int .u32 (v / 100 : Nat))), (16, .val (.int .u32 (v % 100 * 2 : Nat)))]) ?_) ?_
        · refine Q0v ?_
          simp only [vO, vQ, ↓vP, vE, vS, vB, vL, vF, vM, vN, Q0g, zb, zd, ze, ne_eq, not_false_eq_true, zf, zg, zk, zl, vT]
        have j1 : v % 100 < 100 := by omega
        generalize hk1 : v % 100 = k1 at *
        generalize hw : v / 100 = w at *
        have hm64 : m + 2 < 2 ^ 63 := by omega
        have hw1 : IntKind.i64.wrap (((m + 2 : Nat) : Int) - 1) = ((m + 1 : Nat) : Int) := by rw [w64 (by omega) (by omega)]; omega
        have hw2 : IntKind.i64.wrap (((m + 2 : Nat) : Int) - 2) = ((m : Nat) : Int) := by rw [w64 (by omega) (by omega)]; omega
        have ho1 : off + (m + 1) = P.length + 1 := by omega
        have ho2 : off + m = P.length := by omega
        have hu1 : IntKind.u32.wrap ((k1 * 2 + 1 : Nat) : Int) = ((k1 * 2 + 1 : Nat) : Int) := wrN (by omega)
        refine VW.cut (α := Unit) (fun _ => True) (fun _ => [(0, .ms β off ND 1), (4, .i (m + 2 : Nat)), (12, .val (.int .u32 (w : Nat)))]) (fun _ => σ.set β (.cells 178 (P ++ .u8 (48 + k1 / 10 : Nat) :: .u8 (48 + k1 % 10 : Nat) :: T))) ?_ (fun _ _ => ?_)
        · clear hu g3 g2 h64 hE hc hND hleaf hv
          (have zz := Bx.mk (j5 ui3 Q4r X0k X2m (j9 ui5 ui9 @ca1 @cm2 hu1 hw1 hw2 @Int.toNat_natCast (j9 @Nat.mul_one ho1 ho2 @Q2s @Q3w @Q2t @Q3x @List.length_append.{0} @X6y))); (repeat' (first | exact zc | (with_reducible first | apply And.intro | apply Q0a | apply Q0b | refine Q0c (by decide +kernel) ?_ | intro _) | ((with_reducible refine .dm (fun _ => False) [(0, false), (1, false), (2, false), (3, false), (4, false), (5, false), (6, false), (7, false), (8, false), (9, false), (10, false), (11, false), (12, true), (13, false), (14, true)] (by decide) (by decide +kernel) ?_); (refine zs zz.out ?_)) | refine zaW zz.out ?_ | ((first | with_reducible refine Q0j (fun _ h => h.elim) ?_ | (refine Q0d (by exact zK) ?_) | (refine Q0e (by exact zK) ?_)); (try refine zs zz.out ?_)) | refine zo ?_ | omega | refine zt zz.out ?_ | fail)); try (all_goals clear zz))
          · exact ⟨_, _, rfl⟩
          · exact ⟨_, _, rfl⟩
          refine ⟨(), trivial, ?_, Q0v ?_⟩
          · simp only [vO, vQ, ↓vP, vE, vS, vB, vL, vF, vM, vN, Q0g, zb, zd, ze, ne_eq, not_false_eq_true, zf, zg, zk, zl, vT]
            simp only [smE j1, smO j1, zC, Q3w, Q3x, Q2s, Q2t]
            exact .refl _
          · simp only [vO, vQ, ↓vP, vE, vS, vB, vL, vF, vM, vN, Q0g, zb, zd, ze, ne_eq, not_false_eq_true, zf, zg, zk, zl, vT]
        (have zz := Bx.mk (j7 ui3 Q4r X0k X2m ui5 ui9 hw2); (repeat' (first | exact zc | (with_reducible first | apply And.intro | apply Q0a | apply Q0b | refine Q0c (by decide +kernel) ?_ | intro _) | refine zaW zz.out ?_ | refine zo ?_ | omega | refine zt zz.out ?_ | fail)); try (all_goals clear zz))
        refine ⟨(m, w, padD 2 k1 ++ dn), ⟨by simp only; clear hu h64 g3; omega, by simp only; clear hu h64 g3; omega, ?_, by simp only; rw [← hw]; exact pad_lt 2 m v g3⟩, (hleaf _).2 (.refl _), Q0v ?_⟩
        · rw [← hw, ← hk1]
          exact Y0o 2 m v dn _ g2
        · simp only [vO, vQ, ↓vP, vE, vS, vB, vL, vF, vM, vN, Q0g, zb, zd, ze, ne_eq, not_false_eq_true, zf, zg, zk, zl, vT]
      · (first | (with_reducible first | refine .rs ?_ | refine .ds (by kernel_rfl) ?_ | refine .dg (by kernel_rfl) ?_ | refine .rg ?_ | refine .ite ?_ | refine .ret ?_ | refine .skip ?_ | refine .exit ?_ | refine .scope ?_ | refine .seq (.label ?_) | refine .block ?_ | refine .seq ?_)); (try simp only [vO, vQ, ↓vP, vE, vS, vB, vL, vF, vM, vN, Q0g, zb, zd, ze, ne_eq, not_false_eq_true, zf, zg, zk, zl, Z3, Q2c, Z150, Q6h, Z179, Q6i, Z187, Q6j, Z5, X3a, Z9, Q2f, vT])
        refine Q1l (fun h => absurd (show ¬ (2:Int) ≤ (nd : Int) by omega) (not_not_intro h)) (fun _ => ?_)
        (have zz := Bx.mk (j6 ui3 Q4r X0k X2m ui5 ui9); (repeat' (first | exact zc | (with_reducible first | apply And.intro | apply Q0a | apply Q0b | refine Q0c (by decide +kernel) ?_ | intro _) | refine zaW zz.out ?_ | refine zo ?_ | omega | refine zt zz.out ?_ | fail)); try (all_goals clear zz))
        refine ⟨(nd, v, dn), ⟨by simp only; omega, g1, g2, g3⟩, .refl _, Q0v ?_⟩
        simp only [vO, vQ, ↓vP, vE, vS, vB, vL, vF, vM, vN, Q0g, zb, zd, ze, ne_eq, not_false_eq_true, zf, zg, zk, zl, vT]
    clear g0 g1 g2 g3
    rintro ⟨nd, v, dn⟩ ⟨g0, g1, g2, g3⟩
    simp only at g0 g1 g2 g3
    simp only []
    by_cases h0 : nd = 0
    · subst h0
      rw [padD, zH] at g2
      (have zz := Bx.mk (j6 ui3 Q4r X0k X2m ui5 ui9); (repeat' (first | exact zc | (with_reducible first | apply And.intro | apply Q0a | apply Q0b | refine Q0c (by decide +kernel) ?_ | intro _) | refine zaW zz.out ?_ | refine zo ?_ | omega | refine zt zz.out ?_ | fail)); try (all_goals clear zz))
      exact ⟨_, .refl _, by rw [g2]; simp⟩
    · obtain rfl : nd = 1 := by omega
      have hv : v < 10 := by omega
      obtain ⟨P, E, hPe, hP, hE, hc⟩ := X5t A mid 0 1 off hA (by omega)
      obtain ⟨a, rfl⟩ : ∃ a, E = [a] := by
        match E, hE with
        | [a], _ => exact ⟨a, rfl⟩
      have hPA : P = A := by rw [← hPe]; simp
      subst hPA
      rw [show 1 = 0 + 1 from rfl, hc]
      have hdig : IntKind.u8.wrap (IntKind.u32.wrap (48 + (v : Int))) = ((48 + v : Nat) : Int) := by
        rw [show (48 : Int) + (v : Int) = ((48 + v : Nat) : Int) from rfl, wrN (by omega)]
        show (((48 + v) % 256 : Nat) : Int) = _
        rw [Nat.mod_eq_of_lt (by omega)]
      (have zz := Bx.mk (j7 ui3 Q4r X0k X2m ui5 ui9 hdig); (repeat' (first | exact zc | (with_reducible first | apply And.intro | apply Q0a | apply Q0b | refine Q0c (by decide +kernel) ?_ | intro _) | refine zaW zz.out ?_ | ((first | (refine Q0d (by exact zK) ?_) | (refine Q0e (by exact zK) ?_)); (try refine zs zz.out ?_)) | refine zo ?_ | omega | refine zt zz.out ?_ | fail)); try (all_goals clear zz))
      · exact ⟨_, _, rfl⟩
      · simp; omega
      · refine ⟨_, .refl _, ?_⟩
        rw [← hA, zC P, Q2s, Q2t, ← g2, Y0n]
        have hd1 : u8s (padD 1 v) = [.u8 (48 + v : Nat)] := by
          rw [padD, padD, zH, Nat.mod_eq_of_lt hv]
          simp only [u8s, List.map_cons, List.map_nil, UInt8.toNat_ofNat']
          rw [Nat.mod_eq_of_lt (by omega)]
        rw [hd1]
        simp
theorem e47 (l : List UInt8) (c : UInt8) (σ : Sg) : VCalls Tryz.prog 194 [.s (bs l), .u8 c.toNat] σ (fun x σ' => x = .i (l.count c : Nat) ∧ σ' = σ) := by
  have := vCountString (P := Tryz.prog) (σ := σ) (s := bs l) (c := c) Tryz.func194 (by kernel_rfl) (by kernel_rfl) (by kernel_rfl) (by kernel_rfl)
  rw [Q7h] at this
  exact this
theorem e58 (n : Nat) (hn : n ≤ 281474976710656) (σ : Sg) : VCalls Tryz.prog 186 [.i n] σ (fun y σ' => ∃ τ, σ τ = none ∧ y = .nz τ n 1 ∧ σ' = σ.set τ (.tok (some 5))) :=
  vMakeNoZero (P := Tryz.prog) (σ := σ) (ps := Tryz.f186.params) (t := 150) Tryz.func186 (by kernel_rfl) (by kernel_rfl) (by kernel_rfl) (by kernel_rfl) Z150 hn
theorem e35 (l : List UInt8) (c : UInt8) (σ : Sg) : VCalls Tryz.prog 182 [.s (bs l), .s (bs [c])] σ (fun x σ' => x = .i (l.count c : Nat) ∧ σ' = σ) := by
  (refine vfun (fun _ => .no) Q0h Tryz.func182 (by kernel_rfl) ?_; simp only [Q0f, Tryz.f182, zw])
  (have zz := Bx.mk (j4 ui3 ui5 ui9 @List.getD_cons_zero.{0}); (repeat' (first | exact zc | (with_reducible first | apply And.intro | apply Q0a | apply Q0b | refine Q0c (by decide +kernel) ?_ | intro _) | refine zaW zz.out ?_ | (((with_reducible refine zU (e47 l c _) ?_); rintro _ S ⟨rfl, rfl⟩); (try refine zs zz.out ?_)) | refine zo ?_ | omega | refine zt zz.out ?_ | fail)); try (all_goals clear zz))
  all_goals (exact zE)
theorem cap51 (ty : TypeId) (l : List TypeId) (σ : Sg) (R : AV → Sg → Prop) : Q2h Tryz.prog .cap [.sl .nil []] (List.toArray (150 :: l)) ty σ R = R (.i 0) σ := cap_nil 150 5 ty l σ R Z150
theorem vsl_nz0 (e : TypeId) (τ n sz : Nat) (k : IntKind) (σ : Sg) (R : AV → Prop) : vsl Tryz.prog (some (.slice e)) (.nz τ n sz) none (some (.val (.int k ((0 : Nat) : Int)))) none σ R = vixE (Q0l Tryz.prog e) (fun s => s = sz ∧ R (.sl (.tok τ sz) [])) := vsl_nz e τ n sz k σ R
theorem cpy51 (x y : AV) (ty : TypeId) (l : List TypeId) (σ : Sg) (R : AV → Sg → Prop) : Q2h Tryz.prog .copy [x, y] (List.toArray (150 :: l)) ty σ R = X9k Tryz.prog 150 x y σ R := rfl
theorem copy51 (τ sz : Nat) (σ : Sg) (R : AV → Sg → Prop) : X9k Tryz.prog 150 (.sl (.tok τ sz) []) (.sl .nil []) σ R = R (.i 0) σ := vcopy_nil 150 5 τ sz σ R Z150 (by rw [X3a]; rfl)
theorem e48 (β n : Nat) (σ : Sg) (hβ : σ β = some (.cells 152 [.ref β 0, .sl .nil []])) (hn : n ≤ 281474976710656) : VCalls Tryz.prog 178 [.ref β 0, .i n] σ (fun x σ' => x = .tup [] ∧ ∃ τ, σ τ = none ∧ σ' = (σ.set τ (.tok (some 5))).set β (.cells 152 [.ref β 0, .sl (.tok τ 1) []])) := by
  have h58 := fun S => e58 n hn S
  (refine vfun (fun _ => .no) Q0h Tryz.func178 (by kernel_rfl) ?_; simp only [Q0f, Tryz.f178, zw])
  (have zz := Bx.mk (j4 ui3 X6l Q8s (j9 Q4r ui5 hβ @cap51 @cpy51 @copy51 @vsl_nz0 @Int.mul_zero @Int.zero_add)); (repeat' (first | exact zc | (with_reducible first | apply And.intro | apply Q0a | apply Q0b | refine Q0c (by decide +kernel) ?_ | intro _) | ((with_reducible refine .dms (fun x => x = β) [(0, false), (1, false), (2, false), (3, false), (4, false), (5, false), (6, false), (7, false), (9, false), (10, false), (11, false), (12, false), (13, false), (8, true), (14, false), (15, false)] (by decide) (by decide +kernel) ?_); (refine zs zz.out ?_)) | refine zaW zz.out ?_ | ((first | (refine Q0j (by intro β h; first | (rcases h with h | h <;> subst h <;> (simp (disch := first | assumption | (apply zQ; assumption; assumption) | (apply zR; assumption; assumption; (intro e; cases e; done)) | omega) only [zn, zp, zq, zr, zv])) | (subst h; (simp (disch := first | assumption | (apply zQ; assumption; assumption) | (apply zR; assumption; assumption; (intro e; cases e; done)) | omega) only [zn, zp, zq, zr, zv]))) ?_) | ((with_reducible refine zU (h58 _) ?_); rintro _ S ⟨τ, hτ, rfl, rfl⟩) | (refine Q0d (o' := some (.cells 152 [.ref β 0, .sl .nil []])) (Q8f (by assumption) (by exact zK)) ?_) | (refine Q0d (by exact zK) ?_) | (refine Q0e (by exact zK) ?_)); (try refine zs zz.out ?_)) | refine zo ?_ | omega | refine zt zz.out ?_ | fail)); try (all_goals clear zz))
  all_goals exact ⟨_, .refl _, _, hτ, rfl⟩
theorem e36 (β n : Nat) (σ : Sg) (h0 : σ β = none) (hn0 : 0 < n) (hn : n ≤ 281474976710656) : VCalls Tryz.prog 154 [.ref β 0, .i n] (σ.set β (.cells 152 [.val (.pointer none), .sl .nil []])) (fun x σ' => x = .tup [] ∧ Bld β [] σ σ') := by
  have h48 := fun S hS => e48 β n S hS hn
  (refine vfun (fun _ => .no) Q0h Tryz.func154 (by kernel_rfl) ?_; simp only [Q0f, Tryz.f154, zw])
  (have zz := Bx.mk (j6 ui3 X6l Q8s Q4r ui5 @cap51); (repeat' (first | exact zc | (with_reducible first | apply And.intro | apply Q0a | apply Q0b | refine Q0c (by decide +kernel) ?_ | intro _) | refine zaW zz.out ?_ | ((first | with_reducible refine (t115 β _ _ _ (zn _ _ _) (.inl rfl)).use ?_ | ((with_reducible refine zU (h48 _ (by exact zK)) ?_); rintro _ S ⟨rfl, τ, hτ, rfl⟩) | (refine Q0d (by exact zK) ?_) | (refine Q0e (by exact zK) ?_)); (try refine zs zz.out ?_)) | refine zo ?_ | omega | refine zt zz.out ?_ | fail)); try (all_goals clear zz))
  obtain ⟨hne, h1⟩ := Sg.of_set_none hτ
  exact ⟨(σ.set τ (.tok (some 5))).set β (.cells 152 [.ref β 0, .sl (.tok τ 1) []]), (by intro y p hy; simp only [Sg.set_apply, Sg.del_apply] at hy ⊢; grind), h0, .inr ⟨τ, hne, h1, rfl⟩⟩
theorem e49 (l : List UInt8) (c : UInt8) (σ : Sg) : VCalls Tryz.prog 195 [.s (bs l), .s (bs [c])] σ (fun x σ' => x = .i (if upTo c l < l.length then (upTo c l : Nat) else -1) ∧ σ' = σ) := by
  have h39 := fun σ => t114 l c σ
  (refine vfun (fun _ => .no) Q0h Tryz.func195 (by kernel_rfl) ?_; simp only [Q0f, Tryz.f195, zw])
  (have zz := Bx.mk (j4 ui3 ui5 ui9 @List.getD_cons_zero.{0}); (repeat' (first | exact zc | (with_reducible first | apply And.intro | apply Q0a | apply Q0b | refine Q0c (by decide +kernel) ?_ | intro _) | refine zaW zz.out ?_ | (((with_reducible refine zU (h39 _) ?_); rintro _ S ⟨rfl, rfl⟩); (try refine zs zz.out ?_)) | refine zo ?_ | omega | refine zt zz.out ?_ | fail)); try (all_goals clear zz))
  · rename_i hc
    subst hc
    exact ⟨_, .refl _, by simp [upTo], rfl⟩
  · exact ⟨_, .refl _, rfl⟩
theorem e37 (l : List UInt8) (σ : Sg) : VCalls Tryz.prog 183 [.s (bs l), .s (bs [39])] σ (fun x σ' => x = .i (if upTo 39 l < l.length then (upTo 39 l : Nat) else -1) ∧ σ' = σ) := by
  have h49 : ∀ σ, VCalls Tryz.prog 195 [.s (bs l), .s (bs [39])] σ _ := fun σ => e49 l 39 σ
  (refine vfun (fun _ => .no) Q0h Tryz.func183 (by kernel_rfl) ?_; simp only [Q0f, Tryz.f183, zw])
  (have zz := Bx.mk (j3 ui3 ui5 ui9); (repeat' (first | exact zc | (with_reducible first | apply And.intro | apply Q0a | apply Q0b | refine Q0c (by decide +kernel) ?_ | intro _) | refine zaW zz.out ?_ | (((with_reducible refine zU (h49 _) ?_); rintro _ S ⟨rfl, rfl⟩); (try refine zs zz.out ?_)) | refine zo ?_ | omega | refine zt zz.out ?_ | fail)); try (all_goals clear zz))
  all_goals (exact zE)
end Go.Proofs.YtjdapkelojdefaaGreatDoor
namespace Go.Lex
open Go.V Go.Proofs.YtjdapkelojdefaaGreatDoor
theorem X4f : ∀ {l : List UInt8}, l.count 39 = 0 → quo l = l
  | [], _ => rfl
  | c :: r, h => by
    rw [List.count_cons] at h
    have h1 : c ≠ 39 := fun e => by rw [e] at h; simp at h
    unfold quo
    rw [if_neg h1, X4f (by omega)]
theorem quo_step : ∀ {l : List UInt8}, 0 < l.count 39 → upTo 39 l < l.length ∧ quo l = l.take (upTo 39 l) ++ ([39, 39] ++ quo (l.drop (upTo 39 l + 1))) ∧ l.count 39 = 1 + (l.drop (upTo 39 l + 1)).count 39
  | [], h => by simp at h
  | c :: r, h => by
    by_cases hc : c = 39
    · subst hc
      have : upTo 39 (39 :: r) = 0 := by simp [upTo]
      rw [this]
      refine ⟨by simp, ?_, ?_⟩
      · rw [quo, if_pos rfl]; rfl
      · rw [List.count_cons]; simp; omega
    · have hu : upTo 39 (c :: r) = upTo 39 r + 1 := by simp [upTo, hc]
      have hcc : (c :: r).count 39 = r.count 39 := by rw [List.count_cons]; simp [hc]
      rw [hcc] at h ⊢
      obtain ⟨h1, h2, h3⟩ := quo_step h
      rw [hu]
      refine ⟨by simpa using h1, ?_, ?_⟩
      · rw [quo, if_neg hc, h2]; simp
      · rw [List.drop_succ_cons]; exact h3
end Go.Lex
namespace Go.Proofs.YtjdapkelojdefaaGreatDoor
open Go Go.V Go.Lex
theorem e24 (l : List UInt8) (hl : l.length < 2 ^ 38) (σ : Sg) : VCalls Tryz.prog 176 [.s (bs l), .s (bs [39]), .s (bs [39, 39]), .i (-1)] σ (fun x σ' => x = .s (bs (quo l)) ∧ σ' = σ) := by
  have h35 : ∀ σ, VCalls Tryz.prog 182 [.s (bs l), .s (bs [39])] σ _ := fun σ => e35 l 39 σ
  have hcl : l.count 39 ≤ l.length := List.count_le_length
  by_cases h0 : l.count 39 = 0
  · rw [X4f h0]
    simp only [h0] at h35
    (refine vfun (fun _ => .no) Q0h Tryz.func176 (by kernel_rfl) ?_; simp only [Q0f, Tryz.f176, zw])
    (have zz := Bx.mk (j3 ui3 ui5 ui9); (repeat' (first | exact zc | (with_reducible first | apply And.intro | apply Q0a | apply Q0b | refine Q0c (by decide +kernel) ?_ | intro _) | refine zaW zz.out ?_ | (((with_reducible refine zU (h35 _) ?_); rintro _ S ⟨rfl, rfl⟩); (try refine zs zz.out ?_)) | refine zo ?_ | omega | refine zt zz.out ?_ | fail)); try (all_goals clear zz))
    all_goals (exact zE)
  · have h36 : ∀ β S, S β = none → VCalls Tryz.prog 154 [.ref β 0, .val (.int .i64 ((l.length : Int) + (l.count 39 : Nat) * (((2 : Nat) : Int) - ((1 : Nat) : Int))))] (S.set β (.cells 152 [.val (.pointer none), .sl .nil []])) (fun x σ' => x = .tup [] ∧ Bld β [] S σ') := fun β S hS => by
      have e : (l.length : Int) + (l.count 39 : Nat) * (((2 : Nat) : Int) - ((1 : Nat) : Int)) = ((l.length + l.count 39 : Nat) : Int) := by omega
      rw [e]
      exact e36 β (l.length + l.count 39) S hS (by omega) (by omega)
    (refine vfun (fun _ => .no) Q0h Tryz.func176 (by kernel_rfl) ?_; simp only [Q0f, Tryz.f176, zw])
    (have zz := Bx.mk (j4 ui3 ui5 ui9 Q8s); (repeat' (first | exact zc | (with_reducible first | apply And.intro | apply Q0a | apply Q0b | refine Q0c (by decide +kernel) ?_ | intro _) | refine zaW zz.out ?_ | ((first | ((with_reducible refine zU (h35 _) ?_); rintro _ S ⟨rfl, rfl⟩) | ((with_reducible refine zU (h36 _ _ (by assumption)) ?_); rintro _ S' ⟨rfl, hB⟩)); (try refine zs zz.out ?_)) | refine zo ?_ | omega | refine zt zz.out ?_ | fail)); try (all_goals clear zz))
    · rename_i hx
      cases hx
    rename_i b hb _
    refine VW.loop3 (0 : Nat) (([], 0) : List UInt8 × Nat) S' (fun k p S' => k ≤ l.count 39 ∧ p.2 ≤ l.length ∧ p.1 ++ quo (l.drop p.2) = quo l ∧ (l.drop p.2).count 39 + k = l.count 39 ∧ p.1.length ≤ 2 * p.2 ∧ Bld b p.1 S S') (fun k p _ => [(0, .s (bs l)), (1, .s (bs [39])), (2, .s (bs [39, 39])), (10, .ref b 0), (11, .i p.2), (52, .i (l.count 39 : Nat)), (53, .i k)]) (fun _ _ S' => S') (fun k _ _ => l.count 39 - k) ⟨by omega, by simp, rfl, by simp, by simp, hB⟩ (.refl _) ?_ ?_
    · simp only [vO, vQ, ↓vP, vE, vS, vB, vL, vF, vM, vN, Q0g, zb, zd, ze, ne_eq, not_false_eq_true, zf, zg, zk, zl, vT]
      all_goals exact ⟨rfl, rfl⟩
    clear hB
    rintro k ⟨acc, st⟩ S' ⟨g1, g2, g3, g4, g5, hB⟩
    simp only at g2 g3 g4 g5 hB
    by_cases hk : k < l.count 39
    · obtain ⟨q1, q2, q3⟩ := quo_step (l := l.drop st) (by omega)
      have h37 : VCalls Tryz.prog 183 [.s (bs (l.drop st)), .s (bs [39])] S' (fun x σ' => x = .i (upTo 39 (l.drop st) : Nat) ∧ σ' = S') := by
        have := e37 (l.drop st) S'
        rw [if_pos q1] at this
        exact this
      have hcut : (l.take (st + upTo 39 (l.drop st))).drop st = (l.drop st).take (upTo 39 (l.drop st)) := by rw [List.drop_take]; congr 1; omega
      rw [List.length_drop] at q1
      rw [List.drop_drop] at q2 q3
      generalize upTo 39 (l.drop st) = t at *
      (have zz := Bx.mk (j2 ui3 (j9 ui5 ui9 Q8s @nadd @X8a @X8b @X8c @X8d @X8e)); (repeat' (first | exact zc | (with_reducible first | apply And.intro | apply Q0a | apply Q0b | refine Q0c (by decide +kernel) ?_ | intro _) | refine zaW zz.out ?_ | ((first | ((with_reducible refine zU h37 ?_); rintro _ _ ⟨rfl, rfl⟩) | ((with_reducible refine zU (t100 _ _ _ _ _ hB (by simp; omega)) ?_); rintro _ S'' ⟨rfl, hB⟩)); (try refine zs zz.out ?_)) | refine zo ?_ | omega | refine zt zz.out ?_ | fail)); try (all_goals clear zz))
      rename_i _ S'' _ _ hB
      exact ⟨k + 1, (acc ++ (l.take (st + t)).drop st ++ [39, 39], st + t + 1), S'', ⟨⟨by omega, by simp only; omega, by simp only; rw [hcut, ← g3, q2, Nat.add_assoc]; simp only [zC], by simp only; rw [Nat.add_assoc]; omega, by simp only [List.length_append, List.length_drop, List.length_take, List.length_cons, List.length_nil]; omega, hB⟩, by omega⟩, .refl _, rfl, rfl⟩
    · (have zz := Bx.mk (j2 ui3 (j9 ui5 ui9 Q8s @nadd @X8a @X8b @X8c @X8d @X8e)); (repeat' (first | exact zc | (with_reducible first | apply And.intro | apply Q0a | apply Q0b | refine Q0c (by decide +kernel) ?_ | intro _) | refine zaW zz.out ?_ | ((first | ((with_reducible refine zU (t100 _ _ _ _ _ hB (by simp; omega)) ?_); rintro _ S'' ⟨rfl, hB⟩) | with_reducible refine (t103 _ _ _ _ hB (by first | assumption | (simp; omega))).use ?_); (try refine zs zz.out ?_)) | refine zo ?_ | omega | refine zt zz.out ?_ | fail)); try (all_goals clear zz))
      exact ⟨S, hB.sub, by rw [← g3, X4f (by omega)], rfl⟩
end Go.Proofs.YtjdapkelojdefaaGreatDoor
namespace Go.V
open Go.Lex
variable {P : Program}
theorem vsl_arr {β off n e : Nat} {l h : Int} {k1 k2 : IntKind} {T : TypeId} {cs : List AV} {z : Option Value} {s b : Nat} {σ : Sg} {R : AV → Prop} (hc : σ β = some (.cells T cs)) (hi : Q0l P e = some (z, s, b)) (hl : off + n * s ≤ cs.length) (h1 : 0 ≤ l ∧ l ≤ h ∧ h ≤ n ∧ (l = 0 ∨ l < n)) (hR : R (.ms β (off + l.toNat * s) (h - l).toNat s)) :
    vsl P (some (.array n e)) (.ref β off) (some (.val (.int k1 l))) (some (.val (.int k2 h))) none σ R := by
  unfold vsl
  simp only [Q1u, hi, hc]
  exact ⟨⟨hl, h1⟩, hR⟩
theorem vcv_ms {β off n e : Nat} {q : Bool} {T : TypeId} {cs : List AV} {l : List UInt8} {σ : Sg} {R : AV → Sg → Prop} (he : P.underlying e = some (.int .u8)) (hc : σ β = some (.cells T cs)) (hl : (cs.drop off).take n = l.map fun c => AV.u8 c.toNat) (hn : l.length = n) (hR : R (.s (bs l)) σ) :
    vcv P q (some (.slice e)) (some .string) (.ms β off n 1) σ R := by
  unfold vcv
  simp only [he, hc]
  exact ⟨bs l, trivial, hl, hn, hR⟩
end Go.V
namespace Go.Proofs.YtjdapkelojdefaaGreatDoor
open Go Go.V Go.Lex
theorem e34 (n : Nat) (hn : n < 9223372036854775808) (σ : Sg) : VCalls Tryz.prog 181 [.i n, .i 10] σ (fun x σ' => x = .s (bs (dec n)) ∧ σ' = σ) := by
  by_cases h : n < 100
  · (refine vfun (fun _ => .no) Q0h Tryz.func181 (by kernel_rfl) ?_; simp only [Q0f, Tryz.f181, zw])
    (have zz := Bx.mk (j4 ui3 ui2 ui4 ui9); (repeat' (first | exact zc | (with_reducible first | apply And.intro | apply Q0a | apply Q0b | refine Q0c (by decide +kernel) ?_ | intro _) | refine zaW zz.out ?_ | (((with_reducible refine zU (e42 n h _) ?_); rintro _ S ⟨rfl, rfl⟩); (try refine zs zz.out ?_)) | refine zo ?_ | omega | refine zt zz.out ?_ | fail)); try (all_goals clear zz))
    all_goals (exact zE)
  · have hU : IntKind.u64.wrap (n : Int) = (n : Int) := wrM (by omega)
    have hL : (dec n).length ≤ 19 := dec_len n 18 (by omega)
    have h1 : 1 ≤ n := by omega
    have h43 : ∀ σ, VCalls Tryz.prog 190 [.val (.int .u64 n)] σ _ := fun σ => e43 n h1 (by omega) σ
    generalize hLe : (dec n).length = L at *
    have hs1 : (((1 + L : Nat) : Int) - 1).toNat = L := by omega
    have hdec : dec n = padD L n := by rw [← hLe]; exact dec_padlen n
    have hlt : n < 10 ^ L := by rw [← hLe]; exact dec_pow n
    have h44 : ∀ b S, S b = some (.cells 178 ([.u8 0] ++ List.replicate L (.u8 0) ++ List.replicate (23 - L) (.u8 0))) → VCalls Tryz.prog 191 [.ms b 1 L 1, .val (.int .u64 n)] S _ := fun b S hS => e44 b 1 L n _ _ _ S hS rfl (by simp) hlt (by omega) (by omega)
    have hz : ([.u8 0] ++ List.replicate L (AV.u8 0) ++ List.replicate (23 - L) (.u8 0)) = [AV.val (.int .u8 0), AV.val (.int .u8 0), AV.val (.int .u8 0), AV.val (.int .u8 0), AV.val (.int .u8 0), AV.val (.int .u8 0), AV.val (.int .u8 0), AV.val (.int .u8 0), AV.val (.int .u8 0), AV.val (.int .u8 0), AV.val (.int .u8 0), AV.val (.int .u8 0), AV.val (.int .u8 0), AV.val (.int .u8 0), AV.val (.int .u8 0), AV.val (.int .u8 0), AV.val (.int .u8 0), AV.val (.int .u8 0), AV.val (.int .u8 0), AV.val (.int .u8 0), AV.val (.int .u8 0), AV.val (.int .u8 0), AV.val (.int .u8 0), AV.val (.int .u8 0)] := by
      rw [← List.replicate_one, List.replicate_append_replicate, List.replicate_append_replicate]
      exact (congrArg (fun k => List.replicate k (AV.u8 0)) (show 1 + L + (23 - L) = 24 by omega)).trans rfl
    simp only [hz] at h44
    (refine vfun (fun _ => .no) Q0h Tryz.func181 (by kernel_rfl) ?_; simp only [Q0f, Tryz.f181, zw])
    (have zz := Bx.mk (j8 ui3 ui2 ui4 ui9 X0k ui178 Q4r (j9 ui5 hU @nadd @X8a @X8b @X8c @X8d @X8e hs1)); (repeat' (first | exact zc | (with_reducible first | apply And.intro | apply Q0a | apply Q0b | refine Q0c (by decide +kernel) ?_ | intro _) | refine zaW zz.out ?_ | ((first | ((with_reducible refine zU (h43 _) ?_); rintro _ S ⟨rfl, rfl⟩) | ((with_reducible refine zU (h44 _ _ (by exact zK)) ?_); rintro _ S ⟨rfl, rfl⟩) | (refine vsl_arr (by exact zK) X3a (by simp [u8s_len, X1p]; try omega) ?_ ?_) | (refine vcv_ms (l := padD L n) Z5 (by exact zK) ?_ ?_ ?_)); (try refine zs zz.out ?_)) | refine zo ?_ | omega | refine zt zz.out ?_ | fail)); try (all_goals clear zz))
    · rw [List.take_append_of_le_length (by rw [u8s_len, X1p]; exact Nat.le_refl _), List.take_of_length_le (by rw [u8s_len, X1p]; exact Nat.le_refl _)]
      rfl
    · exact X1p L n
    · exact ⟨σ, Sg.sub_set ‹_› _, by rw [hdec], rfl⟩
theorem e23 (n : Nat) (hn : n < 9223372036854775808) (σ : Sg) : VCalls Tryz.prog 175 [.i n] σ (fun x σ' => x = .s (bs (dec n)) ∧ σ' = σ) := by
  (refine vfun (fun _ => .no) Q0h Tryz.func175 (by kernel_rfl) ?_; simp only [Q0f, Tryz.f175, zw])
  (have zz := Bx.mk (j3 ui3 ui2 ui9); (repeat' (first | exact zc | (with_reducible first | apply And.intro | apply Q0a | apply Q0b | refine Q0c (by decide +kernel) ?_ | intro _) | refine zaW zz.out ?_ | (((with_reducible refine zU (e34 n hn _) ?_); rintro _ S ⟨rfl, rfl⟩); (try refine zs zz.out ?_)) | refine zo ?_ | omega | refine zt zz.out ?_ | fail)); try (all_goals clear zz))
  all_goals (exact zE)
theorem e11 (n : Nat) (hn : n < 9223372036854775808) (σ : Sg) : VCalls Tryz.prog 152 [.i n] σ (fun x σ' => x = .s (bs (dec n)) ∧ σ' = σ) := by
  (refine vfun (fun _ => .no) Q0h Tryz.func152 (by kernel_rfl) ?_; simp only [Q0f, Tryz.f152, zw])
  (have zz := Bx.mk (j3 ui3 ui2 ui9); (repeat' (first | exact zc | (with_reducible first | apply And.intro | apply Q0a | apply Q0b | refine Q0c (by decide +kernel) ?_ | intro _) | refine zaW zz.out ?_ | (((with_reducible refine zU (e23 n hn _) ?_); rintro _ S ⟨rfl, rfl⟩); (try refine zs zz.out ?_)) | refine zo ?_ | omega | refine zt zz.out ?_ | fail)); try (all_goals clear zz))
  all_goals (exact zE)
theorem e12 (l : List UInt8) (hl : l.length < 2 ^ 38) (σ : Sg) : VCalls Tryz.prog 153 [.s (bs l), .s (bs [39]), .s (bs [39, 39])] σ (fun x σ' => x = .s (bs (quo l)) ∧ σ' = σ) := by
  (refine vfun (fun _ => .no) Q0h Tryz.func153 (by kernel_rfl) ?_; simp only [Q0f, Tryz.f153, zw])
  repeat' (first | exact zc | (with_reducible first | apply And.intro | apply Q0a | apply Q0b | refine Q0c (by decide +kernel) ?_ | intro _) | refine zaW (j2 ui3 ui9) ?_ | (((with_reducible refine zU (e24 l hl _) ?_); rintro _ S ⟨rfl, rfl⟩); (try refine zs (j2 ui3 ui9) ?_)) | refine zo ?_ | omega | refine zt (j2 ui3 ui9) ?_ | fail)
  all_goals (exact zE)
end Go.Proofs.YtjdapkelojdefaaGreatDoor
namespace Go.Proofs.YtjdapkelojdefaaGreatDoor
open Go Go.V Go.Lex Go.Print
theorem eq23 {d : TypeDesc} {a b a' b' : Int} {s t : ByteArray} : veqT Tryz.prog 23 d (.agg [.i a, .i b, .s s]) (.agg [.i a', .i b', .s t]) = some (decide (a = a') && (decide (b = b') && (sEq s t && true))) := by
  rw [Y0c (by kernel_rfl), X0z (d := 9999) Tryz.underlying23 (by kernel_rfl)]
  exact Q3u (by decide) (Q1w Q2c Z3 rfl) (Q1w Q2c Z3 rfl) (X1a Z3) (Q3u (by decide) (Q1w Q2c Z3 rfl) (Q1w Q2c Z3 rfl) (X1a Z3) (Q3u (by decide) (Q1w Q2f Z9 rfl) (Q1w Q2f Z9 rfl) (X6n Z9) rfl))
theorem e8 (k n : Int) (t : List UInt8) (σ : Sg) : VCalls Tryz.prog 150 [.agg [.i k, .i n, .s (bs t)]] σ (fun x σ' => x = .agg [.i k, .i (Y0d k n t).1, .s (bs (Y0d k n t).2)] ∧ σ' = σ) := by
  unfold Y0d
  (refine vfun (fun _ => .no) Q0h Tryz.func150 (by kernel_rfl) ?_; simp only [Q0f, Tryz.f150, zw])
  (have zz := Bx.mk (j3 ui3 ui9 ui23); (repeat' (first | exact zc | (with_reducible first | apply And.intro | apply Q0a | apply Q0b | refine Q0c (by decide +kernel) ?_ | intro _) | refine zaW zz.out ?_ | ((first | (refine Q0d (by exact zK) ?_) | (refine Q0e (by exact zK) ?_)); (try refine zs zz.out ?_)) | refine zo ?_ | omega | refine zt zz.out ?_ | fail)); try (all_goals clear zz))
  all_goals exact ⟨σ, (by intro y p hy; simp only [Sg.set_apply, Sg.del_apply] at hy ⊢; grind), by simp_all, rfl⟩
theorem e5 (k n : Int) (t : List UInt8) (σ : Sg) : VCalls Tryz.prog 98 [.agg [.i k, .i n, .s (bs t)]] σ (fun x σ' => x = .i (X8o k n t) ∧ σ' = σ) := by
  unfold X8o
  have h8 := e8 k n t
  generalize Y0d k n t = bv at *
  (refine vfun (fun _ => .ro) Q0h Tryz.func98 (by kernel_rfl) ?_; simp only [Q0f, Tryz.f98, zw])
  (have zz := Bx.mk (j6 ui3 ui4 ui9 ui23 ui30 @eq23); (repeat' (first | exact zc | (with_reducible first | apply And.intro | apply Q0a | apply Q0b | refine Q0c (by decide +kernel) ?_ | intro _) | refine zaW zz.out ?_ | (((with_reducible refine zU (h8 _) ?_); rintro _ S ⟨rfl, rfl⟩); (try refine zs zz.out ?_)) | refine zo ?_ | omega | refine zt zz.out ?_ | fail)); try (all_goals clear zz))
  all_goals (clear h8; obtain ⟨b1, b2⟩ := bv; refine ⟨σ, .refl _, congrArg (fun c => AV.val (Value.int IntKind.i64 c)) ?_, rfl⟩)
  all_goals simp only [Prod.mk.injEq, ne_eq, Bool.and_eq_true, decide_eq_true_eq, decide_true, true_and] at *
  all_goals grind
def litL (k : Int) (n : Nat) (t : List UInt8) : List UInt8 := if k = 1 then dec n else if k = 2 then Q8h t else [78, 85, 76, 76]
theorem e7 (k : Int) (n : Nat) (t : List UInt8) (hn : n < 9223372036854775808) (ht : t.length ≤ 40) (σ : Sg) : VCalls Tryz.prog 105 [.agg [.i k, .i n, .s (bs t)]] σ (fun x σ' => x = .s (bs (litL k n t)) ∧ σ' = σ) := by
  unfold litL Q8h
  have hq := quo_len t
  (refine vfun (fun _ => .ro) Q0h Tryz.func105 (by kernel_rfl) ?_; simp only [Q0f, Tryz.f105, zw])
  (have zz := Bx.mk (j4 ui3 ui4 ui9 ui23); (repeat' (first | exact zc | (with_reducible first | apply And.intro | apply Q0a | apply Q0b | refine Q0c (by decide +kernel) ?_ | intro _) | refine zaW zz.out ?_ | ((first | ((with_reducible refine zU (e11 n hn _) ?_); rintro _ S ⟨rfl, rfl⟩) | ((with_reducible refine zU (e12 t (by omega) _) ?_); rintro _ S ⟨rfl, rfl⟩)); (try refine zs zz.out ?_)) | refine zo ?_ | omega | refine zt zz.out ?_ | fail)); try (all_goals clear zz))
  all_goals exact ⟨_, .refl _, by simp [*], rfl⟩
end Go.Proofs.YtjdapkelojdefaaGreatDoor
namespace Go.Proofs.YtjdapkelojdefaaGreatDoor
open Go Go.V Go.Lex Go.Parse Go.Print
theorem Q9f : ∀ t : Tr, t.wf → t.rg → Cx t
  | .val v, hw, hg => x_val v hw hg
  | .col t n, hw, hg => x_col t n
  | .null e, hw, hg => x_null e hw (Q9f e hw hg)
  | .neg e, hw, hg => x_neg e hw (Q9f e hw hg)
  | .not (.null x), hw, hg => x_not (.null x) hw (x_null x hw (Q9f x hw hg)) (fun y hy => by cases hy; exact Q9f x hw hg)
  | .not (.val v), hw, hg => x_not (.val v) hw (Q9f (.val v) hw hg) (fun y hy => by cases hy)
  | .not (.col t n), hw, hg => x_not (.col t n) hw (Q9f (.col t n) hw hg) (fun y hy => by cases hy)
  | .not (.not e), hw, hg => x_not (.not e) hw (Q9f (.not e) hw hg) (fun y hy => by cases hy)
  | .not (.neg e), hw, hg => x_not (.neg e) hw (Q9f (.neg e) hw hg) (fun y hy => by cases hy)
  | .not (.op k a b), hw, hg => x_not (.op k a b) hw (Q9f (.op k a b) hw hg) (fun y hy => by cases hy)
  | .op k a b, hw, hg => x_op k a b hw (Q9f a hw.2.1 hg.1) (Q9f b hw.2.2 hg.2)
theorem Q2n (s : By) (σ : Sg) : VCalls Tryz.prog 42 [.s (bs s)] σ (fun x σ' => x = .b (isNm s) ∧ σ' = σ) := by
  unfold isNm
  by_cases hs : s.length ≤ 16
  · have hrow := t69 s 101 [] Q3h σ (by omega) (fun c => t73 c σ)
    (refine vfun (fun _ => .no) Q0h Tryz.func42 (by kernel_rfl) ?_; simp only [Q0f, Tryz.f42, zw])
    (have zz := Bx.mk (j5 ui3 ui4 ui5 ui9 ui122); (repeat' (first | exact zc | (with_reducible first | apply And.intro | apply Q0a | apply Q0b | refine Q0c (by decide +kernel) ?_ | intro _) | refine zaY zz.out ?_ | ((first | (with_reducible refine uc (hrow) ?_) | (with_reducible refine uc (t72 _ _) ?_) | (refine Q0d (by exact zK) ?_) | (refine Q0e (by exact zK) ?_)); (try refine zsY zz.out ?_)) | refine zo ?_ | omega | refine ztY zz.out ?_ | fail)); try (all_goals clear zz))
    all_goals first | exact List.length_pos_iff.2 ‹_› | exact ⟨_, .refl _, b_eq (by simp_all <;> omega), rfl⟩
  · (refine vfun (fun _ => .no) Q0h Tryz.func42 (by kernel_rfl) ?_; simp only [Q0f, Tryz.f42, zw])
    (have zz := Bx.mk (j5 ui3 ui4 ui5 ui9 ui122); (repeat' (first | exact zc | (with_reducible first | apply And.intro | apply Q0a | apply Q0b | refine Q0c (by decide +kernel) ?_ | intro _) | refine zaY zz.out ?_ | ((first | (with_reducible refine uc (t72 _ _) ?_) | (refine Q0d (by exact zK) ?_) | (refine Q0e (by exact zK) ?_)); (try refine zsY zz.out ?_)) | refine zo ?_ | omega | refine ztY zz.out ?_ | fail)); try (all_goals clear zz))
    all_goals first | exact List.length_pos_iff.2 ‹_› | exact ⟨_, .refl _, b_eq (by simp_all <;> omega), rfl⟩ | (exfalso; omega)
theorem Q6c (v : Vl) (σ : Sg) : VCalls Tryz.prog 41 [.agg [.i v.1, .i v.2.1, .s (bs v.2.2)]] σ (fun x σ' => x = .b (okV v) ∧ σ' = σ) := by
  obtain ⟨k, n, t⟩ := v
  have h5 := e5 k n t
  unfold okV
  simp only
  generalize X8o k n t = R at *
  (refine vfun (fun _ => .ro) Q0h Tryz.func41 (by kernel_rfl) ?_; simp only [Q0f, Tryz.f41, zw])
  (have zz := Bx.mk (j7 ui0 ui3 ui4 ui9 ui22 ui23 ui30); (repeat' (first | exact zc | (with_reducible first | apply And.intro | apply Q0a | apply Q0b | refine Q0c (by decide +kernel) ?_ | intro _) | refine zaY zz.out ?_ | ((first | (with_reducible refine uc (h5 _) ?_) | (with_reducible refine uc (e5 _ _ _ _) ?_) | (refine Q0d (by exact zK) ?_) | (refine Q0e (by exact zK) ?_)); (try refine zsY zz.out ?_)) | refine zo ?_ | omega | refine ztY zz.out ?_ | fail)); try (all_goals clear zz))
  all_goals exact ⟨_, .refl _, b_eq (by simp_all <;> omega), rfl⟩
theorem rts_any : ∀ l : List Ex, rts l = !(l.any fun e => !rt e)
  | [] => by rw [rts_nil]; rfl
  | e :: r => by rw [Q6y, rts_any r, List.any_cons]; cases rt e <;> simp
theorem exsA_get' {l : List Ex} {k : Nat} (h : k < l.length) : (exsA l).getD k [] = exA l[k] := by
  induction l generalizing k with
  | nil => simp at h
  | cons e r ih =>
    rw [Q2e]
    cases k with
    | zero => rfl
    | succ k => exact ih (by simpa using h)
theorem r_index (l : List Ex) (f : FuncId) (p : Ex → Bool) (o : Own) (hl : l.length ≤ 9223372036854775807) (h : ∀ e ∈ l, ∀ σ, VCalls Tryz.prog f [.agg (exA e)] σ (fun x σ' => x = .b (p e) ∧ σ' = σ)) (σ : Sg) :
    VCalls Tryz.prog 102 [.sl o (exsA l), .fn f []] σ (fun x σ' => ∃ n : Int, (0 ≤ n ↔ l.any p = true) ∧ x = .i n ∧ σ' = σ) := by
  have hn := Q1y l
  (refine vfun (fun _ => .no) Q0h Tryz.func102 (by kernel_rfl) ?_; simp only [Q0f, Tryz.f102, zw])
  (have zz := Bx.mk (j3 ui0 ui3 (j9 ui4 ui9 ui22 ui23 ui24 ui25 ui26 ui34 hn)); (repeat' (first | exact zc | (with_reducible first | apply And.intro | apply Q0a | apply Q0b | refine Q0c (by decide +kernel) ?_ | intro _) | refine zaY zz.out ?_ | ((first | (refine Q0d (by exact zK) ?_) | (refine Q0e (by exact zK) ?_)); (try refine zsY zz.out ?_)) | refine zo ?_ | omega | refine ztY zz.out ?_ | fail)); try (all_goals clear zz))
  refine VW.loop3 (0 : Nat) () () (fun k _ _ => k ≤ l.length ∧ ∀ j (hj : j < l.length), j < k → p l[j] = false) (fun k _ _ => [(0, .sl o (exsA l)), (1, .fn f []), (6, .sl o (exsA l)), (7, .i l.length), (8, .i k)]) (fun _ _ _ => σ) (fun k _ _ => l.length - k) ⟨Nat.zero_le _, fun j hj h => by omega⟩ (.refl _) ?_ ?_
  · simp only [vO, vQ, ↓vP, vE, vS, vB, vL, vF, vM, vN, Q0g, zb, zd, ze, ne_eq, not_false_eq_true, zf, zg, zk, zl, vT]
    all_goals rfl
  rintro k _ _ ⟨hk, hp⟩
  rcases Nat.lt_or_ge k l.length with hk2 | hk2
  · have hg := exsA_get' hk2
    have hc := h l[k] (List.getElem_mem hk2)
    have hel := Q0r l[k]
    have het := Q0q l[k]
    have hpk : p l[k] = true → l.any p = true := fun hh => List.any_eq_true.2 ⟨_, List.getElem_mem hk2, hh⟩
    have hpn : p l[k] = false → ∀ j (hj : j < l.length), j < k + 1 → p l[j] = false := fun hh j hj hjk => by
      rcases Nat.lt_or_ge j k with h' | h'
      · exact hp j hj h'
      · have : j = k := by omega
        subst this; exact hh
    generalize p l[k] = b at *
    generalize exA l[k] = E at *
    (have zz := Bx.mk (j6 ui0 ui3 ui4 ui9 ui22 (j9 ui23 ui24 ui25 ui26 ui34 hn hg hel het)); (repeat' (first | exact zc | (with_reducible first | apply And.intro | apply Q0a | apply Q0b | refine Q0c (by decide +kernel) ?_ | intro _) | refine zaY zz.out ?_ | ((first | (with_reducible refine uc (hc _) ?_) | (refine Q0d (by exact zK) ?_) | (refine Q0e (by exact zK) ?_)); (try refine zsY zz.out ?_)) | refine zo ?_ | omega | refine ztY zz.out ?_ | fail)); try (all_goals clear zz))
    · exact ⟨_, .refl _, k, ⟨fun _ => hpk ‹_›, fun _ => by omega⟩, rfl, rfl⟩
    · exact ⟨k + 1, (), (), ⟨⟨hk2, hpn (by simpa using ‹¬ b = true›)⟩, by omega⟩, .refl _, rfl⟩
  · (have zz := Bx.mk (j3 ui0 ui3 (j9 ui4 ui9 ui22 ui23 ui24 ui25 ui26 ui34 hn)); (repeat' (first | exact zc | (with_reducible first | apply And.intro | apply Q0a | apply Q0b | refine Q0c (by decide +kernel) ?_ | intro _) | refine zaY zz.out ?_ | ((first | (refine Q0d (by exact zK) ?_) | (refine Q0e (by exact zK) ?_)); (try refine zsY zz.out ?_)) | refine zo ?_ | omega | refine ztY zz.out ?_ | fail)); try (all_goals clear zz))
    refine ⟨σ, .refl σ, -1, ?_, rfl, rfl⟩
    refine ⟨fun h => by omega, fun h => ?_⟩
    obtain ⟨e, he, hpe⟩ := List.any_eq_true.1 h
    obtain ⟨j, hj, rfl⟩ := List.getElem_of_mem he
    rw [hp j hj (by omega)] at hpe
    cases hpe
theorem X4g (l : List Ex) (f : FuncId) (p : Ex → Bool) (o : Own) (hl : l.length ≤ 9223372036854775807) (h : ∀ e ∈ l, ∀ σ, VCalls Tryz.prog f [.agg (exA e)] σ (fun x σ' => x = .b (p e) ∧ σ' = σ)) (σ : Sg) :
    VCalls Tryz.prog 43 [.sl o (exsA l), .fn f []] σ (fun x σ' => x = .b (l.any p) ∧ σ' = σ) := by
  have hi := r_index l f p o hl h
  generalize l.any p = b at *
  (refine vfun (fun _ => .no) Q0h Tryz.func43 (by kernel_rfl) ?_; simp only [Q0f, Tryz.f43, zw])
  (have zz := Bx.mk (j9 ui3 ui4 ui9 ui22 ui23 ui24 ui25 ui26 ui34); (repeat' (first | exact zc | (with_reducible first | apply And.intro | apply Q0a | apply Q0b | refine Q0c (by decide +kernel) ?_ | intro _) | refine zaY zz.out ?_ | ((first | ((with_reducible refine zU (hi _) ?_); rintro _ S ⟨n, hn, rfl, rfl⟩) | (refine Q0d (by exact zK) ?_) | (refine Q0e (by exact zK) ?_)); (try refine zsY zz.out ?_)) | refine zo ?_ | omega | refine ztY zz.out ?_ | fail)); try (all_goals clear zz))
  all_goals exact ⟨_, .refl _, b_eq (by simpa using hn), rfl⟩
theorem r_wrong (e : Ex) (h : ∀ σ, VCalls Tryz.prog 20 [.agg (exA e)] σ (fun x σ' => x = .b (rt e) ∧ σ' = σ)) (σ : Sg) : VCalls Tryz.prog 44 [.agg (exA e)] σ (fun x σ' => x = .b (!rt e) ∧ σ' = σ) := by
  have hel := Q0r e
  have het := Q0q e
  generalize exA e = E at *
  generalize rt e = b at *
  (refine vfun (fun _ => .ro) Q0h Tryz.func44 (by kernel_rfl) ?_; simp only [Q0f, Tryz.f44, zw])
  (have zz := Bx.mk (j3 ui0 ui3 (j9 ui4 ui9 ui22 ui23 ui24 ui25 ui26 hel het)); (repeat' (first | exact zc | (with_reducible first | apply And.intro | apply Q0a | apply Q0b | refine Q0c (by decide +kernel) ?_ | intro _) | refine zaY zz.out ?_ | ((first | (with_reducible refine uc (h _) ?_) | (with_reducible refine uc (Q8v _ (by assumption) _) ?_) | (refine Q0d (by exact zK) ?_) | (refine Q0e (by exact zK) ?_)); (try refine zsY zz.out ?_)) | refine zo ?_ | omega | refine ztY zz.out ?_ | fail)); try (all_goals clear zz))
  all_goals first | exact ⟨_, .refl _, rfl⟩ | exact ⟨_, .refl _, rfl, rfl⟩
theorem Q8v (e : Ex) (hL : Lim e) : ∀ σ, VCalls Tryz.prog 20 [.agg (exA e)] σ (fun x σ' => x = .b (rt e) ∧ σ' = σ) := by
  induction hL with
  | mk k op t n v l hl hr hall ih =>
    intro σ
    have hcon := X4g l 44 (fun e => !rt e) .any (by omega) (fun e he σ => r_wrong e (ih e he) σ)
    have hra := rts_any l
    rw [Q5l, rt_mk]
    have hn := Q1y l
    clear hr hall ih
    have hwr := Q6c v
    generalize (l.any fun e => !rt e) = b at *
    rw [hra]
    generalize exsA l = LL at *
    unfold rtN
    generalize hov : okV v = ov at *
    obtain ⟨v1, v2, v3⟩ := v
    simp only at hwr
    by_cases h1 : k = 1
    · subst h1
      (refine vfun (fun k => if k = 1 then .ro else .no) Q0h Tryz.func20 (by kernel_rfl) ?_; simp only [Q0f, Tryz.f20, zw])
      (have zz := Bx.mk (j4 ui0 ui3 ui4 (j9 ui9 ui22 ui23 ui24 ui25 ui26 ui34 hn @eq23)); (repeat' (first | exact zc | (with_reducible first | apply And.intro | apply Q0a | apply Q0b | refine Q0c (by decide +kernel) ?_ | intro _) | ((with_reducible first | refine .dms (fun x => False) [(0, false), (1, false), (2, false), (3, false), (4, false), (5, true), (6, true), (7, true), (8, true)] (by decide) (by decide +kernel) ?_ | refine .dm (fun x => False) [(0, false), (1, false), (2, false), (3, false), (4, false), (5, true), (6, true), (7, true), (8, true)] (by decide) (by decide +kernel) ?_); (refine zsR zz.out ?_)) | refine zaR zz.out ?_ | refine zkN zz.out ?_ | ((first | (refine Q0j (by intro β h; first | (rcases h with h | h <;> subst h <;> (simp (disch := first | assumption | (apply zQ; assumption; assumption) | (apply zR; assumption; assumption; (intro e; cases e; done)) | omega) only [zn, zp, zq, zr, zv])) | (subst h; (simp (disch := first | assumption | (apply zQ; assumption; assumption) | (apply zR; assumption; assumption; (intro e; cases e; done)) | omega) only [zn, zp, zq, zr, zv]))) ?_) | (with_reducible refine uc (hwr _) ?_) | (with_reducible refine uc (hcon _) ?_) | (with_reducible refine uc (Q6c _ _) ?_) | (with_reducible refine uc (Q2n _ _) ?_) | (refine Q0d (by exact zK) ?_) | (refine Q0e (by exact zK) ?_)); (try refine zsR zz.out ?_)) | refine zmR zz.out ?_ | refine zo ?_ | omega | refine ztR zz.out ?_ | fail)); try (all_goals clear zz))
      all_goals exact ⟨σ, (by (exact zu)), b_eq (by simp_all <;> omega), rfl⟩
    by_cases h2 : k = 2
    · subst h2
      rw [if_neg h1]
      have hnn : isNm [] = false := rfl
      generalize hq1 : isNm n = bn at *
      generalize hq2 : isNm t = bt at *
      have hN1 : ∀ σ, VCalls Tryz.prog 42 [.s (bs n)] σ (fun x σ' => x = .b bn ∧ σ' = σ) := fun σ => by rw [← hq1]; exact Q2n n σ
      have hN2 : ∀ σ, VCalls Tryz.prog 42 [.s (bs t)] σ (fun x σ' => x = .b bt ∧ σ' = σ) := fun σ => by rw [← hq2]; exact Q2n t σ
      (refine vfun (fun k => if k = 1 then .ro else .no) Q0h Tryz.func20 (by kernel_rfl) ?_; simp only [Q0f, Tryz.f20, zw])
      (have zz := Bx.mk (j4 ui0 ui3 ui4 (j9 ui9 ui22 ui23 ui24 ui25 ui26 ui34 hn @eq23)); (repeat' (first | exact zc | (with_reducible first | apply And.intro | apply Q0a | apply Q0b | refine Q0c (by decide +kernel) ?_ | intro _) | ((with_reducible first | refine .dms (fun x => False) [(0, false), (1, false), (2, false), (3, false), (4, false), (5, true), (6, true), (7, true), (8, true)] (by decide) (by decide +kernel) ?_ | refine .dm (fun x => False) [(0, false), (1, false), (2, false), (3, false), (4, false), (5, true), (6, true), (7, true), (8, true)] (by decide) (by decide +kernel) ?_); (refine zsR zz.out ?_)) | refine zaR zz.out ?_ | refine zkN zz.out ?_ | ((first | (refine Q0j (by intro β h; first | (rcases h with h | h <;> subst h <;> (simp (disch := first | assumption | (apply zQ; assumption; assumption) | (apply zR; assumption; assumption; (intro e; cases e; done)) | omega) only [zn, zp, zq, zr, zv])) | (subst h; (simp (disch := first | assumption | (apply zQ; assumption; assumption) | (apply zR; assumption; assumption; (intro e; cases e; done)) | omega) only [zn, zp, zq, zr, zv]))) ?_) | (with_reducible refine uc (hN1 _) ?_) | (with_reducible refine uc (hN2 _) ?_) | (with_reducible refine uc (hcon _) ?_) | (with_reducible refine uc (Q6c _ _) ?_) | (with_reducible refine uc (Q2n _ _) ?_) | (refine Q0d (by exact zK) ?_) | (refine Q0e (by exact zK) ?_)); (try refine zsR zz.out ?_)) | refine zmR zz.out ?_ | refine zo ?_ | omega | refine ztR zz.out ?_ | fail)); try (all_goals clear zz))
      all_goals exact ⟨σ, (by (exact zu)), b_eq (by simp_all <;> omega), rfl⟩
    by_cases h3 : k = 3
    · subst h3
      rw [if_neg h1, if_neg h2]
      (refine vfun (fun k => if k = 1 then .ro else .no) Q0h Tryz.func20 (by kernel_rfl) ?_; simp only [Q0f, Tryz.f20, zw])
      (have zz := Bx.mk (j4 ui0 ui3 ui4 (j9 ui9 ui22 ui23 ui24 ui25 ui26 ui34 hn @eq23)); (repeat' (first | exact zc | (with_reducible first | apply And.intro | apply Q0a | apply Q0b | refine Q0c (by decide +kernel) ?_ | intro _) | ((with_reducible first | refine .dms (fun x => False) [(0, false), (1, false), (2, false), (3, false), (4, false), (5, true), (6, true), (7, true), (8, true)] (by decide) (by decide +kernel) ?_ | refine .dm (fun x => False) [(0, false), (1, false), (2, false), (3, false), (4, false), (5, true), (6, true), (7, true), (8, true)] (by decide) (by decide +kernel) ?_); (refine zsR zz.out ?_)) | refine zaR zz.out ?_ | refine zkN zz.out ?_ | ((first | (refine Q0j (by intro β h; first | (rcases h with h | h <;> subst h <;> (simp (disch := first | assumption | (apply zQ; assumption; assumption) | (apply zR; assumption; assumption; (intro e; cases e; done)) | omega) only [zn, zp, zq, zr, zv])) | (subst h; (simp (disch := first | assumption | (apply zQ; assumption; assumption) | (apply zR; assumption; assumption; (intro e; cases e; done)) | omega) only [zn, zp, zq, zr, zv]))) ?_) | (with_reducible refine uc (hcon _) ?_) | (with_reducible refine uc (Q6c _ _) ?_) | (with_reducible refine uc (Q2n _ _) ?_) | (refine Q0d (by exact zK) ?_) | (refine Q0e (by exact zK) ?_)); (try refine zsR zz.out ?_)) | refine zmR zz.out ?_ | refine zo ?_ | omega | refine ztR zz.out ?_ | fail)); try (all_goals clear zz))
      all_goals exact ⟨σ, (by (exact zu)), b_eq (by simp_all <;> omega), rfl⟩
    by_cases h4 : k = 4 ∨ k = 5 ∨ k = 6
    · rw [if_neg h1, if_neg h2, if_neg h3, if_pos h4]
      (refine vfun (fun k => if k = 1 then .ro else .no) Q0h Tryz.func20 (by kernel_rfl) ?_; simp only [Q0f, Tryz.f20, zw])
      (have zz := Bx.mk (j4 ui0 ui3 ui4 (j9 ui9 ui22 ui23 ui24 ui25 ui26 ui34 hn @eq23)); (repeat' (first | exact zc | (with_reducible first | apply And.intro | apply Q0a | apply Q0b | refine Q0c (by decide +kernel) ?_ | intro _) | ((with_reducible first | refine .dms (fun x => False) [(0, false), (1, false), (2, false), (3, false), (4, false), (5, true), (6, true), (7, true), (8, true)] (by decide) (by decide +kernel) ?_ | refine .dm (fun x => False) [(0, false), (1, false), (2, false), (3, false), (4, false), (5, true), (6, true), (7, true), (8, true)] (by decide) (by decide +kernel) ?_); (refine zsR zz.out ?_)) | refine zaR zz.out ?_ | refine zkN zz.out ?_ | ((first | (refine Q0j (by intro β h; first | (rcases h with h | h <;> subst h <;> (simp (disch := first | assumption | (apply zQ; assumption; assumption) | (apply zR; assumption; assumption; (intro e; cases e; done)) | omega) only [zn, zp, zq, zr, zv])) | (subst h; (simp (disch := first | assumption | (apply zQ; assumption; assumption) | (apply zR; assumption; assumption; (intro e; cases e; done)) | omega) only [zn, zp, zq, zr, zv]))) ?_) | (with_reducible refine uc (hcon _) ?_) | (with_reducible refine uc (Q6c _ _) ?_) | (with_reducible refine uc (Q2n _ _) ?_) | (refine Q0d (by exact zK) ?_) | (refine Q0e (by exact zK) ?_)); (try refine zsR zz.out ?_)) | refine zmR zz.out ?_ | refine zo ?_ | omega | refine ztR zz.out ?_ | fail)); try (all_goals clear zz))
      all_goals exact ⟨σ, (by (exact zu)), b_eq (by simp_all <;> omega), rfl⟩
    · rw [if_neg h1, if_neg h2, if_neg h3, if_neg h4]
      (refine vfun (fun k => if k = 1 then .ro else .no) Q0h Tryz.func20 (by kernel_rfl) ?_; simp only [Q0f, Tryz.f20, zw])
      (have zz := Bx.mk (j4 ui0 ui3 ui4 (j9 ui9 ui22 ui23 ui24 ui25 ui26 ui34 hn @eq23)); (repeat' (first | exact zc | (with_reducible first | apply And.intro | apply Q0a | apply Q0b | refine Q0c (by decide +kernel) ?_ | intro _) | ((with_reducible first | refine .dms (fun x => False) [(0, false), (1, false), (2, false), (3, false), (4, false), (5, true), (6, true), (7, true), (8, true)] (by decide) (by decide +kernel) ?_ | refine .dm (fun x => False) [(0, false), (1, false), (2, false), (3, false), (4, false), (5, true), (6, true), (7, true), (8, true)] (by decide) (by decide +kernel) ?_); (refine zsR zz.out ?_)) | refine zaR zz.out ?_ | refine zkN zz.out ?_ | ((first | (refine Q0j (by intro β h; first | (rcases h with h | h <;> subst h <;> (simp (disch := first | assumption | (apply zQ; assumption; assumption) | (apply zR; assumption; assumption; (intro e; cases e; done)) | omega) only [zn, zp, zq, zr, zv])) | (subst h; (simp (disch := first | assumption | (apply zQ; assumption; assumption) | (apply zR; assumption; assumption; (intro e; cases e; done)) | omega) only [zn, zp, zq, zr, zv]))) ?_) | (with_reducible refine uc (hcon _) ?_) | (with_reducible refine uc (Q6c _ _) ?_) | (with_reducible refine uc (Q2n _ _) ?_) | (refine Q0d (by exact zK) ?_) | (refine Q0e (by exact zK) ?_)); (try refine zsR zz.out ?_)) | refine zmR zz.out ?_ | refine zo ?_ | omega | refine ztR zz.out ?_ | fail)); try (all_goals clear zz))
      all_goals exact ⟨σ, (by (exact zu)), b_eq (by simp_all <;> omega), rfl⟩
end Go.Proofs.YtjdapkelojdefaaGreatDoor
namespace Go.Lex
open Go.V Go.Proofs.YtjdapkelojdefaaGreatDoor
theorem pre_join {p : UInt8 → Bool} (hp : p 10 = false) (r t : List UInt8) : pre p (r ++ 10 :: t) = pre p r := by
  unfold pre
  induction r with
  | nil => simp [hp]
  | cons c r ih =>
    simp only [zD, List.takeWhile_cons]
    split
    · simp only [List.length_cons, ih]
    · rfl
theorem Q4j (x : List UInt8) (a c : UInt8) (r : List UInt8) : Q1m (a :: x) (c :: r) = (decide (c = a) && Q1m x r) := by
  simp only [Q1m, List.length_cons, List.take_succ_cons, List.cons.injEq, Bool.decide_and]
theorem X2q : ∀ (x r t : List UInt8), 10 ∉ x → Q1m x (r ++ 10 :: t) = Q1m x r
  | [], _, _, _ => rfl
  | a :: x, [], t, h => by
    rw [zH, Q4j, decide_eq_false (fun e => h (by rw [e]; simp))]
    rfl
  | a :: x, c :: r, t, h => by
    rw [zD, Q4j, Q4j, X2q x r t (fun e => h (by simp [e]))]
theorem X8w : ∀ (r t : List UInt8), r ≠ [] → Q8r (r ++ 10 :: t) = Q8r r
  | [], _, h => absurd rfl h
  | c :: r, t, _ => by
    show (if ws c then 1 else if Q1m [45, 45] (c :: (r ++ 10 :: t)) then pre (· != 10) (c :: (r ++ 10 :: t)) else 0) = _
    rw [← zD, X2q _ _ _ (by decide), pre_join rfl]
    rfl
theorem X8g : ∀ (n : Nat) (r t : List UInt8), r.length ≤ n → Q0t r < r.length → Q0t (r ++ 10 :: t) = Q0t r := by
  intro n
  induction n with
  | zero => intro r t h h'; omega
  | succ n ih =>
    intro r t h h'
    have hne : r ≠ [] := fun e => by subst e; simp at h'
    have hj := X8w r t hne
    by_cases hb : Q8r r = 0
    · rw [Q3n hb, Q3n (by rw [hj]; exact hb)]
    · have hl := X2y r
      rw [Q2q hb] at h'
      rw [Q2q hb, Q2q (by rw [hj]; exact hb), hj, List.drop_append_of_le_length hl]
      rw [ih _ _ (by simp; omega) (by simp; omega)]
theorem X8h : ∀ (n : Nat) (r t : List UInt8), r.length ≤ n → r.length ≤ Q0t r → Q0t (r ++ 10 :: t) = r.length + 1 + Q0t t := by
  intro n
  induction n with
  | zero =>
    intro r t h _
    obtain rfl : r = [] := List.eq_nil_of_length_eq_zero (by omega)
    have hb : Q8r (10 :: t) = 1 := rfl
    rw [zH, Q2q (by rw [hb]; decide), hb]
    rfl
  | succ n ih =>
    intro r t h h'
    by_cases hne : r = []
    · subst hne
      have hb : Q8r (10 :: t) = 1 := rfl
      rw [zH, Q2q (by rw [hb]; decide), hb]
      rfl
    · have hj := X8w r t hne
      have hpos := List.length_pos_iff.2 hne
      by_cases hb : Q8r r = 0
      · rw [Q3n hb] at h'; omega
      · have hl := X2y r
        rw [Q2q hb] at h'
        rw [Q2q (by rw [hj]; exact hb), hj, List.drop_append_of_le_length hl]
        rw [ih _ _ (by simp; omega) (by simp; omega)]
        simp; omega
theorem qd_join : ∀ (r t x : List UInt8) (n : Nat), qd r = some (x, n) → qd (r ++ 10 :: t) = some (x, n)
  | [], _, _, _, h => by cases h
  | [c], t, x, n, h => by
    simp only [qd] at h
    split at h
    · rename_i hc
      subst hc
      cases h
      rfl
    · cases h
  | c :: d :: r, t, x, n, h => by
    by_cases hc : c = 39
    · subst hc
      by_cases hd : d = 39
      · subst hd
        rw [qd_two] at h
        show qd (39 :: 39 :: (r ++ 10 :: t)) = _
        rw [qd_two]
        cases hq : qd r with
        | none => rw [hq] at h; cases h
        | some p => rw [hq] at h; rw [qd_join r t p.1 p.2 hq]; exact h
      · rw [X5o (fun d' r' e => by injection e with e1 e2; rw [← e1]; exact hd)] at h
        show qd (39 :: d :: (r ++ 10 :: t)) = _
        rw [X5o (fun d' r' e => by injection e with e1 e2; rw [← e1]; exact hd)]
        exact h
    · rw [X5n hc] at h
      show qd (c :: (d :: r ++ 10 :: t)) = _
      rw [X5n hc]
      cases hq : qd (d :: r) with
      | none => rw [hq] at h; cases h
      | some p => rw [hq] at h; rw [qd_join (d :: r) t p.1 p.2 hq]; exact h
theorem getD_join {r t : List UInt8} {n : Nat} (h : n < r.length) : (r ++ 10 :: t).getD n 0 = r.getD n 0 := by
  simp [List.getD_eq_getElem?_getD, List.getElem?_append_left h]
theorem glue_join (r t : List UInt8) (n : Nat) (h : n ≤ r.length) : glue (r ++ 10 :: t) n = glue r n := by
  unfold glue
  rcases Nat.lt_or_ge n r.length with h' | h'
  · rw [getD_join h', decide_eq_true h', decide_eq_true (by simp; omega)]
  · have e : (r ++ 10 :: t).getD n 0 = 10 := by
      obtain rfl : n = r.length := by omega
      simp [List.getD_eq_getElem?_getD]
    have h1 : (Q3h 10 || Q1j 10) = false := rfl
    rw [e, h1, Bool.and_false, decide_eq_false (by omega), Bool.false_and]
theorem wl_join (kd : Nat) (p : UInt8 → Bool) (hp : p 10 = false) (r t : List UInt8) : wl kd (r ++ 10 :: t) (pre p (r ++ 10 :: t)) = wl kd r (pre p r) := by
  have hl := X6k p r
  rw [pre_join hp]
  unfold wl X0x
  rw [glue_join r t _ hl, List.take_append_of_le_length hl]
theorem X8x {α : Type} (l : List α) (p q : α → Bool) (h : ∀ x ∈ l, p x = q x) : l.find? p = l.find? q := by
  induction l with
  | nil => rfl
  | cons a r ih => rw [List.find?_cons, List.find?_cons, h a (by simp), ih (fun x hx => h x (by simp [hx]))]
theorem tok1_join (r t : List UInt8) (h0 : 0 < r.length) (h : tok1 r ≠ .error 3) : tok1 (r ++ 10 :: t) = tok1 r := by
  have hg := getD_join (t := t) h0
  by_cases h1 : (r.getD 0 0).toNat = 39
  · rw [tok1_q h1] at h ⊢
    rw [tok1_q (by rw [hg]; exact h1)]
    unfold Q6l at h ⊢
    cases hq : qd (r.drop 1) with
    | none => rw [hq] at h; exact absurd rfl h
    | some p =>
      have := qd_join (r.drop 1) t p.1 p.2 hq
      rw [List.drop_append_of_le_length (by omega), this]
  · by_cases h2 : Q2g (r.getD 0 0) = true
    · rw [tok1_1 h2, tok1_1 (by rw [hg]; exact h2), wl_join _ _ rfl]
    · by_cases h3 : Q1j (r.getD 0 0) = true
      · rw [tok1_2 h3, tok1_2 (by rw [hg]; exact h3), wl_join _ _ rfl]
      · by_cases h4 : Q1z (r.getD 0 0) = true
        · rw [tok1_3 h4, tok1_3 (by rw [hg]; exact h4), wl_join _ _ rfl]
        · rw [tok1_s h1 h2 h3 h4, tok1_s (by rw [hg]; exact h1) (by rw [hg]; exact h2) (by rw [hg]; exact h3) (by rw [hg]; exact h4)]
          rw [X8x signs (fun x => Q1m x (r ++ 10 :: t)) (fun x => Q1m x r) (fun x hx => X2q x r t (by revert x; decide))]
theorem toks_skip {R : List UInt8} {a c : Nat} (hc : c ≤ R.length) (h : Q0t R = c + Q0t (R.drop c)) : toks R a = toks (R.drop c) (a + c) := by
  by_cases hb : R.length ≤ Q0t R
  · rw [Q6x hb, Q6x (by simp; omega), h, Nat.add_assoc]
  · have hd : R.drop (Q0t R) = (R.drop c).drop (Q0t (R.drop c)) := by rw [List.drop_drop, ← h]
    cases ht : tok1 (R.drop (Q0t R)) with
    | error e =>
      rw [X3c (by omega) ht, X3c (by simp; omega) (by rw [← hd]; exact ht), h, Nat.add_assoc]
    | ok p =>
      obtain ⟨k, t, v, m⟩ := p
      have hA := X0y (r := R) (a := a) (by omega) ht
      have hB := X0y (r := R.drop c) (a := a + c) (k := k) (v := v) (n := m) (t := t) (by simp; omega) (by rw [← hd]; exact ht)
      rw [hA, hB, List.drop_drop, h, show a + (c + Q0t (R.drop c)) = a + c + Q0t (R.drop c) by omega, show c + Q0t (R.drop c) + m = c + (Q0t (R.drop c) + m) by omega]
theorem X3i {r t : List UInt8} {a : Nat} (hb : r.length ≤ Q0t r) : toks (r ++ 10 :: t) a = toks t (a + r.length + 1) := by
  have h1 := X8h _ r t (Nat.le_refl _) hb
  have h2 : (r ++ 10 :: t).drop (r.length + 1) = t := by simp
  rw [toks_skip (c := r.length + 1) (by simp) (by rw [h2, h1]), h2, Nat.add_assoc]
theorem toks_join_ok : ∀ (n : Nat) (r t : List UInt8) (a : Nat) (l : List Tk), r.length ≤ n → toks r a = .ok l → ∃ i, l = i ++ [(6, [], 0, a + r.length)] ∧ toks (r ++ 10 :: t) a = appE i (toks t (a + r.length + 1)) := by
  intro n
  induction n with
  | zero =>
    intro r t a l h hl
    have hb := X0w r
    rw [Q6x (by omega)] at hl
    cases hl
    exact ⟨[], by simp; omega, by rw [X9z, X3i (by omega)]⟩
  | succ n ih =>
    intro r t a l h hl
    have hbl := X0w r
    by_cases hb : r.length ≤ Q0t r
    · rw [Q6x hb] at hl
      cases hl
      exact ⟨[], by simp; omega, by rw [X9z, X3i hb]⟩
    · cases ht : tok1 (r.drop (Q0t r)) with
      | error e => rw [X3c (by omega) ht] at hl; cases hl
      | ok p =>
        obtain ⟨k, x, v, m⟩ := p
        have hm := X5p (by simp; omega) ht
        simp only [List.length_drop] at hm
        rw [X0y (by omega) ht] at hl
        have hj := X8g _ r t (Nat.le_refl _) (by omega)
        have htj := tok1_join (r.drop (Q0t r)) t (by simp; omega) (by rw [ht]; intro e; cases e)
        cases hr : toks (r.drop (Q0t r + m)) (a + Q0t r + m) with
        | error q => rw [hr] at hl; cases hl
        | ok l' =>
          rw [hr] at hl
          cases hl
          obtain ⟨i, h1, h2⟩ := ih _ t _ _ (by simp; omega) hr
          refine ⟨(k, x, v, a + Q0t r) :: i, ?_, ?_⟩
          · rw [h1]; simp; omega
          · rw [X0y (by rw [hj]; simp; omega) (by rw [hj, List.drop_append_of_le_length hbl, htj, ht]), hj, List.drop_append_of_le_length (by omega), h2, X6m]
            simp only [List.length_drop, zD, zH]
            congr 2; omega
end Go.Lex
namespace Go.Print
open Go.V Go.Lex Go.Parse Go.Proofs.YtjdapkelojdefaaGreatDoor
def GoodT (t : Tk) : Prop :=
  (t.1 = 1 ∧ isNm t.2.1 = true ∧ t.2.2.1 = 0) ∨ (t.1 = 2 ∧ Q7p t.2.1 = true ∧ t.2.2.1 = 0) ∨ (t.1 = 3 ∧ t.2.1 = [] ∧ t.2.2.1 ≤ 9223372036854775807) ∨
  (t.1 = 4 ∧ t.2.1.length ≤ 40 ∧ t.2.2.1 = 0) ∨ (t.1 = 5 ∧ t.2.1 ∈ signs ∧ t.2.2.1 = 0)
def noAt (t : Tk) : Nat × By × Nat := (t.1, t.2.1, t.2.2.1)
def Sp1 (b : By) : Prop := b = [] ∨ ∃ r, b = 32 :: r
theorem Sp1.loose {b : By} (h : Sp1 b) : Loose b := by
  rcases h with rfl | ⟨r, rfl⟩
  · exact loose_nil
  · exact loose_blank r
theorem Sp1.head {b : By} (h : Sp1 b) {c : UInt8} {r : By} (e : b = c :: r) : c = 32 := by
  rcases h with rfl | ⟨r', rfl⟩
  · cases e
  · cases e; rfl
theorem X5u {s : By} (h : isNm s = true) : s ≠ [] ∧ s.length ≤ 16 ∧ Q2g (s.getD 0 0) = true ∧ pre Q3h s = s.length := by
  unfold isNm at h
  simp only [Bool.and_eq_true, decide_eq_true_eq] at h
  exact ⟨h.1.1.1, h.1.1.2, h.1.2, h.2⟩
theorem X8y {p : UInt8 → Bool} : ∀ {s : By}, pre p s = s.length → ∀ c ∈ s, p c = true
  | [], _, c, hc => by cases hc
  | x :: s, h, c, hc => by
    unfold pre at h
    rw [List.takeWhile_cons] at h
    split at h
    · rename_i hx
      rcases List.mem_cons.1 hc with rfl | hc
      · exact hx
      · refine X8y (s := s) ?_ c hc
        simpa [pre] using h
    · simp at h
theorem X1q {s b : By} (h : s ≠ []) : (s ++ b).getD 0 0 = s.getD 0 0 := by
  cases s with
  | nil => exact absurd rfl h
  | cons => rfl
theorem X3j {s : By} (h : Q7p s = true) : s ∈ words := by
  have h := of_decide_eq_true h
  unfold idx at h
  refine Classical.byContradiction fun hn => ?_
  have : words.takeWhile (fun w => w != s) = words := by
    have hall : ∀ w ∈ words, (fun w => w != s) w = true := fun w hw => by
      simp only [bne_iff_ne, ne_eq]
      intro e
      subst e
      exact hn hw
    generalize words = l at hall
    induction l with
    | nil => rfl
    | cons a r ih => rw [List.takeWhile_cons, if_pos (hall a (by simp)), ih (fun w hw => hall w (by simp [hw]))]
  rw [this] at h
  omega
theorem X6z : ∀ s ∈ words, s ≠ [] ∧ (∀ c ∈ s, Q1j c = true) ∧ Q1j (s.getD 0 0) = true := by decide +kernel
theorem tok1_name {s b : By} (h : isNm s = true) (hb : Sp1 b) : tok1 (s ++ b) = .ok (1, s, 0, s.length) := by
  obtain ⟨h0, h1, h2, h3⟩ := X5u h
  have hp : pre Q3h (s ++ b) = s.length := X5r (X8y h3) (fun c r e => (hb.loose c r e).1)
  rw [tok1_1 (by rw [X1q h0]; exact h2), hp]
  refine wl_ok ?_
  rw [wordT_1 (X4a hb.loose), if_neg (by omega), List.take_left]
theorem tok1_word {s b : By} (h : Q7p s = true) (hb : Sp1 b) : tok1 (s ++ b) = .ok (2, s, 0, s.length) := by
  obtain ⟨h0, h1, h2⟩ := X6z s (X3j h)
  have hp : pre Q1j (s ++ b) = s.length := X5r h1 (fun c r e => (hb.loose c r e).2)
  rw [tok1_2 (by rw [X1q h0]; exact h2), hp]
  refine wl_ok ?_
  rw [wordT_2 (X4a hb.loose), List.take_left, if_pos h]
theorem X7a : ∀ s ∈ signs, s ≠ [] ∧ (s.getD 0 0).toNat ≠ 39 ∧ Q2g (s.getD 0 0) = false ∧ Q1j (s.getD 0 0) = false ∧ Q1z (s.getD 0 0) = false ∧ ws (s.getD 0 0) = false ∧ (s.getD 1 0).toNat ≠ 45 := by decide +kernel
theorem hasPre_sp {m s b : By} (hm : 32 ∉ m) (hb : Sp1 b) : Q1m m (s ++ b) = Q1m m s := by
  rcases hb with rfl | ⟨r, rfl⟩
  · rw [List.append_nil]
  · induction m generalizing s with
    | nil => rfl
    | cons a m ih =>
      have ha : (32 : UInt8) ≠ a := fun e => hm (by simp [e])
      have hm' : 32 ∉ m := fun h => hm (by simp [h])
      cases s with
      | nil =>
        rw [zH, Q4j, decide_eq_false ha]
        exact (Q8d (by simp)).symm
      | cons c s => rw [zD, Q4j, Q4j, ih hm']
theorem signs_plain : ∀ m ∈ signs, (32 : UInt8) ∉ m := by decide +kernel
theorem signs_find : ∀ s ∈ signs, signs.find? (fun x => Q1m x s) = some s := by decide +kernel
theorem tok1_sign {s b : By} (h : s ∈ signs) (hb : Sp1 b) : tok1 (s ++ b) = .ok (5, s, 0, s.length) := by
  obtain ⟨h0, h1, h2, h3, h4, _, _⟩ := X7a s h
  rw [tok1_s (by rw [X1q h0]; exact h1) (by rw [X1q h0, h2]; simp) (by rw [X1q h0, h3]; simp) (by rw [X1q h0, h4]; simp)]
  have : signs.find? (fun x => Q1m x (s ++ b)) = some s := by
    rw [X8x signs _ (fun x => Q1m x s) (fun x hx => hasPre_sp (signs_plain x hx) hb)]
    exact signs_find s h
  rw [this]
theorem tok1_txt {t : Tk} {b : By} (h : GoodT t) (hb : Sp1 b) : tok1 (txt t ++ b) = .ok (t.1, t.2.1, t.2.2.1, (txt t).length) := by
  obtain ⟨k, s, n, a⟩ := t
  rcases h with ⟨rfl, h1, rfl⟩ | ⟨rfl, h1, rfl⟩ | ⟨rfl, rfl, h1⟩ | ⟨rfl, h1, rfl⟩ | ⟨rfl, h1, rfl⟩
  · exact tok1_name h1 hb
  · exact tok1_word h1 hb
  · exact tok1_dec h1 hb.loose
  · exact tok1_quote h1 (fun c r e => by rw [hb.head e]; decide)
  · exact tok1_sign h1 hb
theorem X8z {c : UInt8} (h : Q3h c = true ∨ Q1j c = true) : ws c = false ∧ c.toNat ≠ 45 := by
  have h1 : (97 ≤ c.toNat ∧ c.toNat ≤ 122 ∨ c.toNat = 95) ∨ (48 ≤ c.toNat ∧ c.toNat ≤ 57) ∨ (65 ≤ c.toNat ∧ c.toNat ≤ 90) := by
    rcases h with h | h
    · simp only [Q3h, Q2g, Q1z, Bool.or_eq_true, Bool.and_eq_true, decide_eq_true_eq] at h
      rcases h with (h | h) | h
      · exact .inl (.inl h)
      · exact .inl (.inr h)
      · exact .inr (.inl h)
    · simp only [Q1j, Bool.and_eq_true, decide_eq_true_eq] at h
      exact .inr (.inr h)
  refine ⟨?_, by omega⟩
  cases hw : ws c with
  | false => rfl
  | true => have := (ws_iff c).1 hw; omega
theorem txt_head {t : Tk} {b : By} (h : GoodT t) (hb : Sp1 b) : Q0t (txt t ++ b) = 0 ∧ txt t ≠ [] := by
  obtain ⟨k, s, n, a⟩ := t
  rcases h with ⟨rfl, h1, rfl⟩ | ⟨rfl, h1, rfl⟩ | ⟨rfl, rfl, h1⟩ | ⟨rfl, h1, rfl⟩ | ⟨rfl, h1, rfl⟩
  · obtain ⟨h0, _, h2, _⟩ := X5u h1
    have := X8z (c := s.getD 0 0) (.inl (by unfold Q3h; rw [h2]; rfl))
    refine ⟨?_, h0⟩
    show Q0t (s ++ b) = 0
    cases s with
    | nil => exact absurd rfl h0
    | cons c r => exact Q9z this.1 this.2
  · obtain ⟨h0, _, h2⟩ := X6z s (X3j h1)
    have := X8z (c := s.getD 0 0) (.inr h2)
    refine ⟨?_, h0⟩
    show Q0t (s ++ b) = 0
    cases s with
    | nil => exact absurd rfl h0
    | cons c r => exact Q9z this.1 this.2
  · exact ⟨dec_head, dec_ne n⟩
  · exact ⟨quote_head, by show Q8h s ≠ []; unfold Q8h; simp⟩
  · obtain ⟨h0, _, _, _, _, h5, h6⟩ := X7a s h1
    refine ⟨?_, h0⟩
    show Q0t (s ++ b) = 0
    refine Q3n ?_
    cases s with
    | nil => exact absurd rfl h0
    | cons c r =>
      have hdd : Q1m [45, 45] ((c :: r) ++ b) = false := by
        rw [hasPre_sp (by decide) hb]
        cases r with
        | nil => exact Q8d (by simp)
        | cons d r =>
          have hd : d.toNat ≠ 45 := h6
          rw [Q4j, Q4j]
          have : decide (d = 45) = false := decide_eq_false (fun e => hd (by rw [e]; rfl))
          rw [this]; simp
      have := X2z (l := (c :: r) ++ b) (k := 0) (by simp)
      rw [List.drop_zero] at this
      rw [this, hdd]
      have hc : ws (((c :: r) ++ b).getD 0 0) = false := h5
      rw [hc]
      simp
theorem blanks_sp (R : By) : Q0t (32 :: R) = 1 + Q0t R := by
  have hb : Q8r (32 :: R) = 1 := by
    have := X2z (l := 32 :: R) (k := 0) (by simp)
    rw [List.drop_zero] at this
    rw [this]
    exact if_pos (by rfl)
  rw [Q2q (by rw [hb]; decide), hb]
  rfl
theorem toks_sp (R : By) (a : Nat) : toks (32 :: R) a = toks R (a + 1) := toks_skip (R := 32 :: R) (c := 1) (by simp) (blanks_sp R)
theorem X7b : ∀ (l : List Tk) (a : Nat), (∀ t ∈ l, GoodT t) → ∃ m, toks (Q4s (l.map txt)) a = .ok (m ++ [(6, [], 0, a + (Q4s (l.map txt)).length)]) ∧ m.map noAt = l.map noAt
  | [], a, _ => ⟨[], by
      have : Q0t [] = 0 := Q3n rfl
      show toks [] a = _
      rw [Q6x (by simp), this]; rfl, rfl⟩
  | [x], a, h => by
    have hx := h x (by simp)
    obtain ⟨h1, h2⟩ := txt_head (b := []) hx (.inl rfl)
    have h3 := tok1_txt (b := []) hx (.inl rfl)
    rw [List.append_nil] at h1 h3
    exact ⟨[(x.1, x.2.1, x.2.2.1, a)], toks_one h2 h1 h3 a, rfl⟩
  | x :: y :: r, a, h => by
    have hx := h x (by simp)
    have e : Q4s ((x :: y :: r).map txt) = txt x ++ 32 :: Q4s ((y :: r).map txt) := rfl
    obtain ⟨m, hm1, hm2⟩ := X7b (y :: r) (a + (txt x).length + 1) (fun t ht => h t (by simp [ht]))
    have hsp : Sp1 (32 :: Q4s ((y :: r).map txt)) := .inr ⟨_, rfl⟩
    obtain ⟨h1, h2⟩ := txt_head hx hsp
    have h3 := tok1_txt hx hsp
    refine ⟨(x.1, x.2.1, x.2.2.1, a) :: m, ?_, by rw [List.map_cons, hm2]; rfl⟩
    rw [e]
    have hl : 0 < (txt x ++ 32 :: Q4s ((y :: r).map txt)).length := by simp only [List.length_append, List.length_cons]; omega
    rw [X0y (by rw [h1]; exact hl) (by rw [h1]; exact h3), h1, Nat.zero_add, List.drop_left, toks_sp, Nat.add_zero, hm1]
    simp [appE]
    omega
end Go.Print
