/- Part 11 of the proof: E4, E7, E6, E5, E8, E9, E11, E10, V23. -/
import Derived.Test.YtjdapkelojdefaaGreatDoorN10
import Derived.Test.YtjdapkelojdefaaGreatDoorN7
import Derived.Test.YtjdapkelojdefaaGreatDoorN6
import Derived.Test.YtjdapkelojdefaaGreatDoorN8
import Derived.Test.YtjdapkelojdefaaGreatDoorN4

set_option linter.all false
set_option maxRecDepth 100000
set_option maxHeartbeats 4000000
open Nat renaming reduceEqDiff → zb, reduceAdd → zc, reduceLeDiff → zd, reduceMul → ze, reduceSub → zf
open Int renaming toNat_zero → zj, reduceToNat → zk
open Go.V.Sg renaming set_same → zm
open Option renaming getD_some → zr
open Go.Cert renaming ne_of2 → zv, ne_ob → zw, lk → zx
open Go.V.VCalls renaming mono → zy
open Go.Proofs.Tryz renaming underlying3 → Z3, underlying5 → Z5, underlying9 → Z9, underlying150 → Z150, underlying179 → Z179, underlying187 → Z187
set_option linter.unusedSimpArgs false
set_option linter.unusedVariables false
namespace Go.Lex
open Go.V Go.Proofs.YtjdapkelojdefaaGreatDoor
def smallsL : List UInt8 := (([48, 48, 48, 49, 48, 50, 48, 51, 48, 52, 48, 53, 48, 54, 48, 55, 48, 56, 48, 57, 49, 48, 49, 49, 49, 50, 49, 51, 49, 52, 49, 53, 49, 54, 49, 55, 49, 56, 49, 57, 50, 48, 50, 49, 50, 50, 50, 51, 50, 52].append [50, 53, 50, 54, 50, 55, 50, 56, 50, 57, 51, 48, 51, 49, 51, 50, 51, 51, 51, 52, 51, 53, 51, 54, 51, 55, 51, 56, 51, 57, 52, 48, 52, 49, 52, 50, 52, 51, 52, 52, 52, 53, 52, 54, 52, 55, 52, 56, 52, 57]).append ([53, 48, 53, 49, 53, 50, 53, 51, 53, 52, 53, 53, 53, 54, 53, 55, 53, 56, 53, 57, 54, 48, 54, 49, 54, 50, 54, 51, 54, 52, 54, 53, 54, 54, 54, 55, 54, 56, 54, 57, 55, 48, 55, 49, 55, 50, 55, 51, 55, 52].append [55, 53, 55, 54, 55, 55, 55, 56, 55, 57, 56, 48, 56, 49, 56, 50, 56, 51, 56, 52, 56, 53, 56, 54, 56, 55, 56, 56, 56, 57, 57, 48, 57, 49, 57, 50, 57, 51, 57, 52, 57, 53, 57, 54, 57, 55, 57, 56, 57, 57]))
theorem sm_fold : (⟨((([48, 48, 48, 49, 48, 50, 48, 51, 48, 52, 48, 53, 48, 54, 48, 55, 48, 56, 48, 57, 49, 48, 49, 49, 49, 50, 49, 51, 49, 52, 49, 53, 49, 54, 49, 55, 49, 56, 49, 57, 50, 48, 50, 49, 50, 50, 50, 51, 50, 52].append [50, 53, 50, 54, 50, 55, 50, 56, 50, 57, 51, 48, 51, 49, 51, 50, 51, 51, 51, 52, 51, 53, 51, 54, 51, 55, 51, 56, 51, 57, 52, 48, 52, 49, 52, 50, 52, 51, 52, 52, 52, 53, 52, 54, 52, 55, 52, 56, 52, 57]).append ([53, 48, 53, 49, 53, 50, 53, 51, 53, 52, 53, 53, 53, 54, 53, 55, 53, 56, 53, 57, 54, 48, 54, 49, 54, 50, 54, 51, 54, 52, 54, 53, 54, 54, 54, 55, 54, 56, 54, 57, 55, 48, 55, 49, 55, 50, 55, 51, 55, 52].append [55, 53, 55, 54, 55, 55, 55, 56, 55, 57, 56, 48, 56, 49, 56, 50, 56, 51, 56, 52, 56, 53, 56, 54, 56, 55, 56, 56, 56, 57, 57, 48, 57, 49, 57, 50, 57, 51, 57, 52, 57, 53, 57, 54, 57, 55, 57, 56, 57, 57]))).toArray⟩ : ByteArray) = bs smallsL := rfl
theorem sm_len : smallsL.length = 200 := by decide +kernel
theorem sm_even : ∀ j, j < 100 → smallsL.getD (j * 2) 0 = UInt8.ofNat (48 + j / 10) := by decide +kernel
theorem sm_odd : ∀ j, j < 100 → smallsL.getD (j * 2 + 1) 0 = UInt8.ofNat (48 + j % 10) := by decide +kernel
theorem take_app {α : Type} (P L : List α) (k : Nat) : List.take (P.length + k) (P ++ L) = P ++ List.take k L := by simp [List.take_append, List.take_of_length_le]
theorem drop_app {α : Type} (P L : List α) (k : Nat) : List.drop (P.length + k + 1) (P ++ L) = List.drop (k + 1) L := by
  rw [Nat.add_assoc]
  simp [List.drop_append, List.drop_of_length_le]
theorem take_app0 {α : Type} (P L : List α) : List.take P.length (P ++ L) = P := by simp
theorem drop_app0 {α : Type} (P L : List α) : List.drop (P.length + 1) (P ++ L) = List.drop 1 L := by
  simp [List.drop_append, List.drop_of_length_le]
theorem smE {k : Nat} (h : k < 100) : (smallsL.getD (k * 2) 0).toNat = 48 + k / 10 := by
  rw [sm_even k h, UInt8.toNat_ofNat']
  omega
theorem smO {k : Nat} (h : k < 100) : (smallsL.getD (k * 2 + 1) 0).toNat = 48 + k % 10 := by
  rw [sm_odd k h, UInt8.toNat_ofNat']
  omega
theorem nz8 : ((100000000 : Int) = 0) = False := by simp
theorem nz4 : ((10000 : Int) = 0) = False := by simp
theorem nz2 : ((100 : Int) = 0) = False := by simp
theorem tm8 (v : Nat) : (v : Int).tmod 100000000 = ((v % 100000000 : Nat) : Int) := rfl
theorem tm4 (v : Nat) : (v : Int).tmod 10000 = ((v % 10000 : Nat) : Int) := rfl
theorem tm2 (v : Nat) : (v : Int).tmod 100 = ((v % 100 : Nat) : Int) := rfl
theorem td8 (v : Nat) : (v : Int).tdiv 100000000 = ((v / 100000000 : Nat) : Int) := rfl
theorem td4 (v : Nat) : (v : Int).tdiv 10000 = ((v / 10000 : Nat) : Int) := rfl
theorem td2 (v : Nat) : (v : Int).tdiv 100 = ((v / 100 : Nat) : Int) := rfl
theorem cm2 (v : Nat) : (v : Int) * 2 = ((v * 2 : Nat) : Int) := rfl
theorem ca1 (v : Nat) : (v : Int) + 1 = ((v + 1 : Nat) : Int) := rfl
theorem wr32 (v : Nat) : IntKind.u32.wrap (v : Int) = ((v % 4294967296 : Nat) : Int) := rfl
theorem wr64 (v : Nat) : IntKind.u64.wrap (v : Int) = ((v % 18446744073709551616 : Nat) : Int) := rfl
theorem wrN {n : Nat} (h : n < 4294967296) : IntKind.u32.wrap (n : Int) = n := by rw [wr32, Nat.mod_eq_of_lt h]
theorem wrM {n : Nat} (h : n < 18446744073709551616) : IntKind.u64.wrap (n : Int) = n := by rw [wr64, Nat.mod_eq_of_lt h]
def u8s (l : List UInt8) : List AV := l.map fun c => AV.u8 c.toNat
theorem u8s_app (a b : List UInt8) : u8s (a ++ b) = u8s a ++ u8s b := by simp [u8s]
theorem u8s_len (a : List UInt8) : (u8s a).length = a.length := by simp [u8s]
end Go.Lex
namespace Go.Proofs.YtjdapkelojdefaaGreatDoor
open Go Go.V Go.Lex
theorem len8 {l : List AV} (h : l.length = 8) : ∃ a b c d e f g i, l = [a, b, c, d, e, f, g, i] := by
  match l, h with
  | [a, b, c, d, e, f, g, i], _ => exact ⟨a, b, c, d, e, f, g, i, rfl⟩
end Go.Proofs.YtjdapkelojdefaaGreatDoor

set_option linter.unusedSimpArgs false
set_option linter.unusedVariables false
namespace Go.Proofs.YtjdapkelojdefaaGreatDoor
open Go Go.V Go.Lex
theorem cutq {P : Program} {H : Nat → Hint} {n : Nat} {Q : VX → (Nat → AV) → Sg → Prop} {ρ : Nat → AV} {σ : Sg} {α : Type} {x y : Code} (Inv : α → Prop) (vals : α → List (Nat × AV)) (sg : α → Sg) (h : VW P H n x (sq (At Inv vals sg) Q) ρ σ) (h' : ∀ z, Inv z → VW P H n y Q (env (vals z)) (sg z)) : VW P H n x (sq (VW P H n y Q) Q) ρ σ := by
  refine h.mono (fun e ρ σ hq => ?_)
  cases e with
  | normal =>
    obtain ⟨z, hz, hs, hv⟩ := hq
    exact ((h' z hz).weak (Holds.weak hv)).forget hs
  | exit id => exact hq
  | ret => exact hq
theorem cut_list (A mid : List AV) (m n off : Nat) (hA : A.length = off) (hmn : m + n ≤ mid.length) : ∃ P E : List AV, A ++ mid.take m = P ∧ P.length = off + m ∧ E.length = n ∧ A ++ mid.take (m + n) = P ++ E :=
  ⟨_, (mid.drop m).take n, rfl, by simp; omega, by simp; omega, by rw [List.take_add, List.append_assoc]⟩
theorem len4 {l : List AV} (h : l.length = 4) : ∃ a b c d, l = [a, b, c, d] := by
  match l, h with
  | [a, b, c, d], _ => exact ⟨a, b, c, d, rfl⟩
theorem len2 {l : List AV} (h : l.length = 2) : ∃ a b, l = [a, b] := by
  match l, h with
  | [a, b], _ => exact ⟨a, b, rfl⟩
theorem cons_u8 {a b : Nat} {T T' : List AV} (h : a = b) (h' : T = T') : AV.u8 a :: T = AV.u8 b :: T' := by rw [h, h']
theorem u8s8 (x : Nat) (hx : x < 100000000) (T : List AV) : u8s (padD 8 x) ++ T = .u8 (48 + x / 10000 / 100 / 10 : Nat) :: .u8 (48 + x / 10000 / 100 % 10 : Nat) :: .u8 (48 + x / 10000 % 100 / 10 : Nat) :: .u8 (48 + x / 10000 % 100 % 10 : Nat) :: .u8 (48 + x % 10000 / 100 / 10 : Nat) :: .u8 (48 + x % 10000 / 100 % 10 : Nat) :: .u8 (48 + x % 10000 % 100 / 10 : Nat) :: .u8 (48 + x % 10000 % 100 % 10 : Nat) :: T := by
  rw [pad8]
  simp only [u8s, List.map_cons, List.map_nil, List.cons_append, List.nil_append, UInt8.toNat_ofNat']
  repeat (refine cons_u8 (by omega) ?_)
  rfl
theorem u8s4 (x : Nat) (hx : x < 10000) (T : List AV) : u8s (padD 4 x) ++ T = .u8 (48 + x / 100 / 10 : Nat) :: .u8 (48 + x / 100 % 10 : Nat) :: .u8 (48 + x % 100 / 10 : Nat) :: .u8 (48 + x % 100 % 10 : Nat) :: T := by
  rw [pad4]
  simp only [u8s, List.map_cons, List.map_nil, List.cons_append, List.nil_append, UInt8.toNat_ofNat']
  repeat (refine cons_u8 (by omega) ?_)
  rfl
theorem u8s2 (x : Nat) (hx : x < 100) (T : List AV) : u8s (padD 2 x) ++ T = .u8 (48 + x / 10 : Nat) :: .u8 (48 + x % 10 : Nat) :: T := by
  rw [pad2]
  simp only [u8s, List.map_cons, List.map_nil, List.cons_append, List.nil_append, UInt8.toNat_ofNat']
  repeat (refine cons_u8 (by omega) ?_)
  rfl
theorem pad_lt (k m v : Nat) (h : v < 10 ^ (m + k)) : v / 10 ^ k < 10 ^ m := Nat.div_lt_of_lt_mul (by rw [Nat.pow_add, Nat.mul_comm] at h; exact h)
theorem padD_mod : ∀ (k v : Nat), padD k (v % 10 ^ k) = padD k v
  | 0, _ => rfl
  | k + 1, v => by
    have e1 : v % 10 ^ (k + 1) / 10 = v / 10 % 10 ^ k := by rw [Nat.pow_succ, Nat.mul_comm]; exact Nat.mod_mul_right_div_self ..
    have e2 : v % 10 ^ (k + 1) % 10 = v % 10 := by rw [Nat.pow_succ, Nat.mul_comm]; exact Nat.mod_mul_right_mod ..
    rw [padD, e1, e2, padD_mod k, padD]
theorem pad_next (k m v : Nat) (dn L : List UInt8) (h : padD (m + k) v ++ dn = L) : padD m (v / 10 ^ k) ++ (padD k (v % 10 ^ k) ++ dn) = L := by
  rw [← h, padD_add, padD_mod, List.append_assoc]
end Go.Proofs.YtjdapkelojdefaaGreatDoor

set_option linter.unusedSimpArgs false
set_option linter.unusedVariables false
namespace Go.Proofs.YtjdapkelojdefaaGreatDoor
open Go Go.V Go.Lex
theorem e44 (β off ND u : Nat) (A mid D : List AV) (σ : Sg) (hβ : σ β = some (.cells 178 (A ++ mid ++ D))) (hA : A.length = off) (hm : mid.length = ND) (hu : u < 10 ^ ND) (h64 : u < 2 ^ 64) (hND : ND ≤ 20) :
    VCalls Tryz.prog 191 [.ms β off ND 1, .val (.int .u64 u)] σ (fun x σ' => x = .tup [] ∧ σ' = σ.set β (.cells 178 (A ++ u8s (padD ND u) ++ D))) := by
  (refine vfun (fun _ => .no) mixed Tryz.func191 (by kernel_rfl) ?_; simp only [bodyOf, Tryz.f191, zr])
  simp only [sm_fold]
  repeat' (first | with_reducible rfl | exact trivial | exact .inr trivial | (with_reducible first | apply And.intro | apply vqx_step | apply vqm_step | refine vkp_free (by decide +kernel) ?_ | intro _) | refine zaW (j6 ui3 ui150 ui179 ui187 ui5 ui9) ?_ | (with_reducible first | refine vfresh_set ?_ | refine vfresh_intro (fun _ _ => ?_) | refine vif_intro (fun _ => ?_) (fun _ => ?_)) | omega | refine zt (j6 ui3 ui150 ui179 ui187 ui5 ui9) ?_ | fail)
  refine VW.loop3 ND u ([] : List UInt8) (fun nd v dn => nd ≤ ND ∧ padD nd v ++ dn = padD ND u ∧ v < 10 ^ nd ∧ v < 2 ^ 64) (fun nd v _ => [(0, .ms β off ND 1), (1, .val (.int .u64 v)), (4, .i nd)]) (fun nd _ dn => σ.set β (.cells 178 (A ++ mid.take nd ++ (u8s dn ++ D)))) (fun nd _ _ => nd) ⟨Nat.le_refl _, by simp, hu, h64⟩ ?_ ?_ ?_
  · rw [List.take_of_length_le (by omega)]
    show (σ.set β (.cells 178 (A ++ mid ++ ([] ++ D)))).sub σ
    rw [List.nil_append, Sg.set_id hβ]
    exact .refl _
  · simp only [vO, vQ, ↓vP, vE, vS, vB, vL, vF, vM, vN, vbs_full, zb, zc, zd, ne_eq, not_false_eq_true, ze, zf, zj, zk, vT]
    all_goals rfl
  rintro nd v dn ⟨g1, g2, g3, g4⟩
  by_cases h8 : 8 ≤ nd
  · obtain ⟨m, rfl⟩ : ∃ m, nd = m + 8 := ⟨nd - 8, by omega⟩
    obtain ⟨P, E, hPe, hP, hE, hc⟩ := cut_list A mid m 8 off hA (by omega)
    obtain ⟨a, b, c, d, e, f, g, i, rfl⟩ := len8 hE
    have hc2 : A ++ mid.take (m + 8) ++ (u8s dn ++ D) = P ++ a :: b :: c :: d :: e :: f :: g :: i :: (u8s dn ++ D) := by rw [hc]; simp
    rw [hc2]
    clear hc2
    have hleaf : ∀ S, (σ.set β (.cells 178 (A ++ mid.take m ++ (u8s (padD 8 (v % 10 ^ 8) ++ dn) ++ D)))).sub S ↔ (σ.set β (.cells 178 (P ++ (u8s (padD 8 (v % 100000000)) ++ (u8s dn ++ D))))).sub S := fun S => by rw [hPe, u8s_app, List.append_assoc]
    rw [u8s8 _ (by omega)] at hleaf
    generalize hT : u8s dn ++ D = T at *
    simp only [vO, vQ, ↓vP, vE, vS, vB, vL, vF, vM, vN, vbs_full, zb, zc, zd, ne_eq, not_false_eq_true, ze, zf, zj, zk, vT]
    iterate 12 (all_goals (try ((first | (with_reducible first | refine .rs ?_ | refine .ds (by kernel_rfl) ?_ | refine .dg (by kernel_rfl) ?_ | refine .rg ?_ | refine .ite ?_ | refine .ret ?_ | refine .skip ?_ | refine .exit ?_ | refine .scope ?_ | refine .seq (.label ?_) | refine .block ?_ | refine .seq ?_)); (try simp only [vO, vQ, ↓vP, vE, vS, vB, vL, vF, vM, vN, vbs_full, zb, zc, zd, ne_eq, not_false_eq_true, ze, zf, zj, zk, Z3, info3, Z150, info150, Z179, info179, Z187, info187, Z5, info5, Z9, info9, vT]))))
    refine vif_intro (fun _ => ?_) (fun h => absurd (show (8:Int) ≤ ((m+8 : Nat) : Int) by omega) h)
    iterate 7 ((first | (with_reducible first | refine .rs ?_ | refine .ds (by kernel_rfl) ?_ | refine .dg (by kernel_rfl) ?_ | refine .rg ?_ | refine .ite ?_ | refine .ret ?_ | refine .skip ?_ | refine .exit ?_ | refine .scope ?_ | refine .seq (.label ?_) | refine .block ?_ | refine .seq ?_)); (try simp only [vO, vQ, ↓vP, vE, vS, vB, vL, vF, vM, vN, vbs_full, zb, zc, zd, ne_eq, not_false_eq_true, ze, zf, zj, zk, Z3, info3, Z150, info150, Z179, info179, Z187, info187, Z5, info5, Z9, info9, nz8, nz4, nz2, not_false_eq_true, true_and, vT]))
    simp (disch := omega) only [tm8, td8, wrN, wrM, tm4, td4, tm2, td2, cm2]
    refine VW.weak (Holds.weak (vals := [(0, .ms β off ND 1), (1, .val (.int .u64 (v / 100000000 : Nat))), (4, .i (m + 8 : Nat)), (8, .val (.int .u32 (v % 100000000 % 10000 / 100 * 2 : Nat))), (9, .val (.int .u32 (v % 100000000 % 10000 % 100 * 2 : Nat))), (10, .val (.int .u32 (v % 100000000 / 10000 / 100 * 2 : Nat))), (11, .val (.int .u32 (v % 100000000 / 10000 % 100 * 2 : Nat)))]) ?_) ?_
    · refine Holds_at ?_
      simp only [vO, vQ, ↓vP, vE, vS, vB, vL, vF, vM, vN, vbs_full, zb, zc, zd, ne_eq, not_false_eq_true, ze, zf, zj, zk, vT]
    have j1 : v % 100000000 % 10000 % 100 < 100 := by omega
    have j2 : v % 100000000 % 10000 / 100 < 100 := by omega
    have j3 : v % 100000000 / 10000 % 100 < 100 := by omega
    have j4 : v % 100000000 / 10000 / 100 < 100 := by omega
    generalize v % 100000000 % 10000 % 100 = k1 at *
    generalize v % 100000000 % 10000 / 100 = k2 at *
    generalize v % 100000000 / 10000 % 100 = k3 at *
    generalize v % 100000000 / 10000 / 100 = k4 at *
    generalize hw : v / 100000000 = w at *
    have hm64 : m + 8 < 2 ^ 63 := by omega
    have hw1 : IntKind.i64.wrap (((m + 8 : Nat) : Int) - 1) = ((m + 7 : Nat) : Int) := by rw [w64 (by omega) (by omega)]; omega
    have hw2 : IntKind.i64.wrap (((m + 8 : Nat) : Int) - 2) = ((m + 6 : Nat) : Int) := by rw [w64 (by omega) (by omega)]; omega
    have hw3 : IntKind.i64.wrap (((m + 8 : Nat) : Int) - 3) = ((m + 5 : Nat) : Int) := by rw [w64 (by omega) (by omega)]; omega
    have hw4 : IntKind.i64.wrap (((m + 8 : Nat) : Int) - 4) = ((m + 4 : Nat) : Int) := by rw [w64 (by omega) (by omega)]; omega
    have hw5 : IntKind.i64.wrap (((m + 8 : Nat) : Int) - 5) = ((m + 3 : Nat) : Int) := by rw [w64 (by omega) (by omega)]; omega
    have hw6 : IntKind.i64.wrap (((m + 8 : Nat) : Int) - 6) = ((m + 2 : Nat) : Int) := by rw [w64 (by omega) (by omega)]; omega
    have hw7 : IntKind.i64.wrap (((m + 8 : Nat) : Int) - 7) = ((m + 1 : Nat) : Int) := by rw [w64 (by omega) (by omega)]; omega
    have hw8 : IntKind.i64.wrap (((m + 8 : Nat) : Int) - 8) = ((m : Nat) : Int) := by rw [w64 (by omega) (by omega)]; omega
    have ho1 : off + (m + 7) = P.length + 7 := by omega
    have ho2 : off + (m + 6) = P.length + 6 := by omega
    have ho3 : off + (m + 5) = P.length + 5 := by omega
    have ho4 : off + (m + 4) = P.length + 4 := by omega
    have ho5 : off + (m + 3) = P.length + 3 := by omega
    have ho6 : off + (m + 2) = P.length + 2 := by omega
    have ho7 : off + (m + 1) = P.length + 1 := by omega
    have ho8 : off + m = P.length := by omega
    have hu1 : IntKind.u32.wrap ((k1 * 2 + 1 : Nat) : Int) = ((k1 * 2 + 1 : Nat) : Int) := wrN (by omega)
    have hu2 : IntKind.u32.wrap ((k2 * 2 + 1 : Nat) : Int) = ((k2 * 2 + 1 : Nat) : Int) := wrN (by omega)
    have hu3 : IntKind.u32.wrap ((k3 * 2 + 1 : Nat) : Int) = ((k3 * 2 + 1 : Nat) : Int) := wrN (by omega)
    have hu4 : IntKind.u32.wrap ((k4 * 2 + 1 : Nat) : Int) = ((k4 * 2 + 1 : Nat) : Int) := wrN (by omega)
    refine VW.cut (α := Unit) (fun _ => True) (fun _ => [(0, .ms β off ND 1), (1, .val (.int .u64 (w : Nat))), (4, .i (m + 8 : Nat)), (8, .val (.int .u32 (k2 * 2 : Nat))), (10, .val (.int .u32 (k4 * 2 : Nat))), (11, .val (.int .u32 (k3 * 2 : Nat)))]) (fun _ => σ.set β (.cells 178 (P ++ a :: b :: c :: d :: e :: f :: .u8 (48 + k1 / 10 : Nat) :: .u8 (48 + k1 % 10 : Nat) :: T))) ?_ (fun _ _ => ?_)
    · clear hu g3 g2 h64 g4 hE hc hND hleaf
      repeat' (first | with_reducible rfl | exact trivial | exact .inr trivial | (with_reducible first | apply And.intro | apply vqx_step | apply vqm_step | refine vkp_free (by decide +kernel) ?_ | intro _) | ((with_reducible refine .dm (fun _ => False) [(0, false), (1, false), (2, false), (3, false), (4, false), (5, false), (6, false), (7, false), (8, false), (9, false), (10, false), (11, false), (12, true), (13, false), (14, true)] (by decide) (by decide +kernel) ?_); (refine zs (j5 ui3 ui150 ui179 ui187 (j9 ui5 ui9 @ca1 @cm2 hu1 hw1 hw2 @Int.toNat_natCast (j9 @Nat.mul_one ho1 ho2 @take_app0 @take_app @drop_app0 @drop_app @List.length_append.{0} @sm_len))) ?_)) | refine zaW (j5 ui3 ui150 ui179 ui187 (j9 ui5 ui9 @ca1 @cm2 hu1 hw1 hw2 @Int.toNat_natCast (j9 @Nat.mul_one ho1 ho2 @take_app0 @take_app @drop_app0 @drop_app @List.length_append.{0} @sm_len))) ?_ | ((first | with_reducible refine vkp_keep (fun _ h => h.elim) ?_ | (refine vlo_app zx ?_) | (refine vst_app zx ?_)); (try refine zs (j5 ui3 ui150 ui179 ui187 (j9 ui5 ui9 @ca1 @cm2 hu1 hw1 hw2 @Int.toNat_natCast (j9 @Nat.mul_one ho1 ho2 @take_app0 @take_app @drop_app0 @drop_app @List.length_append.{0} @sm_len))) ?_)) | (with_reducible first | refine vfresh_set ?_ | refine vfresh_intro (fun _ _ => ?_) | refine vif_intro (fun _ => ?_) (fun _ => ?_)) | omega | refine zt (j5 ui3 ui150 ui179 ui187 (j9 ui5 ui9 @ca1 @cm2 hu1 hw1 hw2 @Int.toNat_natCast (j9 @Nat.mul_one ho1 ho2 @take_app0 @take_app @drop_app0 @drop_app @List.length_append.{0} @sm_len))) ?_ | fail)
      · exact ⟨_, _, rfl⟩
      · exact ⟨_, _, rfl⟩
      refine ⟨(), trivial, ?_, Holds_at ?_⟩
      · simp only [vO, vQ, ↓vP, vE, vS, vB, vL, vF, vM, vN, vbs_full, zb, zc, zd, ne_eq, not_false_eq_true, ze, zf, zj, zk, vT]
        simp only [smE j1, smO j1, List.append_assoc, take_app, drop_app, take_app0, drop_app0]
        exact .refl _
      · simp only [vO, vQ, ↓vP, vE, vS, vB, vL, vF, vM, vN, vbs_full, zb, zc, zd, ne_eq, not_false_eq_true, ze, zf, zj, zk, vT]
    refine VW.cut (α := Unit) (fun _ => True) (fun _ => [(0, .ms β off ND 1), (1, .val (.int .u64 (w : Nat))), (4, .i (m + 8 : Nat)), (10, .val (.int .u32 (k4 * 2 : Nat))), (11, .val (.int .u32 (k3 * 2 : Nat)))]) (fun _ => σ.set β (.cells 178 (P ++ a :: b :: c :: d :: .u8 (48 + k2 / 10 : Nat) :: .u8 (48 + k2 % 10 : Nat) :: .u8 (48 + k1 / 10 : Nat) :: .u8 (48 + k1 % 10 : Nat) :: T))) ?_ (fun _ _ => ?_)
    · clear hu g3 g2 h64 g4 hE hc hND hleaf
      repeat' (first | with_reducible rfl | exact trivial | exact .inr trivial | (with_reducible first | apply And.intro | apply vqx_step | apply vqm_step | refine vkp_free (by decide +kernel) ?_ | intro _) | ((with_reducible refine .dm (fun _ => False) [(0, false), (1, false), (2, false), (3, false), (4, false), (5, false), (6, false), (7, false), (8, false), (9, false), (10, false), (11, false), (12, true), (13, false), (14, true)] (by decide) (by decide +kernel) ?_); (refine zs (j5 ui3 ui150 ui179 ui187 (j9 ui5 ui9 @ca1 @cm2 hu2 hw3 hw4 @Int.toNat_natCast (j9 @Nat.mul_one ho3 ho4 @take_app0 @take_app @drop_app0 @drop_app @List.length_append.{0} @sm_len))) ?_)) | refine zaW (j5 ui3 ui150 ui179 ui187 (j9 ui5 ui9 @ca1 @cm2 hu2 hw3 hw4 @Int.toNat_natCast (j9 @Nat.mul_one ho3 ho4 @take_app0 @take_app @drop_app0 @drop_app @List.length_append.{0} @sm_len))) ?_ | ((first | with_reducible refine vkp_keep (fun _ h => h.elim) ?_ | (refine vlo_app zx ?_) | (refine vst_app zx ?_)); (try refine zs (j5 ui3 ui150 ui179 ui187 (j9 ui5 ui9 @ca1 @cm2 hu2 hw3 hw4 @Int.toNat_natCast (j9 @Nat.mul_one ho3 ho4 @take_app0 @take_app @drop_app0 @drop_app @List.length_append.{0} @sm_len))) ?_)) | (with_reducible first | refine vfresh_set ?_ | refine vfresh_intro (fun _ _ => ?_) | refine vif_intro (fun _ => ?_) (fun _ => ?_)) | omega | refine zt (j5 ui3 ui150 ui179 ui187 (j9 ui5 ui9 @ca1 @cm2 hu2 hw3 hw4 @Int.toNat_natCast (j9 @Nat.mul_one ho3 ho4 @take_app0 @take_app @drop_app0 @drop_app @List.length_append.{0} @sm_len))) ?_ | fail)
      · exact ⟨_, _, rfl⟩
      · exact ⟨_, _, rfl⟩
      refine ⟨(), trivial, ?_, Holds_at ?_⟩
      · simp only [vO, vQ, ↓vP, vE, vS, vB, vL, vF, vM, vN, vbs_full, zb, zc, zd, ne_eq, not_false_eq_true, ze, zf, zj, zk, vT]
        simp only [smE j2, smO j2, List.append_assoc, take_app, drop_app, take_app0, drop_app0]
        exact .refl _
      · simp only [vO, vQ, ↓vP, vE, vS, vB, vL, vF, vM, vN, vbs_full, zb, zc, zd, ne_eq, not_false_eq_true, ze, zf, zj, zk, vT]
    refine VW.cut (α := Unit) (fun _ => True) (fun _ => [(0, .ms β off ND 1), (1, .val (.int .u64 (w : Nat))), (4, .i (m + 8 : Nat)), (10, .val (.int .u32 (k4 * 2 : Nat)))]) (fun _ => σ.set β (.cells 178 (P ++ a :: b :: .u8 (48 + k3 / 10 : Nat) :: .u8 (48 + k3 % 10 : Nat) :: .u8 (48 + k2 / 10 : Nat) :: .u8 (48 + k2 % 10 : Nat) :: .u8 (48 + k1 / 10 : Nat) :: .u8 (48 + k1 % 10 : Nat) :: T))) ?_ (fun _ _ => ?_)
    · clear hu g3 g2 h64 g4 hE hc hND hleaf
      repeat' (first | with_reducible rfl | exact trivial | exact .inr trivial | (with_reducible first | apply And.intro | apply vqx_step | apply vqm_step | refine vkp_free (by decide +kernel) ?_ | intro _) | ((with_reducible refine .dm (fun _ => False) [(0, false), (1, false), (2, false), (3, false), (4, false), (5, false), (6, false), (7, false), (8, false), (9, false), (10, false), (11, false), (12, true), (13, false), (14, true)] (by decide) (by decide +kernel) ?_); (refine zs (j5 ui3 ui150 ui179 ui187 (j9 ui5 ui9 @ca1 @cm2 hu3 hw5 hw6 @Int.toNat_natCast (j9 @Nat.mul_one ho5 ho6 @take_app0 @take_app @drop_app0 @drop_app @List.length_append.{0} @sm_len))) ?_)) | refine zaW (j5 ui3 ui150 ui179 ui187 (j9 ui5 ui9 @ca1 @cm2 hu3 hw5 hw6 @Int.toNat_natCast (j9 @Nat.mul_one ho5 ho6 @take_app0 @take_app @drop_app0 @drop_app @List.length_append.{0} @sm_len))) ?_ | ((first | with_reducible refine vkp_keep (fun _ h => h.elim) ?_ | (refine vlo_app zx ?_) | (refine vst_app zx ?_)); (try refine zs (j5 ui3 ui150 ui179 ui187 (j9 ui5 ui9 @ca1 @cm2 hu3 hw5 hw6 @Int.toNat_natCast (j9 @Nat.mul_one ho5 ho6 @take_app0 @take_app @drop_app0 @drop_app @List.length_append.{0} @sm_len))) ?_)) | (with_reducible first | refine vfresh_set ?_ | refine vfresh_intro (fun _ _ => ?_) | refine vif_intro (fun _ => ?_) (fun _ => ?_)) | omega | refine zt (j5 ui3 ui150 ui179 ui187 (j9 ui5 ui9 @ca1 @cm2 hu3 hw5 hw6 @Int.toNat_natCast (j9 @Nat.mul_one ho5 ho6 @take_app0 @take_app @drop_app0 @drop_app @List.length_append.{0} @sm_len))) ?_ | fail)
      · exact ⟨_, _, rfl⟩
      · exact ⟨_, _, rfl⟩
      refine ⟨(), trivial, ?_, Holds_at ?_⟩
      · simp only [vO, vQ, ↓vP, vE, vS, vB, vL, vF, vM, vN, vbs_full, zb, zc, zd, ne_eq, not_false_eq_true, ze, zf, zj, zk, vT]
        simp only [smE j3, smO j3, List.append_assoc, take_app, drop_app, take_app0, drop_app0]
        exact .refl _
      · simp only [vO, vQ, ↓vP, vE, vS, vB, vL, vF, vM, vN, vbs_full, zb, zc, zd, ne_eq, not_false_eq_true, ze, zf, zj, zk, vT]
    refine VW.cut (α := Unit) (fun _ => True) (fun _ => [(0, .ms β off ND 1), (1, .val (.int .u64 (w : Nat))), (4, .i (m + 8 : Nat))]) (fun _ => σ.set β (.cells 178 (P ++ .u8 (48 + k4 / 10 : Nat) :: .u8 (48 + k4 % 10 : Nat) :: .u8 (48 + k3 / 10 : Nat) :: .u8 (48 + k3 % 10 : Nat) :: .u8 (48 + k2 / 10 : Nat) :: .u8 (48 + k2 % 10 : Nat) :: .u8 (48 + k1 / 10 : Nat) :: .u8 (48 + k1 % 10 : Nat) :: T))) ?_ (fun _ _ => ?_)
    · clear hu g3 g2 h64 g4 hE hc hND hleaf
      repeat' (first | with_reducible rfl | exact trivial | exact .inr trivial | (with_reducible first | apply And.intro | apply vqx_step | apply vqm_step | refine vkp_free (by decide +kernel) ?_ | intro _) | ((with_reducible refine .dm (fun _ => False) [(0, false), (1, false), (2, false), (3, false), (4, false), (5, false), (6, false), (7, false), (8, false), (9, false), (10, false), (11, false), (12, true), (13, false), (14, true)] (by decide) (by decide +kernel) ?_); (refine zs (j5 ui3 ui150 ui179 ui187 (j9 ui5 ui9 @ca1 @cm2 hu4 hw7 hw8 @Int.toNat_natCast (j9 @Nat.mul_one ho7 ho8 @take_app0 @take_app @drop_app0 @drop_app @List.length_append.{0} @sm_len))) ?_)) | refine zaW (j5 ui3 ui150 ui179 ui187 (j9 ui5 ui9 @ca1 @cm2 hu4 hw7 hw8 @Int.toNat_natCast (j9 @Nat.mul_one ho7 ho8 @take_app0 @take_app @drop_app0 @drop_app @List.length_append.{0} @sm_len))) ?_ | ((first | with_reducible refine vkp_keep (fun _ h => h.elim) ?_ | (refine vlo_app zx ?_) | (refine vst_app zx ?_)); (try refine zs (j5 ui3 ui150 ui179 ui187 (j9 ui5 ui9 @ca1 @cm2 hu4 hw7 hw8 @Int.toNat_natCast (j9 @Nat.mul_one ho7 ho8 @take_app0 @take_app @drop_app0 @drop_app @List.length_append.{0} @sm_len))) ?_)) | (with_reducible first | refine vfresh_set ?_ | refine vfresh_intro (fun _ _ => ?_) | refine vif_intro (fun _ => ?_) (fun _ => ?_)) | omega | refine zt (j5 ui3 ui150 ui179 ui187 (j9 ui5 ui9 @ca1 @cm2 hu4 hw7 hw8 @Int.toNat_natCast (j9 @Nat.mul_one ho7 ho8 @take_app0 @take_app @drop_app0 @drop_app @List.length_append.{0} @sm_len))) ?_ | fail)
      · exact ⟨_, _, rfl⟩
      · exact ⟨_, _, rfl⟩
      refine ⟨(), trivial, ?_, Holds_at ?_⟩
      · simp only [vO, vQ, ↓vP, vE, vS, vB, vL, vF, vM, vN, vbs_full, zb, zc, zd, ne_eq, not_false_eq_true, ze, zf, zj, zk, vT]
        simp only [smE j4, smO j4, List.append_assoc, take_app, drop_app, take_app0, drop_app0]
        exact .refl _
      · simp only [vO, vQ, ↓vP, vE, vS, vB, vL, vF, vM, vN, vbs_full, zb, zc, zd, ne_eq, not_false_eq_true, ze, zf, zj, zk, vT]
    repeat' (first | with_reducible rfl | exact trivial | exact .inr trivial | (with_reducible first | apply And.intro | apply vqx_step | apply vqm_step | refine vkp_free (by decide +kernel) ?_ | intro _) | refine zaW (j7 ui3 ui150 ui179 ui187 ui5 ui9 hw8) ?_ | (with_reducible first | refine vfresh_set ?_ | refine vfresh_intro (fun _ _ => ?_) | refine vif_intro (fun _ => ?_) (fun _ => ?_)) | omega | refine zt (j7 ui3 ui150 ui179 ui187 ui5 ui9 hw8) ?_ | fail)
    refine ⟨m, w, padD 8 (v % 10 ^ 8) ++ dn, ⟨⟨by omega, ?_, by rw [← hw]; exact pad_lt 8 m v g3, by rw [← hw]; exact Nat.lt_of_le_of_lt (Nat.div_le_self ..) g4⟩, by omega⟩, (hleaf _).2 (.refl _), rfl, rfl⟩
    rw [← hw]
    exact pad_next 8 m v dn _ g2
  · simp only [vO, vQ, ↓vP, vE, vS, vB, vL, vF, vM, vN, vbs_full, zb, zc, zd, ne_eq, not_false_eq_true, ze, zf, zj, zk, vT]
    iterate 12 (all_goals (try ((first | (with_reducible first | refine .rs ?_ | refine .ds (by kernel_rfl) ?_ | refine .dg (by kernel_rfl) ?_ | refine .rg ?_ | refine .ite ?_ | refine .ret ?_ | refine .skip ?_ | refine .exit ?_ | refine .scope ?_ | refine .seq (.label ?_) | refine .block ?_ | refine .seq ?_)); (try simp only [vO, vQ, ↓vP, vE, vS, vB, vL, vF, vM, vN, vbs_full, zb, zc, zd, ne_eq, not_false_eq_true, ze, zf, zj, zk, Z3, info3, Z150, info150, Z179, info179, Z187, info187, Z5, info5, Z9, info9, vT]))))
    refine vif_intro (fun h => absurd (show ¬ (8:Int) ≤ (nd : Int) by omega) (not_not_intro h)) (fun _ => ?_)
    iterate 4 ((first | (with_reducible first | refine .rs ?_ | refine .ds (by kernel_rfl) ?_ | refine .dg (by kernel_rfl) ?_ | refine .rg ?_ | refine .ite ?_ | refine .ret ?_ | refine .skip ?_ | refine .exit ?_ | refine .scope ?_ | refine .seq (.label ?_) | refine .block ?_ | refine .seq ?_)); (try simp only [vO, vQ, ↓vP, vE, vS, vB, vL, vF, vM, vN, vbs_full, zb, zc, zd, ne_eq, not_false_eq_true, ze, zf, zj, zk, Z3, info3, Z150, info150, Z179, info179, Z187, info187, Z5, info5, Z9, info9, nz8, nz4, nz2, not_false_eq_true, true_and, vT]))
    have hv : v < 10 ^ 7 := Nat.lt_of_lt_of_le g3 (Nat.pow_le_pow_right (by omega) (by omega))
    simp (disch := omega) only [wrN]
    refine VW.weak (Holds.weak (vals := [(0, .ms β off ND 1), (4, .i nd), (12, .val (.int .u32 v)), (99, .b (decide ((4 : Int) ≤ (nd : Int))))]) ?_) ?_
    · refine Holds_at ?_
      simp only [vO, vQ, ↓vP, vE, vS, vB, vL, vF, vM, vN, vbs_full, zb, zc, zd, ne_eq, not_false_eq_true, ze, zf, zj, zk, vT]
    clear h8 g4
    refine cutq (α := Nat × Nat × List UInt8) (fun z => z.1 < 4 ∧ z.1 ≤ ND ∧ padD z.1 z.2.1 ++ z.2.2 = padD ND u ∧ z.2.1 < 10 ^ z.1) (fun z => [(0, .ms β off ND 1), (4, .i z.1), (12, .val (.int .u32 (z.2.1 : Nat)))]) (fun z => σ.set β (.cells 178 (A ++ mid.take z.1 ++ (u8s z.2.2 ++ D)))) ?_ ?_
    · by_cases h4 : 4 ≤ nd
      · obtain ⟨m, rfl⟩ : ∃ m, nd = m + 4 := ⟨nd - 4, by omega⟩
        obtain ⟨P, E, hPe, hP, hE, hc⟩ := cut_list A mid m 4 off hA (by omega)
        obtain ⟨a, b, c, d, rfl⟩ := len4 hE
        have hc2 : A ++ mid.take (m + 4) ++ (u8s dn ++ D) = P ++ a :: b :: c :: d :: (u8s dn ++ D) := by rw [hc]; simp
        rw [hc2]
        clear hc2
        have hleaf : ∀ S, (σ.set β (.cells 178 (A ++ mid.take m ++ (u8s (padD 4 (v % 10 ^ 4) ++ dn) ++ D)))).sub S ↔ (σ.set β (.cells 178 (P ++ (u8s (padD 4 (v % 10000)) ++ (u8s dn ++ D))))).sub S := fun S => by rw [hPe, u8s_app, List.append_assoc]
        rw [u8s4 _ (by omega)] at hleaf
        generalize hT : u8s dn ++ D = T at *
        (first | (with_reducible first | refine .rs ?_ | refine .ds (by kernel_rfl) ?_ | refine .dg (by kernel_rfl) ?_ | refine .rg ?_ | refine .ite ?_ | refine .ret ?_ | refine .skip ?_ | refine .exit ?_ | refine .scope ?_ | refine .seq (.label ?_) | refine .block ?_ | refine .seq ?_)); (try simp only [vO, vQ, ↓vP, vE, vS, vB, vL, vF, vM, vN, vbs_full, zb, zc, zd, ne_eq, not_false_eq_true, ze, zf, zj, zk, Z3, info3, Z150, info150, Z179, info179, Z187, info187, Z5, info5, Z9, info9, vT])
        refine vif_intro (fun _ => ?_) (fun h => absurd (show (4:Int) ≤ ((m+4 : Nat) : Int) by omega) h)
        iterate 3 ((first | (with_reducible first | refine .rs ?_ | refine .ds (by kernel_rfl) ?_ | refine .dg (by kernel_rfl) ?_ | refine .rg ?_ | refine .ite ?_ | refine .ret ?_ | refine .skip ?_ | refine .exit ?_ | refine .scope ?_ | refine .seq (.label ?_) | refine .block ?_ | refine .seq ?_)); (try simp only [vO, vQ, ↓vP, vE, vS, vB, vL, vF, vM, vN, vbs_full, zb, zc, zd, ne_eq, not_false_eq_true, ze, zf, zj, zk, Z3, info3, Z150, info150, Z179, info179, Z187, info187, Z5, info5, Z9, info9, nz8, nz4, nz2, not_false_eq_true, true_and, vT]))
        simp (disch := omega) only [tm4, td4, wrN, tm2, td2, cm2]
        refine VW.weak (Holds.weak (vals := [(0, .ms β off ND 1), (4, .i (m + 4 : Nat)), (12, .val (.int .u32 (v / 10000 : Nat))), (14, .val (.int .u32 (v % 10000 / 100 * 2 : Nat))), (15, .val (.int .u32 (v % 10000 % 100 * 2 : Nat)))]) ?_) ?_
        · refine Holds_at ?_
          simp only [vO, vQ, ↓vP, vE, vS, vB, vL, vF, vM, vN, vbs_full, zb, zc, zd, ne_eq, not_false_eq_true, ze, zf, zj, zk, vT]
        have j1 : v % 10000 % 100 < 100 := by omega
        have j2 : v % 10000 / 100 < 100 := by omega
        generalize v % 10000 % 100 = k1 at *
        generalize v % 10000 / 100 = k2 at *
        generalize hw : v / 10000 = w at *
        have hm64 : m + 4 < 2 ^ 63 := by omega
        have hw1 : IntKind.i64.wrap (((m + 4 : Nat) : Int) - 1) = ((m + 3 : Nat) : Int) := by rw [w64 (by omega) (by omega)]; omega
        have hw2 : IntKind.i64.wrap (((m + 4 : Nat) : Int) - 2) = ((m + 2 : Nat) : Int) := by rw [w64 (by omega) (by omega)]; omega
        have hw3 : IntKind.i64.wrap (((m + 4 : Nat) : Int) - 3) = ((m + 1 : Nat) : Int) := by rw [w64 (by omega) (by omega)]; omega
        have hw4 : IntKind.i64.wrap (((m + 4 : Nat) : Int) - 4) = ((m : Nat) : Int) := by rw [w64 (by omega) (by omega)]; omega
        have ho1 : off + (m + 3) = P.length + 3 := by omega
        have ho2 : off + (m + 2) = P.length + 2 := by omega
        have ho3 : off + (m + 1) = P.length + 1 := by omega
        have ho4 : off + m = P.length := by omega
        have hu1 : IntKind.u32.wrap ((k1 * 2 + 1 : Nat) : Int) = ((k1 * 2 + 1 : Nat) : Int) := wrN (by omega)
        have hu2 : IntKind.u32.wrap ((k2 * 2 + 1 : Nat) : Int) = ((k2 * 2 + 1 : Nat) : Int) := wrN (by omega)
        refine VW.cut (α := Unit) (fun _ => True) (fun _ => [(0, .ms β off ND 1), (4, .i (m + 4 : Nat)), (12, .val (.int .u32 (w : Nat))), (14, .val (.int .u32 (k2 * 2 : Nat)))]) (fun _ => σ.set β (.cells 178 (P ++ a :: b :: .u8 (48 + k1 / 10 : Nat) :: .u8 (48 + k1 % 10 : Nat) :: T))) ?_ (fun _ _ => ?_)
        · clear hu g3 g2 h64 hE hc hND hleaf hv
          repeat' (first | with_reducible rfl | exact trivial | exact .inr trivial | (with_reducible first | apply And.intro | apply vqx_step | apply vqm_step | refine vkp_free (by decide +kernel) ?_ | intro _) | ((with_reducible refine .dm (fun _ => False) [(0, false), (1, false), (2, false), (3, false), (4, false), (5, false), (6, false), (7, false), (8, false), (9, false), (10, false), (11, false), (12, true), (13, false), (14, true)] (by decide) (by decide +kernel) ?_); (refine zs (j5 ui3 ui150 ui179 ui187 (j9 ui5 ui9 @ca1 @cm2 hu1 hw1 hw2 @Int.toNat_natCast (j9 @Nat.mul_one ho1 ho2 @take_app0 @take_app @drop_app0 @drop_app @List.length_append.{0} @sm_len))) ?_)) | refine zaW (j5 ui3 ui150 ui179 ui187 (j9 ui5 ui9 @ca1 @cm2 hu1 hw1 hw2 @Int.toNat_natCast (j9 @Nat.mul_one ho1 ho2 @take_app0 @take_app @drop_app0 @drop_app @List.length_append.{0} @sm_len))) ?_ | ((first | with_reducible refine vkp_keep (fun _ h => h.elim) ?_ | (refine vlo_app zx ?_) | (refine vst_app zx ?_)); (try refine zs (j5 ui3 ui150 ui179 ui187 (j9 ui5 ui9 @ca1 @cm2 hu1 hw1 hw2 @Int.toNat_natCast (j9 @Nat.mul_one ho1 ho2 @take_app0 @take_app @drop_app0 @drop_app @List.length_append.{0} @sm_len))) ?_)) | (with_reducible first | refine vfresh_set ?_ | refine vfresh_intro (fun _ _ => ?_) | refine vif_intro (fun _ => ?_) (fun _ => ?_)) | omega | refine zt (j5 ui3 ui150 ui179 ui187 (j9 ui5 ui9 @ca1 @cm2 hu1 hw1 hw2 @Int.toNat_natCast (j9 @Nat.mul_one ho1 ho2 @take_app0 @take_app @drop_app0 @drop_app @List.length_append.{0} @sm_len))) ?_ | fail)
          · exact ⟨_, _, rfl⟩
          · exact ⟨_, _, rfl⟩
          refine ⟨(), trivial, ?_, Holds_at ?_⟩
          · simp only [vO, vQ, ↓vP, vE, vS, vB, vL, vF, vM, vN, vbs_full, zb, zc, zd, ne_eq, not_false_eq_true, ze, zf, zj, zk, vT]
            simp only [smE j1, smO j1, List.append_assoc, take_app, drop_app, take_app0, drop_app0]
            exact .refl _
          · simp only [vO, vQ, ↓vP, vE, vS, vB, vL, vF, vM, vN, vbs_full, zb, zc, zd, ne_eq, not_false_eq_true, ze, zf, zj, zk, vT]
        refine VW.cut (α := Unit) (fun _ => True) (fun _ => [(0, .ms β off ND 1), (4, .i (m + 4 : Nat)), (12, .val (.int .u32 (w : Nat)))]) (fun _ => σ.set β (.cells 178 (P ++ .u8 (48 + k2 / 10 : Nat) :: .u8 (48 + k2 % 10 : Nat) :: .u8 (48 + k1 / 10 : Nat) :: .u8 (48 + k1 % 10 : Nat) :: T))) ?_ (fun _ _ => ?_)
        · clear hu g3 g2 h64 hE hc hND hleaf hv
          repeat' (first | with_reducible rfl | exact trivial | exact .inr trivial | (with_reducible first | apply And.intro | apply vqx_step | apply vqm_step | refine vkp_free (by decide +kernel) ?_ | intro _) | ((with_reducible refine .dm (fun _ => False) [(0, false), (1, false), (2, false), (3, false), (4, false), (5, false), (6, false), (7, false), (8, false), (9, false), (10, false), (11, false), (12, true), (13, false), (14, true)] (by decide) (by decide +kernel) ?_); (refine zs (j5 ui3 ui150 ui179 ui187 (j9 ui5 ui9 @ca1 @cm2 hu2 hw3 hw4 @Int.toNat_natCast (j9 @Nat.mul_one ho3 ho4 @take_app0 @take_app @drop_app0 @drop_app @List.length_append.{0} @sm_len))) ?_)) | refine zaW (j5 ui3 ui150 ui179 ui187 (j9 ui5 ui9 @ca1 @cm2 hu2 hw3 hw4 @Int.toNat_natCast (j9 @Nat.mul_one ho3 ho4 @take_app0 @take_app @drop_app0 @drop_app @List.length_append.{0} @sm_len))) ?_ | ((first | with_reducible refine vkp_keep (fun _ h => h.elim) ?_ | (refine vlo_app zx ?_) | (refine vst_app zx ?_)); (try refine zs (j5 ui3 ui150 ui179 ui187 (j9 ui5 ui9 @ca1 @cm2 hu2 hw3 hw4 @Int.toNat_natCast (j9 @Nat.mul_one ho3 ho4 @take_app0 @take_app @drop_app0 @drop_app @List.length_append.{0} @sm_len))) ?_)) | (with_reducible first | refine vfresh_set ?_ | refine vfresh_intro (fun _ _ => ?_) | refine vif_intro (fun _ => ?_) (fun _ => ?_)) | omega | refine zt (j5 ui3 ui150 ui179 ui187 (j9 ui5 ui9 @ca1 @cm2 hu2 hw3 hw4 @Int.toNat_natCast (j9 @Nat.mul_one ho3 ho4 @take_app0 @take_app @drop_app0 @drop_app @List.length_append.{0} @sm_len))) ?_ | fail)
          · exact ⟨_, _, rfl⟩
          · exact ⟨_, _, rfl⟩
          refine ⟨(), trivial, ?_, Holds_at ?_⟩
          · simp only [vO, vQ, ↓vP, vE, vS, vB, vL, vF, vM, vN, vbs_full, zb, zc, zd, ne_eq, not_false_eq_true, ze, zf, zj, zk, vT]
            simp only [smE j2, smO j2, List.append_assoc, take_app, drop_app, take_app0, drop_app0]
            exact .refl _
          · simp only [vO, vQ, ↓vP, vE, vS, vB, vL, vF, vM, vN, vbs_full, zb, zc, zd, ne_eq, not_false_eq_true, ze, zf, zj, zk, vT]
        repeat' (first | with_reducible rfl | exact trivial | exact .inr trivial | (with_reducible first | apply And.intro | apply vqx_step | apply vqm_step | refine vkp_free (by decide +kernel) ?_ | intro _) | refine zaW (j7 ui3 ui150 ui179 ui187 ui5 ui9 hw4) ?_ | (with_reducible first | refine vfresh_set ?_ | refine vfresh_intro (fun _ _ => ?_) | refine vif_intro (fun _ => ?_) (fun _ => ?_)) | omega | refine zt (j7 ui3 ui150 ui179 ui187 ui5 ui9 hw4) ?_ | fail)
        refine ⟨(m, w, padD 4 (v % 10 ^ 4) ++ dn), ⟨by simp only; clear hu h64 g3; omega, by simp only; clear hu h64 g3; omega, ?_, by simp only; rw [← hw]; exact pad_lt 4 m v g3⟩, (hleaf _).2 (.refl _), Holds_at ?_⟩
        · rw [← hw]
          exact pad_next 4 m v dn _ g2
        · simp only [vO, vQ, ↓vP, vE, vS, vB, vL, vF, vM, vN, vbs_full, zb, zc, zd, ne_eq, not_false_eq_true, ze, zf, zj, zk, vT]
      · (first | (with_reducible first | refine .rs ?_ | refine .ds (by kernel_rfl) ?_ | refine .dg (by kernel_rfl) ?_ | refine .rg ?_ | refine .ite ?_ | refine .ret ?_ | refine .skip ?_ | refine .exit ?_ | refine .scope ?_ | refine .seq (.label ?_) | refine .block ?_ | refine .seq ?_)); (try simp only [vO, vQ, ↓vP, vE, vS, vB, vL, vF, vM, vN, vbs_full, zb, zc, zd, ne_eq, not_false_eq_true, ze, zf, zj, zk, Z3, info3, Z150, info150, Z179, info179, Z187, info187, Z5, info5, Z9, info9, vT])
        refine vif_intro (fun h => absurd (show ¬ (4:Int) ≤ (nd : Int) by omega) (not_not_intro h)) (fun _ => ?_)
        repeat' (first | with_reducible rfl | exact trivial | exact .inr trivial | (with_reducible first | apply And.intro | apply vqx_step | apply vqm_step | refine vkp_free (by decide +kernel) ?_ | intro _) | refine zaW (j6 ui3 ui150 ui179 ui187 ui5 ui9) ?_ | (with_reducible first | refine vfresh_set ?_ | refine vfresh_intro (fun _ _ => ?_) | refine vif_intro (fun _ => ?_) (fun _ => ?_)) | omega | refine zt (j6 ui3 ui150 ui179 ui187 ui5 ui9) ?_ | fail)
        refine ⟨(nd, v, dn), ⟨by simp only; omega, g1, g2, g3⟩, .refl _, Holds_at ?_⟩
        simp only [vO, vQ, ↓vP, vE, vS, vB, vL, vF, vM, vN, vbs_full, zb, zc, zd, ne_eq, not_false_eq_true, ze, zf, zj, zk, vT]
    clear hv g1 g2 g3
    rintro ⟨nd, v, dn⟩ ⟨g0, g1, g2, g3⟩
    simp only at g0 g1 g2 g3
    simp only []
    iterate 2 ((first | (with_reducible first | refine .rs ?_ | refine .ds (by kernel_rfl) ?_ | refine .dg (by kernel_rfl) ?_ | refine .rg ?_ | refine .ite ?_ | refine .ret ?_ | refine .skip ?_ | refine .exit ?_ | refine .scope ?_ | refine .seq (.label ?_) | refine .block ?_ | refine .seq ?_)); (try simp only [vO, vQ, ↓vP, vE, vS, vB, vL, vF, vM, vN, vbs_full, zb, zc, zd, ne_eq, not_false_eq_true, ze, zf, zj, zk, Z3, info3, Z150, info150, Z179, info179, Z187, info187, Z5, info5, Z9, info9, nz8, nz4, nz2, not_false_eq_true, true_and, vT]))
    refine cutq (α := Nat × Nat × List UInt8) (fun z => z.1 < 2 ∧ z.1 ≤ ND ∧ padD z.1 z.2.1 ++ z.2.2 = padD ND u ∧ z.2.1 < 10 ^ z.1) (fun z => [(0, .ms β off ND 1), (4, .i z.1), (12, .val (.int .u32 (z.2.1 : Nat)))]) (fun z => σ.set β (.cells 178 (A ++ mid.take z.1 ++ (u8s z.2.2 ++ D)))) ?_ ?_
    · have hv : v < 10 ^ 3 := Nat.lt_of_lt_of_le g3 (Nat.pow_le_pow_right (by omega) (by omega))
      by_cases h4 : 2 ≤ nd
      · obtain ⟨m, rfl⟩ : ∃ m, nd = m + 2 := ⟨nd - 2, by omega⟩
        obtain ⟨P, E, hPe, hP, hE, hc⟩ := cut_list A mid m 2 off hA (by omega)
        obtain ⟨a, b, rfl⟩ := len2 hE
        have hc2 : A ++ mid.take (m + 2) ++ (u8s dn ++ D) = P ++ a :: b :: (u8s dn ++ D) := by rw [hc]; simp
        rw [hc2]
        clear hc2
        have hleaf : ∀ S, (σ.set β (.cells 178 (A ++ mid.take m ++ (u8s (padD 2 (v % 10 ^ 2) ++ dn) ++ D)))).sub S ↔ (σ.set β (.cells 178 (P ++ (u8s (padD 2 (v % 100)) ++ (u8s dn ++ D))))).sub S := fun S => by rw [hPe, u8s_app, List.append_assoc]
        rw [u8s2 _ (by omega)] at hleaf
        generalize hT : u8s dn ++ D = T at *
        (first | (with_reducible first | refine .rs ?_ | refine .ds (by kernel_rfl) ?_ | refine .dg (by kernel_rfl) ?_ | refine .rg ?_ | refine .ite ?_ | refine .ret ?_ | refine .skip ?_ | refine .exit ?_ | refine .scope ?_ | refine .seq (.label ?_) | refine .block ?_ | refine .seq ?_)); (try simp only [vO, vQ, ↓vP, vE, vS, vB, vL, vF, vM, vN, vbs_full, zb, zc, zd, ne_eq, not_false_eq_true, ze, zf, zj, zk, Z3, info3, Z150, info150, Z179, info179, Z187, info187, Z5, info5, Z9, info9, vT])
        refine vif_intro (fun _ => ?_) (fun h => absurd (show (2:Int) ≤ ((m+2 : Nat) : Int) by omega) h)
        iterate 2 ((first | (with_reducible first | refine .rs ?_ | refine .ds (by kernel_rfl) ?_ | refine .dg (by kernel_rfl) ?_ | refine .rg ?_ | refine .ite ?_ | refine .ret ?_ | refine .skip ?_ | refine .exit ?_ | refine .scope ?_ | refine .seq (.label ?_) | refine .block ?_ | refine .seq ?_)); (try simp only [vO, vQ, ↓vP, vE, vS, vB, vL, vF, vM, vN, vbs_full, zb, zc, zd, ne_eq, not_false_eq_true, ze, zf, zj, zk, Z3, info3, Z150, info150, Z179, info179, Z187, info187, Z5, info5, Z9, info9, nz8, nz4, nz2, not_false_eq_true, true_and, vT]))
        simp (disch := omega) only [td4, wrN, tm2, td2, cm2]
        refine VW.weak (Holds.weak (vals := [(0, .ms β off ND 1), (4, .i (m + 2 : Nat)), (12, .val (.int .u32 (v / 100 : Nat))), (16, .val (.int .u32 (v % 100 * 2 : Nat)))]) ?_) ?_
        · refine Holds_at ?_
          simp only [vO, vQ, ↓vP, vE, vS, vB, vL, vF, vM, vN, vbs_full, zb, zc, zd, ne_eq, not_false_eq_true, ze, zf, zj, zk, vT]
        have j1 : v % 100 < 100 := by omega
        generalize hk1 : v % 100 = k1 at *
        generalize hw : v / 100 = w at *
        have hm64 : m + 2 < 2 ^ 63 := by omega
        have hw1 : IntKind.i64.wrap (((m + 2 : Nat) : Int) - 1) = ((m + 1 : Nat) : Int) := by rw [w64 (by omega) (by omega)]; omega
        have hw2 : IntKind.i64.wrap (((m + 2 : Nat) : Int) - 2) = ((m : Nat) : Int) := by rw [w64 (by omega) (by omega)]; omega
        have ho1 : off + (m + 1) = P.length + 1 := by omega
        have ho2 : off + m = P.length := by omega
        have hu1 : IntKind.u32.wrap ((k1 * 2 + 1 : Nat) : Int) = ((k1 * 2 + 1 : Nat) : Int) := wrN (by omega)
        refine VW.cut (α := Unit) (fun _ => True) (fun _ => [(0, .ms β off ND 1), (4, .i (m + 2 : Nat)), (12, .val (.int .u32 (w : Nat)))]) (fun _ => σ.set β (.cells 178 (P ++ .u8 (48 + k1 / 10 : Nat) :: .u8 (48 + k1 % 10 : Nat) :: T))) ?_ (fun _ _ => ?_)
        · clear hu g3 g2 h64 hE hc hND hleaf hv
          repeat' (first | with_reducible rfl | exact trivial | exact .inr trivial | (with_reducible first | apply And.intro | apply vqx_step | apply vqm_step | refine vkp_free (by decide +kernel) ?_ | intro _) | ((with_reducible refine .dm (fun _ => False) [(0, false), (1, false), (2, false), (3, false), (4, false), (5, false), (6, false), (7, false), (8, false), (9, false), (10, false), (11, false), (12, true), (13, false), (14, true)] (by decide) (by decide +kernel) ?_); (refine zs (j5 ui3 ui150 ui179 ui187 (j9 ui5 ui9 @ca1 @cm2 hu1 hw1 hw2 @Int.toNat_natCast (j9 @Nat.mul_one ho1 ho2 @take_app0 @take_app @drop_app0 @drop_app @List.length_append.{0} @sm_len))) ?_)) | refine zaW (j5 ui3 ui150 ui179 ui187 (j9 ui5 ui9 @ca1 @cm2 hu1 hw1 hw2 @Int.toNat_natCast (j9 @Nat.mul_one ho1 ho2 @take_app0 @take_app @drop_app0 @drop_app @List.length_append.{0} @sm_len))) ?_ | ((first | with_reducible refine vkp_keep (fun _ h => h.elim) ?_ | (refine vlo_app zx ?_) | (refine vst_app zx ?_)); (try refine zs (j5 ui3 ui150 ui179 ui187 (j9 ui5 ui9 @ca1 @cm2 hu1 hw1 hw2 @Int.toNat_natCast (j9 @Nat.mul_one ho1 ho2 @take_app0 @take_app @drop_app0 @drop_app @List.length_append.{0} @sm_len))) ?_)) | (with_reducible first | refine vfresh_set ?_ | refine vfresh_intro (fun _ _ => ?_) | refine vif_intro (fun _ => ?_) (fun _ => ?_)) | omega | refine zt (j5 ui3 ui150 ui179 ui187 (j9 ui5 ui9 @ca1 @cm2 hu1 hw1 hw2 @Int.toNat_natCast (j9 @Nat.mul_one ho1 ho2 @take_app0 @take_app @drop_app0 @drop_app @List.length_append.{0} @sm_len))) ?_ | fail)
          · exact ⟨_, _, rfl⟩
          · exact ⟨_, _, rfl⟩
          refine ⟨(), trivial, ?_, Holds_at ?_⟩
          · simp only [vO, vQ, ↓vP, vE, vS, vB, vL, vF, vM, vN, vbs_full, zb, zc, zd, ne_eq, not_false_eq_true, ze, zf, zj, zk, vT]
            simp only [smE j1, smO j1, List.append_assoc, take_app, drop_app, take_app0, drop_app0]
            exact .refl _
          · simp only [vO, vQ, ↓vP, vE, vS, vB, vL, vF, vM, vN, vbs_full, zb, zc, zd, ne_eq, not_false_eq_true, ze, zf, zj, zk, vT]
        repeat' (first | with_reducible rfl | exact trivial | exact .inr trivial | (with_reducible first | apply And.intro | apply vqx_step | apply vqm_step | refine vkp_free (by decide +kernel) ?_ | intro _) | refine zaW (j7 ui3 ui150 ui179 ui187 ui5 ui9 hw2) ?_ | (with_reducible first | refine vfresh_set ?_ | refine vfresh_intro (fun _ _ => ?_) | refine vif_intro (fun _ => ?_) (fun _ => ?_)) | omega | refine zt (j7 ui3 ui150 ui179 ui187 ui5 ui9 hw2) ?_ | fail)
        refine ⟨(m, w, padD 2 k1 ++ dn), ⟨by simp only; clear hu h64 g3; omega, by simp only; clear hu h64 g3; omega, ?_, by simp only; rw [← hw]; exact pad_lt 2 m v g3⟩, (hleaf _).2 (.refl _), Holds_at ?_⟩
        · rw [← hw, ← hk1]
          exact pad_next 2 m v dn _ g2
        · simp only [vO, vQ, ↓vP, vE, vS, vB, vL, vF, vM, vN, vbs_full, zb, zc, zd, ne_eq, not_false_eq_true, ze, zf, zj, zk, vT]
      · (first | (with_reducible first | refine .rs ?_ | refine .ds (by kernel_rfl) ?_ | refine .dg (by kernel_rfl) ?_ | refine .rg ?_ | refine .ite ?_ | refine .ret ?_ | refine .skip ?_ | refine .exit ?_ | refine .scope ?_ | refine .seq (.label ?_) | refine .block ?_ | refine .seq ?_)); (try simp only [vO, vQ, ↓vP, vE, vS, vB, vL, vF, vM, vN, vbs_full, zb, zc, zd, ne_eq, not_false_eq_true, ze, zf, zj, zk, Z3, info3, Z150, info150, Z179, info179, Z187, info187, Z5, info5, Z9, info9, vT])
        refine vif_intro (fun h => absurd (show ¬ (2:Int) ≤ (nd : Int) by omega) (not_not_intro h)) (fun _ => ?_)
        repeat' (first | with_reducible rfl | exact trivial | exact .inr trivial | (with_reducible first | apply And.intro | apply vqx_step | apply vqm_step | refine vkp_free (by decide +kernel) ?_ | intro _) | refine zaW (j6 ui3 ui150 ui179 ui187 ui5 ui9) ?_ | (with_reducible first | refine vfresh_set ?_ | refine vfresh_intro (fun _ _ => ?_) | refine vif_intro (fun _ => ?_) (fun _ => ?_)) | omega | refine zt (j6 ui3 ui150 ui179 ui187 ui5 ui9) ?_ | fail)
        refine ⟨(nd, v, dn), ⟨by simp only; omega, g1, g2, g3⟩, .refl _, Holds_at ?_⟩
        simp only [vO, vQ, ↓vP, vE, vS, vB, vL, vF, vM, vN, vbs_full, zb, zc, zd, ne_eq, not_false_eq_true, ze, zf, zj, zk, vT]
    clear g0 g1 g2 g3
    rintro ⟨nd, v, dn⟩ ⟨g0, g1, g2, g3⟩
    simp only at g0 g1 g2 g3
    simp only []
    by_cases h0 : nd = 0
    · subst h0
      rw [padD, List.nil_append] at g2
      repeat' (first | with_reducible rfl | exact trivial | exact .inr trivial | (with_reducible first | apply And.intro | apply vqx_step | apply vqm_step | refine vkp_free (by decide +kernel) ?_ | intro _) | refine zaW (j6 ui3 ui150 ui179 ui187 ui5 ui9) ?_ | (with_reducible first | refine vfresh_set ?_ | refine vfresh_intro (fun _ _ => ?_) | refine vif_intro (fun _ => ?_) (fun _ => ?_)) | omega | refine zt (j6 ui3 ui150 ui179 ui187 ui5 ui9) ?_ | fail)
      exact ⟨_, .refl _, by rw [g2]; simp⟩
    · obtain rfl : nd = 1 := by omega
      have hv : v < 10 := by omega
      obtain ⟨P, E, hPe, hP, hE, hc⟩ := cut_list A mid 0 1 off hA (by omega)
      obtain ⟨a, rfl⟩ : ∃ a, E = [a] := by
        match E, hE with
        | [a], _ => exact ⟨a, rfl⟩
      have hPA : P = A := by rw [← hPe]; simp
      subst hPA
      rw [show 1 = 0 + 1 from rfl, hc]
      have hdig : IntKind.u8.wrap (IntKind.u32.wrap (48 + (v : Int))) = ((48 + v : Nat) : Int) := by
        rw [show (48 : Int) + (v : Int) = ((48 + v : Nat) : Int) from rfl, wrN (by omega)]
        show (((48 + v) % 256 : Nat) : Int) = _
        rw [Nat.mod_eq_of_lt (by omega)]
      repeat' (first | with_reducible rfl | exact trivial | exact .inr trivial | (with_reducible first | apply And.intro | apply vqx_step | apply vqm_step | refine vkp_free (by decide +kernel) ?_ | intro _) | refine zaW (j7 ui3 ui150 ui179 ui187 ui5 ui9 hdig) ?_ | ((first | (refine vlo_app zx ?_) | (refine vst_app zx ?_)); (try refine zs (j7 ui3 ui150 ui179 ui187 ui5 ui9 hdig) ?_)) | (with_reducible first | refine vfresh_set ?_ | refine vfresh_intro (fun _ _ => ?_) | refine vif_intro (fun _ => ?_) (fun _ => ?_)) | omega | refine zt (j7 ui3 ui150 ui179 ui187 ui5 ui9 hdig) ?_ | fail)
      · exact ⟨_, _, rfl⟩
      · simp; omega
      · refine ⟨_, .refl _, ?_⟩
        rw [← hA, List.append_assoc P, take_app0, drop_app0, ← g2, u8s_app]
        have hd1 : u8s (padD 1 v) = [.u8 (48 + v : Nat)] := by
          rw [padD, padD, List.nil_append, Nat.mod_eq_of_lt hv]
          simp only [u8s, List.map_cons, List.map_nil, UInt8.toNat_ofNat']
          rw [Nat.mod_eq_of_lt (by omega)]
        rw [hd1]
        simp
end Go.Proofs.YtjdapkelojdefaaGreatDoor

set_option linter.unusedSimpArgs false
set_option linter.unusedVariables false
namespace Go.Proofs.YtjdapkelojdefaaGreatDoor
open Go Go.V Go.Lex
theorem e47 (l : List UInt8) (c : UInt8) (σ : Sg) : VCalls Tryz.prog 194 [.s (bs l), .u8 c.toNat] σ (fun x σ' => x = .i (l.count c : Nat) ∧ σ' = σ) := by
  have := vCountString (P := Tryz.prog) (σ := σ) (s := bs l) (c := c) Tryz.func194 (by kernel_rfl) (by kernel_rfl) (by kernel_rfl) (by kernel_rfl)
  rw [bs_toList] at this
  exact this
theorem e58 (n : Nat) (hn : n ≤ 281474976710656) (σ : Sg) : VCalls Tryz.prog 186 [.i n] σ (fun y σ' => ∃ τ, σ τ = none ∧ y = .nz τ n 1 ∧ σ' = σ.set τ (.tok (some 5))) :=
  vMakeNoZero (P := Tryz.prog) (σ := σ) (ps := Tryz.f186.params) (t := 150) Tryz.func186 (by kernel_rfl) (by kernel_rfl) (by kernel_rfl) (by kernel_rfl) Z150 hn
theorem e35 (l : List UInt8) (c : UInt8) (σ : Sg) : VCalls Tryz.prog 182 [.s (bs l), .s (bs [c])] σ (fun x σ' => x = .i (l.count c : Nat) ∧ σ' = σ) := by
  (refine vfun (fun _ => .no) mixed Tryz.func182 (by kernel_rfl) ?_; simp only [bodyOf, Tryz.f182, zr])
  repeat' (first | with_reducible rfl | exact trivial | exact .inr trivial | (with_reducible first | apply And.intro | apply vqx_step | apply vqm_step | refine vkp_free (by decide +kernel) ?_ | intro _) | refine zaW (j4 ui3 ui5 ui9 @List.getD_cons_zero.{0}) ?_ | (((with_reducible refine zy (e47 l c _) ?_); rintro _ S ⟨rfl, rfl⟩); (try refine zs (j4 ui3 ui5 ui9 @List.getD_cons_zero.{0}) ?_)) | (with_reducible first | refine vfresh_set ?_ | refine vfresh_intro (fun _ _ => ?_) | refine vif_intro (fun _ => ?_) (fun _ => ?_)) | omega | refine zt (j4 ui3 ui5 ui9 @List.getD_cons_zero.{0}) ?_ | fail)
  all_goals (exact Go.V.zE)
theorem cap51 (ty : TypeId) (l : List TypeId) (σ : Sg) (R : AV → Sg → Prop) : vbuiltin Tryz.prog .cap [.sl .nil []] (List.toArray (150 :: l)) ty σ R = R (.i 0) σ := cap_nil 150 5 ty l σ R Z150
theorem vsl_nz0 (e : TypeId) (τ n sz : Nat) (k : IntKind) (σ : Sg) (R : AV → Prop) : vsl Tryz.prog (some (.slice e)) (.nz τ n sz) none (some (.val (.int k ((0 : Nat) : Int)))) none σ R = vixE (tInfo Tryz.prog e) (fun s => s = sz ∧ R (.sl (.tok τ sz) [])) := vsl_nz e τ n sz k σ R
theorem cpy51 (x y : AV) (ty : TypeId) (l : List TypeId) (σ : Sg) (R : AV → Sg → Prop) : vbuiltin Tryz.prog .copy [x, y] (List.toArray (150 :: l)) ty σ R = vcopy Tryz.prog 150 x y σ R := rfl
theorem copy51 (τ sz : Nat) (σ : Sg) (R : AV → Sg → Prop) : vcopy Tryz.prog 150 (.sl (.tok τ sz) []) (.sl .nil []) σ R = R (.i 0) σ := vcopy_nil 150 5 τ sz σ R Z150 (by rw [info5]; rfl)
theorem e48 (β n : Nat) (σ : Sg) (hβ : σ β = some (.cells 152 [.ref β 0, .sl .nil []])) (hn : n ≤ 281474976710656) : VCalls Tryz.prog 178 [.ref β 0, .i n] σ (fun x σ' => x = .tup [] ∧ ∃ τ, σ τ = none ∧ σ' = (σ.set τ (.tok (some 5))).set β (.cells 152 [.ref β 0, .sl (.tok τ 1) []])) := by
  have h58 := fun S => e58 n hn S
  (refine vfun (fun _ => .no) mixed Tryz.func178 (by kernel_rfl) ?_; simp only [bodyOf, Tryz.f178, zr])
  repeat' (first | with_reducible rfl | exact trivial | exact .inr trivial | (with_reducible first | apply And.intro | apply vqx_step | apply vqm_step | refine vkp_free (by decide +kernel) ?_ | intro _) | ((with_reducible refine .dms (fun x => x = β) [(0, false), (1, false), (2, false), (3, false), (4, false), (5, false), (6, false), (7, false), (9, false), (10, false), (11, false), (12, false), (13, false), (8, true), (14, false), (15, false)] (by decide) (by decide +kernel) ?_); (refine zs (j4 ui3 ui149 ui152 (j9 ui150 ui5 hβ @cap51 @cpy51 @copy51 @vsl_nz0 @Int.mul_zero @Int.zero_add)) ?_)) | refine zaW (j4 ui3 ui149 ui152 (j9 ui150 ui5 hβ @cap51 @cpy51 @copy51 @vsl_nz0 @Int.mul_zero @Int.zero_add)) ?_ | ((first | (refine vkp_keep (by intro β h; first | (rcases h with h | h <;> subst h <;> (simp (disch := first | assumption | (apply zv; assumption; assumption) | (apply zw; assumption; assumption; (intro e; cases e; done)) | omega) only [zm, Sg.set_ne, Sg.set_ne', Sg.del_ne, Sg.del_ne'])) | (subst h; (simp (disch := first | assumption | (apply zv; assumption; assumption) | (apply zw; assumption; assumption; (intro e; cases e; done)) | omega) only [zm, Sg.set_ne, Sg.set_ne', Sg.del_ne, Sg.del_ne']))) ?_) | ((with_reducible refine zy (h58 _) ?_); rintro _ S ⟨τ, hτ, rfl, rfl⟩) | (refine vlo_app (o' := some (.cells 152 [.ref β 0, .sl .nil []])) (keepAt (by assumption) (by first | assumption | ((simp (disch := first | assumption | (apply zv; assumption; assumption) | (apply zw; assumption; assumption; (intro e; cases e; done)) | omega) only [zm, Sg.set_ne, Sg.set_ne', Sg.del_ne, Sg.del_ne']); first | done | rfl | assumption))) ?_) | (refine vlo_app zx ?_) | (refine vst_app zx ?_)); (try refine zs (j4 ui3 ui149 ui152 (j9 ui150 ui5 hβ @cap51 @cpy51 @copy51 @vsl_nz0 @Int.mul_zero @Int.zero_add)) ?_)) | (with_reducible first | refine vfresh_set ?_ | refine vfresh_intro (fun _ _ => ?_) | refine vif_intro (fun _ => ?_) (fun _ => ?_)) | omega | refine zt (j4 ui3 ui149 ui152 (j9 ui150 ui5 hβ @cap51 @cpy51 @copy51 @vsl_nz0 @Int.mul_zero @Int.zero_add)) ?_ | fail)
  all_goals exact ⟨_, .refl _, _, hτ, rfl⟩
theorem e36 (β n : Nat) (σ : Sg) (h0 : σ β = none) (hn0 : 0 < n) (hn : n ≤ 281474976710656) : VCalls Tryz.prog 154 [.ref β 0, .i n] (σ.set β (.cells 152 [.val (.pointer none), .sl .nil []])) (fun x σ' => x = .tup [] ∧ Bld β [] σ σ') := by
  have h48 := fun S hS => e48 β n S hS hn
  (refine vfun (fun _ => .no) mixed Tryz.func154 (by kernel_rfl) ?_; simp only [bodyOf, Tryz.f154, zr])
  repeat' (first | with_reducible rfl | exact trivial | exact .inr trivial | (with_reducible first | apply And.intro | apply vqx_step | apply vqm_step | refine vkp_free (by decide +kernel) ?_ | intro _) | refine zaW (j6 ui3 ui149 ui152 ui150 ui5 @cap51) ?_ | ((first | with_reducible refine (t115 β _ _ _ (zm _ _ _) (.inl rfl)).use ?_ | ((with_reducible refine zy (h48 _ (by first | assumption | ((simp (disch := first | assumption | (apply zv; assumption; assumption) | (apply zw; assumption; assumption; (intro e; cases e; done)) | omega) only [zm, Sg.set_ne, Sg.set_ne', Sg.del_ne, Sg.del_ne']); first | done | rfl | assumption))) ?_); rintro _ S ⟨rfl, τ, hτ, rfl⟩) | (refine vlo_app zx ?_) | (refine vst_app zx ?_)); (try refine zs (j6 ui3 ui149 ui152 ui150 ui5 @cap51) ?_)) | (with_reducible first | refine vfresh_set ?_ | refine vfresh_intro (fun _ _ => ?_) | refine vif_intro (fun _ => ?_) (fun _ => ?_)) | omega | refine zt (j6 ui3 ui149 ui152 ui150 ui5 @cap51) ?_ | fail)
  obtain ⟨hne, h1⟩ := Sg.of_set_none hτ
  exact ⟨(σ.set τ (.tok (some 5))).set β (.cells 152 [.ref β 0, .sl (.tok τ 1) []]), (by intro y p hy; simp only [Sg.set_apply, Sg.del_apply] at hy ⊢; grind), h0, .inr ⟨τ, hne, h1, rfl⟩⟩
theorem e49 (l : List UInt8) (c : UInt8) (σ : Sg) : VCalls Tryz.prog 195 [.s (bs l), .s (bs [c])] σ (fun x σ' => x = .i (if upTo c l < l.length then (upTo c l : Nat) else -1) ∧ σ' = σ) := by
  have h39 := fun σ => t114 l c σ
  (refine vfun (fun _ => .no) mixed Tryz.func195 (by kernel_rfl) ?_; simp only [bodyOf, Tryz.f195, zr])
  repeat' (first | with_reducible rfl | exact trivial | exact .inr trivial | (with_reducible first | apply And.intro | apply vqx_step | apply vqm_step | refine vkp_free (by decide +kernel) ?_ | intro _) | refine zaW (j4 ui3 ui5 ui9 @List.getD_cons_zero.{0}) ?_ | (((with_reducible refine zy (h39 _) ?_); rintro _ S ⟨rfl, rfl⟩); (try refine zs (j4 ui3 ui5 ui9 @List.getD_cons_zero.{0}) ?_)) | (with_reducible first | refine vfresh_set ?_ | refine vfresh_intro (fun _ _ => ?_) | refine vif_intro (fun _ => ?_) (fun _ => ?_)) | omega | refine zt (j4 ui3 ui5 ui9 @List.getD_cons_zero.{0}) ?_ | fail)
  · rename_i hc
    subst hc
    exact ⟨_, .refl _, by simp [upTo], rfl⟩
  · exact ⟨_, .refl _, rfl⟩
theorem e37 (l : List UInt8) (σ : Sg) : VCalls Tryz.prog 183 [.s (bs l), .s (bs [39])] σ (fun x σ' => x = .i (if upTo 39 l < l.length then (upTo 39 l : Nat) else -1) ∧ σ' = σ) := by
  have h49 : ∀ σ, VCalls Tryz.prog 195 [.s (bs l), .s (bs [39])] σ _ := fun σ => e49 l 39 σ
  (refine vfun (fun _ => .no) mixed Tryz.func183 (by kernel_rfl) ?_; simp only [bodyOf, Tryz.f183, zr])
  repeat' (first | with_reducible rfl | exact trivial | exact .inr trivial | (with_reducible first | apply And.intro | apply vqx_step | apply vqm_step | refine vkp_free (by decide +kernel) ?_ | intro _) | refine zaW (j3 ui3 ui5 ui9) ?_ | (((with_reducible refine zy (h49 _) ?_); rintro _ S ⟨rfl, rfl⟩); (try refine zs (j3 ui3 ui5 ui9) ?_)) | (with_reducible first | refine vfresh_set ?_ | refine vfresh_intro (fun _ _ => ?_) | refine vif_intro (fun _ => ?_) (fun _ => ?_)) | omega | refine zt (j3 ui3 ui5 ui9) ?_ | fail)
  all_goals (exact Go.V.zE)
end Go.Proofs.YtjdapkelojdefaaGreatDoor
namespace Go.Lex
open Go.V Go.Proofs.YtjdapkelojdefaaGreatDoor
theorem quo_count0 : ∀ {l : List UInt8}, l.count 39 = 0 → quo l = l
  | [], _ => rfl
  | c :: r, h => by
    rw [List.count_cons] at h
    have h1 : c ≠ 39 := fun e => by rw [e] at h; simp at h
    unfold quo
    rw [if_neg h1, quo_count0 (by omega)]
theorem quo_step : ∀ {l : List UInt8}, 0 < l.count 39 → upTo 39 l < l.length ∧ quo l = l.take (upTo 39 l) ++ ([39, 39] ++ quo (l.drop (upTo 39 l + 1))) ∧ l.count 39 = 1 + (l.drop (upTo 39 l + 1)).count 39
  | [], h => by simp at h
  | c :: r, h => by
    by_cases hc : c = 39
    · subst hc
      have : upTo 39 (39 :: r) = 0 := by simp [upTo]
      rw [this]
      refine ⟨by simp, ?_, ?_⟩
      · rw [quo, if_pos rfl]; rfl
      · rw [List.count_cons]; simp; omega
    · have hu : upTo 39 (c :: r) = upTo 39 r + 1 := by simp [upTo, hc]
      have hcc : (c :: r).count 39 = r.count 39 := by rw [List.count_cons]; simp [hc]
      rw [hcc] at h ⊢
      obtain ⟨h1, h2, h3⟩ := quo_step h
      rw [hu]
      refine ⟨by simpa using h1, ?_, ?_⟩
      · rw [quo, if_neg hc, h2]; simp
      · rw [List.drop_succ_cons]; exact h3
end Go.Lex
namespace Go.Proofs.YtjdapkelojdefaaGreatDoor
open Go Go.V Go.Lex
theorem e24 (l : List UInt8) (hl : l.length < 2 ^ 38) (σ : Sg) : VCalls Tryz.prog 176 [.s (bs l), .s (bs [39]), .s (bs [39, 39]), .i (-1)] σ (fun x σ' => x = .s (bs (quo l)) ∧ σ' = σ) := by
  have h35 : ∀ σ, VCalls Tryz.prog 182 [.s (bs l), .s (bs [39])] σ _ := fun σ => e35 l 39 σ
  have hcl : l.count 39 ≤ l.length := List.count_le_length
  by_cases h0 : l.count 39 = 0
  · rw [quo_count0 h0]
    simp only [h0] at h35
    (refine vfun (fun _ => .no) mixed Tryz.func176 (by kernel_rfl) ?_; simp only [bodyOf, Tryz.f176, zr])
    repeat' (first | with_reducible rfl | exact trivial | exact .inr trivial | (with_reducible first | apply And.intro | apply vqx_step | apply vqm_step | refine vkp_free (by decide +kernel) ?_ | intro _) | refine zaW (j3 ui3 ui5 ui9) ?_ | (((with_reducible refine zy (h35 _) ?_); rintro _ S ⟨rfl, rfl⟩); (try refine zs (j3 ui3 ui5 ui9) ?_)) | (with_reducible first | refine vfresh_set ?_ | refine vfresh_intro (fun _ _ => ?_) | refine vif_intro (fun _ => ?_) (fun _ => ?_)) | omega | refine zt (j3 ui3 ui5 ui9) ?_ | fail)
    all_goals (exact Go.V.zE)
  · have h36 : ∀ β S, S β = none → VCalls Tryz.prog 154 [.ref β 0, .val (.int .i64 ((l.length : Int) + (l.count 39 : Nat) * (((2 : Nat) : Int) - ((1 : Nat) : Int))))] (S.set β (.cells 152 [.val (.pointer none), .sl .nil []])) (fun x σ' => x = .tup [] ∧ Bld β [] S σ') := fun β S hS => by
      have e : (l.length : Int) + (l.count 39 : Nat) * (((2 : Nat) : Int) - ((1 : Nat) : Int)) = ((l.length + l.count 39 : Nat) : Int) := by omega
      rw [e]
      exact e36 β (l.length + l.count 39) S hS (by omega) (by omega)
    (refine vfun (fun _ => .no) mixed Tryz.func176 (by kernel_rfl) ?_; simp only [bodyOf, Tryz.f176, zr])
    repeat' (first | with_reducible rfl | exact trivial | exact .inr trivial | (with_reducible first | apply And.intro | apply vqx_step | apply vqm_step | refine vkp_free (by decide +kernel) ?_ | intro _) | refine zaW (j4 ui3 ui5 ui9 ui152) ?_ | ((first | ((with_reducible refine zy (h35 _) ?_); rintro _ S ⟨rfl, rfl⟩) | ((with_reducible refine zy (h36 _ _ (by assumption)) ?_); rintro _ S' ⟨rfl, hB⟩)); (try refine zs (j4 ui3 ui5 ui9 ui152) ?_)) | (with_reducible first | refine vfresh_set ?_ | refine vfresh_intro (fun _ _ => ?_) | refine vif_intro (fun _ => ?_) (fun _ => ?_)) | omega | refine zt (j4 ui3 ui5 ui9 ui152) ?_ | fail)
    · rename_i hx
      cases hx
    rename_i b hb _
    refine VW.loop3 (0 : Nat) (([], 0) : List UInt8 × Nat) S' (fun k p S' => k ≤ l.count 39 ∧ p.2 ≤ l.length ∧ p.1 ++ quo (l.drop p.2) = quo l ∧ (l.drop p.2).count 39 + k = l.count 39 ∧ p.1.length ≤ 2 * p.2 ∧ Bld b p.1 S S') (fun k p _ => [(0, .s (bs l)), (1, .s (bs [39])), (2, .s (bs [39, 39])), (10, .ref b 0), (11, .i p.2), (52, .i (l.count 39 : Nat)), (53, .i k)]) (fun _ _ S' => S') (fun k _ _ => l.count 39 - k) ⟨by omega, by simp, rfl, by simp, by simp, hB⟩ (.refl _) ?_ ?_
    · simp only [vO, vQ, ↓vP, vE, vS, vB, vL, vF, vM, vN, vbs_full, zb, zc, zd, ne_eq, not_false_eq_true, ze, zf, zj, zk, vT]
      all_goals exact ⟨rfl, rfl⟩
    clear hB
    rintro k ⟨acc, st⟩ S' ⟨g1, g2, g3, g4, g5, hB⟩
    simp only at g2 g3 g4 g5 hB
    by_cases hk : k < l.count 39
    · obtain ⟨q1, q2, q3⟩ := quo_step (l := l.drop st) (by omega)
      have h37 : VCalls Tryz.prog 183 [.s (bs (l.drop st)), .s (bs [39])] S' (fun x σ' => x = .i (upTo 39 (l.drop st) : Nat) ∧ σ' = S') := by
        have := e37 (l.drop st) S'
        rw [if_pos q1] at this
        exact this
      have hcut : (l.take (st + upTo 39 (l.drop st))).drop st = (l.drop st).take (upTo 39 (l.drop st)) := by rw [List.drop_take]; congr 1; omega
      rw [List.length_drop] at q1
      rw [List.drop_drop] at q2 q3
      generalize upTo 39 (l.drop st) = t at *
      repeat' (first | with_reducible rfl | exact trivial | exact .inr trivial | (with_reducible first | apply And.intro | apply vqx_step | apply vqm_step | refine vkp_free (by decide +kernel) ?_ | intro _) | refine zaW (j2 ui3 (j9 ui5 ui9 ui152 @nadd @nadd1 @nadd2 @nadd3 @n1add @n2add)) ?_ | ((first | ((with_reducible refine zy h37 ?_); rintro _ _ ⟨rfl, rfl⟩) | ((with_reducible refine zy (t100 _ _ _ _ _ hB (by simp; omega)) ?_); rintro _ S'' ⟨rfl, hB⟩)); (try refine zs (j2 ui3 (j9 ui5 ui9 ui152 @nadd @nadd1 @nadd2 @nadd3 @n1add @n2add)) ?_)) | (with_reducible first | refine vfresh_set ?_ | refine vfresh_intro (fun _ _ => ?_) | refine vif_intro (fun _ => ?_) (fun _ => ?_)) | omega | refine zt (j2 ui3 (j9 ui5 ui9 ui152 @nadd @nadd1 @nadd2 @nadd3 @n1add @n2add)) ?_ | fail)
      rename_i _ S'' _ _ hB
      exact ⟨k + 1, (acc ++ (l.take (st + t)).drop st ++ [39, 39], st + t + 1), S'', ⟨⟨by omega, by simp only; omega, by simp only; rw [hcut, ← g3, q2, Nat.add_assoc]; simp only [List.append_assoc], by simp only; rw [Nat.add_assoc]; omega, by simp only [List.length_append, List.length_drop, List.length_take, List.length_cons, List.length_nil]; omega, hB⟩, by omega⟩, .refl _, rfl, rfl⟩
    · repeat' (first | with_reducible rfl | exact trivial | exact .inr trivial | (with_reducible first | apply And.intro | apply vqx_step | apply vqm_step | refine vkp_free (by decide +kernel) ?_ | intro _) | refine zaW (j2 ui3 (j9 ui5 ui9 ui152 @nadd @nadd1 @nadd2 @nadd3 @n1add @n2add)) ?_ | ((first | ((with_reducible refine zy (t100 _ _ _ _ _ hB (by simp; omega)) ?_); rintro _ S'' ⟨rfl, hB⟩) | with_reducible refine (t103 _ _ _ _ hB (by first | assumption | (simp; omega))).use ?_); (try refine zs (j2 ui3 (j9 ui5 ui9 ui152 @nadd @nadd1 @nadd2 @nadd3 @n1add @n2add)) ?_)) | (with_reducible first | refine vfresh_set ?_ | refine vfresh_intro (fun _ _ => ?_) | refine vif_intro (fun _ => ?_) (fun _ => ?_)) | omega | refine zt (j2 ui3 (j9 ui5 ui9 ui152 @nadd @nadd1 @nadd2 @nadd3 @n1add @n2add)) ?_ | fail)
      exact ⟨S, hB.sub, by rw [← g3, quo_count0 (by omega)], rfl⟩
end Go.Proofs.YtjdapkelojdefaaGreatDoor

set_option linter.unusedSimpArgs false
set_option linter.unusedVariables false
namespace Go.V
open Go.Lex
variable {P : Program}
theorem vsl_arr {β off n e : Nat} {l h : Int} {k1 k2 : IntKind} {T : TypeId} {cs : List AV} {z : Option Value} {s b : Nat} {σ : Sg} {R : AV → Prop} (hc : σ β = some (.cells T cs)) (hi : tInfo P e = some (z, s, b)) (hl : off + n * s ≤ cs.length) (h1 : 0 ≤ l ∧ l ≤ h ∧ h ≤ n ∧ (l = 0 ∨ l < n)) (hR : R (.ms β (off + l.toNat * s) (h - l).toNat s)) :
    vsl P (some (.array n e)) (.ref β off) (some (.val (.int k1 l))) (some (.val (.int k2 h))) none σ R := by
  unfold vsl
  simp only [optInt, hi, hc]
  exact ⟨⟨hl, h1⟩, hR⟩
theorem vcv_ms {β off n e : Nat} {q : Bool} {T : TypeId} {cs : List AV} {l : List UInt8} {σ : Sg} {R : AV → Sg → Prop} (he : P.underlying e = some (.int .u8)) (hc : σ β = some (.cells T cs)) (hl : (cs.drop off).take n = l.map fun c => AV.u8 c.toNat) (hn : l.length = n) (hR : R (.s (bs l)) σ) :
    vcv P q (some (.slice e)) (some .string) (.ms β off n 1) σ R := by
  unfold vcv
  simp only [he, hc]
  exact ⟨bs l, trivial, hl, hn, hR⟩
end Go.V
namespace Go.Proofs.YtjdapkelojdefaaGreatDoor
open Go Go.V Go.Lex
theorem e34 (n : Nat) (hn : n < 9223372036854775808) (σ : Sg) : VCalls Tryz.prog 181 [.i n, .i 10] σ (fun x σ' => x = .s (bs (dec n)) ∧ σ' = σ) := by
  by_cases h : n < 100
  · (refine vfun (fun _ => .no) mixed Tryz.func181 (by kernel_rfl) ?_; simp only [bodyOf, Tryz.f181, zr])
    repeat' (first | with_reducible rfl | exact trivial | exact .inr trivial | (with_reducible first | apply And.intro | apply vqx_step | apply vqm_step | refine vkp_free (by decide +kernel) ?_ | intro _) | refine zaW (j4 ui3 ui2 ui4 ui9) ?_ | (((with_reducible refine zy (e42 n h _) ?_); rintro _ S ⟨rfl, rfl⟩); (try refine zs (j4 ui3 ui2 ui4 ui9) ?_)) | (with_reducible first | refine vfresh_set ?_ | refine vfresh_intro (fun _ _ => ?_) | refine vif_intro (fun _ => ?_) (fun _ => ?_)) | omega | refine zt (j4 ui3 ui2 ui4 ui9) ?_ | fail)
    all_goals (exact Go.V.zE)
  · have hU : IntKind.u64.wrap (n : Int) = (n : Int) := wrM (by omega)
    have hL : (dec n).length ≤ 19 := dec_len n 18 (by omega)
    have h1 : 1 ≤ n := by omega
    have h43 : ∀ σ, VCalls Tryz.prog 190 [.val (.int .u64 n)] σ _ := fun σ => e43 n h1 (by omega) σ
    generalize hLe : (dec n).length = L at *
    have hs1 : (((1 + L : Nat) : Int) - 1).toNat = L := by omega
    have hdec : dec n = padD L n := by rw [← hLe]; exact dec_padlen n
    have hlt : n < 10 ^ L := by rw [← hLe]; exact dec_pow n
    have h44 : ∀ b S, S b = some (.cells 178 ([.u8 0] ++ List.replicate L (.u8 0) ++ List.replicate (23 - L) (.u8 0))) → VCalls Tryz.prog 191 [.ms b 1 L 1, .val (.int .u64 n)] S _ := fun b S hS => e44 b 1 L n _ _ _ S hS rfl (by simp) hlt (by omega) (by omega)
    have hz : ([.u8 0] ++ List.replicate L (AV.u8 0) ++ List.replicate (23 - L) (.u8 0)) = [AV.val (.int .u8 0), AV.val (.int .u8 0), AV.val (.int .u8 0), AV.val (.int .u8 0), AV.val (.int .u8 0), AV.val (.int .u8 0), AV.val (.int .u8 0), AV.val (.int .u8 0), AV.val (.int .u8 0), AV.val (.int .u8 0), AV.val (.int .u8 0), AV.val (.int .u8 0), AV.val (.int .u8 0), AV.val (.int .u8 0), AV.val (.int .u8 0), AV.val (.int .u8 0), AV.val (.int .u8 0), AV.val (.int .u8 0), AV.val (.int .u8 0), AV.val (.int .u8 0), AV.val (.int .u8 0), AV.val (.int .u8 0), AV.val (.int .u8 0), AV.val (.int .u8 0)] := by
      rw [← List.replicate_one, List.replicate_append_replicate, List.replicate_append_replicate]
      exact (congrArg (fun k => List.replicate k (AV.u8 0)) (show 1 + L + (23 - L) = 24 by omega)).trans rfl
    simp only [hz] at h44
    (refine vfun (fun _ => .no) mixed Tryz.func181 (by kernel_rfl) ?_; simp only [bodyOf, Tryz.f181, zr])
    repeat' (first | with_reducible rfl | exact trivial | exact .inr trivial | (with_reducible first | apply And.intro | apply vqx_step | apply vqm_step | refine vkp_free (by decide +kernel) ?_ | intro _) | refine zaW (j8 ui3 ui2 ui4 ui9 ui179 ui178 ui150 (j9 ui5 hU @nadd @nadd1 @nadd2 @nadd3 @n1add @n2add hs1)) ?_ | ((first | ((with_reducible refine zy (h43 _) ?_); rintro _ S ⟨rfl, rfl⟩) | ((with_reducible refine zy (h44 _ _ (by first | assumption | ((simp (disch := first | assumption | (apply zv; assumption; assumption) | (apply zw; assumption; assumption; (intro e; cases e; done)) | omega) only [zm, Sg.set_ne, Sg.set_ne', Sg.del_ne, Sg.del_ne']); first | done | rfl | assumption))) ?_); rintro _ S ⟨rfl, rfl⟩) | (refine vsl_arr (by first | assumption | ((simp (disch := first | assumption | (apply zv; assumption; assumption) | (apply zw; assumption; assumption; (intro e; cases e; done)) | omega) only [zm, Sg.set_ne, Sg.set_ne', Sg.del_ne, Sg.del_ne']); first | done | rfl | assumption)) info5 (by simp [u8s_len, padD_len]; try omega) ?_ ?_) | (refine vcv_ms (l := padD L n) Z5 (by first | assumption | ((simp (disch := first | assumption | (apply zv; assumption; assumption) | (apply zw; assumption; assumption; (intro e; cases e; done)) | omega) only [zm, Sg.set_ne, Sg.set_ne', Sg.del_ne, Sg.del_ne']); first | done | rfl | assumption)) ?_ ?_ ?_)); (try refine zs (j8 ui3 ui2 ui4 ui9 ui179 ui178 ui150 (j9 ui5 hU @nadd @nadd1 @nadd2 @nadd3 @n1add @n2add hs1)) ?_)) | (with_reducible first | refine vfresh_set ?_ | refine vfresh_intro (fun _ _ => ?_) | refine vif_intro (fun _ => ?_) (fun _ => ?_)) | omega | refine zt (j8 ui3 ui2 ui4 ui9 ui179 ui178 ui150 (j9 ui5 hU @nadd @nadd1 @nadd2 @nadd3 @n1add @n2add hs1)) ?_ | fail)
    · rw [List.take_append_of_le_length (by rw [u8s_len, padD_len]; exact Nat.le_refl _), List.take_of_length_le (by rw [u8s_len, padD_len]; exact Nat.le_refl _)]
      rfl
    · exact padD_len L n
    · exact ⟨σ, Sg.sub_set ‹_› _, by rw [hdec], rfl⟩
theorem e23 (n : Nat) (hn : n < 9223372036854775808) (σ : Sg) : VCalls Tryz.prog 175 [.i n] σ (fun x σ' => x = .s (bs (dec n)) ∧ σ' = σ) := by
  (refine vfun (fun _ => .no) mixed Tryz.func175 (by kernel_rfl) ?_; simp only [bodyOf, Tryz.f175, zr])
  repeat' (first | with_reducible rfl | exact trivial | exact .inr trivial | (with_reducible first | apply And.intro | apply vqx_step | apply vqm_step | refine vkp_free (by decide +kernel) ?_ | intro _) | refine zaW (j3 ui3 ui2 ui9) ?_ | (((with_reducible refine zy (e34 n hn _) ?_); rintro _ S ⟨rfl, rfl⟩); (try refine zs (j3 ui3 ui2 ui9) ?_)) | (with_reducible first | refine vfresh_set ?_ | refine vfresh_intro (fun _ _ => ?_) | refine vif_intro (fun _ => ?_) (fun _ => ?_)) | omega | refine zt (j3 ui3 ui2 ui9) ?_ | fail)
  all_goals (exact Go.V.zE)
theorem e11 (n : Nat) (hn : n < 9223372036854775808) (σ : Sg) : VCalls Tryz.prog 152 [.i n] σ (fun x σ' => x = .s (bs (dec n)) ∧ σ' = σ) := by
  (refine vfun (fun _ => .no) mixed Tryz.func152 (by kernel_rfl) ?_; simp only [bodyOf, Tryz.f152, zr])
  repeat' (first | with_reducible rfl | exact trivial | exact .inr trivial | (with_reducible first | apply And.intro | apply vqx_step | apply vqm_step | refine vkp_free (by decide +kernel) ?_ | intro _) | refine zaW (j3 ui3 ui2 ui9) ?_ | (((with_reducible refine zy (e23 n hn _) ?_); rintro _ S ⟨rfl, rfl⟩); (try refine zs (j3 ui3 ui2 ui9) ?_)) | (with_reducible first | refine vfresh_set ?_ | refine vfresh_intro (fun _ _ => ?_) | refine vif_intro (fun _ => ?_) (fun _ => ?_)) | omega | refine zt (j3 ui3 ui2 ui9) ?_ | fail)
  all_goals (exact Go.V.zE)
theorem e12 (l : List UInt8) (hl : l.length < 2 ^ 38) (σ : Sg) : VCalls Tryz.prog 153 [.s (bs l), .s (bs [39]), .s (bs [39, 39])] σ (fun x σ' => x = .s (bs (quo l)) ∧ σ' = σ) := by
  (refine vfun (fun _ => .no) mixed Tryz.func153 (by kernel_rfl) ?_; simp only [bodyOf, Tryz.f153, zr])
  repeat' (first | with_reducible rfl | exact trivial | exact .inr trivial | (with_reducible first | apply And.intro | apply vqx_step | apply vqm_step | refine vkp_free (by decide +kernel) ?_ | intro _) | refine zaW (j2 ui3 ui9) ?_ | (((with_reducible refine zy (e24 l hl _) ?_); rintro _ S ⟨rfl, rfl⟩); (try refine zs (j2 ui3 ui9) ?_)) | (with_reducible first | refine vfresh_set ?_ | refine vfresh_intro (fun _ _ => ?_) | refine vif_intro (fun _ => ?_) (fun _ => ?_)) | omega | refine zt (j2 ui3 ui9) ?_ | fail)
  all_goals (exact Go.V.zE)
end Go.Proofs.YtjdapkelojdefaaGreatDoor

set_option linter.unusedSimpArgs false
set_option linter.unusedVariables false
namespace Go.Proofs.YtjdapkelojdefaaGreatDoor
open Go Go.V Go.Lex Go.Print
theorem eq23 {d : TypeDesc} {a b a' b' : Int} {s t : ByteArray} : veqT Tryz.prog 23 d (.agg [.i a, .i b, .s s]) (.agg [.i a', .i b', .s t]) = some (decide (a = a') && (decide (b = b') && (sEq s t && true))) := by
  rw [veqT_agg (by kernel_rfl), veqIn_struct (d := 9999) Tryz.underlying23 (by kernel_rfl)]
  exact veqFs_cons (by decide) (partO_one info3 Z3 rfl) (partO_one info3 Z3 rfl) (veqIn_int Z3) (veqFs_cons (by decide) (partO_one info3 Z3 rfl) (partO_one info3 Z3 rfl) (veqIn_int Z3) (veqFs_cons (by decide) (partO_one info9 Z9 rfl) (partO_one info9 Z9 rfl) (veqIn_str Z9) rfl))
theorem e8 (k n : Int) (t : List UInt8) (σ : Sg) : VCalls Tryz.prog 150 [.agg [.i k, .i n, .s (bs t)]] σ (fun x σ' => x = .agg [.i k, .i (bareV k n t).1, .s (bs (bareV k n t).2)] ∧ σ' = σ) := by
  unfold bareV
  (refine vfun (fun _ => .no) mixed Tryz.func150 (by kernel_rfl) ?_; simp only [bodyOf, Tryz.f150, zr])
  repeat' (first | with_reducible rfl | exact trivial | exact .inr trivial | (with_reducible first | apply And.intro | apply vqx_step | apply vqm_step | refine vkp_free (by decide +kernel) ?_ | intro _) | refine zaW (j3 ui3 ui9 ui23) ?_ | ((first | (refine vlo_app zx ?_) | (refine vst_app zx ?_)); (try refine zs (j3 ui3 ui9 ui23) ?_)) | (with_reducible first | refine vfresh_set ?_ | refine vfresh_intro (fun _ _ => ?_) | refine vif_intro (fun _ => ?_) (fun _ => ?_)) | omega | refine zt (j3 ui3 ui9 ui23) ?_ | fail)
  all_goals exact ⟨σ, (by intro y p hy; simp only [Sg.set_apply, Sg.del_apply] at hy ⊢; grind), by simp_all, rfl⟩
theorem e5 (k n : Int) (t : List UInt8) (σ : Sg) : VCalls Tryz.prog 98 [.agg [.i k, .i n, .s (bs t)]] σ (fun x σ' => x = .i (rightV k n t) ∧ σ' = σ) := by
  unfold rightV
  have h8 := e8 k n t
  generalize bareV k n t = bv at *
  (refine vfun (fun _ => .ro) mixed Tryz.func98 (by kernel_rfl) ?_; simp only [bodyOf, Tryz.f98, zr])
  repeat' (first | with_reducible rfl | exact trivial | exact .inr trivial | (with_reducible first | apply And.intro | apply vqx_step | apply vqm_step | refine vkp_free (by decide +kernel) ?_ | intro _) | refine zaW (j6 ui3 ui4 ui9 ui23 ui30 @eq23) ?_ | (((with_reducible refine zy (h8 _) ?_); rintro _ S ⟨rfl, rfl⟩); (try refine zs (j6 ui3 ui4 ui9 ui23 ui30 @eq23) ?_)) | (with_reducible first | refine vfresh_set ?_ | refine vfresh_intro (fun _ _ => ?_) | refine vif_intro (fun _ => ?_) (fun _ => ?_)) | omega | refine zt (j6 ui3 ui4 ui9 ui23 ui30 @eq23) ?_ | fail)
  all_goals (clear h8; obtain ⟨b1, b2⟩ := bv; refine ⟨σ, .refl _, congrArg (fun c => AV.val (Value.int IntKind.i64 c)) ?_, rfl⟩)
  all_goals simp only [Prod.mk.injEq, ne_eq, Bool.and_eq_true, decide_eq_true_eq, decide_true, true_and] at *
  all_goals grind
end Go.Proofs.YtjdapkelojdefaaGreatDoor

set_option linter.unusedSimpArgs false
set_option linter.unusedVariables false
namespace Go.Proofs.YtjdapkelojdefaaGreatDoor
open Go Go.V Go.Lex Go.Print
def litL (k : Int) (n : Nat) (t : List UInt8) : List UInt8 := if k = 1 then dec n else if k = 2 then quoteL t else [78, 85, 76, 76]
end Go.Proofs.YtjdapkelojdefaaGreatDoor

set_option linter.unusedSimpArgs false
set_option linter.unusedVariables false
namespace Go.Proofs.YtjdapkelojdefaaGreatDoor
open Go Go.V Go.Lex Go.Print
theorem e7 (k : Int) (n : Nat) (t : List UInt8) (hn : n < 9223372036854775808) (ht : t.length ≤ 40) (σ : Sg) : VCalls Tryz.prog 105 [.agg [.i k, .i n, .s (bs t)]] σ (fun x σ' => x = .s (bs (litL k n t)) ∧ σ' = σ) := by
  unfold litL quoteL
  have hq := quo_len t
  (refine vfun (fun _ => .ro) mixed Tryz.func105 (by kernel_rfl) ?_; simp only [bodyOf, Tryz.f105, zr])
  repeat' (first | with_reducible rfl | exact trivial | exact .inr trivial | (with_reducible first | apply And.intro | apply vqx_step | apply vqm_step | refine vkp_free (by decide +kernel) ?_ | intro _) | refine zaW (j4 ui3 ui4 ui9 ui23) ?_ | ((first | ((with_reducible refine zy (e11 n hn _) ?_); rintro _ S ⟨rfl, rfl⟩) | ((with_reducible refine zy (e12 t (by omega) _) ?_); rintro _ S ⟨rfl, rfl⟩)); (try refine zs (j4 ui3 ui4 ui9 ui23) ?_)) | (with_reducible first | refine vfresh_set ?_ | refine vfresh_intro (fun _ _ => ?_) | refine vif_intro (fun _ => ?_) (fun _ => ?_)) | omega | refine zt (j4 ui3 ui4 ui9 ui23) ?_ | fail)
  all_goals exact ⟨_, .refl _, by simp [*], rfl⟩
end Go.Proofs.YtjdapkelojdefaaGreatDoor

set_option linter.unusedVariables false
namespace Go.V
open Go.RowKit
variable {P : Program}
theorem VCalls.fr {f : FuncId} {args : List AV} {σ : Sg} {R' : AV → Sg → Prop} {X : Nat → AV} {S : Nat → Sg} (hc : VCalls P f args σ (fun x σ' => ∃ τ, σ τ = none ∧ x = X τ ∧ σ' = S τ)) (h : vfresh σ fun τ => R' (X τ) (S τ)) : VCalls P f args σ R' :=
  hc.mono (fun x σ' hx => by
    obtain ⟨τ, h0, rfl, rfl⟩ := hx
    exact h τ h0)
theorem allOne_app (a b : List (List AV)) (n : Nat) : allOne (a ++ b) n = (allOne a n ∧ allOne b n) := propext ⟨fun h => ⟨fun e he => h e (List.mem_append_left _ he), fun e he => h e (List.mem_append_right _ he)⟩, fun h e he => (List.mem_append.1 he).elim (h.1 e) (h.2 e)⟩
theorem allLen_app (a b : List (List AV)) (n : Nat) : allLen (a ++ b) n = (allLen a n ∧ allLen b n) := propext ⟨fun h => ⟨fun e he => h e (List.mem_append_left _ he), fun e he => h e (List.mem_append_right _ he)⟩, fun h e he => (List.mem_append.1 he).elim (h.1 e) (h.2 e)⟩
theorem allOne_cons (x : List AV) (b : List (List AV)) (n : Nat) : allOne (x :: b) n = ((x.length = n ∧ (x.all AV.one) = true) ∧ allOne b n) := propext ⟨fun h => ⟨h x (List.mem_cons_self ..), fun e he => h e (List.mem_cons_of_mem _ he)⟩, fun h e he => (List.mem_cons.1 he).elim (fun hh => hh ▸ h.1) (h.2 e)⟩
theorem allLen_cons (x : List AV) (b : List (List AV)) (n : Nat) : allLen (x :: b) n = (x.length = n ∧ allLen b n) := propext ⟨fun h => ⟨h x (List.mem_cons_self ..), fun e he => h e (List.mem_cons_of_mem _ he)⟩, fun h e he => (List.mem_cons.1 he).elim (fun hh => hh ▸ h.1) (h.2 e)⟩
theorem allOne_nil (n : Nat) : allOne [] n = True := eq_true (fun e he => by cases he)
theorem allLen_nil (n : Nat) : allLen [] n = True := eq_true (fun e he => by cases he)
end Go.V
