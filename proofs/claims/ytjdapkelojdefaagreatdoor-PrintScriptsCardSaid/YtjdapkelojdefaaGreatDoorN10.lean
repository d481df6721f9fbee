/- Part 10 of the proof: E5, E8, E9, E11, E10, W7, W8, K17, G4, W12, G8, W13, W14, W15, B6, B7, B8, B9, B10, B11, B12, B13. -/
import Derived.Test.YtjdapkelojdefaaGreatDoorN7
import Derived.Test.YtjdapkelojdefaaGreatDoorN9
import Derived.Test.YtjdapkelojdefaaGreatDoorN6
import Derived.Test.YtjdapkelojdefaaGreatDoorN8

set_option linter.all false
set_option maxRecDepth 100000
set_option maxHeartbeats 1000000
open Nat renaming reduceEqDiff → zb, reduceAdd → zd, reduceLeDiff → ze, reduceMul → zf, reduceSub → zg
open Int renaming toNat_zero → zk, reduceToNat → zl
open Go.V.Sg renaming set_same → zn, set_ne → zp, set_ne' → zq, del_ne → zr, del_ne' → zv
open Option renaming getD_some → zw
open List renaming length_append → zx, length_cons → zy, length_nil → zA
open Go.Cert renaming ne_of2 → zP, ne_ob → zQ
open Go.V.VCalls renaming mono → zS
open Go.Proofs.Tryz renaming underlying3 → Z3
namespace Go.Proofs.YtjdapkelojdefaaGreatDoor
open Go Go.V Go.Lex
theorem e47 (l : List UInt8) (c : UInt8) (σ : Sg) : VCalls Tryz.prog 194 [.s (bs l), .u8 c.toNat] σ (fun x σ' => x = .i (l.count c : Nat) ∧ σ' = σ) := by
  have := vCountString (P := Tryz.prog) (σ := σ) (s := bs l) (c := c) Tryz.func194 (by kernel_rfl) (by kernel_rfl) (by kernel_rfl) (by kernel_rfl)
  rw [Q4z] at this
  exact this
theorem e58 (n : Nat) (hn : n ≤ 281474976710656) (σ : Sg) : VCalls Tryz.prog 186 [.i n] σ (fun y σ' => ∃ τ, σ τ = none ∧ y = .nz τ n 1 ∧ σ' = σ.set τ (.tok (some 5))) :=
  vMakeNoZero (P := Tryz.prog) (σ := σ) (ps := Tryz.f186.params) (t := 150) Tryz.func186 (by kernel_rfl) (by kernel_rfl) (by kernel_rfl) (by kernel_rfl) Tryz.underlying150 hn
theorem e35 (l : List UInt8) (c : UInt8) (σ : Sg) : VCalls Tryz.prog 182 [.s (bs l), .s (bs [c])] σ (fun x σ' => x = .i (l.count c : Nat) ∧ σ' = σ) := by
  (refine vfun (fun _ => .no) Q0k Tryz.func182 (by kernel_rfl) ?_; simp only [Q0f, Tryz.f182, zw])
  (have zz := Bx.mk (j4 ui3 ui5 ui9 @List.getD_cons_zero.{0}); (repeat' (first | exact zc | (with_reducible first | apply And.intro | apply Q0a | apply Q0b | refine Q0c (by decide +kernel) ?_ | intro _) | refine zaW zz.out ?_ | (((with_reducible refine zS (e47 l c _) ?_); rintro _ S ⟨rfl, rfl⟩); (try refine zs zz.out ?_)) | refine zo ?_ | omega | refine zt zz.out ?_ | fail)); try (all_goals clear zz))
  all_goals (exact zE)
theorem cap51 (ty : TypeId) (l : List TypeId) (σ : Sg) (R : AV → Sg → Prop) : Q1s Tryz.prog .cap [.sl .nil []] (List.toArray (150 :: l)) ty σ R = R (.i 0) σ := cap_nil 150 5 ty l σ R Tryz.underlying150
theorem vsl_nz0 (e : TypeId) (τ n sz : Nat) (k : IntKind) (σ : Sg) (R : AV → Prop) : vsl Tryz.prog (some (.slice e)) (.nz τ n sz) none (some (.val (.int k ((0 : Nat) : Int)))) none σ R = vixE (Q0m Tryz.prog e) (fun s => s = sz ∧ R (.sl (.tok τ sz) [])) := vsl_nz e τ n sz k σ R
theorem cpy51 (x y : AV) (ty : TypeId) (l : List TypeId) (σ : Sg) (R : AV → Sg → Prop) : Q1s Tryz.prog .copy [x, y] (List.toArray (150 :: l)) ty σ R = X3d Tryz.prog 150 x y σ R := rfl
theorem copy51 (τ sz : Nat) (σ : Sg) (R : AV → Sg → Prop) : X3d Tryz.prog 150 (.sl (.tok τ sz) []) (.sl .nil []) σ R = R (.i 0) σ := vcopy_nil 150 5 τ sz σ R Tryz.underlying150 (by rw [Q9g]; rfl)
theorem e48 (β n : Nat) (σ : Sg) (hβ : σ β = some (.cells 152 [.ref β 0, .sl .nil []])) (hn : n ≤ 281474976710656) : VCalls Tryz.prog 178 [.ref β 0, .i n] σ (fun x σ' => x = .tup [] ∧ ∃ τ, σ τ = none ∧ σ' = (σ.set τ (.tok (some 5))).set β (.cells 152 [.ref β 0, .sl (.tok τ 1) []])) := by
  have h58 := fun S => e58 n hn S
  (refine vfun (fun _ => .no) Q0k Tryz.func178 (by kernel_rfl) ?_; simp only [Q0f, Tryz.f178, zw])
  (have zz := Bx.mk (j4 ui3 X1q Q6z (j9 Q3i ui5 hβ @cap51 @cpy51 @copy51 @vsl_nz0 @Int.mul_zero @Int.zero_add)); (repeat' (first | exact zc | (with_reducible first | apply And.intro | apply Q0a | apply Q0b | refine Q0c (by decide +kernel) ?_ | intro _) | ((with_reducible refine .dms (fun x => x = β) [(0, false), (1, false), (2, false), (3, false), (4, false), (5, false), (6, false), (7, false), (9, false), (10, false), (11, false), (12, false), (13, false), (8, true), (14, false), (15, false)] (by decide) (by decide +kernel) ?_); (refine zs zz.out ?_)) | refine zaW zz.out ?_ | ((first | (refine Q0l (by intro β h; first | (rcases h with h | h <;> subst h <;> (simp (disch := first | assumption | (apply zP; assumption; assumption) | (apply zQ; assumption; assumption; (intro e; cases e; done)) | omega) only [zn, zp, zq, zr, zv])) | (subst h; (simp (disch := first | assumption | (apply zP; assumption; assumption) | (apply zQ; assumption; assumption; (intro e; cases e; done)) | omega) only [zn, zp, zq, zr, zv]))) ?_) | ((with_reducible refine zS (h58 _) ?_); rintro _ S ⟨τ, hτ, rfl, rfl⟩) | (refine Q0d (o' := some (.cells 152 [.ref β 0, .sl .nil []])) (keepAt (by assumption) (by exact zK)) ?_) | (refine Q0d (by exact zK) ?_) | (refine Q0e (by exact zK) ?_)); (try refine zs zz.out ?_)) | refine zo ?_ | omega | refine zt zz.out ?_ | fail)); try (all_goals clear zz))
  all_goals exact ⟨_, .refl _, _, hτ, rfl⟩
theorem e36 (β n : Nat) (σ : Sg) (h0 : σ β = none) (hn0 : 0 < n) (hn : n ≤ 281474976710656) : VCalls Tryz.prog 154 [.ref β 0, .i n] (σ.set β (.cells 152 [.val (.pointer none), .sl .nil []])) (fun x σ' => x = .tup [] ∧ Bld β [] σ σ') := by
  have h48 := fun S hS => e48 β n S hS hn
  (refine vfun (fun _ => .no) Q0k Tryz.func154 (by kernel_rfl) ?_; simp only [Q0f, Tryz.f154, zw])
  (have zz := Bx.mk (j6 ui3 X1q Q6z Q3i ui5 @cap51); (repeat' (first | exact zc | (with_reducible first | apply And.intro | apply Q0a | apply Q0b | refine Q0c (by decide +kernel) ?_ | intro _) | refine zaW zz.out ?_ | ((first | with_reducible refine (t115 β _ _ _ (zn _ _ _) (.inl rfl)).use ?_ | ((with_reducible refine zS (h48 _ (by exact zK)) ?_); rintro _ S ⟨rfl, τ, hτ, rfl⟩) | (refine Q0d (by exact zK) ?_) | (refine Q0e (by exact zK) ?_)); (try refine zs zz.out ?_)) | refine zo ?_ | omega | refine zt zz.out ?_ | fail)); try (all_goals clear zz))
  obtain ⟨hne, h1⟩ := Sg.of_set_none hτ
  exact ⟨(σ.set τ (.tok (some 5))).set β (.cells 152 [.ref β 0, .sl (.tok τ 1) []]), (by intro y p hy; simp only [Sg.set_apply, Sg.del_apply] at hy ⊢; grind), h0, .inr ⟨τ, hne, h1, rfl⟩⟩
theorem e49 (l : List UInt8) (c : UInt8) (σ : Sg) : VCalls Tryz.prog 195 [.s (bs l), .s (bs [c])] σ (fun x σ' => x = .i (if upTo c l < l.length then (upTo c l : Nat) else -1) ∧ σ' = σ) := by
  have h39 := fun σ => t114 l c σ
  (refine vfun (fun _ => .no) Q0k Tryz.func195 (by kernel_rfl) ?_; simp only [Q0f, Tryz.f195, zw])
  (have zz := Bx.mk (j4 ui3 ui5 ui9 @List.getD_cons_zero.{0}); (repeat' (first | exact zc | (with_reducible first | apply And.intro | apply Q0a | apply Q0b | refine Q0c (by decide +kernel) ?_ | intro _) | refine zaW zz.out ?_ | (((with_reducible refine zS (h39 _) ?_); rintro _ S ⟨rfl, rfl⟩); (try refine zs zz.out ?_)) | refine zo ?_ | omega | refine zt zz.out ?_ | fail)); try (all_goals clear zz))
  · rename_i hc
    subst hc
    exact ⟨_, .refl _, by simp [upTo], rfl⟩
  · exact ⟨_, .refl _, rfl⟩
theorem e37 (l : List UInt8) (σ : Sg) : VCalls Tryz.prog 183 [.s (bs l), .s (bs [39])] σ (fun x σ' => x = .i (if upTo 39 l < l.length then (upTo 39 l : Nat) else -1) ∧ σ' = σ) := by
  have h49 : ∀ σ, VCalls Tryz.prog 195 [.s (bs l), .s (bs [39])] σ _ := fun σ => e49 l 39 σ
  (refine vfun (fun _ => .no) Q0k Tryz.func183 (by kernel_rfl) ?_; simp only [Q0f, Tryz.f183, zw])
  (have zz := Bx.mk (j3 ui3 ui5 ui9); (repeat' (first | exact zc | (with_reducible first | apply And.intro | apply Q0a | apply Q0b | refine Q0c (by decide +kernel) ?_ | intro _) | refine zaW zz.out ?_ | (((with_reducible refine zS (h49 _) ?_); rintro _ S ⟨rfl, rfl⟩); (try refine zs zz.out ?_)) | refine zo ?_ | omega | refine zt zz.out ?_ | fail)); try (all_goals clear zz))
  all_goals (exact zE)
end Go.Proofs.YtjdapkelojdefaaGreatDoor
namespace Go.Lex
open Go.V Go.Proofs.YtjdapkelojdefaaGreatDoor
theorem X0j : ∀ {l : List UInt8}, l.count 39 = 0 → quo l = l
  | [], _ => rfl
  | c :: r, h => by
    rw [List.count_cons] at h
    have h1 : c ≠ 39 := fun e => by rw [e] at h; simp at h
    unfold quo
    rw [if_neg h1, X0j (by omega)]
theorem quo_step : ∀ {l : List UInt8}, 0 < l.count 39 → upTo 39 l < l.length ∧ quo l = l.take (upTo 39 l) ++ ([39, 39] ++ quo (l.drop (upTo 39 l + 1))) ∧ l.count 39 = 1 + (l.drop (upTo 39 l + 1)).count 39
  | [], h => by simp at h
  | c :: r, h => by
    by_cases hc : c = 39
    · subst hc
      have : upTo 39 (39 :: r) = 0 := by simp [upTo]
      rw [this]
      refine ⟨by simp, ?_, ?_⟩
      · rw [quo, if_pos rfl]; rfl
      · rw [List.count_cons]; simp; omega
    · have hu : upTo 39 (c :: r) = upTo 39 r + 1 := by simp [upTo, hc]
      have hcc : (c :: r).count 39 = r.count 39 := by rw [List.count_cons]; simp [hc]
      rw [hcc] at h ⊢
      obtain ⟨h1, h2, h3⟩ := quo_step h
      rw [hu]
      refine ⟨by simpa using h1, ?_, ?_⟩
      · rw [quo, if_neg hc, h2]; simp
      · rw [List.drop_succ_cons]; exact h3
end Go.Lex
namespace Go.Proofs.YtjdapkelojdefaaGreatDoor
open Go Go.V Go.Lex
theorem e24 (l : List UInt8) (hl : l.length < 2 ^ 38) (σ : Sg) : VCalls Tryz.prog 176 [.s (bs l), .s (bs [39]), .s (bs [39, 39]), .i (-1)] σ (fun x σ' => x = .s (bs (quo l)) ∧ σ' = σ) := by
  have h35 : ∀ σ, VCalls Tryz.prog 182 [.s (bs l), .s (bs [39])] σ _ := fun σ => e35 l 39 σ
  have hcl : l.count 39 ≤ l.length := List.count_le_length
  by_cases h0 : l.count 39 = 0
  · rw [X0j h0]
    simp only [h0] at h35
    (refine vfun (fun _ => .no) Q0k Tryz.func176 (by kernel_rfl) ?_; simp only [Q0f, Tryz.f176, zw])
    (have zz := Bx.mk (j3 ui3 ui5 ui9); (repeat' (first | exact zc | (with_reducible first | apply And.intro | apply Q0a | apply Q0b | refine Q0c (by decide +kernel) ?_ | intro _) | refine zaW zz.out ?_ | (((with_reducible refine zS (h35 _) ?_); rintro _ S ⟨rfl, rfl⟩); (try refine zs zz.out ?_)) | refine zo ?_ | omega | refine zt zz.out ?_ | fail)); try (all_goals clear zz))
    all_goals (exact zE)
  · have h36 : ∀ β S, S β = none → VCalls Tryz.prog 154 [.ref β 0, .val (.int .i64 ((l.length : Int) + (l.count 39 : Nat) * (((2 : Nat) : Int) - ((1 : Nat) : Int))))] (S.set β (.cells 152 [.val (.pointer none), .sl .nil []])) (fun x σ' => x = .tup [] ∧ Bld β [] S σ') := fun β S hS => by
      have e : (l.length : Int) + (l.count 39 : Nat) * (((2 : Nat) : Int) - ((1 : Nat) : Int)) = ((l.length + l.count 39 : Nat) : Int) := by omega
      rw [e]
      exact e36 β (l.length + l.count 39) S hS (by omega) (by omega)
    (refine vfun (fun _ => .no) Q0k Tryz.func176 (by kernel_rfl) ?_; simp only [Q0f, Tryz.f176, zw])
    (have zz := Bx.mk (j4 ui3 ui5 ui9 Q6z); (repeat' (first | exact zc | (with_reducible first | apply And.intro | apply Q0a | apply Q0b | refine Q0c (by decide +kernel) ?_ | intro _) | refine zaW zz.out ?_ | ((first | ((with_reducible refine zS (h35 _) ?_); rintro _ S ⟨rfl, rfl⟩) | ((with_reducible refine zS (h36 _ _ (by assumption)) ?_); rintro _ S' ⟨rfl, hB⟩)); (try refine zs zz.out ?_)) | refine zo ?_ | omega | refine zt zz.out ?_ | fail)); try (all_goals clear zz))
    · rename_i hx
      cases hx
    rename_i b hb _
    refine VW.loop3 (0 : Nat) (([], 0) : List UInt8 × Nat) S' (fun k p S' => k ≤ l.count 39 ∧ p.2 ≤ l.length ∧ p.1 ++ quo (l.drop p.2) = quo l ∧ (l.drop p.2).count 39 + k = l.count 39 ∧ p.1.length ≤ 2 * p.2 ∧ Bld b p.1 S S') (fun k p _ => [(0, .s (bs l)), (1, .s (bs [39])), (2, .s (bs [39, 39])), (10, .ref b 0), (11, .i p.2), (52, .i (l.count 39 : Nat)), (53, .i k)]) (fun _ _ S' => S') (fun k _ _ => l.count 39 - k) ⟨by omega, by simp, rfl, by simp, by simp, hB⟩ (.refl _) ?_ ?_
    · simp only [vO, vQ, ↓vP, vE, vS, vB, vL, vF, vM, vN, Q0i, zb, zd, ze, ne_eq, not_false_eq_true, zf, zg, zk, zl, vT]
      all_goals exact ⟨rfl, rfl⟩
    clear hB
    rintro k ⟨acc, st⟩ S' ⟨g1, g2, g3, g4, g5, hB⟩
    simp only at g2 g3 g4 g5 hB
    by_cases hk : k < l.count 39
    · obtain ⟨q1, q2, q3⟩ := quo_step (l := l.drop st) (by omega)
      have h37 : VCalls Tryz.prog 183 [.s (bs (l.drop st)), .s (bs [39])] S' (fun x σ' => x = .i (upTo 39 (l.drop st) : Nat) ∧ σ' = S') := by
        have := e37 (l.drop st) S'
        rw [if_pos q1] at this
        exact this
      have hcut : (l.take (st + upTo 39 (l.drop st))).drop st = (l.drop st).take (upTo 39 (l.drop st)) := by rw [List.drop_take]; congr 1; omega
      rw [List.length_drop] at q1
      rw [List.drop_drop] at q2 q3
      generalize upTo 39 (l.drop st) = t at *
      (have zz := Bx.mk (j2 ui3 (j9 ui5 ui9 Q6z @nadd @nadd1 @nadd2 @nadd3 @n1add @n2add)); (repeat' (first | exact zc | (with_reducible first | apply And.intro | apply Q0a | apply Q0b | refine Q0c (by decide +kernel) ?_ | intro _) | refine zaW zz.out ?_ | ((first | ((with_reducible refine zS h37 ?_); rintro _ _ ⟨rfl, rfl⟩) | ((with_reducible refine zS (t100 _ _ _ _ _ hB (by simp; omega)) ?_); rintro _ S'' ⟨rfl, hB⟩)); (try refine zs zz.out ?_)) | refine zo ?_ | omega | refine zt zz.out ?_ | fail)); try (all_goals clear zz))
      rename_i _ S'' _ _ hB
      exact ⟨k + 1, (acc ++ (l.take (st + t)).drop st ++ [39, 39], st + t + 1), S'', ⟨⟨by omega, by simp only; omega, by simp only; rw [hcut, ← g3, q2, Nat.add_assoc]; simp only [List.append_assoc], by simp only; rw [Nat.add_assoc]; omega, by simp only [zx, List.length_drop, List.length_take, zy, zA]; omega, hB⟩, by omega⟩, .refl _, rfl, rfl⟩
    · (have zz := Bx.mk (j2 ui3 (j9 ui5 ui9 Q6z @nadd @nadd1 @nadd2 @nadd3 @n1add @n2add)); (repeat' (first | exact zc | (with_reducible first | apply And.intro | apply Q0a | apply Q0b | refine Q0c (by decide +kernel) ?_ | intro _) | refine zaW zz.out ?_ | ((first | ((with_reducible refine zS (t100 _ _ _ _ _ hB (by simp; omega)) ?_); rintro _ S'' ⟨rfl, hB⟩) | with_reducible refine (t103 _ _ _ _ hB (by first | assumption | (simp; omega))).use ?_); (try refine zs zz.out ?_)) | refine zo ?_ | omega | refine zt zz.out ?_ | fail)); try (all_goals clear zz))
      exact ⟨S, hB.sub, by rw [← g3, X0j (by omega)], rfl⟩
end Go.Proofs.YtjdapkelojdefaaGreatDoor
namespace Go.V
open Go.Lex
variable {P : Program}
theorem vsl_arr {β off n e : Nat} {l h : Int} {k1 k2 : IntKind} {T : TypeId} {cs : List AV} {z : Option Value} {s b : Nat} {σ : Sg} {R : AV → Prop} (hc : σ β = some (.cells T cs)) (hi : Q0m P e = some (z, s, b)) (hl : off + n * s ≤ cs.length) (h1 : 0 ≤ l ∧ l ≤ h ∧ h ≤ n ∧ (l = 0 ∨ l < n)) (hR : R (.ms β (off + l.toNat * s) (h - l).toNat s)) :
    vsl P (some (.array n e)) (.ref β off) (some (.val (.int k1 l))) (some (.val (.int k2 h))) none σ R := by
  unfold vsl
  simp only [Q1l, hi, hc]
  exact ⟨⟨hl, h1⟩, hR⟩
theorem vcv_ms {β off n e : Nat} {q : Bool} {T : TypeId} {cs : List AV} {l : List UInt8} {σ : Sg} {R : AV → Sg → Prop} (he : P.underlying e = some (.int .u8)) (hc : σ β = some (.cells T cs)) (hl : (cs.drop off).take n = l.map fun c => AV.u8 c.toNat) (hn : l.length = n) (hR : R (.s (bs l)) σ) :
    vcv P q (some (.slice e)) (some .string) (.ms β off n 1) σ R := by
  unfold vcv
  simp only [he, hc]
  exact ⟨bs l, trivial, hl, hn, hR⟩
end Go.V
namespace Go.Proofs.YtjdapkelojdefaaGreatDoor
open Go Go.V Go.Lex
theorem e34 (n : Nat) (hn : n < 9223372036854775808) (σ : Sg) : VCalls Tryz.prog 181 [.i n, .i 10] σ (fun x σ' => x = .s (bs (dec n)) ∧ σ' = σ) := by
  by_cases h : n < 100
  · (refine vfun (fun _ => .no) Q0k Tryz.func181 (by kernel_rfl) ?_; simp only [Q0f, Tryz.f181, zw])
    (have zz := Bx.mk (j4 ui3 ui2 ui4 ui9); (repeat' (first | exact zc | (with_reducible first | apply And.intro | apply Q0a | apply Q0b | refine Q0c (by decide +kernel) ?_ | intro _) | refine zaW zz.out ?_ | (((with_reducible refine zS (e42 n h _) ?_); rintro _ S ⟨rfl, rfl⟩); (try refine zs zz.out ?_)) | refine zo ?_ | omega | refine zt zz.out ?_ | fail)); try (all_goals clear zz))
    all_goals (exact zE)
  · have hU : IntKind.u64.wrap (n : Int) = (n : Int) := wrM (by omega)
    have hL : (dec n).length ≤ 19 := X3q n 18 (by omega)
    have h1 : 1 ≤ n := by omega
    have h43 : ∀ σ, VCalls Tryz.prog 190 [.val (.int .u64 n)] σ _ := fun σ => e43 n h1 (by omega) σ
    generalize hLe : (dec n).length = L at *
    have hs1 : (((1 + L : Nat) : Int) - 1).toNat = L := by omega
    have hdec : dec n = padD L n := by rw [← hLe]; exact dec_padlen n
    have hlt : n < 10 ^ L := by rw [← hLe]; exact dec_pow n
    have h44 : ∀ b S, S b = some (.cells 178 ([.u8 0] ++ List.replicate L (.u8 0) ++ List.replicate (23 - L) (.u8 0))) → VCalls Tryz.prog 191 [.ms b 1 L 1, .val (.int .u64 n)] S _ := fun b S hS => e44 b 1 L n _ _ _ S hS rfl (by simp) hlt (by omega) (by omega)
    have hz : ([.u8 0] ++ List.replicate L (AV.u8 0) ++ List.replicate (23 - L) (.u8 0)) = [AV.val (.int .u8 0), AV.val (.int .u8 0), AV.val (.int .u8 0), AV.val (.int .u8 0), AV.val (.int .u8 0), AV.val (.int .u8 0), AV.val (.int .u8 0), AV.val (.int .u8 0), AV.val (.int .u8 0), AV.val (.int .u8 0), AV.val (.int .u8 0), AV.val (.int .u8 0), AV.val (.int .u8 0), AV.val (.int .u8 0), AV.val (.int .u8 0), AV.val (.int .u8 0), AV.val (.int .u8 0), AV.val (.int .u8 0), AV.val (.int .u8 0), AV.val (.int .u8 0), AV.val (.int .u8 0), AV.val (.int .u8 0), AV.val (.int .u8 0), AV.val (.int .u8 0)] := by
      rw [← List.replicate_one, List.replicate_append_replicate, List.replicate_append_replicate]
      exact (congrArg (fun k => List.replicate k (AV.u8 0)) (show 1 + L + (23 - L) = 24 by omega)).trans rfl
    simp only [hz] at h44
    (refine vfun (fun _ => .no) Q0k Tryz.func181 (by kernel_rfl) ?_; simp only [Q0f, Tryz.f181, zw])
    (have zz := Bx.mk (j8 ui3 ui2 ui4 ui9 Q7a ui178 Q3i (j9 ui5 hU @nadd @nadd1 @nadd2 @nadd3 @n1add @n2add hs1)); (repeat' (first | exact zc | (with_reducible first | apply And.intro | apply Q0a | apply Q0b | refine Q0c (by decide +kernel) ?_ | intro _) | refine zaW zz.out ?_ | ((first | ((with_reducible refine zS (h43 _) ?_); rintro _ S ⟨rfl, rfl⟩) | ((with_reducible refine zS (h44 _ _ (by exact zK)) ?_); rintro _ S ⟨rfl, rfl⟩) | (refine vsl_arr (by exact zK) Q9g (by simp [u8s_len, Q7w]; try omega) ?_ ?_) | (refine vcv_ms (l := padD L n) Tryz.underlying5 (by exact zK) ?_ ?_ ?_)); (try refine zs zz.out ?_)) | refine zo ?_ | omega | refine zt zz.out ?_ | fail)); try (all_goals clear zz))
    · rw [List.take_append_of_le_length (by rw [u8s_len, Q7w]; exact Nat.le_refl _), List.take_of_length_le (by rw [u8s_len, Q7w]; exact Nat.le_refl _)]
      rfl
    · exact Q7w L n
    · exact ⟨σ, Sg.sub_set ‹_› _, by rw [hdec], rfl⟩
theorem e23 (n : Nat) (hn : n < 9223372036854775808) (σ : Sg) : VCalls Tryz.prog 175 [.i n] σ (fun x σ' => x = .s (bs (dec n)) ∧ σ' = σ) := by
  (refine vfun (fun _ => .no) Q0k Tryz.func175 (by kernel_rfl) ?_; simp only [Q0f, Tryz.f175, zw])
  (have zz := Bx.mk (j3 ui3 ui2 ui9); (repeat' (first | exact zc | (with_reducible first | apply And.intro | apply Q0a | apply Q0b | refine Q0c (by decide +kernel) ?_ | intro _) | refine zaW zz.out ?_ | (((with_reducible refine zS (e34 n hn _) ?_); rintro _ S ⟨rfl, rfl⟩); (try refine zs zz.out ?_)) | refine zo ?_ | omega | refine zt zz.out ?_ | fail)); try (all_goals clear zz))
  all_goals (exact zE)
theorem e11 (n : Nat) (hn : n < 9223372036854775808) (σ : Sg) : VCalls Tryz.prog 152 [.i n] σ (fun x σ' => x = .s (bs (dec n)) ∧ σ' = σ) := by
  (refine vfun (fun _ => .no) Q0k Tryz.func152 (by kernel_rfl) ?_; simp only [Q0f, Tryz.f152, zw])
  (have zz := Bx.mk (j3 ui3 ui2 ui9); (repeat' (first | exact zc | (with_reducible first | apply And.intro | apply Q0a | apply Q0b | refine Q0c (by decide +kernel) ?_ | intro _) | refine zaW zz.out ?_ | (((with_reducible refine zS (e23 n hn _) ?_); rintro _ S ⟨rfl, rfl⟩); (try refine zs zz.out ?_)) | refine zo ?_ | omega | refine zt zz.out ?_ | fail)); try (all_goals clear zz))
  all_goals (exact zE)
theorem e12 (l : List UInt8) (hl : l.length < 2 ^ 38) (σ : Sg) : VCalls Tryz.prog 153 [.s (bs l), .s (bs [39]), .s (bs [39, 39])] σ (fun x σ' => x = .s (bs (quo l)) ∧ σ' = σ) := by
  (refine vfun (fun _ => .no) Q0k Tryz.func153 (by kernel_rfl) ?_; simp only [Q0f, Tryz.f153, zw])
  repeat' (first | exact zc | (with_reducible first | apply And.intro | apply Q0a | apply Q0b | refine Q0c (by decide +kernel) ?_ | intro _) | refine zaW (j2 ui3 ui9) ?_ | (((with_reducible refine zS (e24 l hl _) ?_); rintro _ S ⟨rfl, rfl⟩); (try refine zs (j2 ui3 ui9) ?_)) | refine zo ?_ | omega | refine zt (j2 ui3 ui9) ?_ | fail)
  all_goals (exact zE)
end Go.Proofs.YtjdapkelojdefaaGreatDoor
namespace Go.Proofs.YtjdapkelojdefaaGreatDoor
open Go Go.V Go.Lex Go.Print
theorem eq23 {d : TypeDesc} {a b a' b' : Int} {s t : ByteArray} : veqT Tryz.prog 23 d (.agg [.i a, .i b, .s s]) (.agg [.i a', .i b', .s t]) = some (decide (a = a') && (decide (b = b') && (sEq s t && true))) := by
  rw [veqT_agg (by kernel_rfl), veqIn_struct (d := 9999) Tryz.underlying23 (by kernel_rfl)]
  exact X0d (by decide) (Q5z Q8b Z3 rfl) (Q5z Q8b Z3 rfl) (veqIn_int Z3) (X0d (by decide) (Q5z Q8b Z3 rfl) (Q5z Q8b Z3 rfl) (veqIn_int Z3) (X0d (by decide) (Q5z Q9h Tryz.underlying9 rfl) (Q5z Q9h Tryz.underlying9 rfl) (veqIn_str Tryz.underlying9) rfl))
theorem e8 (k n : Int) (t : List UInt8) (σ : Sg) : VCalls Tryz.prog 150 [.agg [.i k, .i n, .s (bs t)]] σ (fun x σ' => x = .agg [.i k, .i (X1s k n t).1, .s (bs (X1s k n t).2)] ∧ σ' = σ) := by
  unfold X1s
  (refine vfun (fun _ => .no) Q0k Tryz.func150 (by kernel_rfl) ?_; simp only [Q0f, Tryz.f150, zw])
  (have zz := Bx.mk (j3 ui3 ui9 ui23); (repeat' (first | exact zc | (with_reducible first | apply And.intro | apply Q0a | apply Q0b | refine Q0c (by decide +kernel) ?_ | intro _) | refine zaW zz.out ?_ | ((first | (refine Q0d (by exact zK) ?_) | (refine Q0e (by exact zK) ?_)); (try refine zs zz.out ?_)) | refine zo ?_ | omega | refine zt zz.out ?_ | fail)); try (all_goals clear zz))
  all_goals exact ⟨σ, (by intro y p hy; simp only [Sg.set_apply, Sg.del_apply] at hy ⊢; grind), by simp_all, rfl⟩
theorem e5 (k n : Int) (t : List UInt8) (σ : Sg) : VCalls Tryz.prog 98 [.agg [.i k, .i n, .s (bs t)]] σ (fun x σ' => x = .i (X0x k n t) ∧ σ' = σ) := by
  unfold X0x
  have h8 := e8 k n t
  generalize X1s k n t = bv at *
  (refine vfun (fun _ => .ro) Q0k Tryz.func98 (by kernel_rfl) ?_; simp only [Q0f, Tryz.f98, zw])
  (have zz := Bx.mk (j6 ui3 ui4 ui9 ui23 ui30 @eq23); (repeat' (first | exact zc | (with_reducible first | apply And.intro | apply Q0a | apply Q0b | refine Q0c (by decide +kernel) ?_ | intro _) | refine zaW zz.out ?_ | (((with_reducible refine zS (h8 _) ?_); rintro _ S ⟨rfl, rfl⟩); (try refine zs zz.out ?_)) | refine zo ?_ | omega | refine zt zz.out ?_ | fail)); try (all_goals clear zz))
  all_goals (clear h8; obtain ⟨b1, b2⟩ := bv; refine ⟨σ, .refl _, congrArg (fun c => AV.val (Value.int IntKind.i64 c)) ?_, rfl⟩)
  all_goals simp only [Prod.mk.injEq, ne_eq, Bool.and_eq_true, decide_eq_true_eq, decide_true, true_and] at *
  all_goals grind
def litL (k : Int) (n : Nat) (t : List UInt8) : List UInt8 := if k = 1 then dec n else if k = 2 then X0w t else [78, 85, 76, 76]
theorem e7 (k : Int) (n : Nat) (t : List UInt8) (hn : n < 9223372036854775808) (ht : t.length ≤ 40) (σ : Sg) : VCalls Tryz.prog 105 [.agg [.i k, .i n, .s (bs t)]] σ (fun x σ' => x = .s (bs (litL k n t)) ∧ σ' = σ) := by
  unfold litL X0w
  have hq := X1r t
  (refine vfun (fun _ => .ro) Q0k Tryz.func105 (by kernel_rfl) ?_; simp only [Q0f, Tryz.f105, zw])
  (have zz := Bx.mk (j4 ui3 ui4 ui9 ui23); (repeat' (first | exact zc | (with_reducible first | apply And.intro | apply Q0a | apply Q0b | refine Q0c (by decide +kernel) ?_ | intro _) | refine zaW zz.out ?_ | ((first | ((with_reducible refine zS (e11 n hn _) ?_); rintro _ S ⟨rfl, rfl⟩) | ((with_reducible refine zS (e12 t (by omega) _) ?_); rintro _ S ⟨rfl, rfl⟩)); (try refine zs zz.out ?_)) | refine zo ?_ | omega | refine zt zz.out ?_ | fail)); try (all_goals clear zz))
  all_goals exact ⟨_, .refl _, by simp [*], rfl⟩
end Go.Proofs.YtjdapkelojdefaaGreatDoor
namespace Go.Proofs.YtjdapkelojdefaaGreatDoor
open Go Go.V Go.Lex Go.Parse Go.Print
theorem Q6b : ∀ t : Tr, t.wf → t.rg → Cx t
  | .val v, hw, hg => x_val v hw hg
  | .col t n, hw, hg => x_col t n
  | .null e, hw, hg => x_null e hw (Q6b e hw hg)
  | .neg e, hw, hg => x_neg e hw (Q6b e hw hg)
  | .not (.null x), hw, hg => x_not (.null x) hw (x_null x hw (Q6b x hw hg)) (fun y hy => by cases hy; exact Q6b x hw hg)
  | .not (.val v), hw, hg => x_not (.val v) hw (Q6b (.val v) hw hg) (fun y hy => by cases hy)
  | .not (.col t n), hw, hg => x_not (.col t n) hw (Q6b (.col t n) hw hg) (fun y hy => by cases hy)
  | .not (.not e), hw, hg => x_not (.not e) hw (Q6b (.not e) hw hg) (fun y hy => by cases hy)
  | .not (.neg e), hw, hg => x_not (.neg e) hw (Q6b (.neg e) hw hg) (fun y hy => by cases hy)
  | .not (.op k a b), hw, hg => x_not (.op k a b) hw (Q6b (.op k a b) hw hg) (fun y hy => by cases hy)
  | .op k a b, hw, hg => x_op k a b hw (Q6b a hw.2.1 hg.1) (Q6b b hw.2.2 hg.2)
theorem Q1z (s : By) (σ : Sg) : VCalls Tryz.prog 42 [.s (bs s)] σ (fun x σ' => x = .b (isNm s) ∧ σ' = σ) := by
  unfold isNm
  by_cases hs : s.length ≤ 16
  · have hrow := t69 s 101 [] Q3q σ (by omega) (fun c => t73 c σ)
    (refine vfun (fun _ => .no) Q0k Tryz.func42 (by kernel_rfl) ?_; simp only [Q0f, Tryz.f42, zw])
    (have zz := Bx.mk (j5 ui3 ui4 ui5 ui9 ui122); (repeat' (first | exact zc | (with_reducible first | apply And.intro | apply Q0a | apply Q0b | refine Q0c (by decide +kernel) ?_ | intro _) | refine zaY zz.out ?_ | ((first | (with_reducible refine uc (hrow) ?_) | (with_reducible refine uc (t72 _ _) ?_) | (refine Q0d (by exact zK) ?_) | (refine Q0e (by exact zK) ?_)); (try refine zsY zz.out ?_)) | refine zo ?_ | omega | refine ztY zz.out ?_ | fail)); try (all_goals clear zz))
    all_goals first | exact List.length_pos_iff.2 ‹_› | exact ⟨_, .refl _, b_eq (by simp_all <;> omega), rfl⟩
  · (refine vfun (fun _ => .no) Q0k Tryz.func42 (by kernel_rfl) ?_; simp only [Q0f, Tryz.f42, zw])
    (have zz := Bx.mk (j5 ui3 ui4 ui5 ui9 ui122); (repeat' (first | exact zc | (with_reducible first | apply And.intro | apply Q0a | apply Q0b | refine Q0c (by decide +kernel) ?_ | intro _) | refine zaY zz.out ?_ | ((first | (with_reducible refine uc (t72 _ _) ?_) | (refine Q0d (by exact zK) ?_) | (refine Q0e (by exact zK) ?_)); (try refine zsY zz.out ?_)) | refine zo ?_ | omega | refine ztY zz.out ?_ | fail)); try (all_goals clear zz))
    all_goals first | exact List.length_pos_iff.2 ‹_› | exact ⟨_, .refl _, b_eq (by simp_all <;> omega), rfl⟩ | (exfalso; omega)
theorem Q4e (v : Vl) (σ : Sg) : VCalls Tryz.prog 41 [.agg [.i v.1, .i v.2.1, .s (bs v.2.2)]] σ (fun x σ' => x = .b (okV v) ∧ σ' = σ) := by
  obtain ⟨k, n, t⟩ := v
  have h5 := e5 k n t
  unfold okV
  simp only
  generalize X0x k n t = R at *
  (refine vfun (fun _ => .ro) Q0k Tryz.func41 (by kernel_rfl) ?_; simp only [Q0f, Tryz.f41, zw])
  (have zz := Bx.mk (j7 ui0 ui3 ui4 ui9 ui22 ui23 ui30); (repeat' (first | exact zc | (with_reducible first | apply And.intro | apply Q0a | apply Q0b | refine Q0c (by decide +kernel) ?_ | intro _) | refine zaY zz.out ?_ | ((first | (with_reducible refine uc (h5 _) ?_) | (with_reducible refine uc (e5 _ _ _ _) ?_) | (refine Q0d (by exact zK) ?_) | (refine Q0e (by exact zK) ?_)); (try refine zsY zz.out ?_)) | refine zo ?_ | omega | refine ztY zz.out ?_ | fail)); try (all_goals clear zz))
  all_goals exact ⟨_, .refl _, b_eq (by simp_all <;> omega), rfl⟩
theorem rts_any : ∀ l : List Ex, rts l = !(l.any fun e => !rt e)
  | [] => by rw [X1t]; rfl
  | e :: r => by rw [Q3b, rts_any r, List.any_cons]; cases rt e <;> simp
theorem exsA_get' {l : List Ex} {k : Nat} (h : k < l.length) : (exsA l).getD k [] = exA l[k] := by
  induction l generalizing k with
  | nil => simp at h
  | cons e r ih =>
    rw [Q1j]
    cases k with
    | zero => rfl
    | succ k => exact ih (by simpa using h)
theorem r_index (l : List Ex) (f : FuncId) (p : Ex → Bool) (o : Own) (hl : l.length ≤ 9223372036854775807) (h : ∀ e ∈ l, ∀ σ, VCalls Tryz.prog f [.agg (exA e)] σ (fun x σ' => x = .b (p e) ∧ σ' = σ)) (σ : Sg) :
    VCalls Tryz.prog 102 [.sl o (exsA l), .fn f []] σ (fun x σ' => ∃ n : Int, (0 ≤ n ↔ l.any p = true) ∧ x = .i n ∧ σ' = σ) := by
  have hn := Q1c l
  (refine vfun (fun _ => .no) Q0k Tryz.func102 (by kernel_rfl) ?_; simp only [Q0f, Tryz.f102, zw])
  (have zz := Bx.mk (j3 ui0 ui3 (j9 ui4 ui9 ui22 ui23 ui24 ui25 ui26 ui34 hn)); (repeat' (first | exact zc | (with_reducible first | apply And.intro | apply Q0a | apply Q0b | refine Q0c (by decide +kernel) ?_ | intro _) | refine zaY zz.out ?_ | ((first | (refine Q0d (by exact zK) ?_) | (refine Q0e (by exact zK) ?_)); (try refine zsY zz.out ?_)) | refine zo ?_ | omega | refine ztY zz.out ?_ | fail)); try (all_goals clear zz))
  refine VW.loop3 (0 : Nat) () () (fun k _ _ => k ≤ l.length ∧ ∀ j (hj : j < l.length), j < k → p l[j] = false) (fun k _ _ => [(0, .sl o (exsA l)), (1, .fn f []), (6, .sl o (exsA l)), (7, .i l.length), (8, .i k)]) (fun _ _ _ => σ) (fun k _ _ => l.length - k) ⟨Nat.zero_le _, fun j hj h => by omega⟩ (.refl _) ?_ ?_
  · simp only [vO, vQ, ↓vP, vE, vS, vB, vL, vF, vM, vN, Q0i, zb, zd, ze, ne_eq, not_false_eq_true, zf, zg, zk, zl, vT]
    all_goals rfl
  rintro k _ _ ⟨hk, hp⟩
  rcases Nat.lt_or_ge k l.length with hk2 | hk2
  · have hg := exsA_get' hk2
    have hc := h l[k] (List.getElem_mem hk2)
    have hel := Q1a l[k]
    have het := Q1b l[k]
    have hpk : p l[k] = true → l.any p = true := fun hh => List.any_eq_true.2 ⟨_, List.getElem_mem hk2, hh⟩
    have hpn : p l[k] = false → ∀ j (hj : j < l.length), j < k + 1 → p l[j] = false := fun hh j hj hjk => by
      rcases Nat.lt_or_ge j k with h' | h'
      · exact hp j hj h'
      · have : j = k := by omega
        subst this; exact hh
    generalize p l[k] = b at *
    generalize exA l[k] = E at *
    (have zz := Bx.mk (j6 ui0 ui3 ui4 ui9 ui22 (j9 ui23 ui24 ui25 ui26 ui34 hn hg hel het)); (repeat' (first | exact zc | (with_reducible first | apply And.intro | apply Q0a | apply Q0b | refine Q0c (by decide +kernel) ?_ | intro _) | refine zaY zz.out ?_ | ((first | (with_reducible refine uc (hc _) ?_) | (refine Q0d (by exact zK) ?_) | (refine Q0e (by exact zK) ?_)); (try refine zsY zz.out ?_)) | refine zo ?_ | omega | refine ztY zz.out ?_ | fail)); try (all_goals clear zz))
    · exact ⟨_, .refl _, k, ⟨fun _ => hpk ‹_›, fun _ => by omega⟩, rfl, rfl⟩
    · exact ⟨k + 1, (), (), ⟨⟨hk2, hpn (by simpa using ‹¬ b = true›)⟩, by omega⟩, .refl _, rfl⟩
  · (have zz := Bx.mk (j3 ui0 ui3 (j9 ui4 ui9 ui22 ui23 ui24 ui25 ui26 ui34 hn)); (repeat' (first | exact zc | (with_reducible first | apply And.intro | apply Q0a | apply Q0b | refine Q0c (by decide +kernel) ?_ | intro _) | refine zaY zz.out ?_ | ((first | (refine Q0d (by exact zK) ?_) | (refine Q0e (by exact zK) ?_)); (try refine zsY zz.out ?_)) | refine zo ?_ | omega | refine ztY zz.out ?_ | fail)); try (all_goals clear zz))
    refine ⟨σ, .refl σ, -1, ?_, rfl, rfl⟩
    refine ⟨fun h => by omega, fun h => ?_⟩
    obtain ⟨e, he, hpe⟩ := List.any_eq_true.1 h
    obtain ⟨j, hj, rfl⟩ := List.getElem_of_mem he
    rw [hp j hj (by omega)] at hpe
    cases hpe
theorem X0k (l : List Ex) (f : FuncId) (p : Ex → Bool) (o : Own) (hl : l.length ≤ 9223372036854775807) (h : ∀ e ∈ l, ∀ σ, VCalls Tryz.prog f [.agg (exA e)] σ (fun x σ' => x = .b (p e) ∧ σ' = σ)) (σ : Sg) :
    VCalls Tryz.prog 43 [.sl o (exsA l), .fn f []] σ (fun x σ' => x = .b (l.any p) ∧ σ' = σ) := by
  have hi := r_index l f p o hl h
  generalize l.any p = b at *
  (refine vfun (fun _ => .no) Q0k Tryz.func43 (by kernel_rfl) ?_; simp only [Q0f, Tryz.f43, zw])
  (have zz := Bx.mk (j9 ui3 ui4 ui9 ui22 ui23 ui24 ui25 ui26 ui34); (repeat' (first | exact zc | (with_reducible first | apply And.intro | apply Q0a | apply Q0b | refine Q0c (by decide +kernel) ?_ | intro _) | refine zaY zz.out ?_ | ((first | ((with_reducible refine zS (hi _) ?_); rintro _ S ⟨n, hn, rfl, rfl⟩) | (refine Q0d (by exact zK) ?_) | (refine Q0e (by exact zK) ?_)); (try refine zsY zz.out ?_)) | refine zo ?_ | omega | refine ztY zz.out ?_ | fail)); try (all_goals clear zz))
  all_goals exact ⟨_, .refl _, b_eq (by simpa using hn), rfl⟩
theorem r_wrong (e : Ex) (h : ∀ σ, VCalls Tryz.prog 20 [.agg (exA e)] σ (fun x σ' => x = .b (rt e) ∧ σ' = σ)) (σ : Sg) : VCalls Tryz.prog 44 [.agg (exA e)] σ (fun x σ' => x = .b (!rt e) ∧ σ' = σ) := by
  have hel := Q1a e
  have het := Q1b e
  generalize exA e = E at *
  generalize rt e = b at *
  (refine vfun (fun _ => .ro) Q0k Tryz.func44 (by kernel_rfl) ?_; simp only [Q0f, Tryz.f44, zw])
  (have zz := Bx.mk (j3 ui0 ui3 (j9 ui4 ui9 ui22 ui23 ui24 ui25 ui26 hel het)); (repeat' (first | exact zc | (with_reducible first | apply And.intro | apply Q0a | apply Q0b | refine Q0c (by decide +kernel) ?_ | intro _) | refine zaY zz.out ?_ | ((first | (with_reducible refine uc (h _) ?_) | (with_reducible refine uc (Q5r _ (by assumption) _) ?_) | (refine Q0d (by exact zK) ?_) | (refine Q0e (by exact zK) ?_)); (try refine zsY zz.out ?_)) | refine zo ?_ | omega | refine ztY zz.out ?_ | fail)); try (all_goals clear zz))
  all_goals first | exact ⟨_, .refl _, rfl⟩ | exact ⟨_, .refl _, rfl, rfl⟩
theorem Q5r (e : Ex) (hL : Lim e) : ∀ σ, VCalls Tryz.prog 20 [.agg (exA e)] σ (fun x σ' => x = .b (rt e) ∧ σ' = σ) := by
  induction hL with
  | mk k op t n v l hl hr hall ih =>
    intro σ
    have hcon := X0k l 44 (fun e => !rt e) .any (by omega) (fun e he σ => r_wrong e (ih e he) σ)
    have hra := rts_any l
    rw [Q4d, rt_mk]
    have hn := Q1c l
    clear hr hall ih
    have hwr := Q4e v
    generalize (l.any fun e => !rt e) = b at *
    rw [hra]
    generalize exsA l = LL at *
    unfold rtN
    generalize hov : okV v = ov at *
    obtain ⟨v1, v2, v3⟩ := v
    simp only at hwr
    by_cases h1 : k = 1
    · subst h1
      (refine vfun (fun k => if k = 1 then .ro else .no) Q0k Tryz.func20 (by kernel_rfl) ?_; simp only [Q0f, Tryz.f20, zw])
      (have zz := Bx.mk (j4 ui0 ui3 ui4 (j9 ui9 ui22 ui23 ui24 ui25 ui26 ui34 hn @eq23)); (repeat' (first | exact zc | (with_reducible first | apply And.intro | apply Q0a | apply Q0b | refine Q0c (by decide +kernel) ?_ | intro _) | ((with_reducible first | refine .dms (fun x => False) [(0, false), (1, false), (2, false), (3, false), (4, false), (5, true), (6, true), (7, true), (8, true)] (by decide) (by decide +kernel) ?_ | refine .dm (fun x => False) [(0, false), (1, false), (2, false), (3, false), (4, false), (5, true), (6, true), (7, true), (8, true)] (by decide) (by decide +kernel) ?_); (refine zsR zz.out ?_)) | refine zaR zz.out ?_ | refine zkN zz.out ?_ | ((first | (refine Q0l (by intro β h; first | (rcases h with h | h <;> subst h <;> (simp (disch := first | assumption | (apply zP; assumption; assumption) | (apply zQ; assumption; assumption; (intro e; cases e; done)) | omega) only [zn, zp, zq, zr, zv])) | (subst h; (simp (disch := first | assumption | (apply zP; assumption; assumption) | (apply zQ; assumption; assumption; (intro e; cases e; done)) | omega) only [zn, zp, zq, zr, zv]))) ?_) | (with_reducible refine uc (hwr _) ?_) | (with_reducible refine uc (hcon _) ?_) | (with_reducible refine uc (Q4e _ _) ?_) | (with_reducible refine uc (Q1z _ _) ?_) | (refine Q0d (by exact zK) ?_) | (refine Q0e (by exact zK) ?_)); (try refine zsR zz.out ?_)) | refine zmR zz.out ?_ | refine zo ?_ | omega | refine ztR zz.out ?_ | fail)); try (all_goals clear zz))
      all_goals exact ⟨σ, (by (exact zu)), b_eq (by simp_all <;> omega), rfl⟩
    by_cases h2 : k = 2
    · subst h2
      rw [if_neg h1]
      have hnn : isNm [] = false := rfl
      generalize hq1 : isNm n = bn at *
      generalize hq2 : isNm t = bt at *
      have hN1 : ∀ σ, VCalls Tryz.prog 42 [.s (bs n)] σ (fun x σ' => x = .b bn ∧ σ' = σ) := fun σ => by rw [← hq1]; exact Q1z n σ
      have hN2 : ∀ σ, VCalls Tryz.prog 42 [.s (bs t)] σ (fun x σ' => x = .b bt ∧ σ' = σ) := fun σ => by rw [← hq2]; exact Q1z t σ
      (refine vfun (fun k => if k = 1 then .ro else .no) Q0k Tryz.func20 (by kernel_rfl) ?_; simp only [Q0f, Tryz.f20, zw])
      (have zz := Bx.mk (j4 ui0 ui3 ui4 (j9 ui9 ui22 ui23 ui24 ui25 ui26 ui34 hn @eq23)); (repeat' (first | exact zc | (with_reducible first | apply And.intro | apply Q0a | apply Q0b | refine Q0c (by decide +kernel) ?_ | intro _) | ((with_reducible first | refine .dms (fun x => False) [(0, false), (1, false), (2, false), (3, false), (4, false), (5, true), (6, true), (7, true), (8, true)] (by decide) (by decide +kernel) ?_ | refine .dm (fun x => False) [(0, false), (1, false), (2, false), (3, false), (4, false), (5, true), (6, true), (7, true), (8, true)] (by decide) (by decide +kernel) ?_); (refine zsR zz.out ?_)) | refine zaR zz.out ?_ | refine zkN zz.out ?_ | ((first | (refine Q0l (by intro β h; first | (rcases h with h | h <;> subst h <;> (simp (disch := first | assumption | (apply zP; assumption; assumption) | (apply zQ; assumption; assumption; (intro e; cases e; done)) | omega) only [zn, zp, zq, zr, zv])) | (subst h; (simp (disch := first | assumption | (apply zP; assumption; assumption) | (apply zQ; assumption; assumption; (intro e; cases e; done)) | omega) only [zn, zp, zq, zr, zv]))) ?_) | (with_reducible refine uc (hN1 _) ?_) | (with_reducible refine uc (hN2 _) ?_) | (with_reducible refine uc (hcon _) ?_) | (with_reducible refine uc (Q4e _ _) ?_) | (with_reducible refine uc (Q1z _ _) ?_) | (refine Q0d (by exact zK) ?_) | (refine Q0e (by exact zK) ?_)); (try refine zsR zz.out ?_)) | refine zmR zz.out ?_ | refine zo ?_ | omega | refine ztR zz.out ?_ | fail)); try (all_goals clear zz))
      all_goals exact ⟨σ, (by (exact zu)), b_eq (by simp_all <;> omega), rfl⟩
    by_cases h3 : k = 3
    · subst h3
      rw [if_neg h1, if_neg h2]
      (refine vfun (fun k => if k = 1 then .ro else .no) Q0k Tryz.func20 (by kernel_rfl) ?_; simp only [Q0f, Tryz.f20, zw])
      (have zz := Bx.mk (j4 ui0 ui3 ui4 (j9 ui9 ui22 ui23 ui24 ui25 ui26 ui34 hn @eq23)); (repeat' (first | exact zc | (with_reducible first | apply And.intro | apply Q0a | apply Q0b | refine Q0c (by decide +kernel) ?_ | intro _) | ((with_reducible first | refine .dms (fun x => False) [(0, false), (1, false), (2, false), (3, false), (4, false), (5, true), (6, true), (7, true), (8, true)] (by decide) (by decide +kernel) ?_ | refine .dm (fun x => False) [(0, false), (1, false), (2, false), (3, false), (4, false), (5, true), (6, true), (7, true), (8, true)] (by decide) (by decide +kernel) ?_); (refine zsR zz.out ?_)) | refine zaR zz.out ?_ | refine zkN zz.out ?_ | ((first | (refine Q0l (by intro β h; first | (rcases h with h | h <;> subst h <;> (simp (disch := first | assumption | (apply zP; assumption; assumption) | (apply zQ; assumption; assumption; (intro e; cases e; done)) | omega) only [zn, zp, zq, zr, zv])) | (subst h; (simp (disch := first | assumption | (apply zP; assumption; assumption) | (apply zQ; assumption; assumption; (intro e; cases e; done)) | omega) only [zn, zp, zq, zr, zv]))) ?_) | (with_reducible refine uc (hcon _) ?_) | (with_reducible refine uc (Q4e _ _) ?_) | (with_reducible refine uc (Q1z _ _) ?_) | (refine Q0d (by exact zK) ?_) | (refine Q0e (by exact zK) ?_)); (try refine zsR zz.out ?_)) | refine zmR zz.out ?_ | refine zo ?_ | omega | refine ztR zz.out ?_ | fail)); try (all_goals clear zz))
      all_goals exact ⟨σ, (by (exact zu)), b_eq (by simp_all <;> omega), rfl⟩
    by_cases h4 : k = 4 ∨ k = 5 ∨ k = 6
    · rw [if_neg h1, if_neg h2, if_neg h3, if_pos h4]
      (refine vfun (fun k => if k = 1 then .ro else .no) Q0k Tryz.func20 (by kernel_rfl) ?_; simp only [Q0f, Tryz.f20, zw])
      (have zz := Bx.mk (j4 ui0 ui3 ui4 (j9 ui9 ui22 ui23 ui24 ui25 ui26 ui34 hn @eq23)); (repeat' (first | exact zc | (with_reducible first | apply And.intro | apply Q0a | apply Q0b | refine Q0c (by decide +kernel) ?_ | intro _) | ((with_reducible first | refine .dms (fun x => False) [(0, false), (1, false), (2, false), (3, false), (4, false), (5, true), (6, true), (7, true), (8, true)] (by decide) (by decide +kernel) ?_ | refine .dm (fun x => False) [(0, false), (1, false), (2, false), (3, false), (4, false), (5, true), (6, true), (7, true), (8, true)] (by decide) (by decide +kernel) ?_); (refine zsR zz.out ?_)) | refine zaR zz.out ?_ | refine zkN zz.out ?_ | ((first | (refine Q0l (by intro β h; first | (rcases h with h | h <;> subst h <;> (simp (disch := first | assumption | (apply zP; assumption; assumption) | (apply zQ; assumption; assumption; (intro e; cases e; done)) | omega) only [zn, zp, zq, zr, zv])) | (subst h; (simp (disch := first | assumption | (apply zP; assumption; assumption) | (apply zQ; assumption; assumption; (intro e; cases e; done)) | omega) only [zn, zp, zq, zr, zv]))) ?_) | (with_reducible refine uc (hcon _) ?_) | (with_reducible refine uc (Q4e _ _) ?_) | (with_reducible refine uc (Q1z _ _) ?_) | (refine Q0d (by exact zK) ?_) | (refine Q0e (by exact zK) ?_)); (try refine zsR zz.out ?_)) | refine zmR zz.out ?_ | refine zo ?_ | omega | refine ztR zz.out ?_ | fail)); try (all_goals clear zz))
      all_goals exact ⟨σ, (by (exact zu)), b_eq (by simp_all <;> omega), rfl⟩
    · rw [if_neg h1, if_neg h2, if_neg h3, if_neg h4]
      (refine vfun (fun k => if k = 1 then .ro else .no) Q0k Tryz.func20 (by kernel_rfl) ?_; simp only [Q0f, Tryz.f20, zw])
      (have zz := Bx.mk (j4 ui0 ui3 ui4 (j9 ui9 ui22 ui23 ui24 ui25 ui26 ui34 hn @eq23)); (repeat' (first | exact zc | (with_reducible first | apply And.intro | apply Q0a | apply Q0b | refine Q0c (by decide +kernel) ?_ | intro _) | ((with_reducible first | refine .dms (fun x => False) [(0, false), (1, false), (2, false), (3, false), (4, false), (5, true), (6, true), (7, true), (8, true)] (by decide) (by decide +kernel) ?_ | refine .dm (fun x => False) [(0, false), (1, false), (2, false), (3, false), (4, false), (5, true), (6, true), (7, true), (8, true)] (by decide) (by decide +kernel) ?_); (refine zsR zz.out ?_)) | refine zaR zz.out ?_ | refine zkN zz.out ?_ | ((first | (refine Q0l (by intro β h; first | (rcases h with h | h <;> subst h <;> (simp (disch := first | assumption | (apply zP; assumption; assumption) | (apply zQ; assumption; assumption; (intro e; cases e; done)) | omega) only [zn, zp, zq, zr, zv])) | (subst h; (simp (disch := first | assumption | (apply zP; assumption; assumption) | (apply zQ; assumption; assumption; (intro e; cases e; done)) | omega) only [zn, zp, zq, zr, zv]))) ?_) | (with_reducible refine uc (hcon _) ?_) | (with_reducible refine uc (Q4e _ _) ?_) | (with_reducible refine uc (Q1z _ _) ?_) | (refine Q0d (by exact zK) ?_) | (refine Q0e (by exact zK) ?_)); (try refine zsR zz.out ?_)) | refine zmR zz.out ?_ | refine zo ?_ | omega | refine ztR zz.out ?_ | fail)); try (all_goals clear zz))
      all_goals exact ⟨σ, (by (exact zu)), b_eq (by simp_all <;> omega), rfl⟩
end Go.Proofs.YtjdapkelojdefaaGreatDoor
namespace Go.Lex
open Go.V Go.Proofs.YtjdapkelojdefaaGreatDoor
end Go.Lex
namespace Go.Print
open Go.V Go.Lex Go.Parse Go.Proofs.YtjdapkelojdefaaGreatDoor
def GoodT (t : Tk) : Prop :=
  (t.1 = 1 ∧ isNm t.2.1 = true ∧ t.2.2.1 = 0) ∨ (t.1 = 2 ∧ Q8x t.2.1 = true ∧ t.2.2.1 = 0) ∨ (t.1 = 3 ∧ t.2.1 = [] ∧ t.2.2.1 ≤ 9223372036854775807) ∨
  (t.1 = 4 ∧ t.2.1.length ≤ 40 ∧ t.2.2.1 = 0) ∨ (t.1 = 5 ∧ t.2.1 ∈ signs ∧ t.2.2.1 = 0)
theorem isNm_iff {s : By} (h : isNm s = true) : s ≠ [] ∧ s.length ≤ 16 ∧ Q6p (s.getD 0 0) = true ∧ pre Q3q s = s.length := by
  unfold isNm at h
  simp only [Bool.and_eq_true, decide_eq_true_eq] at h
  exact ⟨h.1.1.1, h.1.1.2, h.1.2, h.2⟩
theorem known_mem {s : By} (h : Q8x s = true) : s ∈ words := by
  have h := of_decide_eq_true h
  unfold idx at h
  refine Classical.byContradiction fun hn => ?_
  have : words.takeWhile (fun w => w != s) = words := by
    have hall : ∀ w ∈ words, (fun w => w != s) w = true := fun w hw => by
      simp only [bne_iff_ne, ne_eq]
      intro e
      subst e
      exact hn hw
    generalize words = l at hall
    induction l with
    | nil => rfl
    | cons a r ih => rw [List.takeWhile_cons, if_pos (hall a (by simp)), ih (fun w hw => hall w (by simp [hw]))]
  rw [this] at h
  omega
theorem X0l : ∀ (l : List By) (x : By), l ≠ [] → Q3j (l ++ [x]) = Q3j l ++ 32 :: x
  | [], x, h => absurd rfl h
  | [a], x, _ => rfl
  | a :: b :: r, x, _ => by
    have ih := X0l (b :: r) x (by simp)
    show a ++ 32 :: Q3j ((b :: r) ++ [x]) = (a ++ 32 :: Q3j (b :: r)) ++ 32 :: x
    rw [ih]
    simp
def lenL (l : List By) : Nat := (l.map List.length).sum
theorem lenL_take {l : List By} {k : Nat} (h : k < l.length) : lenL (l.take (k + 1)) = lenL (l.take k) + (l.getD k []).length := by
  unfold lenL
  rw [List.take_succ_eq_append_getElem h, List.map_append, List.sum_append]
  simp [List.getD_eq_getElem?_getD, List.getElem?_eq_getElem h]
theorem Q7x : ∀ l : List By, l ≠ [] → (Q3j l).length + 1 = lenL l + l.length
  | [], h => absurd rfl h
  | [a], _ => by simp [Q3j, lenL]
  | a :: b :: r, _ => by
    have ih := Q7x (b :: r) (by simp)
    have e : Q3j (a :: b :: r) = a ++ 32 :: Q3j (b :: r) := rfl
    rw [e]
    simp only [zx, zy, lenL, List.map_cons, List.sum_cons] at ih ⊢
    omega
theorem X1z (l : List By) (k : Nat) : lenL (l.take k) ≤ lenL l := by
  have : lenL l = lenL (l.take k) + lenL (l.drop k) := by
    unfold lenL
    rw [← List.sum_append, ← List.map_append, List.take_append_drop]
  omega
end Go.Print
namespace Go.Proofs.YtjdapkelojdefaaGreatDoor
open Go Go.V Go.Lex Go.Parse Go.Print
theorem strs_all (ws : List By) : Q1i (strs ws) 1 = True := eq_true (fun e he => by obtain ⟨w, _, rfl⟩ := List.mem_map.1 he; rfl)
theorem bs32 : (bs [32]).size = 1 := Q4h _
def tdQ (m : Int) : Int := (9223372036854775807 : Int).tdiv m
theorem tdQ_fold (m : Int) : (9223372036854775807 : Int).tdiv m = tdQ m := rfl
theorem tdiv_big {m : Nat} (h1 : 1 ≤ m) (h2 : m ≤ 2 ^ 40) : ∃ Q : Int, (9223372036854775807 : Int).tdiv (m : Int) = Q ∧ 1 < Q ∧ Q ≤ 9223372036854775807 := by
  have e : (9223372036854775807 : Int).tdiv (m : Int) = ((9223372036854775807 / m : Nat) : Int) := rfl
  refine ⟨_, e, ?_, ?_⟩
  · have : 2 ≤ 9223372036854775807 / m := by
      rw [Nat.le_div_iff_mul_le (by omega)]
      omega
    omega
  · have := Nat.div_le_self 9223372036854775807 m
    omega
theorem X2a (l : List By) (o : Own) (hl : (Q3j l).length ≤ 2 ^ 38) (hn : l.length ≤ 2 ^ 38) (σ : Sg) : VCalls Tryz.prog 106 [.sl o (strs l), .s (bs [32])] σ (fun x σ' => x = .s (bs (Q3j l)) ∧ σ' = σ) := by
  have hsl := Q6q l
  match l, hl, hn with
  | [], _, _ =>
    (refine vfun (fun _ => .no) Q0k Tryz.func106 (by kernel_rfl) ?_; simp only [Q0f, Tryz.f106, zw])
    (have zz := Bx.mk (j5 ui0 ui3 ui4 ui5 (j9 ui9 ui20 ui75 X1q Q3i ui151 Q6z ui155 hsl)); (repeat' (first | exact zc | (with_reducible first | apply And.intro | apply Q0a | apply Q0b | refine Q0c (by decide +kernel) ?_ | intro _) | refine zaY zz.out ?_ | ((first | (refine Q0d (by exact zK) ?_) | (refine Q0e (by exact zK) ?_)); (try refine zsY zz.out ?_)) | refine zo ?_ | omega | refine ztY zz.out ?_ | fail)); try (all_goals clear zz))
    all_goals exact ⟨_, .refl _, rfl, rfl⟩
  | [a], _, _ =>
    have hs1 : strs [a] = [[.s (bs a)]] := rfl
    rw [hs1]
    (refine vfun (fun _ => .no) Q0k Tryz.func106 (by kernel_rfl) ?_; simp only [Q0f, Tryz.f106, zw])
    (have zz := Bx.mk (j4 ui0 ui3 ui4 (j9 ui5 ui9 ui20 ui75 X1q Q3i ui151 Q6z ui155)); (repeat' (first | exact zc | (with_reducible first | apply And.intro | apply Q0a | apply Q0b | refine Q0c (by decide +kernel) ?_ | intro _) | refine zaY zz.out ?_ | ((first | (refine Q0d (by exact zK) ?_) | (refine Q0e (by exact zK) ?_)); (try refine zsY zz.out ?_)) | refine zo ?_ | omega | refine ztY zz.out ?_ | fail)); try (all_goals clear zz))
    all_goals exact ⟨_, .refl _, rfl, rfl⟩
  | a :: b :: r, hl, hn =>
    have hjl := Q7x (a :: b :: r) (by simp)
    have hg0 : (strs (a :: b :: r)).getD 0 [] = [.s (bs a)] := rfl
    have hd1 : (strs (a :: b :: r)).drop 1 = strs (b :: r) := rfl
    have hsl2 := Q6q (b :: r)
    have hL2 : 2 ≤ (a :: b :: r).length := by simp
    have hbl : (b :: r).length + 1 = (a :: b :: r).length := rfl
    have hne : (a :: b :: r) ≠ [] := by simp
    have htk : ∀ k, (a :: b :: r).take (k + 1) = a :: (b :: r).take k := fun k => rfl
    generalize hll : a :: b :: r = l at *
    obtain ⟨Q, hQ, hQ1, hQ2⟩ := tdiv_big (m := l.length - 1) (by omega) (by omega)
    have hm : ((l.length - 1 : Nat) : Int) = (l.length : Int) - 1 := by omega
    rw [hm, tdQ_fold] at hQ
    have hQF1 : (Q ≤ ((1 : Nat) : Int)) = False := eq_false (by omega)
    have hQF2 : (Q ≤ 1) = False := eq_false (by omega)
    have hz1 : ((l.length : Int) = 0) = False := eq_false (by omega)
    have hz2 : ((l.length : Int) = 1) = False := eq_false (by omega)
    have hz3 : ((l.length : Int) - 1 = 0) = False := eq_false (by omega)
    (refine vfun (fun _ => .no) Q0k Tryz.func106 (by kernel_rfl) ?_; simp only [Q0f, Tryz.f106, zw])
    (have zz := Bx.mk (j5 ui0 ui3 ui4 ui5 (j9 ui9 ui20 ui75 X1q Q3i ui151 Q6z ui155 (j9 hsl @bs32 @tdQ_fold hQ hQF1 hQF2 hz1 hz2 hz3))); (repeat' (first | exact zc | (with_reducible first | apply And.intro | apply Q0a | apply Q0b | refine Q0c (by decide +kernel) ?_ | intro _) | refine zaY zz.out ?_ | ((first | (refine Q0d (by exact zK) ?_) | (refine Q0e (by exact zK) ?_)); (try refine zsY zz.out ?_)) | refine zo ?_ | omega | refine ztY zz.out ?_ | fail)); try (all_goals clear zz))
    refine VW.loop3 (0 : Nat) () () (fun k _ _ => k ≤ l.length) (fun k _ _ => [(0, .sl o (strs l)), (1, .s (bs [32])), (5, .i ((l.length - 1 + lenL (l.take k) : Nat) : Int)), (39, .sl o (strs l)), (40, .i l.length), (41, .i k)]) (fun _ _ _ => σ) (fun k _ _ => l.length - k) (Nat.zero_le _) (.refl _) ?_ ?_
    · simp only [vO, vQ, ↓vP, vE, vS, vB, vL, vF, vM, vN, Q0i, zb, zd, ze, ne_eq, not_false_eq_true, zf, zg, zk, zl, vT]
      exact ⟨i_eq (by simp [lenL]; omega), rfl⟩
    rintro k _ _ hk
    have hsk := X1z l k
    rcases Nat.lt_or_ge k l.length with hk2 | hk2
    · have hg := Q7u hk2
      have hlk := lenL_take hk2
      have hsk2 := X1z l (k + 1)
      rw [hlk] at hsk2
      generalize lenL (l.take k) = s at *
      generalize l.getD k [] = w at *
      have hw : (bs w).size = w.length := Q4h w
      (have zz := Bx.mk (j7 ui0 ui3 ui4 ui5 ui9 ui20 (j9 ui75 X1q Q3i ui151 Q6z ui155 hsl hg hw)); (repeat' (first | exact zc | (with_reducible first | apply And.intro | apply Q0a | apply Q0b | refine Q0c (by decide +kernel) ?_ | intro _) | refine zaY zz.out ?_ | ((first | (refine Q0d (by exact zK) ?_) | (refine Q0e (by exact zK) ?_)); (try refine zsY zz.out ?_)) | refine zo ?_ | omega | refine ztY zz.out ?_ | fail)); try (all_goals clear zz))
      exact ⟨k + 1, (), (), ⟨hk2, by omega⟩, .refl _, i_eq (by rw [hlk]; omega), rfl⟩
    · rw [List.take_of_length_le hk2]
      have ha : a.length ≤ 2 ^ 38 := by rw [← hll] at hl; simp [Q3j] at hl; omega
      have hG : ∀ β S, S β = none → VCalls Tryz.prog 154 [.ref β 0, .i ((l.length - 1 + lenL l : Nat) : Int)] (S.set β (.cells 152 [.val (.pointer none), .sl .nil []])) (fun x σ' => x = .tup [] ∧ Bld β [] S σ') := fun β S hS => e36 β _ S hS (by omega) (by omega)
      (have zz := Bx.mk (j9 ui0 ui3 ui4 ui5 ui9 ui20 ui75 X1q (j9 Q3i ui151 Q6z ui155 hsl hg0 hd1 hsl2 @strs_all)); (repeat' (first | exact zc | (with_reducible first | apply And.intro | apply Q0a | apply Q0b | refine Q0c (by decide +kernel) ?_ | intro _) | refine zaY zz.out ?_ | ((first | ((with_reducible refine zS (hG _ _ (by assumption)) ?_); rintro _ S' ⟨rfl, hB⟩) | ((with_reducible refine zS (t100 _ _ _ _ _ hB (by simp only [zA]; omega)) ?_); rintro _ S'' ⟨rfl, hB2⟩) | (refine Q0d (by exact zK) ?_) | (refine Q0e (by exact zK) ?_)); (try refine zsY zz.out ?_)) | refine zo ?_ | omega | refine ztY zz.out ?_ | fail)); try (all_goals clear zz))
      rename_i β hβ
      have hB2 : Bld β (Q3j (l.take (0 + 1))) σ S'' := by
        rw [htk]; exact hB2
      refine VW.loop3 (0 : Nat) S'' () (fun k S _ => k ≤ (b :: r).length ∧ Bld β (Q3j (l.take (k + 1))) σ S) (fun k _ _ => [(1, .s (bs [32])), (8, .ref β 0), (63, .sl (o.cut (decide ((1 : Int) = 0 ∨ (1 : Int) < ↑l.length))) (strs (b :: r))), (64, .i ((r.length + 1 : Nat) : Int)), (65, .i k)]) (fun _ S _ => S) (fun k _ _ => (b :: r).length - k) ⟨Nat.zero_le _, hB2⟩ (.refl _) ?_ ?_
      · simp only [vO, vQ, ↓vP, vE, vS, vB, vL, vF, vM, vN, Q0i, zb, zd, ze, ne_eq, not_false_eq_true, zf, zg, zk, zl, vT]
        all_goals rfl
      clear hB2 hB
      rintro k S _ ⟨hk, hB⟩
      rw [zy] at hk hsl2 hbl
      have hjk : (Q3j (l.take (k + 1))).length ≤ 2 ^ 38 := by
        have h1 := Q7x (l.take (k + 1)) (by rw [htk]; simp)
        have h2 := X1z l (k + 1)
        rw [List.length_take] at h1
        omega
      rcases Nat.lt_or_ge k (r.length + 1) with hk2 | hk2
      · have hg := Q7u (ws := b :: r) hk2
        have hnext : l.take (k + 1 + 1) = l.take (k + 1) ++ [(b :: r).getD k []] := by
          rw [htk, htk, List.take_succ_eq_append_getElem (by simpa using hk2)]
          simp [List.getD_eq_getElem?_getD, List.getElem?_eq_getElem (show k < (b :: r).length by simpa using hk2)]
        have hjn : Q3j (l.take (k + 1 + 1)) = Q3j (l.take (k + 1)) ++ [32] ++ (b :: r).getD k [] := by
          rw [hnext, X0l _ _ (by rw [htk]; simp)]
          simp
        have hjk2 : (Q3j (l.take (k + 1 + 1))).length ≤ 2 ^ 38 := by
          have h1 := Q7x (l.take (k + 1 + 1)) (by rw [htk]; simp)
          have h2 := X1z l (k + 1 + 1)
          rw [List.length_take] at h1
          omega
        rw [hjn, zx] at hjk2
        generalize (b :: r).getD k [] = w at *
        generalize Q3j (l.take (k + 1)) = acc at *
        (have zz := Bx.mk (j6 ui0 ui3 ui4 ui5 ui9 (j9 ui20 ui75 X1q Q3i ui151 Q6z ui155 hsl2 hg)); (repeat' (first | exact zc | (with_reducible first | apply And.intro | apply Q0a | apply Q0b | refine Q0c (by decide +kernel) ?_ | intro _) | refine zaY zz.out ?_ | ((first | ((with_reducible refine zS (t100 _ _ _ _ _ hB (by simp only [zy, zA]; omega)) ?_); rintro _ S2 ⟨rfl, hB2⟩) | ((with_reducible refine zS (t100 _ _ _ _ _ hB2 (by omega)) ?_); rintro _ S3 ⟨rfl, hB3⟩) | (refine Q0d (by exact zK) ?_) | (refine Q0e (by exact zK) ?_)); (try refine zsY zz.out ?_)) | refine zo ?_ | omega | refine ztY zz.out ?_ | fail)); try (all_goals clear zz))
        all_goals exact ⟨k + 1, _, (), ⟨⟨hk2, by rw [hjn]; exact hB3⟩, by first | omega | (simp only [zy]; omega)⟩, .refl _, rfl⟩
      · have hfull : l.take (k + 1) = l := List.take_of_length_le (by omega)
        rw [hfull] at hB
        (have zz := Bx.mk (j5 ui0 ui3 ui4 ui5 (j9 ui9 ui20 ui75 X1q Q3i ui151 Q6z ui155 hsl2)); (repeat' (first | exact zc | (with_reducible first | apply And.intro | apply Q0a | apply Q0b | refine Q0c (by decide +kernel) ?_ | intro _) | refine zaY zz.out ?_ | ((first | with_reducible refine (t103 _ _ _ _ hB (by omega)).use ?_ | (refine Q0d (by exact zK) ?_) | (refine Q0e (by exact zK) ?_)); (try refine zsY zz.out ?_)) | refine zo ?_ | omega | refine ztY zz.out ?_ | fail)); try (all_goals clear zz))
        all_goals exact ⟨σ, hB.sub, rfl⟩
def WrOK (t : Tk) : Prop := t.2.2.1 < 9223372036854775808 ∧ (t.1 = 4 → t.2.1.length ≤ 40) ∧ t.2.1.length ≤ 2000
theorem strs_one1 (ws : List By) : Q3l (strs ws) 1 = True := eq_true (fun e he => by obtain ⟨w, _, rfl⟩ := List.mem_map.1 he; exact ⟨rfl, rfl⟩)
theorem txts_take {l : List Tk} {k : Nat} (h : k < l.length) : txts (l.take (k + 1)) = txts (l.take k) ++ (if (l.getD k (0, [], 0, 0)).1 = 6 then [] else [txt (l.getD k (0, [], 0, 0))]) := by
  have hg : l.getD k (0, [], 0, 0) = l[k] := by simp [List.getD_eq_getElem?_getD, List.getElem?_eq_getElem h]
  rw [hg]
  unfold txts
  rw [List.take_succ_eq_append_getElem h, List.filter_append, List.map_append]
  by_cases h6 : l[k].1 = 6
  · rw [if_pos h6]
    simp [List.filter_cons, h6]
  · rw [if_neg h6]
    simp [List.filter_cons, h6]
theorem txts_len (l : List Tk) : (txts l).length ≤ l.length := by
  unfold txts
  rw [List.length_map]
  exact List.length_filter_le _ _
theorem strs_snoc (a : List By) (x : By) : strs (a ++ [x]) = strs a ++ [[.s (bs x)]] := by simp [strs]
theorem j_write (l : List Tk) (o : Own) (h : ∀ t ∈ l, WrOK t) (hn : l.length ≤ 2 ^ 36) (hl : (Q8j l).length ≤ 2 ^ 38) (σ : Sg) : VCalls Tryz.prog 52 [.sl o (tksA l)] σ (fun x σ' => x = .s (bs (Q8j l)) ∧ σ' = σ) := by
  have hlen := Q2p l
  have htl := txts_len l
  unfold Q8j at hl ⊢
  (refine vfun (fun _ => .no) Q0k Tryz.func52 (by kernel_rfl) ?_; simp only [Q0f, Tryz.f52, zw])
  (have zz := Bx.mk (j3 ui0 ui3 (j9 ui4 ui9 ui22 ui23 ui56 ui75 Q0q Q0r hlen)); (repeat' (first | exact zc | (with_reducible first | apply And.intro | apply Q0a | apply Q0b | refine Q0c (by decide +kernel) ?_ | intro _) | refine zaY zz.out ?_ | ((first | (with_reducible refine uc (X2a _ _ (by assumption) (by assumption) _) ?_) | (refine Q0d (by exact zK) ?_) | (refine Q0e (by exact zK) ?_)); (try refine zsY zz.out ?_)) | refine zo ?_ | omega | refine ztY zz.out ?_ | fail)); try (all_goals clear zz))
  refine VW.loop4 (0 : Nat) (AV.sl .nil []) σ () (fun k V S _ => k ≤ l.length ∧ Grown 9 1 (strs (txts (l.take k))) σ V S) (fun k V _ _ => [(0, .sl o (tksA l)), (3, V), (6, .sl o (tksA l)), (7, .i l.length), (8, .i k)]) (fun _ _ S _ => S) (fun k _ _ _ => l.length - k) ⟨Nat.zero_le _, .nil _ _ _⟩ (.refl _) ?_ ?_
  · simp only [vO, vQ, ↓vP, vE, vS, vB, vL, vF, vM, vN, Q0i, zb, zd, ze, ne_eq, not_false_eq_true, zf, zg, zk, zl, vT]
    all_goals rfl
  rintro k V S _ ⟨hk, hG⟩
  rcases Nat.lt_or_ge k l.length with hk2 | hk2
  · have hg := tksA_get hk2
    have hok : WrOK (l.getD k (0, [], 0, 0)) := h _ (by simp [List.getD_eq_getElem?_getD, List.getElem?_eq_getElem hk2])
    have htt := txts_take hk2
    have htk := txts_len (l.take k)
    rw [List.length_take] at htk
    generalize l.getD k (0, [], 0, 0) = t at *
    have htA : tkA t = [.i t.1, .s (bs t.2.1), .i t.2.2.1, .i t.2.2.2] := rfl
    rw [htA] at hg
    generalize txts (l.take k) = W at *
    obtain ⟨q1, q2, q3⟩ := hok
    have h7 : ∀ σ, VCalls Tryz.prog 105 [.agg [.i 1, .i t.2.2.1, .s (bs [])]] σ _ := e7 1 t.2.2.1 [] q1 (by simp)
    have h7b : t.1 = 4 → ∀ σ, VCalls Tryz.prog 105 [.agg [.i 2, .i 0, .s (bs t.2.1)]] σ _ := fun h4 => e7 2 0 t.2.1 (by decide) (q2 h4)
    have hw1 := Q6q W
    have hw2 := strs_all W
    have hw3 := strs_one1 W
    unfold txt at htt
    rcases hG with ⟨e1, rfl, rfl⟩ | ⟨τ, hτ, rfl, rfl⟩
    · rw [e1] at hw1 hw2 hw3
      (have zz := Bx.mk (j5 ui0 ui3 ui4 ui9 (j9 ui22 ui23 ui56 ui75 Q0q Q0r hlen hg e1)); (repeat' (first | exact zc | (with_reducible first | apply And.intro | apply Q0a | apply Q0b | refine Q0c (by decide +kernel) ?_ | intro _) | refine zaY zz.out ?_ | ((first | (with_reducible refine uc (h7 _) ?_) | (with_reducible refine uc (h7b (by omega) _) ?_) | (with_reducible refine uc (X2a _ _ (by assumption) (by assumption) _) ?_) | (refine Q0d (by exact zK) ?_) | (refine Q0e (by exact zK) ?_)); (try refine zsY zz.out ?_)) | refine zo ?_ | omega | refine ztY zz.out ?_ | fail)); try (all_goals clear zz))
      · exact ⟨k + 1, _, S, (), ⟨⟨hk2, by rw [htt, if_pos (by omega), List.append_nil, e1]; exact .nil _ _ _⟩, by omega⟩, by (exact zu), rfl, rfl⟩
      all_goals (rename_i x hx hne; exact ⟨k + 1, _, S.set x (.tok (some 9)), (), ⟨⟨hk2, .tok hx⟩, by omega⟩, by (exact zu), by (rw [htt, if_neg (by omega), strs_snoc, e1]; (repeat' split) <;> first | rfl | (exfalso; omega)), rfl⟩)
    · (have zz := Bx.mk (j7 ui0 ui3 ui4 ui9 ui22 ui23 (j9 ui56 ui75 Q0q Q0r hlen hg hw1 hw2 hw3)); (repeat' (first | exact zc | (with_reducible first | apply And.intro | apply Q0a | apply Q0b | refine Q0c (by decide +kernel) ?_ | intro _) | refine zaY zz.out ?_ | ((first | (with_reducible refine uc (h7 _) ?_) | (with_reducible refine uc (h7b (by omega) _) ?_) | (with_reducible refine uc (X2a _ _ (by assumption) (by assumption) _) ?_) | (refine Q0d (by exact zK) ?_) | (refine Q0e (by exact zK) ?_)); (try refine zsY zz.out ?_)) | refine zo ?_ | omega | refine ztY zz.out ?_ | fail)); try (all_goals clear zz))
      · exact ⟨k + 1, _, σ.set τ (.tok (some 9)), (), ⟨⟨hk2, by rw [htt, if_pos (by omega), List.append_nil]; exact .tok hτ⟩, by omega⟩, by (exact zu), rfl, rfl⟩
      all_goals (rename_i x hx _ _; exact ⟨k + 1, _, σ.set x (.tok (some 9)), (), ⟨⟨hk2, .tok hx⟩, by omega⟩, by (exact zu), by (rw [htt, if_neg (by omega), strs_snoc]; (repeat' split) <;> first | rfl | (exfalso; omega)), rfl⟩)
  · rw [List.take_of_length_le hk2] at hG
    rcases hG with ⟨e1, rfl, rfl⟩ | ⟨τ, hτ, rfl, rfl⟩
    · have hJ : ∀ σ, VCalls Tryz.prog 106 [.sl .nil [], .s (bs [32])] σ _ := fun σ => by rw [← e1]; exact X2a _ .nil hl (by omega) σ
      (have zz := Bx.mk (j3 ui0 ui3 (j9 ui4 ui9 ui22 ui23 ui56 ui75 Q0q Q0r hlen)); (repeat' (first | exact zc | (with_reducible first | apply And.intro | apply Q0a | apply Q0b | refine Q0c (by decide +kernel) ?_ | intro _) | refine zaY zz.out ?_ | ((first | (with_reducible refine uc (hJ _) ?_) | (with_reducible refine uc (X2a _ _ (by assumption) (by assumption) _) ?_) | (refine Q0d (by exact zK) ?_) | (refine Q0e (by exact zK) ?_)); (try refine zsY zz.out ?_)) | refine zo ?_ | omega | refine ztY zz.out ?_ | fail)); try (all_goals clear zz))
      all_goals exact ⟨_, .refl _, rfl⟩
    · (have zz := Bx.mk (j3 ui0 ui3 (j9 ui4 ui9 ui22 ui23 ui56 ui75 Q0q Q0r hlen)); (repeat' (first | exact zc | (with_reducible first | apply And.intro | apply Q0a | apply Q0b | refine Q0c (by decide +kernel) ?_ | intro _) | refine zaY zz.out ?_ | ((first | (with_reducible refine uc (X2a _ _ hl (by omega) _) ?_) | (with_reducible refine uc (X2a _ _ (by assumption) (by assumption) _) ?_) | (refine Q0d (by exact zK) ?_) | (refine Q0e (by exact zK) ?_)); (try refine zsY zz.out ?_)) | refine zo ?_ | omega | refine ztY zz.out ?_ | fail)); try (all_goals clear zz))
      all_goals exact ⟨σ, by (exact zu), rfl⟩
end Go.Proofs.YtjdapkelojdefaaGreatDoor
namespace Go.Print
open Go.V Go.Lex Go.Parse Go.Proofs.YtjdapkelojdefaaGreatDoor
theorem gW {s : By} (h : Q8x s = true) : GoodT (wT s) := .inr (.inl ⟨rfl, h, rfl⟩)
theorem gS {s : By} (h : s ∈ signs) : GoodT (sT s) := .inr (.inr (.inr (.inr ⟨rfl, h, rfl⟩)))
theorem gN {s : By} (h : isNm s = true) : GoodT (nT s) := .inl ⟨rfl, h, rfl⟩
theorem gI {n : Int} (h : n ≤ 9223372036854775807) : GoodT (iT n) := .inr (.inr (.inl ⟨rfl, rfl, by show n.toNat ≤ _; omega⟩))
theorem Q8y {b : Bool} {l : List Tk} (h : ∀ x ∈ l, GoodT x) : ∀ x ∈ br b l, GoodT x := by
  cases b with
  | false => exact h
  | true =>
    intro x hx
    simp only [br, if_true, List.mem_cons, List.mem_append, List.not_mem_nil, or_false] at hx
    rcases hx with rfl | hx | rfl
    · exact gS (by decide)
    · exact h x hx
    · exact gS (by decide)
theorem good_num {n : Int} (h : inR n) (h2 : n ≠ -9223372036854775808) : ∀ x ∈ numT n, GoodT x := by
  unfold inR at h
  intro x hx
  unfold numT at hx
  split at hx
  · simp only [List.mem_cons, List.not_mem_nil, or_false] at hx
    rcases hx with rfl | rfl
    · exact gS (by decide)
    · exact gI (by omega)
  · simp only [List.mem_cons, List.not_mem_nil, or_false] at hx
    subst hx
    exact gI (by omega)
theorem good_lit {v : Vl} (h : okV v = true) (hg : inR v.2.1) : ∀ x ∈ litT v, GoodT x := by
  intro x hx
  rcases X1x h with rfl | ⟨h1, h2, h3⟩ | ⟨h1, h2, h3⟩
  · simp only [litT, if_true, List.mem_cons, List.not_mem_nil, or_false] at hx
    subst hx
    exact gW (by decide +kernel)
  · unfold litT at hx
    rw [if_neg (by omega), if_neg (by omega)] at hx
    exact good_num hg h3 x hx
  · unfold litT at hx
    rw [if_neg (by omega), if_pos h1] at hx
    simp only [List.mem_cons, List.not_mem_nil, or_false] at hx
    subst hx
    exact .inr (.inr (.inr (.inl ⟨rfl, h3, rfl⟩)))
theorem ops_good : ∀ k, k < 14 → 1 ≤ k → (Q8x (ops.getD k []) && decide ((wd (ops.getD k [])).1 = 2) && decide ((wd (ops.getD k [])).2 = (ops.getD k [], 0, 0))) || (signs.contains (ops.getD k []) && decide ((wd (ops.getD k [])).1 = 5) && decide ((wd (ops.getD k [])).2 = (ops.getD k [], 0, 0))) := by decide +kernel
theorem good_op {k : Nat} (h1 : 1 ≤ k) (h2 : k ≤ 13) : GoodT (wd (ops.getD k [])) := by
  have := ops_good k (by omega) h1
  simp only [Bool.or_eq_true, Bool.and_eq_true, decide_eq_true_eq] at this
  rcases this with ⟨⟨a, b⟩, c⟩ | ⟨⟨a, b⟩, c⟩
  · exact .inr (.inl ⟨b, by rw [c]; exact a, by rw [c]⟩)
  · exact .inr (.inr (.inr (.inr ⟨b, by rw [c]; simpa using a, by rw [c]⟩)))
theorem Q4m : ∀ t : Tr, t.wf → t.rg → ∀ x ∈ t.tk, GoodT x
  | .val v, hw, hg => good_lit hw hg
  | .col t n, hw, hg => by
    obtain ⟨h1, h2⟩ : isNm n = true ∧ (t = [] ∨ isNm t = true) := hw
    intro x hx
    rw [Tr.tk] at hx
    split at hx
    · simp only [List.mem_cons, List.not_mem_nil, or_false] at hx
      subst hx
      exact gN h1
    · rename_i ht
      simp only [List.mem_cons, List.not_mem_nil, or_false] at hx
      rcases hx with rfl | rfl | rfl
      · exact gN (h2.resolve_left ht)
      · exact gS (by decide)
      · exact gN h1
  | .null e, hw, hg => by
    intro x hx
    rw [X1u, List.mem_append] at hx
    rcases hx with hx | hx
    · exact Q8y (Q4m e hw hg) x hx
    · simp only [List.mem_cons, List.not_mem_nil, or_false] at hx
      rcases hx with rfl | rfl <;> exact gW (by decide +kernel)
  | .neg e, hw, hg => by
    intro x hx
    rw [tk_neg, List.mem_cons] at hx
    rcases hx with rfl | hx
    · exact gS (by decide)
    · exact Q8y (Q8y (Q4m e hw hg)) x hx
  | .not (.null y), hw, hg => by
    intro x hx
    rw [Q6a, List.mem_append] at hx
    rcases hx with hx | hx
    · exact Q8y (Q4m y hw hg) x hx
    · simp only [List.mem_cons, List.not_mem_nil, or_false] at hx
      rcases hx with rfl | rfl | rfl <;> exact gW (by decide +kernel)
  | .not (.val v), hw, hg => good_not rfl (Q4m (.val v) hw hg)
  | .not (.col t n), hw, hg => good_not rfl (Q4m (.col t n) hw hg)
  | .not (.not e), hw, hg => good_not rfl (Q4m (.not e) hw hg)
  | .not (.neg e), hw, hg => good_not rfl (Q4m (.neg e) hw hg)
  | .not (.op k a b), hw, hg => good_not rfl (Q4m (.op k a b) hw hg)
  | .op k a b, hw, hg => by
    intro x hx
    rw [tk_op, List.mem_append, List.mem_cons] at hx
    rcases hx with hx | rfl | hx
    · exact Q8y (Q4m a hw.2.1 hg.1) x hx
    · exact good_op hw.1.1 hw.1.2
    · exact Q8y (Q4m b hw.2.2 hg.2) x hx
where good_not {e : Tr} (he : e.isNull = false) (h : ∀ x ∈ e.tk, GoodT x) : ∀ x ∈ (Tr.not e).tk, GoodT x := by
        intro x hx
        rw [Q9i he, List.mem_cons] at hx
        rcases hx with rfl | hx
        · exact gW (by decide +kernel)
        · exact Q8y h x hx
theorem words_len : ∀ s ∈ words, s.length ≤ 16 := by decide +kernel
theorem signs_len : ∀ s ∈ signs, s.length ≤ 2 := by decide +kernel
theorem txt_len {t : Tk} (h : GoodT t) : (txt t).length ≤ 82 := by
  obtain ⟨k, s, n, a⟩ := t
  rcases h with ⟨rfl, h1, rfl⟩ | ⟨rfl, h1, rfl⟩ | ⟨rfl, rfl, h1⟩ | ⟨rfl, h1, rfl⟩ | ⟨rfl, h1, rfl⟩
  · have h2 : s.length ≤ 16 := (isNm_iff h1).2.1
    show s.length ≤ 82; omega
  · have := words_len s (known_mem h1); show s.length ≤ 82; omega
  · have h1 : n ≤ 9223372036854775807 := h1
    have := X3q n 19 (by omega); show (dec n).length ≤ 82; omega
  · have := X1r s; show (X0w s).length ≤ 82; unfold X0w; simp at h1 ⊢; omega
  · have := signs_len s h1; show s.length ≤ 82; omega
theorem joinS_le : ∀ l : List By, (∀ x ∈ l, x.length ≤ 82) → (Q3j l).length ≤ 83 * l.length
  | [], _ => Nat.zero_le _
  | [a], h => by have := h a (by simp); show a.length ≤ 83 * 1; omega
  | a :: b :: r, h => by
    have := h a (by simp)
    have ih := joinS_le (b :: r) (fun x hx => h x (by simp [hx]))
    have e : Q3j (a :: b :: r) = a ++ 32 :: Q3j (b :: r) := rfl
    rw [e]
    simp only [zx, zy] at ih ⊢
    omega
theorem X2x {l : List Tk} (h : ∀ x ∈ l, GoodT x) : (Q8j l).length ≤ 83 * l.length := by
  unfold Q8j
  have h1 := joinS_le (txts l) (fun x hx => by
    unfold txts at hx
    obtain ⟨t, ht, rfl⟩ := List.mem_map.1 hx
    exact txt_len (h t (List.mem_filter.1 ht).1))
  have h2 : (txts l).length ≤ l.length := by
    unfold txts
    rw [List.length_map]
    exact List.length_filter_le _ _
  omega
theorem Q9k : ∀ t : Tr, Lim t.ex → t.rg
  | .val v, h => by cases h with | mk _ _ _ _ _ _ _ hr _ => exact hr.2.2.2
  | .col t n, h => trivial
  | .null e, h => by cases h with | mk _ _ _ _ _ _ _ hr hl => exact Q9k e (hl _ (by simp))
  | .neg e, h => by cases h with | mk _ _ _ _ _ _ _ hr hl => exact Q9k e (hl _ (by simp))
  | .not e, h => by cases h with | mk _ _ _ _ _ _ _ hr hl => exact Q9k e (hl _ (by simp))
  | .op k a b, h => by cases h with | mk _ _ _ _ _ _ _ hr hl => exact ⟨Q9k a (hl _ (by simp)), Q9k b (hl _ (by simp))⟩
end Go.Print
namespace Go.Proofs.YtjdapkelojdefaaGreatDoor
open Go Go.V Go.Lex Go.Parse Go.Print
theorem good_wr {t : Tk} (h : GoodT t) : WrOK t := by
  obtain ⟨k, s, n, a⟩ := t
  rcases h with ⟨rfl, h1, rfl⟩ | ⟨rfl, h1, rfl⟩ | ⟨rfl, rfl, h1⟩ | ⟨rfl, h1, rfl⟩ | ⟨rfl, h1, rfl⟩
  · have h2 : s.length ≤ 16 := (isNm_iff h1).2.1
    exact ⟨by show 0 < _; omega, fun h => (by cases h), by show s.length ≤ 2000; omega⟩
  · have h2 : s.length ≤ 16 := words_len s (known_mem h1)
    exact ⟨by show 0 < _; omega, fun h => (by cases h), by show s.length ≤ 2000; omega⟩
  · have h2 : n ≤ 9223372036854775807 := h1
    exact ⟨by show n < _; omega, fun h => (by cases h), by show ([] : By).length ≤ 2000; simp⟩
  · have h2 : s.length ≤ 40 := h1
    exact ⟨by show 0 < _; omega, fun h => h2, by show s.length ≤ 2000; omega⟩
  · have h2 : s.length ≤ 2 := signs_len s h1
    exact ⟨by show 0 < _; omega, fun h => (by cases h), by show s.length ≤ 2000; omega⟩
theorem w_end (B B' : Sg) (ω τ : Nat) (l : List Tk) (d : Int) (m : Nat) (hsub : B'.sub (WS B ω τ l d m)) (hg : ∀ x ∈ l, GoodT x) (hl : l.length ≤ 2 ^ 30) : VCalls Tryz.prog 22 [.ref ω 0] (WS B ω τ l d m) (fun x σ' => x = .tup [.s (bs (fin l m).1), .i (fin l m).2] ∧ σ' = B') := by
  have hwl := X2x hg
  have hW := j_write l (.tok τ 4) (fun x hx => good_wr (hg x hx)) (by omega) (by omega)
  unfold fin
  (refine vfun (fun _ => .no) Q0k Tryz.func22 (by kernel_rfl) ?_; simp only [Q0f, Tryz.f22, zw])
  (have zz := Bx.mk (j4 ui0 ui3 ui4 (j9 ui9 ui30 ui55 ui56 ui57 ui58 ui59 Q0q Q0r)); (repeat' (first | exact zc | (with_reducible first | apply And.intro | apply Q0a | apply Q0b | refine Q0c (by decide +kernel) ?_ | intro _) | refine zaY zz.out ?_ | ((first | (with_reducible refine uc (hW _) ?_) | (with_reducible refine uc (j_write _ _ (by assumption) (by assumption) (by assumption) _) ?_) | (refine Q0d (by exact zK) ?_) | (refine Q0e (by exact zK) ?_)); (try refine zsY zz.out ?_)) | refine zo ?_ | omega | refine ztY zz.out ?_ | fail)); try (all_goals clear zz))
  · exact ⟨B', hsub, by rw [if_pos (by omega)], rfl⟩
  · exact ⟨B', hsub, by rw [if_neg (by omega), if_pos (by omega)], rfl⟩
  · exact ⟨B', hsub, by rw [if_neg (by omega), if_neg (by omega)], rfl⟩
theorem w_Expr (e : Ex) (hL : Lim e) (hlen : rt e = true → (toTr e).tk.length ≤ 2 ^ 30) (σ : Sg) : VCalls Tryz.prog 11 [.agg (exA e)] σ (fun x σ' => x = .tup [.s (bs (exprR e).1), .i (exprR e).2] ∧ σ' = σ) := by
  have hel := Q1a e
  have het := Q1b e
  have hr := Q5r e hL
  unfold exprR
  cases hb : rt e with
  | false =>
    rw [hb] at hr
    generalize exA e = E at *
    (refine vfun (fun k => if k = 1 then .ro else .no) Q0k Tryz.func11 (by kernel_rfl) ?_; simp only [Q0f, Tryz.f11, zw])
    (have zz := Bx.mk (j4 ui0 ui3 ui4 (j9 ui9 ui22 ui23 ui24 ui25 ui26 ui30 ui31 (j9 ui55 ui56 ui57 ui58 ui59 Q0q Q0r hel het))); (repeat' (first | exact zc | (with_reducible first | apply And.intro | apply Q0a | apply Q0b | refine Q0c (by decide +kernel) ?_ | intro _) | refine zaY zz.out ?_ | ((first | (with_reducible refine uc (hr _) ?_) | (with_reducible refine uc (Q5r _ (by assumption) _) ?_) | (refine Q0d (by exact zK) ?_) | (refine Q0e (by exact zK) ?_)); (try refine zsY zz.out ?_)) | refine zo ?_ | omega | refine ztY zz.out ?_ | fail)); try (all_goals clear zz))
    all_goals exact ⟨_, .refl _, rfl⟩
  | true =>
    rw [hb] at hr
    obtain ⟨q1, q2⟩ := Q7j e hb
    have hlen := hlen hb
    have hrg := Q9k (toTr e) (by rw [q1]; exact hL)
    have hX : Cx (toTr e) := Q6b (toTr e) q2 hrg
    have hdp := Q8d (toTr e)
    have hgd := Q4m (toTr e) q2 hrg
    unfold Cx Wr at hX
    rw [q1] at hX
    generalize (toTr e).tk = TT at *
    generalize (toTr e).dp = D at *
    generalize exA e = E at *
    have hX0 : ∀ (S : Sg) (ω : Nat), S ω = some (.cells 59 [.sl .nil [], .i 0, .i 0]) → VCalls Tryz.prog 21 [.ref ω 0, .agg E] S (fun x σ' => x = .tup [] ∧ ∃ τ', okS S ω τ' ∧ σ' = WS S ω τ' TT 0 (D : Nat)) := fun S ω hS => by
      refine VCalls.tok0 (e := 102) 0 4 hS rfl (fun τ hτ hne => ?_)
      have := hX S ω τ [] 0 0 ⟨hτ, hne⟩ (by omega) (by omega) (by omega) (by omega) (by simp; omega)
      rw [List.nil_append] at this
      refine zS this (fun x σ' hx => ?_)
      obtain ⟨rfl, τ', ok, rfl⟩ := hx
      exact ⟨rfl, τ', ok, Q2g rfl rfl (by omega)⟩
    (refine vfun (fun k => if k = 1 then .ro else .no) Q0k Tryz.func11 (by kernel_rfl) ?_; simp only [Q0f, Tryz.f11, zw])
    (have zz := Bx.mk (j4 ui0 ui3 ui4 (j9 ui9 ui22 ui23 ui24 ui25 ui26 ui30 ui31 (j9 ui55 ui56 ui57 ui58 ui59 Q0q Q0r hel het))); (repeat' (first | exact zc | (with_reducible first | apply And.intro | apply Q0a | apply Q0b | refine Q0c (by decide +kernel) ?_ | intro _) | refine zaY zz.out ?_ | ((first | (with_reducible refine uc (hr _) ?_) | ((with_reducible refine zS (hX0 _ _ (by exact zK)) ?_); rintro _ S ⟨rfl, τ1, hok, rfl⟩) | (with_reducible refine uc (Q5r _ (by assumption) _) ?_) | (refine Q0d (by exact zK) ?_) | (refine Q0e (by exact zK) ?_)); (try refine zsY zz.out ?_)) | refine zo ?_ | omega | refine ztY zz.out ?_ | fail)); try (all_goals clear zz))
    rename_i ω hω
    obtain ⟨f1, n1⟩ := hok
    have f1 := (Sg.none_set f1).2
    refine zS (w_end _ σ ω τ1 TT 0 D ?_ hgd hlen) ?_
    · (exact zu)
    rintro _ S2 ⟨rfl, rfl⟩
    simp only [vO, vQ, ↓vP, vE, vS, vB, vL, vF, vM, vN, Q0i, zb, zd, ze, ne_eq, not_false_eq_true, zf, zg, zk, zl, vT]
    (have zz := Bx.mk (j2 ui0 (j9 ui3 ui4 ui9 ui22 ui23 ui24 ui25 ui26 (j9 ui30 ui31 ui55 ui56 ui57 ui58 ui59 Q0q Q0r))); (repeat' (first | exact zc | (with_reducible first | apply And.intro | apply Q0a | apply Q0b | refine Q0c (by decide +kernel) ?_ | intro _) | refine zaY zz.out ?_ | ((first | (with_reducible refine uc (Q5r _ (by assumption) _) ?_) | (refine Q0d (by exact zK) ?_) | (refine Q0e (by exact zK) ?_)); (try refine zsY zz.out ?_)) | refine zo ?_ | omega | refine ztY zz.out ?_ | fail)); try (all_goals clear zz))
    all_goals exact ⟨_, .refl _, rfl⟩
theorem by1 {m : Nat} (h : m < 10) : [[AV.val (.int .u8 (48 + (m : Int)))]] = Q0z (bs [UInt8.ofNat (48 + m)]) := by
  rw [bs_bytes]
  show _ = [[AV.u8 ((UInt8.ofNat (48 + m)).toNat : Int)]]
  rw [ofNat_toNat h]
  rfl
theorem k_digits : ∀ (n : Nat), n < 9223372036854775808 → ∀ σ, VCalls Tryz.prog 159 [.i n] σ (fun x σ' => x = .s (bs (dec n)) ∧ σ' = σ) := by
  intro n
  induction n using Nat.strongRecOn with
  | ind n ih =>
    intro hn σ
    by_cases h : n < 10
    · rw [X2s h]
      have hu := by1 h
      (refine vfun (fun _ => .no) Q0k Tryz.func159 (by kernel_rfl) ?_; simp only [Q0f, Tryz.f159, zw])
      (have zz := Bx.mk (j5 ui3 ui4 ui5 ui9 Q3i); (repeat' (first | exact zc | (with_reducible first | apply And.intro | apply Q0a | apply Q0b | refine Q0c (by decide +kernel) ?_ | intro _) | refine zaY zz.out ?_ | ((first | (refine ⟨bs [UInt8.ofNat (48 + n)], hu, ?_⟩) | (refine Q0d (by exact zK) ?_) | (refine Q0e (by exact zK) ?_)); (try refine zsY zz.out ?_)) | refine zo ?_ | omega | refine ztY zz.out ?_ | fail)); try (all_goals clear zz))
      all_goals exact ⟨_, .refl _, rfl⟩
    · rw [dec_ge h]
      have hu := by1 (m := n % 10) (by omega)
      have h1 := ih (n / 10) (by omega) (by omega)
      have hdl := X3q (n / 10) 18 (by omega)
      have hq : (n : Int).tdiv 10 = ((n / 10 : Nat) : Int) := rfl
      have hr : (n : Int).tmod 10 = ((n % 10 : Nat) : Int) := rfl
      have hqb : n / 10 < 9223372036854775808 := by omega
      have hrb : n % 10 < 10 := by omega
      generalize dec (n / 10) = D at *
      generalize n / 10 = q at *
      generalize n % 10 = r at *
      (refine vfun (fun _ => .no) Q0k Tryz.func159 (by kernel_rfl) ?_; simp only [Q0f, Tryz.f159, zw])
      (have zz := Bx.mk (j7 ui3 ui4 ui5 ui9 Q3i hq hr); (repeat' (first | exact zc | (with_reducible first | apply And.intro | apply Q0a | apply Q0b | refine Q0c (by decide +kernel) ?_ | intro _) | ((with_reducible first | refine .dms (fun x => False) [(0, false), (1, false), (3, false), (4, false), (5, false), (6, false), (7, false), (8, false), (2, true), (9, true), (10, true)] (by decide) (by decide +kernel) ?_ | refine .dm (fun x => False) [(0, false), (1, false), (3, false), (4, false), (5, false), (6, false), (7, false), (8, false), (2, true), (9, true), (10, true)] (by decide) (by decide +kernel) ?_); (refine zsR zz.out ?_)) | refine zaR zz.out ?_ | refine zkN zz.out ?_ | ((first | (refine Q0l (by intro β h; first | (rcases h with h | h <;> subst h <;> (simp (disch := first | assumption | (apply zP; assumption; assumption) | (apply zQ; assumption; assumption; (intro e; cases e; done)) | omega) only [zn, zp, zq, zr, zv])) | (subst h; (simp (disch := first | assumption | (apply zP; assumption; assumption) | (apply zQ; assumption; assumption; (intro e; cases e; done)) | omega) only [zn, zp, zq, zr, zv]))) ?_) | (with_reducible refine uc (h1 _) ?_) | (refine ⟨bs [UInt8.ofNat (48 + r)], hu, ?_⟩) | (refine Q0d (by exact zK) ?_) | (refine Q0e (by exact zK) ?_)); (try refine zsR zz.out ?_)) | refine zmR zz.out ?_ | refine zo ?_ | omega | refine ztR zz.out ?_ | fail)); try (all_goals clear zz))
      all_goals exact ⟨_, .refl _, rfl⟩
theorem Q5k (n : Nat) (hn : n < 9223372036854775808) (σ : Sg) : VCalls Tryz.prog 114 [.i n] σ (fun x σ' => x = .s (bs (dec n)) ∧ σ' = σ) := by
  have hd := k_digits n hn
  (refine vfun (fun _ => .no) Q0k Tryz.func114 (by kernel_rfl) ?_; simp only [Q0f, Tryz.f114, zw])
  (have zz := Bx.mk (j3 ui3 ui4 ui9); (repeat' (first | exact zc | (with_reducible first | apply And.intro | apply Q0a | apply Q0b | refine Q0c (by decide +kernel) ?_ | intro _) | refine zaY zz.out ?_ | ((first | (with_reducible refine uc (hd _) ?_) | (refine Q0d (by exact zK) ?_) | (refine Q0e (by exact zK) ?_)); (try refine zsY zz.out ?_)) | refine zo ?_ | omega | refine ztY zz.out ?_ | fail)); try (all_goals clear zz))
  all_goals exact ⟨_, .refl _, rfl⟩
theorem quo_step1 {t : By} {k : Nat} (h : k < t.length) : quo (t.take (k + 1)) = quo (t.take k) ++ (if (t.getD k 0).toNat = 39 then [39] else []) ++ [t.getD k 0] := by
  have hg : t.getD k 0 = t[k] := by simp [List.getD_eq_getElem?_getD, List.getElem?_eq_getElem h]
  rw [hg, List.take_succ_eq_append_getElem h]
  have happ : ∀ (a : By) (c : UInt8), quo (a ++ [c]) = quo a ++ (if c.toNat = 39 then [39] else []) ++ [c] := by
    intro a c
    induction a with
    | nil =>
      by_cases hc : c.toNat = 39
      · have : c = 39 := (eq39 c).2 hc
        subst this; rfl
      · have : c ≠ 39 := fun e => hc ((eq39 c).1 e)
        rw [if_neg hc]
        simp [quo, this]
    | cons x r ih =>
      rw [List.cons_append, quo, quo, ih]
      split <;> simp
  exact happ _ _
theorem Q7l (t : By) (ht : t.length ≤ 40) (σ : Sg) : VCalls Tryz.prog 115 [.agg [.i 2, .i 0, .s (bs t)]] σ (fun x σ' => x = .s (bs (X0w t)) ∧ σ' = σ) := by
  (refine vfun (fun _ => .ro) Q0k Tryz.func115 (by kernel_rfl) ?_; simp only [Q0f, Tryz.f115, zw])
  (have zz := Bx.mk (j7 ui0 ui3 ui4 ui5 ui9 ui22 ui23); (repeat' (first | exact zc | (with_reducible first | apply And.intro | apply Q0a | apply Q0b | refine Q0c (by decide +kernel) ?_ | intro _) | refine zaY zz.out ?_ | ((first | (with_reducible refine uc (Q5k _ (by assumption) _) ?_) | (refine Q0d (by exact zK) ?_) | (refine Q0e (by exact zK) ?_)); (try refine zsY zz.out ?_)) | refine zo ?_ | omega | refine ztY zz.out ?_ | fail)); try (all_goals clear zz))
  refine VW.loop3 (0 : Nat) () () (fun k _ _ => k ≤ t.length) (fun k _ _ => [(1, .ro [.i 2, .i 0, .s (bs t)]), (3, .s (bs (39 :: quo (t.take k)))), (4, .i k)]) (fun _ _ _ => σ) (fun k _ _ => t.length - k) (Nat.zero_le _) (.refl _) ?_ ?_
  · simp only [vO, vQ, ↓vP, vE, vS, vB, vL, vF, vM, vN, Q0i, zb, zd, ze, ne_eq, not_false_eq_true, zf, zg, zk, zl, vT]
    exact ⟨rfl, rfl⟩
  rintro k _ _ hk
  have hql := X1r (t.take k)
  rw [List.length_take] at hql
  rcases Nat.lt_or_ge k t.length with hk2 | hk2
  · have hs := quo_step1 hk2
    have hsl : (t.take (k + 1)).drop k = [t.getD k 0] := by
      rw [List.take_succ_eq_append_getElem hk2, List.drop_append_of_le_length (by simp; omega)]
      simp [List.getD_eq_getElem?_getD, List.getElem?_eq_getElem hk2]
    generalize quo (t.take k) = Q at *
    generalize hcc : t.getD k 0 = c at *
    (have zz := Bx.mk (j8 ui0 ui3 ui4 ui5 ui9 ui22 ui23 hsl); (repeat' (first | exact zc | (with_reducible first | apply And.intro | apply Q0a | apply Q0b | refine Q0c (by decide +kernel) ?_ | intro _) | refine zaY zz.out ?_ | ((first | (with_reducible refine uc (Q5k _ (by assumption) _) ?_) | (refine Q0d (by exact zK) ?_) | (refine Q0e (by exact zK) ?_)); (try refine zsY zz.out ?_)) | refine zo ?_ | omega | refine ztY zz.out ?_ | fail)); try (all_goals clear zz))
    · simp only [zx, zy, zA]; omega
    · rename_i hx
      rw [hcc] at hx
      exact ⟨k + 1, (), (), ⟨hk2, by omega⟩, .refl _, by rw [hs, if_pos (by omega)], rfl⟩
    · rename_i hx
      rw [hcc] at hx
      exact ⟨k + 1, (), (), ⟨hk2, by omega⟩, .refl _, by rw [hs, if_neg (by omega), List.append_nil], rfl⟩
  · rw [List.take_of_length_le hk2] at hql ⊢
    (have zz := Bx.mk (j7 ui0 ui3 ui4 ui5 ui9 ui22 ui23); (repeat' (first | exact zc | (with_reducible first | apply And.intro | apply Q0a | apply Q0b | refine Q0c (by decide +kernel) ?_ | intro _) | refine zaY zz.out ?_ | ((first | (with_reducible refine uc (Q5k _ (by assumption) _) ?_) | (refine Q0d (by exact zK) ?_) | (refine Q0e (by exact zK) ?_)); (try refine zsY zz.out ?_)) | refine zo ?_ | omega | refine ztY zz.out ?_ | fail)); try (all_goals clear zz))
    all_goals exact ⟨_, .refl _, rfl, rfl⟩
theorem joinS_app : ∀ (l : List By) (x : By), Q3j (l ++ [x]) = (if l = [] then [] else Q3j l ++ [32]) ++ x
  | [], x => rfl
  | a :: r, x => by
    rw [X0l _ _ (by simp), if_neg (by simp)]
    simp
theorem join_le (l : List By) (k : Nat) : (Q3j (l.take k)).length ≤ (Q3j l).length := by
  by_cases h : l.take k = []
  · rw [h]; simp [Q3j]
  · have hl : l ≠ [] := fun e => by rw [e] at h; simp at h
    have h1 := Q7x _ h
    have h2 := Q7x l hl
    have h3 := X1z l k
    have h4 : (l.take k).length ≤ l.length := by rw [List.length_take]; omega
    omega
theorem txts_le (l : List Tk) (k : Nat) : ∃ j, txts (l.take k) = (txts l).take j := by
  refine ⟨(txts (l.take k)).length, ?_⟩
  have : txts l = txts (l.take k) ++ txts (l.drop k) := by
    unfold txts
    rw [← List.map_append, ← List.filter_append, List.take_append_drop]
  rw [this, List.take_left]
theorem k_write (l : List Tk) (o : Own) (h : ∀ t ∈ l, WrOK t) (hn : l.length ≤ 2 ^ 36) (hl : (Q8j l).length ≤ 2 ^ 38) (σ : Sg) : VCalls Tryz.prog 57 [.sl o (tksA l)] σ (fun x σ' => x = .s (bs (Q8j l)) ∧ σ' = σ) := by
  have hlen := Q2p l
  unfold Q8j at hl ⊢
  (refine vfun (fun _ => .no) Q0k Tryz.func57 (by kernel_rfl) ?_; simp only [Q0f, Tryz.f57, zw])
  (have zz := Bx.mk (j2 ui0 (j9 ui3 ui4 ui9 ui22 ui23 ui56 Q0q Q0r hlen)); (repeat' (first | exact zc | (with_reducible first | apply And.intro | apply Q0a | apply Q0b | refine Q0c (by decide +kernel) ?_ | intro _) | refine zaY zz.out ?_ | ((first | (with_reducible refine uc (Q5k _ (by assumption) _) ?_) | (with_reducible refine uc (Q7l _ (by assumption) _) ?_) | (refine Q0d (by exact zK) ?_) | (refine Q0e (by exact zK) ?_)); (try refine zsY zz.out ?_)) | refine zo ?_ | omega | refine ztY zz.out ?_ | fail)); try (all_goals clear zz))
  refine VW.loop3 (0 : Nat) () () (fun k _ _ => k ≤ l.length) (fun k _ _ => [(0, .sl o (tksA l)), (3, .s (bs (Q3j (txts (l.take k))))), (4, .b (decide (txts (l.take k) ≠ []))), (5, .i k)]) (fun _ _ _ => σ) (fun k _ _ => l.length - k) (Nat.zero_le _) (.refl _) ?_ ?_
  · simp only [vO, vQ, ↓vP, vE, vS, vB, vL, vF, vM, vN, Q0i, zb, zd, ze, ne_eq, not_false_eq_true, zf, zg, zk, zl, vT]
    exact ⟨rfl, rfl, rfl⟩
  rintro k _ _ hk
  rcases Nat.lt_or_ge k l.length with hk2 | hk2
  · have hg := tksA_get hk2
    have hok : WrOK (l.getD k (0, [], 0, 0)) := h _ (by simp [List.getD_eq_getElem?_getD, List.getElem?_eq_getElem hk2])
    have htt := txts_take hk2
    have hj1 : (Q3j (txts (l.take k))).length ≤ 2 ^ 38 := by
      obtain ⟨j, hj⟩ := txts_le l k
      rw [hj]
      have := join_le (txts l) j
      omega
    have hj2 : (Q3j (txts (l.take (k + 1)))).length ≤ 2 ^ 38 := by
      obtain ⟨j, hj⟩ := txts_le l (k + 1)
      rw [hj]
      have := join_le (txts l) j
      omega
    generalize l.getD k (0, [], 0, 0) = t at *
    have htA : tkA t = [.i t.1, .s (bs t.2.1), .i t.2.2.1, .i t.2.2.2] := rfl
    rw [htA] at hg
    generalize txts (l.take k) = W at *
    obtain ⟨q1, q2, q3⟩ := hok
    have h7b : t.1 = 4 → ∀ σ, VCalls Tryz.prog 115 [.agg [.i 2, .i 0, .s (bs t.2.1)]] σ _ := fun h4 => Q7l t.2.1 (q2 h4)
    have hnum := Q5k t.2.2.1 q1
    have hdl := X3q t.2.2.1 18 (by omega)
    have hql := X1r t.2.1
    have hqq : (X0w t.2.1).length = (quo t.2.1).length + 2 := by unfold X0w; simp
    unfold txt at htt
    by_cases hW : W = []
    · subst hW
      (have zz := Bx.mk (j3 ui0 ui3 (j9 ui4 ui9 ui22 ui23 ui56 Q0q Q0r hlen hg)); (repeat' (first | exact zc | (with_reducible first | apply And.intro | apply Q0a | apply Q0b | refine Q0c (by decide +kernel) ?_ | intro _) | refine zaY zz.out ?_ | ((first | (with_reducible refine uc (hnum _) ?_) | (with_reducible refine uc (h7b (by omega) _) ?_) | (with_reducible refine uc (Q5k _ (by assumption) _) ?_) | (with_reducible refine uc (Q7l _ (by assumption) _) ?_) | (refine Q0d (by exact zK) ?_) | (refine Q0e (by exact zK) ?_)); (try refine zsY zz.out ?_)) | refine zo ?_ | omega | refine ztY zz.out ?_ | fail)); try (all_goals clear zz))
      all_goals first | (exact ⟨k + 1, (), (), ⟨hk2, by omega⟩, .refl _, by rw [htt, if_pos (by omega), List.append_nil], by (rw [htt, if_pos (by omega), List.append_nil]; first | rfl | (simp; done) | simp [hW]), rfl⟩) | (exact ⟨k + 1, (), (), ⟨hk2, by omega⟩, .refl _, by (rw [htt, if_neg (by omega), joinS_app, if_pos rfl]; (repeat' split) <;> first | rfl | (exfalso; omega) | (simp; done)), by (rw [htt, if_neg (by omega)]; simp), rfl⟩) | (exfalso; omega)
    · have hdW : decide (W ≠ []) = true := decide_eq_true hW
      rw [hdW]
      (have zz := Bx.mk (j3 ui0 ui3 (j9 ui4 ui9 ui22 ui23 ui56 Q0q Q0r hlen hg)); (repeat' (first | exact zc | (with_reducible first | apply And.intro | apply Q0a | apply Q0b | refine Q0c (by decide +kernel) ?_ | intro _) | refine zaY zz.out ?_ | ((first | (with_reducible refine uc (hnum _) ?_) | (with_reducible refine uc (h7b (by omega) _) ?_) | (with_reducible refine uc (Q5k _ (by assumption) _) ?_) | (with_reducible refine uc (Q7l _ (by assumption) _) ?_) | (refine Q0d (by exact zK) ?_) | (refine Q0e (by exact zK) ?_)); (try refine zsY zz.out ?_)) | refine zo ?_ | omega | refine ztY zz.out ?_ | fail)); try (all_goals clear zz))
      all_goals first | (exact ⟨k + 1, (), (), ⟨hk2, by omega⟩, .refl _, by rw [htt, if_pos (by omega), List.append_nil], by (rw [htt, if_pos (by omega), List.append_nil]; first | rfl | (simp; done) | simp [hW]), rfl⟩) | (exact ⟨k + 1, (), (), ⟨hk2, by omega⟩, .refl _, by (rw [htt, if_neg (by omega), joinS_app, if_neg hW]; (repeat' split) <;> first | rfl | (exfalso; omega) | (simp; done)), by (rw [htt, if_neg (by omega)]; simp), rfl⟩) | (exfalso; omega) | (simp only [zx, zy, zA]; omega)
  · rw [List.take_of_length_le hk2]
    (have zz := Bx.mk (j2 ui0 (j9 ui3 ui4 ui9 ui22 ui23 ui56 Q0q Q0r hlen)); (repeat' (first | exact zc | (with_reducible first | apply And.intro | apply Q0a | apply Q0b | refine Q0c (by decide +kernel) ?_ | intro _) | refine zaY zz.out ?_ | ((first | (with_reducible refine uc (Q5k _ (by assumption) _) ?_) | (with_reducible refine uc (Q7l _ (by assumption) _) ?_) | (refine Q0d (by exact zK) ?_) | (refine Q0e (by exact zK) ?_)); (try refine zsY zz.out ?_)) | refine zo ?_ | omega | refine ztY zz.out ?_ | fail)); try (all_goals clear zz))
    all_goals exact ⟨_, .refl _, rfl⟩
theorem X2b (c : UInt8) (σ : Sg) : VCalls Tryz.prog 108 [.u8 c.toNat] σ (fun x σ' => x = .b (Q6p c) ∧ σ' = σ) := by
  (refine vfun (fun _ => .no) Q0k Tryz.func108 (by kernel_rfl) ?_; simp only [Q0f, Tryz.f108, zw])
  repeat' (first | exact zc | (with_reducible first | apply And.intro | apply Q0a | apply Q0b | refine Q0c (by decide +kernel) ?_ | intro _) | refine zaY (j2 ui4 ui5) ?_ | ((first | (refine Q0d (by exact zK) ?_) | (refine Q0e (by exact zK) ?_)); (try refine zsY (j2 ui4 ui5) ?_)) | refine zo ?_ | omega | refine ztY (j2 ui4 ui5) ?_ | fail)
  all_goals exact ⟨σ, .refl σ, b_eq (by simp [Q6p]; omega), rfl⟩
theorem y_upper (c : UInt8) (σ : Sg) : VCalls Tryz.prog 157 [.u8 c.toNat] σ (fun x σ' => x = .b (isGreat c) ∧ σ' = σ) := by
  (refine vfun (fun _ => .no) Q0k Tryz.func157 (by kernel_rfl) ?_; simp only [Q0f, Tryz.f157, zw])
  repeat' (first | exact zc | (with_reducible first | apply And.intro | apply Q0a | apply Q0b | refine Q0c (by decide +kernel) ?_ | intro _) | refine zaY (j2 ui4 ui5) ?_ | ((first | (refine Q0d (by exact zK) ?_) | (refine Q0e (by exact zK) ?_)); (try refine zsY (j2 ui4 ui5) ?_)) | refine zo ?_ | omega | refine ztY (j2 ui4 ui5) ?_ | fail)
  all_goals exact ⟨σ, .refl σ, b_eq (by simp [isGreat]; omega), rfl⟩
theorem y_digit (c : UInt8) (σ : Sg) : VCalls Tryz.prog 158 [.u8 c.toNat] σ (fun x σ' => x = .b (Q8v c) ∧ σ' = σ) := by
  (refine vfun (fun _ => .no) Q0k Tryz.func158 (by kernel_rfl) ?_; simp only [Q0f, Tryz.f158, zw])
  repeat' (first | exact zc | (with_reducible first | apply And.intro | apply Q0a | apply Q0b | refine Q0c (by decide +kernel) ?_ | intro _) | refine zaY (j2 ui4 ui5) ?_ | ((first | (refine Q0d (by exact zK) ?_) | (refine Q0e (by exact zK) ?_)); (try refine zsY (j2 ui4 ui5) ?_)) | refine zo ?_ | omega | refine ztY (j2 ui4 ui5) ?_ | fail)
  all_goals exact ⟨σ, .refl σ, b_eq (by simp [Q8v]; omega), rfl⟩
theorem y_run1 (s : By) (hs : s.length ≤ 2 ^ 60) (σ : Sg) : VCalls Tryz.prog 109 [.s (bs s), .i 0, .i 1] σ (fun x σ' => x = .i (pre Q3q s) ∧ σ' = σ) := by
  (refine vfun (fun _ => .no) Q0k Tryz.func109 (by kernel_rfl) ?_; simp only [Q0f, Tryz.f109, zw])
  (have zz := Bx.mk (j4 ui3 ui4 ui5 ui9); (repeat' (first | exact zc | (with_reducible first | apply And.intro | apply Q0a | apply Q0b | refine Q0c (by decide +kernel) ?_ | intro _) | refine zaY zz.out ?_ | ((first | (with_reducible refine uc (X2b _ _) ?_) | (with_reducible refine uc (y_upper _ _) ?_) | (with_reducible refine uc (y_digit _ _) ?_) | (refine Q0d (by exact zK) ?_) | (refine Q0e (by exact zK) ?_)); (try refine zsY zz.out ?_)) | refine zo ?_ | omega | refine ztY zz.out ?_ | fail)); try (all_goals clear zz))
  refine VW.loop3 (0 : Nat) () () (fun k _ _ => k ≤ s.length ∧ k + pre Q3q (s.drop k) = pre Q3q s) (fun k _ _ => [(0, .s (bs s)), (1, .i 0), (2, .i 1), (7, .i k)]) (fun _ _ _ => σ) (fun k _ _ => s.length - k) ⟨Nat.zero_le _, by simp⟩ (.refl _) ?_ ?_
  · simp only [vO, vQ, ↓vP, vE, vS, vB, vL, vF, vM, vN, Q0i, zb, zd, ze, ne_eq, not_false_eq_true, zf, zg, zk, zl, vT]
    all_goals rfl
  rintro k _ _ ⟨hk, hp⟩
  rcases Nat.lt_or_ge k s.length with hk2 | hk2
  · have hst := X3n (p := Q3q) hk2
    have hsm : Q3q (s.getD k 0) = (Q6p (s.getD k 0) || Q8v (s.getD k 0)) := rfl
    rw [hsm] at hst
    (have zz := Bx.mk (j6 ui3 ui4 ui5 ui9 @Int.zero_add @Int.toNat_natCast); (repeat' (first | exact zc | (with_reducible first | apply And.intro | apply Q0a | apply Q0b | refine Q0c (by decide +kernel) ?_ | intro _) | refine zaY zz.out ?_ | ((first | (with_reducible refine uc (X2b _ _) ?_) | (with_reducible refine uc (y_upper _ _) ?_) | (with_reducible refine uc (y_digit _ _) ?_) | (refine Q0d (by exact zK) ?_) | (refine Q0e (by exact zK) ?_)); (try refine zsY zz.out ?_)) | refine zo ?_ | omega | refine ztY zz.out ?_ | fail)); try (all_goals clear zz))
    · rename_i hf _ _
      rw [hf] at hst
      simp only [Bool.true_or, if_true] at hst
      exact ⟨k + 1, (), (), ⟨⟨hk2, by omega⟩, by omega⟩, .refl _, rfl⟩
    · rename_i hd _ _
      rw [hd] at hst
      simp only [Bool.or_true, if_true] at hst
      exact ⟨k + 1, (), (), ⟨⟨hk2, by omega⟩, by omega⟩, .refl _, rfl⟩
    · rename_i hf hd
      have hf' : Q6p (s.getD k 0) = false := by simpa using hf
      have hd' : Q8v (s.getD k 0) = false := by simpa using hd
      rw [hf', hd'] at hst
      simp only [Bool.or_self, Bool.false_eq_true, if_false] at hst
      exact ⟨_, .refl _, by rw [show pre Q3q s = k by omega], rfl⟩
  · have := pre_end (p := Q3q) hk2
    (have zz := Bx.mk (j4 ui3 ui4 ui5 ui9); (repeat' (first | exact zc | (with_reducible first | apply And.intro | apply Q0a | apply Q0b | refine Q0c (by decide +kernel) ?_ | intro _) | refine zaY zz.out ?_ | ((first | (with_reducible refine uc (X2b _ _) ?_) | (with_reducible refine uc (y_upper _ _) ?_) | (with_reducible refine uc (y_digit _ _) ?_) | (refine Q0d (by exact zK) ?_) | (refine Q0e (by exact zK) ?_)); (try refine zsY zz.out ?_)) | refine zo ?_ | omega | refine ztY zz.out ?_ | fail)); try (all_goals clear zz))
    all_goals exact ⟨_, .refl _, by rw [show pre Q3q s = k by omega], rfl⟩
theorem Q2d (s : By) (σ : Sg) : VCalls Tryz.prog 54 [.s (bs s)] σ (fun x σ' => x = .b (isNm s) ∧ σ' = σ) := by
  unfold isNm
  by_cases hs : s.length ≤ 16
  · have hrow := y_run1 s (by omega) σ
    (refine vfun (fun _ => .no) Q0k Tryz.func54 (by kernel_rfl) ?_; simp only [Q0f, Tryz.f54, zw])
    (have zz := Bx.mk (j4 ui3 ui4 ui5 ui9); (repeat' (first | exact zc | (with_reducible first | apply And.intro | apply Q0a | apply Q0b | refine Q0c (by decide +kernel) ?_ | intro _) | refine zaY zz.out ?_ | ((first | (with_reducible refine uc (hrow) ?_) | (with_reducible refine uc (X2b _ _) ?_) | (refine Q0d (by exact zK) ?_) | (refine Q0e (by exact zK) ?_)); (try refine zsY zz.out ?_)) | refine zo ?_ | omega | refine ztY zz.out ?_ | fail)); try (all_goals clear zz))
    all_goals first | exact List.length_pos_iff.2 ‹_› | exact ⟨_, .refl _, b_eq (by simp_all <;> omega), rfl⟩
  · (refine vfun (fun _ => .no) Q0k Tryz.func54 (by kernel_rfl) ?_; simp only [Q0f, Tryz.f54, zw])
    (have zz := Bx.mk (j4 ui3 ui4 ui5 ui9); (repeat' (first | exact zc | (with_reducible first | apply And.intro | apply Q0a | apply Q0b | refine Q0c (by decide +kernel) ?_ | intro _) | refine zaY zz.out ?_ | ((first | (with_reducible refine uc (X2b _ _) ?_) | (refine Q0d (by exact zK) ?_) | (refine Q0e (by exact zK) ?_)); (try refine zsY zz.out ?_)) | refine zo ?_ | omega | refine ztY zz.out ?_ | fail)); try (all_goals clear zz))
    all_goals first | exact List.length_pos_iff.2 ‹_› | exact ⟨_, .refl _, b_eq (by simp_all <;> omega), rfl⟩ | (exfalso; omega)
theorem y_rightV (v : Vl) (σ : Sg) : VCalls Tryz.prog 107 [.agg [.i v.1, .i v.2.1, .s (bs v.2.2)]] σ (fun x σ' => x = .i (X0x v.1 v.2.1 v.2.2) ∧ σ' = σ) := by
  obtain ⟨k, n, t⟩ := v
  have hb : X1s k n t ≠ (n, t) ↔ (k = 0 ∧ ¬ (n = 0 ∧ t = [])) ∨ (k = 1 ∧ t ≠ []) ∨ (k = 2 ∧ n ≠ 0) := by
    unfold X1s
    by_cases h0 : k = 0
    · subst h0; simp [Prod.ext_iff, eq_comm]
    · by_cases h1 : k = 1
      · subst h1; simp [Prod.ext_iff, eq_comm]
      · by_cases h2 : k = 2
        · subst h2; simp [Prod.ext_iff, eq_comm]
        · simp [h0, h1, h2]
  unfold X0x
  simp only [hb]
  (refine vfun (fun _ => .ro) Q0k Tryz.func107 (by kernel_rfl) ?_; simp only [Q0f, Tryz.f107, zw])
  (have zz := Bx.mk (j7 ui0 ui3 ui4 ui9 ui22 ui23 ui30); (repeat' (first | exact zc | (with_reducible first | apply And.intro | apply Q0a | apply Q0b | refine Q0c (by decide +kernel) ?_ | intro _) | refine zaY zz.out ?_ | ((first | (refine Q0d (by exact zK) ?_) | (refine Q0e (by exact zK) ?_)); (try refine zsY zz.out ?_)) | refine zo ?_ | omega | refine ztY zz.out ?_ | fail)); try (all_goals clear zz))
  all_goals exact ⟨_, .refl _, i_eq (by (repeat' split) <;> simp_all <;> omega), rfl⟩
end Go.Proofs.YtjdapkelojdefaaGreatDoor
namespace Go.Proofs.YtjdapkelojdefaaGreatDoor
open Go Go.V Go.Lex Go.Parse
end Go.Proofs.YtjdapkelojdefaaGreatDoor
namespace Go.V
end Go.V
namespace Go.Parse
open Go.V Go.Lex Go.Proofs.YtjdapkelojdefaaGreatDoor
inductive Sp
  | base (e : Ex)
  | op (k : Int) (a : Sp) (f : Ex)
def Sp.ex : Sp → Ex
  | .base e => e
  | .op k a f => opE k a.ex f
end Go.Parse
namespace Go.Proofs.YtjdapkelojdefaaGreatDoor
open Go Go.V Go.Lex Go.Parse
end Go.Proofs.YtjdapkelojdefaaGreatDoor
namespace Go.Parse
open Go.V Go.Lex Go.Proofs.YtjdapkelojdefaaGreatDoor
end Go.Parse
namespace Go.Proofs.YtjdapkelojdefaaGreatDoor
open Go Go.V Go.Lex Go.Parse
end Go.Proofs.YtjdapkelojdefaaGreatDoor
namespace Go.Parse
open Go.V Go.Lex Go.Proofs.YtjdapkelojdefaaGreatDoor
end Go.Parse
namespace Go.Proofs.YtjdapkelojdefaaGreatDoor
open Go Go.V Go.Lex Go.Parse
theorem X3x {l : List Ex} {k : Nat} (h : k < l.length) : (exsA l).getD k [] = exA l[k] := by
  induction l generalizing k with
  | nil => simp at h
  | cons e r ih =>
    rw [Q1j]
    cases k with
    | zero => rfl
    | succ k => exact ih (by simpa using h)
theorem Q9l (l : List Ex) : Q1i (exsA l) 8 = True := eq_true (by
  induction l with
  | nil => intro e he; rw [Q1h] at he; cases he
  | cons x r ih =>
    intro e he
    rw [Q1j] at he
    rcases List.mem_cons.1 he with rfl | he
    · exact Q1a x
    · exact ih e he)
end Go.Proofs.YtjdapkelojdefaaGreatDoor
