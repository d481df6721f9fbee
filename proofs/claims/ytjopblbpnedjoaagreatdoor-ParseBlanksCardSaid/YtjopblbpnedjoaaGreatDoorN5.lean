/- Part 5 of the proof: K10, K11, K12, K13, K14, K15, K16, V19, B1, B2, B3, B4. -/
import Derived.Test.YtjopblbpnedjoaaGreatDoorN4
import Derived.Test.YtjopblbpnedjoaaGreatDoorN3

set_option linter.all false
set_option maxRecDepth 100000
set_option maxHeartbeats 1000000
open Nat renaming reduceEqDiff → za, reduceAdd → zb, reduceLeDiff → zc, reduceMul → zd, reduceSub → ze
open Int renaming toNat_zero → zh, reduceToNat → zi, tdiv_eq_ediv_of_nonneg → zj
open Go.V.Sg renaming set_same → zk, set_ne → zl, set_ne' → zm, del_ne → zn, del_ne' → zo
open Option renaming getD_some → zp
open Go.Proofs.Tryz renaming underlying3 → Z3, underlying5 → Z5, underlying9 → Z9, underlying23 → Z23, underlying24 → Z24, underlying26 → Z26, underlying84 → Z84, underlying87 → Z87, underlying92 → Z92
set_option linter.unusedSimpArgs false
namespace Go.Lex
open Go.V Go.Proofs.YtjopblbpnedjoaaGreatDoor
def wl (kd : Nat) (r : List UInt8) (n : Nat) : Except Nat (Nat × List UInt8 × Nat × Nat) :=
  match wordT kd r n with
  | .ok (k, t, v) => .ok (k, t, v, n)
  | .error e => .error e
theorem wl_ok {kd : Nat} {r : List UInt8} {n k v : Nat} {t : List UInt8} (h : wordT kd r n = .ok (k, t, v)) : wl kd r n = .ok (k, t, v, n) := by unfold wl; rw [h]
theorem wl_err {kd : Nat} {r : List UInt8} {n e : Nat} (h : wordT kd r n = .error e) : wl kd r n = .error e := by unfold wl; rw [h]
def tok1 (r : List UInt8) : Except Nat (Nat × List UInt8 × Nat × Nat) :=
  if (r.getD 0 0).toNat = 39 then quotedT r
  else if isFirst (r.getD 0 0) = true then wl 1 r (pre isSmall r)
  else if isGreat (r.getD 0 0) = true then wl 2 r (pre isGreat r)
  else if isDigit (r.getD 0 0) = true then wl 3 r (pre isDigit r)
  else match signs.find? (fun x => hasPre x r) with
  | some x => .ok (5, x, 0, x.length)
  | none => .error 4
theorem tok1_q {r : List UInt8} (h : (r.getD 0 0).toNat = 39) : tok1 r = quotedT r := if_pos h
theorem not39 {c : UInt8} (h : isFirst c = true ∨ isGreat c = true ∨ isDigit c = true) : ¬ c.toNat = 39 := by
  intro e
  rcases h with h | h | h <;> simp [isFirst, isGreat, isDigit, e] at h
theorem notFG {c : UInt8} (h : isGreat c = true) : isFirst c = false := by
  cases hh : isFirst c with
  | false => rfl
  | true => simp [isFirst, isGreat] at h hh; omega
theorem notGF {c : UInt8} (h : isFirst c = true) : isGreat c = false := by
  cases hh : isGreat c with
  | false => rfl
  | true => rw [notFG hh] at h; cases h
theorem notFD {c : UInt8} (h : isDigit c = true) : isFirst c = false := by
  cases hh : isFirst c with
  | false => rfl
  | true => simp [isFirst, isDigit] at h hh; omega
theorem notGD {c : UInt8} (h : isDigit c = true) : isGreat c = false := by
  cases hh : isGreat c with
  | false => rfl
  | true => simp [isGreat, isDigit] at h hh; omega
theorem tok1_1 {r : List UInt8} (h : isFirst (r.getD 0 0) = true) : tok1 r = wl 1 r (pre isSmall r) := by
  unfold tok1; rw [if_neg (not39 (.inl h)), if_pos h]
theorem tok1_2 {r : List UInt8} (h : isGreat (r.getD 0 0) = true) : tok1 r = wl 2 r (pre isGreat r) := by
  unfold tok1; rw [if_neg (not39 (.inr (.inl h))), if_neg (by rw [notFG h]; simp), if_pos h]
theorem tok1_3 {r : List UInt8} (h : isDigit (r.getD 0 0) = true) : tok1 r = wl 3 r (pre isDigit r) := by
  unfold tok1; rw [if_neg (not39 (.inr (.inr h))), if_neg (by rw [notFD h]; simp), if_neg (by rw [notGD h]; simp), if_pos h]
theorem tok1_s {r : List UInt8} (h0 : ¬ (r.getD 0 0).toNat = 39) (h1 : ¬ isFirst (r.getD 0 0) = true) (h2 : ¬ isGreat (r.getD 0 0) = true) (h3 : ¬ isDigit (r.getD 0 0) = true) : tok1 r = match signs.find? (fun x => hasPre x r) with
  | some x => .ok (5, x, 0, x.length)
  | none => .error 4 := by unfold tok1; rw [if_neg h0, if_neg h1, if_neg h2, if_neg h3]
def noSign (r : List UInt8) (k : Nat) : Prop := (signs.find? (fun x => hasPre x r)) = ((signs.drop k).find? (fun x => hasPre x r))
theorem noSign_zero (r : List UInt8) : noSign r 0 := rfl
theorem noSign_step {r : List UInt8} {k : Nat} (hk : k < signs.length) (h : noSign r k) (hn : ¬ hasPre (signs.getD k []) r = true) : noSign r (k + 1) := by
  unfold noSign at *
  rw [h, List.drop_eq_getElem_cons hk, List.find?_cons]
  have : signs[k] = signs.getD k [] := by simp [List.getD_eq_getElem?_getD, List.getElem?_eq_getElem hk]
  rw [this]
  simp only [Bool.not_eq_true] at hn
  rw [hn]
theorem noSign_yes {r : List UInt8} {k : Nat} (hk : k < signs.length) (h : noSign r k) (hn : hasPre (signs.getD k []) r = true) : (signs.find? (fun x => hasPre x r)) = some (signs.getD k []) := by
  unfold noSign at *
  rw [h, List.drop_eq_getElem_cons hk, List.find?_cons]
  have : signs[k] = signs.getD k [] := by simp [List.getD_eq_getElem?_getD, List.getElem?_eq_getElem hk]
  rw [this, hn]
theorem noSign_end {r : List UInt8} {k : Nat} (hk : signs.length ≤ k) (h : noSign r k) : (signs.find? (fun x => hasPre x r)) = none := by
  unfold noSign at h
  rw [h, List.drop_of_length_le hk]; rfl
theorem tok1_sign {r : List UInt8} {x : List UInt8} (h0 : ¬ (r.getD 0 0).toNat = 39) (h1 : ¬ isFirst (r.getD 0 0) = true) (h2 : ¬ isGreat (r.getD 0 0) = true) (h3 : ¬ isDigit (r.getD 0 0) = true) (h : signs.find? (fun x => hasPre x r) = some x) : tok1 r = .ok (5, x, 0, x.length) := by
  rw [tok1_s h0 h1 h2 h3, h]
theorem tok1_none {r : List UInt8} (h0 : ¬ (r.getD 0 0).toNat = 39) (h1 : ¬ isFirst (r.getD 0 0) = true) (h2 : ¬ isGreat (r.getD 0 0) = true) (h3 : ¬ isDigit (r.getD 0 0) = true) (h : signs.find? (fun x => hasPre x r) = none) : tok1 r = .error 4 := by
  rw [tok1_s h0 h1 h2 h3, h]
end Go.Lex
namespace Go.Proofs.YtjopblbpnedjoaaGreatDoor
open Go Go.V Go.Lex
theorem t44 (r : List UInt8) (σ : Sg) (hl : r.length < 2 ^ 30) (h0 : 0 < r.length) : VCalls Tryz.prog 47 [.s (bs r)] σ (fun x σ' => QOut (tok1 r) 0 x ∧ σ' = σ) := by
  have hp : ∀ p, pre p r ≤ r.length := fun p => pre_le p r
  have hp1 := hp isSmall
  have hp2 := hp isGreat
  have hp3 := hp isDigit
  (refine vfun (fun _ => .no) mixed Tryz.func47 (by kernel_rfl) ?_; simp only [bodyOf, Tryz.f47, zp])
  repeat' (first | with_reducible rfl | exact .inr trivial | (with_reducible first | apply And.intro | apply vqx_step | apply vqm_step | refine vkp_free (by decide +kernel) ?_ | intro _) | ((first | (with_reducible first | refine .rs ?_ | refine .ds (by kernel_rfl) ?_ | refine .dg (by kernel_rfl) ?_ | refine .rg ?_ | refine .ite ?_ | refine .ret ?_ | refine .skip ?_ | refine .exit ?_ | refine .scope ?_ | refine .seq (.label ?_) | refine .block ?_ | refine .seq ?_) | (simp (disch := first | assumption | omega) only [w64, w8, tg_eq, n1, n2, nn, zj, zk, zl, zm, zn, zo]) | with_reducible refine (t72 _ _).use ?_ | with_reducible refine (t74 _ _).use ?_ | with_reducible refine (t75 _ _).use ?_ | with_reducible refine (t76 _).use ?_ | with_reducible refine (t69 _ 101 [] isSmall _ (by omega) (fun c => t73 c _)).use ?_ | with_reducible refine (t69 _ 102 [] isGreat _ (by omega) (fun c => t74 c _)).use ?_ | with_reducible refine (t69 _ 103 [] isDigit _ (by omega) (fun c => t75 c _)).use ?_ | ((with_reducible refine (t71 _ _ (by omega) (by omega)).mono ?_); rintro y σ' ⟨⟨k, t, v, n, ho, rfl⟩ | ⟨e, k, t, v, n, b, ho, he, rfl⟩, rfl⟩) | ((with_reducible refine (t77 _ _ 1 _ (by omega) (by omega) (by omega) (.inr (.inl ⟨rfl, notGF ‹_›, ‹_›⟩))).mono ?_); rintro y σ' ⟨⟨k, t, v, ho, rfl⟩ | ⟨e, k, t, v, ho, he, rfl⟩, rfl⟩) | ((with_reducible refine (t77 _ _ 2 _ (by omega) (by omega) (by omega) (.inl ⟨rfl, ‹_›⟩)).mono ?_); rintro y σ' ⟨⟨k, t, v, ho, rfl⟩ | ⟨e, k, t, v, ho, he, rfl⟩, rfl⟩) | ((with_reducible refine (t77 _ _ 3 _ (by omega) (by omega) (by omega) (.inr (.inr ⟨rfl, notGD ‹_›, notFD ‹_›, rfl⟩))).mono ?_); rintro y σ' ⟨⟨k, t, v, ho, rfl⟩ | ⟨e, k, t, v, ho, he, rfl⟩, rfl⟩)); (try simp only [vO, vQ, ↓vP, vE, vS, vB, vL, vF, vM, vN, vbs_full, za, zb, zc, ne_eq, not_false_eq_true, zd, ze, zh, zi, Z9, Z5, Z3, Z24, Z84, Z87, info9, info84, info3, info24, nadd, nadd1, nadd2, nadd3, n1add, n2add, vT])) | (with_reducible first | refine vfresh_set ?_ | refine vfresh_intro (fun _ _ => ?_) | refine vif_intro (fun _ => ?_) (fun _ => ?_)) | omega | ((with_reducible first | refine vop_at ?_ | refine vops_at ?_ | refine vquiet_at ?_ | refine vmix_at ?_ | refine Holds_at ?_); simp only [vO, vQ, ↓vP, vE, vS, vB, vL, vF, vM, vN, vbs_full, za, zb, zc, ne_eq, not_false_eq_true, zd, ze, zh, zi, Z9, Z5, Z3, Z24, Z84, Z87, info9, info84, info3, info24, nadd, nadd1, nadd2, nadd3, n1add, n2add, vT]))
  all_goals first
    | exact ⟨σ, (by repeat (first | exact Sg.sub.refl _ | refine Sg.sub.set_both ?_ | refine Sg.sub.set_fresh ?_ (by first | assumption | exact Sg.set_none ‹_› ‹_›) | refine Sg.sub.del_fresh ?_ (by first | assumption | exact Sg.set_none ‹_› ‹_›))), .ok _ _ _ ((tok1_q (by omega)).trans ho) rfl rfl rfl rfl, rfl⟩
    | exact ⟨σ, (by repeat (first | exact Sg.sub.refl _ | refine Sg.sub.set_both ?_ | refine Sg.sub.set_fresh ?_ (by first | assumption | exact Sg.set_none ‹_› ‹_›) | refine Sg.sub.del_fresh ?_ (by first | assumption | exact Sg.set_none ‹_› ‹_›))), .err _ _ _ _ _ ((tok1_q (by omega)).trans ho) he rfl rfl rfl rfl rfl, rfl⟩
    | exact ⟨σ, (by repeat (first | exact Sg.sub.refl _ | refine Sg.sub.set_both ?_ | refine Sg.sub.set_fresh ?_ (by first | assumption | exact Sg.set_none ‹_› ‹_›) | refine Sg.sub.del_fresh ?_ (by first | assumption | exact Sg.set_none ‹_› ‹_›))), .ok _ _ _ ((tok1_1 ‹_›).trans (wl_ok ho)) rfl rfl rfl rfl, rfl⟩
    | exact ⟨σ, (by repeat (first | exact Sg.sub.refl _ | refine Sg.sub.set_both ?_ | refine Sg.sub.set_fresh ?_ (by first | assumption | exact Sg.set_none ‹_› ‹_›) | refine Sg.sub.del_fresh ?_ (by first | assumption | exact Sg.set_none ‹_› ‹_›))), .err _ _ _ _ 0 ((tok1_1 ‹_›).trans (wl_err ho)) he rfl rfl rfl rfl rfl, rfl⟩
    | exact ⟨σ, (by repeat (first | exact Sg.sub.refl _ | refine Sg.sub.set_both ?_ | refine Sg.sub.set_fresh ?_ (by first | assumption | exact Sg.set_none ‹_› ‹_›) | refine Sg.sub.del_fresh ?_ (by first | assumption | exact Sg.set_none ‹_› ‹_›))), .ok _ _ _ ((tok1_2 ‹_›).trans (wl_ok ho)) rfl rfl rfl rfl, rfl⟩
    | exact ⟨σ, (by repeat (first | exact Sg.sub.refl _ | refine Sg.sub.set_both ?_ | refine Sg.sub.set_fresh ?_ (by first | assumption | exact Sg.set_none ‹_› ‹_›) | refine Sg.sub.del_fresh ?_ (by first | assumption | exact Sg.set_none ‹_› ‹_›))), .err _ _ _ _ 0 ((tok1_2 ‹_›).trans (wl_err ho)) he rfl rfl rfl rfl rfl, rfl⟩
    | exact ⟨σ, (by repeat (first | exact Sg.sub.refl _ | refine Sg.sub.set_both ?_ | refine Sg.sub.set_fresh ?_ (by first | assumption | exact Sg.set_none ‹_› ‹_›) | refine Sg.sub.del_fresh ?_ (by first | assumption | exact Sg.set_none ‹_› ‹_›))), .ok _ _ _ ((tok1_3 ‹_›).trans (wl_ok ho)) rfl rfl rfl rfl, rfl⟩
    | exact ⟨σ, (by repeat (first | exact Sg.sub.refl _ | refine Sg.sub.set_both ?_ | refine Sg.sub.set_fresh ?_ (by first | assumption | exact Sg.set_none ‹_› ‹_›) | refine Sg.sub.del_fresh ?_ (by first | assumption | exact Sg.set_none ‹_› ‹_›))), .err _ _ _ _ 0 ((tok1_3 ‹_›).trans (wl_err ho)) he rfl rfl rfl rfl rfl, rfl⟩
    | skip
  rename_i x hx g0 g1 g2 g3
  have hsl : signs.length = 16 := rfl
  refine VW.loop (0 : Nat) (fun k => k ≤ 16 ∧ noSign r k) (fun k => [(0, .s (bs r)), (2, .ref x 0), (13, .sl .full (strs signs)), (14, .i 16), (15, .i k)]) (fun _ => σ.set x (.cells 84 [.i 0, .s (bs []), .i 0, .i 0])) (fun k => 16 - k) ⟨by omega, noSign_zero r⟩ (.refl _) ?_ (fun k ⟨h1, h2⟩ => ?_)
  · simp only [vO, vQ, ↓vP, vE, vS, vB, vL, vF, vM, vN, vbs_full, za, zb, zc, ne_eq, not_false_eq_true, zd, ze, zh, zi, vT]
    simp [strs_len, hsl]
  repeat' (first | with_reducible rfl | exact .inr trivial | (with_reducible first | apply And.intro | apply vqx_step | apply vqm_step | refine vkp_free (by decide +kernel) ?_ | intro _) | ((first | (with_reducible first | refine .rs ?_ | refine .ds (by kernel_rfl) ?_ | refine .dg (by kernel_rfl) ?_ | refine .rg ?_ | refine .ite ?_ | refine .ret ?_ | refine .skip ?_ | refine .exit ?_ | refine .scope ?_ | refine .seq (.label ?_) | refine .block ?_ | refine .seq ?_) | (simp (disch := first | assumption | omega) only [w64, w8, tg_eq, n1, n2, nn, zj, zk, zl, zm, zn, zo]) | with_reducible simp (disch := omega) only [strs_get, Int.toNat_natCast] | with_reducible refine (t68 _ _ _).use ?_); (try simp only [vO, vQ, ↓vP, vE, vS, vB, vL, vF, vM, vN, vbs_full, za, zb, zc, ne_eq, not_false_eq_true, zd, ze, zh, zi, Z9, Z5, Z3, Z24, Z84, Z87, info9, info84, info3, info24, strs_len, nadd, nadd1, nadd2, nadd3, n1add, n2add, vT])) | (with_reducible first | refine vfresh_set ?_ | refine vfresh_intro (fun _ _ => ?_) | refine vif_intro (fun _ => ?_) (fun _ => ?_)) | omega | ((with_reducible first | refine vop_at ?_ | refine vops_at ?_ | refine vquiet_at ?_ | refine vmix_at ?_ | refine Holds_at ?_); simp only [vO, vQ, ↓vP, vE, vS, vB, vL, vF, vM, vN, vbs_full, za, zb, zc, ne_eq, not_false_eq_true, zd, ze, zh, zi, Z9, Z5, Z3, Z24, Z84, Z87, info9, info84, info3, info24, strs_len, nadd, nadd1, nadd2, nadd3, n1add, n2add, vT]))
  all_goals first
    | exact ⟨σ, (by repeat (first | exact Sg.sub.refl _ | refine Sg.sub.set_both ?_ | refine Sg.sub.set_fresh ?_ (by first | assumption | exact Sg.set_none ‹_› ‹_›) | refine Sg.sub.del_fresh ?_ (by first | assumption | exact Sg.set_none ‹_› ‹_›))), .ok 5 0 _ (tok1_sign (by omega) g1 g2 g3 (noSign_yes (by omega) h2 ‹_›)) rfl rfl rfl rfl, rfl⟩
    | exact ⟨k + 1, ⟨⟨by omega, noSign_step (by omega) h2 ‹_›⟩, by omega⟩, .refl _, rfl⟩
    | exact ⟨σ, (by repeat (first | exact Sg.sub.refl _ | refine Sg.sub.set_both ?_ | refine Sg.sub.set_fresh ?_ (by first | assumption | exact Sg.set_none ‹_› ‹_›) | refine Sg.sub.del_fresh ?_ (by first | assumption | exact Sg.set_none ‹_› ‹_›))), .err 4 0 0 0 0 (tok1_none (by omega) g1 g2 g3 (noSign_end (by omega) h2)) (by decide) rfl rfl rfl rfl rfl, rfl⟩
end Go.Proofs.YtjopblbpnedjoaaGreatDoor

set_option linter.unusedSimpArgs false
namespace Go.Proofs.YtjopblbpnedjoaaGreatDoor
open Go Go.V Go.Lex
end Go.Proofs.YtjopblbpnedjoaaGreatDoor

namespace Go.Lex
open Go.V Go.Proofs.YtjopblbpnedjoaaGreatDoor
theorem qd_len : ∀ (m t : List UInt8) (n : Nat), qd m = some (t, n) → 0 < n ∧ n ≤ m.length
  | [], _, _, h => by cases h
  | [c], t, n, h => by
    simp only [qd] at h
    split at h
    · cases h; simp
    · cases h
  | c :: d :: r, t, n, h => by
    simp only [qd] at h
    split at h
    · split at h
      · cases hq : qd r with
        | none => rw [hq] at h; cases h
        | some p =>
          rw [hq] at h
          cases h
          have := qd_len r p.1 p.2 hq
          simp; omega
      · cases h; simp
    · cases hq : qd (d :: r) with
      | none => rw [hq] at h; cases h
      | some p =>
        rw [hq] at h
        cases h
        have := qd_len (d :: r) p.1 p.2 hq
        simp at this ⊢; omega
theorem pre_pos {p : UInt8 → Bool} {r : List UInt8} (h0 : 0 < r.length) (h : p (r.getD 0 0) = true) : 0 < pre p r := by
  have := pre_yes (p := p) (l := r) (k := 0) h0 h
  rw [List.drop_zero] at this
  omega
theorem wl_n {kd : Nat} {r : List UInt8} {n k v m : Nat} {t : List UInt8} (h : wl kd r n = .ok (k, t, v, m)) : m = n := by
  unfold wl at h
  split at h
  · cases h; rfl
  · cases h
theorem tok1_len {r : List UInt8} {k v n : Nat} {t : List UInt8} (h0 : 0 < r.length) (h : tok1 r = .ok (k, t, v, n)) : 0 < n ∧ n ≤ r.length := by
  unfold tok1 at h
  split at h
  · unfold quotedT at h
    split at h
    · cases h
    · rename_i t' n' hq
      split at h
      · cases h
      · cases h
        have := qd_len _ _ _ hq
        simp at this; omega
  · split at h
    · rename_i hf
      rw [wl_n h]
      exact ⟨pre_pos h0 (by unfold isSmall; rw [hf]; rfl), pre_le _ _⟩
    · split at h
      · rename_i hf
        rw [wl_n h]
        exact ⟨pre_pos h0 hf, pre_le _ _⟩
      · split at h
        · rename_i hf
          rw [wl_n h]
          exact ⟨pre_pos h0 hf, pre_le _ _⟩
        · split at h
          · rename_i x hx
            cases h
            have h1 := List.find?_some hx
            have h2 := List.mem_of_find?_eq_some hx
            have h3 : ∀ x ∈ signs, 0 < x.length := by decide
            refine ⟨h3 _ h2, ?_⟩
            rcases Nat.lt_or_ge r.length t.length with h4 | h4
            · rw [hasPre_short h4] at h1; cases h1
            · exact h4
          · cases h
abbrev Tk := Nat × List UInt8 × Nat × Nat
def appE (o : List Tk) : Except (Nat × Nat) (List Tk) → Except (Nat × Nat) (List Tk)
  | .ok l => .ok (o ++ l)
  | .error e => .error e
theorem appE_nil (x : Except (Nat × Nat) (List Tk)) : appE [] x = x := by cases x <;> rfl
theorem appE_appE (a b : List Tk) (x : Except (Nat × Nat) (List Tk)) : appE a (appE b x) = appE (a ++ b) x := by cases x <;> simp [appE]
def toks (r : List UInt8) (a : Nat) : Except (Nat × Nat) (List Tk) :=
  if _h : r.length ≤ blanks r then .ok [(6, [], 0, a + blanks r)] else
  match tok1 (r.drop (blanks r)) with
  | .error e => .error (e, a + blanks r)
  | .ok (k, t, v, n) => if _h2 : n = 0 then .error (0, 0) else appE [(k, t, v, a + blanks r)] (toks (r.drop (blanks r + n)) (a + blanks r + n))
termination_by r.length
decreasing_by simp; omega
theorem toks_end {r : List UInt8} {a : Nat} (h : r.length ≤ blanks r) : toks r a = .ok [(6, [], 0, a + blanks r)] := by rw [toks, dif_pos h]
theorem toks_err {r : List UInt8} {a e : Nat} (h : blanks r < r.length) (ht : tok1 (r.drop (blanks r)) = .error e) : toks r a = .error (e, a + blanks r) := by
  rw [toks, dif_neg (by omega), ht]
theorem toks_ok {r : List UInt8} {a k v n : Nat} {t : List UInt8} (h : blanks r < r.length) (ht : tok1 (r.drop (blanks r)) = .ok (k, t, v, n)) : toks r a = appE [(k, t, v, a + blanks r)] (toks (r.drop (blanks r + n)) (a + blanks r + n)) := by
  have := tok1_len (by simp; omega) ht
  rw [toks, dif_neg (by omega), ht]
  simp only
  rw [dif_neg (by omega)]
def lexAll (s : List UInt8) : Except (Nat × Int) (List Tk) :=
  if 2000 < s.length then .error (2, -1) else
  match toks s 0 with
  | .ok l => .ok l
  | .error (e, a) => .error (e, (a : Int))
theorem lexAll_long {s : List UInt8} (h : 2000 < s.length) : lexAll s = .error (2, -1) := if_pos h
theorem lexAll_ok {s : List UInt8} {l : List Tk} (h : ¬ 2000 < s.length) (ht : toks s 0 = .ok l) : lexAll s = .ok l := by unfold lexAll; rw [if_neg h, ht]
theorem lexAll_err {s : List UInt8} {e a : Nat} (h : ¬ 2000 < s.length) (ht : toks s 0 = .error (e, a)) : lexAll s = .error (e, (a : Int)) := by unfold lexAll; rw [if_neg h, ht]
theorem toks_nz : ∀ (n : Nat) (r : List UInt8) (a e b : Nat), r.length ≤ n → (∀ m e, tok1 m = .error e → e ≠ 0) → toks r a = .error (e, b) → e ≠ 0 := by
  intro n
  induction n with
  | zero =>
    intro r a e b hn _ h
    rw [toks_end (by have := blanks_le r; omega)] at h
    cases h
  | succ n ih =>
    intro r a e b hn hz h
    by_cases hb : r.length ≤ blanks r
    · rw [toks_end hb] at h; cases h
    · cases ht : tok1 (r.drop (blanks r)) with
      | error e' =>
        rw [toks_err (by omega) ht] at h
        cases h
        exact hz _ _ ht
      | ok p =>
        obtain ⟨k, t, v, m⟩ := p
        have hm := tok1_len (by simp; omega) ht
        rw [toks_ok (by omega) ht] at h
        cases hr : toks (r.drop (blanks r + m)) (a + blanks r + m) with
        | ok l => rw [hr] at h; cases h
        | error q =>
          rw [hr] at h
          cases h
          exact ih _ _ _ _ (by simp; omega) hz hr
def tkA (x : Tk) : List AV := [.i x.1, .s (bs x.2.1), .i x.2.2.1, .i x.2.2.2]
def tksA (l : List Tk) : List (List AV) := l.map tkA
theorem tksA_len (l : List Tk) : (tksA l).length = l.length := by simp [tksA]
theorem tksA_app (a b : List Tk) : tksA a ++ tksA b = tksA (a ++ b) := by simp [tksA]
theorem tksA_all (l : List Tk) : allLen (tksA l) 4 = True := eq_true (fun e he => by obtain ⟨b, _, rfl⟩ := List.mem_map.1 he; rfl)
theorem tksA_one (l : List Tk) : allOne (tksA l) 4 = True := eq_true (fun e he => by obtain ⟨b, _, rfl⟩ := List.mem_map.1 he; exact ⟨rfl, rfl⟩)
theorem tksA_get {l : List Tk} {k : Nat} (h : k < l.length) : (tksA l).getD k [] = tkA (l.getD k (0, [], 0, 0)) := by
  simp [tksA, List.getD_eq_getElem?_getD, List.getElem?_eq_getElem h]
theorem tksA_unit (k v a : Nat) (t : List UInt8) : [[AV.i k, AV.s (bs t), AV.i v, AV.i a]] = tksA [(k, t, v, a)] := rfl
theorem tksA_end (a : Nat) : [[AV.i 6, AV.s (bs []), AV.i 0, AV.i a]] = tksA [(6, [], 0, a)] := rfl
def TOut (o : Except (Nat × Int) (List Tk)) (x : AV) : Prop :=
  (∃ (l : List Tk) (τ : Nat), o = .ok l ∧ x = .tup [.sl (.tok τ 4) (tksA l), .agg [.i 0, .i 0]]) ∨ (∃ (e : Nat) (a : Int), o = .error (e, a) ∧ e ≠ 0 ∧ x = .tup [.sl .nil [], .agg [.i e, .i a]])
theorem TOut.ok {o : Except (Nat × Int) (List Tk)} {τ : Nat} {es : List (List AV)} (l : List Tk) (h : o = .ok l) (he : es = tksA l) : TOut o (.tup [.sl (.tok τ 4) es, .agg [.i 0, .i 0]]) := .inl ⟨l, τ, h, by rw [he]⟩
theorem TOut.err {o : Except (Nat × Int) (List Tk)} {ee aa : Int} (e : Nat) (a : Int) (h : o = .error (e, a)) (he : e ≠ 0) (h1 : ee = e) (h2 : aa = a) : TOut o (.tup [.sl .nil [], .agg [.i ee, .i aa]]) := .inr ⟨e, a, h, he, by rw [h1, h2]⟩
end Go.Lex

set_option linter.unusedSimpArgs false
namespace Go.Proofs.YtjopblbpnedjoaaGreatDoor
open Go Go.V Go.Lex
theorem t21 (s : List UInt8) (σ : Sg) : VCalls Tryz.prog 16 [.s (bs s)] σ (fun x σ' => TOut (lexAll s) x ∧ σ' = σ) := by
  (refine vfun (fun _ => .no) mixed Tryz.func16 (by kernel_rfl) ?_; simp only [bodyOf, Tryz.f16, zp])
  repeat' (first | with_reducible rfl | exact .inr trivial | (with_reducible first | apply And.intro | apply vqx_step | apply vqm_step | refine vkp_free (by decide +kernel) ?_ | intro _) | ((first | (with_reducible first | refine .rs ?_ | refine .ds (by kernel_rfl) ?_ | refine .dg (by kernel_rfl) ?_ | refine .rg ?_ | refine .ite ?_ | refine .ret ?_ | refine .skip ?_ | refine .exit ?_ | refine .scope ?_ | refine .seq (.label ?_) | refine .block ?_ | refine .seq ?_) | (simp (disch := first | assumption | omega) only [w64, w8, tg_eq, n1, n2, nn, zj, zk, zl, zm, zn, zo])); (try simp only [vO, vQ, ↓vP, vE, vS, vB, vL, vF, vM, vN, vbs_full, za, zb, zc, ne_eq, not_false_eq_true, zd, ze, zh, zi, Z9, Z5, Z3, Z24, Z84, Z23, Z26, info9, info84, info3, info24, info26, info23, nadd, nadd1, nadd2, nadd3, n1add, n2add, vT])) | (with_reducible first | refine vfresh_set ?_ | refine vfresh_intro (fun _ _ => ?_) | refine vif_intro (fun _ => ?_) (fun _ => ?_)) | omega | ((with_reducible first | refine vop_at ?_ | refine vops_at ?_ | refine vquiet_at ?_ | refine vmix_at ?_ | refine Holds_at ?_); simp only [vO, vQ, ↓vP, vE, vS, vB, vL, vF, vM, vN, vbs_full, za, zb, zc, ne_eq, not_false_eq_true, zd, ze, zh, zi, Z9, Z5, Z3, Z24, Z84, Z23, Z26, info9, info84, info3, info24, info26, info23, nadd, nadd1, nadd2, nadd3, n1add, n2add, vT]))
  · exact ⟨σ, (by repeat (first | exact Sg.sub.refl _ | refine Sg.sub.set_both ?_ | refine Sg.sub.set_fresh ?_ (by first | assumption | exact Sg.set_none ‹_› ‹_›) | refine Sg.sub.del_fresh ?_ (by first | assumption | exact Sg.set_none ‹_› ‹_›))), .err 2 (-1) (lexAll_long (by omega)) (by decide) rfl rfl, rfl⟩
  rename_i x hx hl
  refine VW.loop4 (0 : Nat) ([] : List Tk) (.sl .nil []) _ (fun k o V S => k ≤ s.length ∧ o.length ≤ k ∧ toks s 0 = appE o (toks (s.drop k) k) ∧ Grown 84 4 (tksA o) (σ.set x (.cells 26 [.i 0, .i 0])) V S) (fun k o V S => [(0, .s (bs s)), (3, .ref x 0), (4, V), (5, .i k)]) (fun _ _ _ S => S) (fun k _ _ _ => s.length - k) ⟨by omega, by simp, by rw [appE_nil]; rfl, .nil _ _ _⟩ (.refl _) ?_ ?_
  · simp only [vO, vQ, ↓vP, vE, vS, vB, vL, vF, vM, vN, vbs_full, za, zb, zc, ne_eq, not_false_eq_true, zd, ze, zh, zi, vT]
    rfl
  rintro k o V S ⟨h1, h2, h3, hG⟩
  have hb := blanks_le (s.drop k)
  rw [List.length_drop] at hb
  have ht : ∀ σ, VCalls Tryz.prog 46 [.s (bs (s.drop k))] σ (fun x σ' => x = .i (blanks (s.drop k)) ∧ σ' = σ) := fun σ => t43 _ σ (by simp; omega)
  have hend := toks_end (r := s.drop k) (a := k)
  have herr := fun e => toks_err (r := s.drop k) (a := k) (e := e)
  have hok := fun kk v n t => toks_ok (r := s.drop k) (a := k) (k := kk) (v := v) (n := n) (t := t)
  have hlen := fun kk v n t => tok1_len (r := (s.drop k).drop (blanks (s.drop k))) (k := kk) (v := v) (n := n) (t := t)
  simp only [List.length_drop, List.drop_drop] at hend herr hok hlen
  generalize blanks (s.drop k) = b at *
  rcases hG with ⟨h5, rfl, rfl⟩ | ⟨τ, hτ, rfl, rfl⟩
  · obtain rfl : o = [] := by cases o with
      | nil => rfl
      | cons a r => simp [tksA] at h5
    clear h5
    repeat' (first | with_reducible rfl | exact .inr trivial | (with_reducible first | apply And.intro | apply vqx_step | apply vqm_step | refine vkp_free (by decide +kernel) ?_ | intro _) | ((first | (with_reducible first | refine .rs ?_ | refine .ds (by kernel_rfl) ?_ | refine .dg (by kernel_rfl) ?_ | refine .rg ?_ | refine .ite ?_ | refine .ret ?_ | refine .skip ?_ | refine .exit ?_ | refine .scope ?_ | refine .seq (.label ?_) | refine .block ?_ | refine .seq ?_) | (simp (disch := first | assumption | omega) only [w64, w8, tg_eq, n1, n2, nn, zj, zk, zl, zm, zn, zo]) | with_reducible refine (ht _).use ?_ | ((with_reducible refine (t44 _ _ (by simp; omega) (by simp; omega)).mono ?_); rintro y σ' ⟨⟨kk, t, v, n, ho, rfl⟩ | ⟨e, kk, t, v, n, b', ho, he, rfl⟩, rfl⟩)); (try simp only [vO, vQ, ↓vP, vE, vS, vB, vL, vF, vM, vN, vbs_full, za, zb, zc, ne_eq, not_false_eq_true, zd, ze, zh, zi, Z9, Z5, Z3, Z24, Z84, Z23, Z26, info9, info84, info3, info24, info26, info23, nadd, nadd1, nadd2, nadd3, n1add, n2add, tksA_len, tksA_app, tksA_all, tksA_one, tksA_unit, tksA_end, vT])) | (with_reducible first | refine vfresh_set ?_ | refine vfresh_intro (fun _ _ => ?_) | refine vif_intro (fun _ => ?_) (fun _ => ?_)) | omega | ((with_reducible first | refine vop_at ?_ | refine vops_at ?_ | refine vquiet_at ?_ | refine vmix_at ?_ | refine Holds_at ?_); simp only [vO, vQ, ↓vP, vE, vS, vB, vL, vF, vM, vN, vbs_full, za, zb, zc, ne_eq, not_false_eq_true, zd, ze, zh, zi, Z9, Z5, Z3, Z24, Z84, Z23, Z26, info9, info84, info3, info24, info26, info23, nadd, nadd1, nadd2, nadd3, n1add, n2add, tksA_len, tksA_app, tksA_all, tksA_one, tksA_unit, tksA_end, vT]))
    all_goals first
      | exact ⟨σ, (by repeat (first | exact Sg.sub.refl _ | refine Sg.sub.set_both ?_ | refine Sg.sub.set_fresh ?_ (by first | assumption | exact Sg.set_none ‹_› ‹_›) | refine Sg.sub.del_fresh ?_ (by first | assumption | exact Sg.set_none ‹_› ‹_›))), .ok (([] : List Tk) ++ [(6, [], 0, k + b)]) (lexAll_ok (by omega) (by rw [h3, hend (by omega)]; rfl)) rfl, rfl⟩
      | (have hn := hlen _ _ _ _ (by omega) ho
         (try simp (disch := omega) only [w64, w8, tg_eq, n1, n2, nn, zj])
         exact ⟨k + b + n, ([] : List Tk) ++ [(kk, t, v, k + b)], _, _, ⟨⟨by omega, by simp only [List.length_append, List.length_cons, List.length_nil] at h2 ⊢; omega, by rw [h3, hok _ _ _ _ (by omega) ho, appE_appE, show k + (b + n) = k + b + n by omega], .tok (Sg.set_none ‹_› ‹_›)⟩, by omega⟩, (by repeat (first | exact Sg.sub.refl _ | refine Sg.sub.set_both ?_ | refine Sg.sub.set_fresh ?_ (by first | assumption | exact Sg.set_none ‹_› ‹_›) | refine Sg.sub.del_fresh ?_ (by first | assumption | exact Sg.set_none ‹_› ‹_›))), rfl, rfl⟩)
      | exact ⟨σ, (by repeat (first | exact Sg.sub.refl _ | refine Sg.sub.set_both ?_ | refine Sg.sub.set_fresh ?_ (by first | assumption | exact Sg.set_none ‹_› ‹_›) | refine Sg.sub.del_fresh ?_ (by first | assumption | exact Sg.set_none ‹_› ‹_›))), .err e _ (lexAll_err (by omega) (by rw [h3, herr _ (by omega) ho]; rfl)) he rfl rfl, rfl⟩
  · obtain ⟨hne, hτ'⟩ := Sg.of_set_none hτ
    repeat' (first | with_reducible rfl | exact .inr trivial | (with_reducible first | apply And.intro | apply vqx_step | apply vqm_step | refine vkp_free (by decide +kernel) ?_ | intro _) | ((first | (with_reducible first | refine .rs ?_ | refine .ds (by kernel_rfl) ?_ | refine .dg (by kernel_rfl) ?_ | refine .rg ?_ | refine .ite ?_ | refine .ret ?_ | refine .skip ?_ | refine .exit ?_ | refine .scope ?_ | refine .seq (.label ?_) | refine .block ?_ | refine .seq ?_) | (simp (disch := first | assumption | omega) only [w64, w8, tg_eq, n1, n2, nn, zj, zk, zl, zm, zn, zo]) | with_reducible refine (ht _).use ?_ | ((with_reducible refine (t44 _ _ (by simp; omega) (by simp; omega)).mono ?_); rintro y σ' ⟨⟨kk, t, v, n, ho, rfl⟩ | ⟨e, kk, t, v, n, b', ho, he, rfl⟩, rfl⟩)); (try simp only [vO, vQ, ↓vP, vE, vS, vB, vL, vF, vM, vN, vbs_full, za, zb, zc, ne_eq, not_false_eq_true, zd, ze, zh, zi, Z9, Z5, Z3, Z24, Z84, Z23, Z26, info9, info84, info3, info24, info26, info23, nadd, nadd1, nadd2, nadd3, n1add, n2add, tksA_len, tksA_app, tksA_all, tksA_one, tksA_unit, tksA_end, vT])) | (with_reducible first | refine vfresh_set ?_ | refine vfresh_intro (fun _ _ => ?_) | refine vif_intro (fun _ => ?_) (fun _ => ?_)) | omega | ((with_reducible first | refine vop_at ?_ | refine vops_at ?_ | refine vquiet_at ?_ | refine vmix_at ?_ | refine Holds_at ?_); simp only [vO, vQ, ↓vP, vE, vS, vB, vL, vF, vM, vN, vbs_full, za, zb, zc, ne_eq, not_false_eq_true, zd, ze, zh, zi, Z9, Z5, Z3, Z24, Z84, Z23, Z26, info9, info84, info3, info24, info26, info23, nadd, nadd1, nadd2, nadd3, n1add, n2add, tksA_len, tksA_app, tksA_all, tksA_one, tksA_unit, tksA_end, vT]))
    all_goals first
      | exact ⟨σ, (by repeat (first | exact Sg.sub.refl _ | refine Sg.sub.set_both ?_ | refine Sg.sub.set_fresh ?_ (by first | assumption | exact Sg.set_none ‹_› ‹_›) | refine Sg.sub.del_fresh ?_ (by first | assumption | exact Sg.set_none ‹_› ‹_›))), .ok (o ++ [(6, [], 0, k + b)]) (lexAll_ok (by omega) (by rw [h3, hend (by omega)]; rfl)) rfl, rfl⟩
      | (have hn := hlen _ _ _ _ (by omega) ho
         (try simp (disch := omega) only [w64, w8, tg_eq, n1, n2, nn, zj])
         exact ⟨k + b + n, o ++ [(kk, t, v, k + b)], _, _, ⟨⟨by omega, by simp only [List.length_append, List.length_cons, List.length_nil] at h2 ⊢; omega, by rw [h3, hok _ _ _ _ (by omega) ho, appE_appE, show k + (b + n) = k + b + n by omega], .tok (Sg.set_none ‹_› ‹_›)⟩, by omega⟩, (by repeat (first | exact Sg.sub.refl _ | refine Sg.sub.set_both ?_ | refine Sg.sub.set_fresh ?_ (by first | assumption | exact Sg.set_none ‹_› ‹_›) | refine Sg.sub.del_fresh ?_ (by first | assumption | exact Sg.set_none ‹_› ‹_›))), rfl, rfl⟩)
      | exact ⟨σ, (by repeat (first | exact Sg.sub.refl _ | refine Sg.sub.set_both ?_ | refine Sg.sub.set_fresh ?_ (by first | assumption | exact Sg.set_none ‹_› ‹_›) | refine Sg.sub.del_fresh ?_ (by first | assumption | exact Sg.set_none ‹_› ‹_›))), .err e _ (lexAll_err (by omega) (by rw [h3, herr _ (by omega) ho]; rfl)) he rfl rfl, rfl⟩
end Go.Proofs.YtjopblbpnedjoaaGreatDoor

set_option linter.unusedSimpArgs false
namespace Go.Proofs.YtjopblbpnedjoaaGreatDoor
open Go Go.V Go.Lex
end Go.Proofs.YtjopblbpnedjoaaGreatDoor

set_option linter.unusedSimpArgs false
namespace Go.V
theorem veqIn_struct {P : Program} {d : Nat} {t : TypeId} {fs : Array Field} {xs ys : List AV} (hu : P.underlying t = some (.struct fs)) (hs : P.stoodInHeld t = false) : veqIn P (d + 1) t (.agg xs) (.agg ys) = veqFs P (veqIn P d) xs ys fs.toList := by
  simp only [veqIn, hu, hs]
  rfl
theorem veqIn_int {P : Program} {d : Nat} {t : TypeId} {k : IntKind} {q : IntKind} {a b : Int} (hu : P.underlying t = some (.int k)) : veqIn P (d + 1) t (.val (.int q a)) (.val (.int q b)) = some (decide (a = b)) := by
  simp only [veqIn, hu, if_true]
theorem veqIn_str {P : Program} {d : Nat} {t : TypeId} {a b : ByteArray} (hu : P.underlying t = some .string) : veqIn P (d + 1) t (.s a) (.s b) = some (sEq a b) := by
  simp only [veqIn, hu]
theorem veqFs_cons {P : Program} {eq : TypeId → AV → AV → Option Bool} {xs ys : List AV} {f : Field} {fs : List Field} {x y : AV} {c r : Bool} (hn : f.name ≠ "_") (hx : partO P f.type (xs.drop f.offset) = some x) (hy : partO P f.type (ys.drop f.offset) = some y)
    (he : eq f.type x y = some c) (hr : veqFs P eq xs ys fs = some r) : veqFs P eq xs ys (f :: fs) = some (c && r) := by
  simp only [veqFs, if_neg hn, hx, hy, he, hr]
theorem partO_one {P : Program} {t : TypeId} {i : Option Value × Nat × Nat} {d : TypeDesc} {x : AV} {r : List AV} (hi : tInfo P t = some i) (hd : P.underlying t = some d) (ha : isAggD d = false) : partO P t (x :: r) = some x := by
  obtain ⟨z, n, b⟩ := i
  simp only [partO, hi, hd, ha]
  rfl
theorem veqT_agg {P : Program} {t : TypeId} {d : TypeDesc} {xs ys : List AV} (hg : P.eqGuardType P.depth t = false) : veqT P t d (.agg xs) (.agg ys) = veqIn P 10000 t (.agg xs) (.agg ys) := by
  simp only [veqT, hg]
  rfl
end Go.V
namespace Go.Lex
open Go.V
end Go.Lex
namespace Go.Proofs.YtjopblbpnedjoaaGreatDoor
open Go Go.V Go.Lex
end Go.Proofs.YtjopblbpnedjoaaGreatDoor

set_option linter.unusedSimpArgs false
namespace Go.Lex
open Go.V Go.Proofs.YtjopblbpnedjoaaGreatDoor
theorem toks_length : ∀ (n : Nat) (r : List UInt8) (a : Nat) (l : List Tk), r.length ≤ n → toks r a = .ok l → l.length ≤ r.length + 1 := by
  intro n
  induction n with
  | zero =>
    intro r a l hn h
    rw [toks_end (by have := blanks_le r; omega)] at h
    cases h; simp
  | succ n ih =>
    intro r a l hn h
    by_cases hb : r.length ≤ blanks r
    · rw [toks_end hb] at h; cases h; simp
    · cases ht : tok1 (r.drop (blanks r)) with
      | error e' => rw [toks_err (by omega) ht] at h; cases h
      | ok p =>
        obtain ⟨k, t, v, m⟩ := p
        have hm := tok1_len (by simp; omega) ht
        rw [toks_ok (by omega) ht] at h
        cases hr : toks (r.drop (blanks r + m)) (a + blanks r + m) with
        | error q => rw [hr] at h; cases h
        | ok l' =>
          rw [hr] at h
          cases h
          have := ih _ _ _ (by simp; omega) hr
          simp at this ⊢; omega
end Go.Lex
namespace Go.Proofs.YtjopblbpnedjoaaGreatDoor
open Go Go.V Go.Lex
end Go.Proofs.YtjopblbpnedjoaaGreatDoor

set_option linter.unusedVariables false
namespace Go.V
open Go.RowKit
variable {P : Program}
end Go.V

set_option linter.unusedSimpArgs false
set_option linter.unusedVariables false
namespace Go.Cert
open Go.V
theorem ne_of {σ : Sg} {ρ x : Nat} {o : Ob} (h : σ ρ = some o) (hx : σ x = none) : ρ ≠ x := fun e => by subst e; rw [hx] at h; cases h
theorem ne_of2 {σ : Sg} {ρ x : Nat} {o : Ob} (hx : σ x = none) (h : σ ρ = some o) : ρ ≠ x := ne_of h hx
theorem ne_of2a {σ : Sg} {ρ x : Nat} {o : Ob} (hx : σ x = none) (h : σ ρ = some o) : x ≠ ρ := Ne.symm (ne_of h hx)
theorem ne_ob {σ : Sg} {ρ x : Nat} {o o' : Ob} (h : σ ρ = some o) (hx : σ x = some o') (hn : o ≠ o') : ρ ≠ x := fun e => by rw [e, hx] at h; cases h; exact hn rfl
open Go.V in
theorem lk {p : Prop} (h : p := by first | assumption | ((simp (disch := first | assumption | (apply ne_of2; assumption; assumption) | (apply ne_ob; assumption; assumption; (intro e; cases e; done)) | omega) only [zk, zl, zm, zn, zo]); first | done | rfl | assumption)) : p := h
end Go.Cert
namespace Go.V
open Go.RowKit
theorem at1 {σ : Sg} {ρ x : Nat} {o a : Ob} (h : σ ρ = some o) (hx : σ x = none) : (σ.set x a) ρ = some o := by rw [Sg.set_other _ _ (Go.Cert.ne_of h hx), h]
theorem keepAt {ρ : Nat} {S σ' : Sg} {o : Option Ob} (h : Keep (fun β => β = ρ) S σ') (hS : S ρ = o) : σ' ρ = o := (h ρ rfl).trans hS
theorem Post.lose {P : Program} {R R' : AV → Sg → Prop} (h : ∀ x σ', R x σ' → ∃ x' σ'', AVw x x' ∧ σ''.sub σ' ∧ R' x' σ'') {κ : K} {v : Value} {w : World} (hp : Post κ R v w) : Post κ R' v w := by
  obtain ⟨κ', x, σ', h1, h2, h3, h4, h5⟩ := hp
  obtain ⟨x', σ'', h6, h8, h7⟩ := h x σ' h5
  exact ⟨κ', x', σ'', h1, h2, h3.sub h8, h6 κ' v h4, h7⟩
theorem VCalls.lose {P : Program} {σ : Sg} {f : FuncId} {args : List AV} {R R' : AV → Sg → Prop} (hc : VCalls P f args σ R) (h : ∀ x σ', R x σ' → ∃ x' σ'', AVw x x' ∧ σ''.sub σ' ∧ R' x' σ'') : VCalls P f args σ R' := by
  refine ⟨fun κ vs hst hr => ?_⟩
  have hd := hc.go κ vs hst hr
  revert hd
  generalize (callFunc f vs).run P κ.w = r
  intro hd
  cases r with
  | halt x w => exact hd.elim
  | ok nx w =>
    cases nx <;> simp only [Done] at hd ⊢
    case value v => exact Post.lose (P := P) h hd
    case skip => exact Post.lose (P := P) h hd
    case enter f args =>
      refine hd.mono (fun e w' he => ?_)
      cases e with
      | returned v => exact Post.lose (P := P) h he
      | panicked c => exact he.elim
      | outgrown => exact he.elim
    case row r args => exact hd.mono (fun v w' he => Post.lose (P := P) h he)
theorem AVw.agg {cs cs' : List AV} (hl : cs.length = cs'.length) (h : ∀ (i : Nat) (x x' : AV), cs[i]? = some x → cs'[i]? = some x' → AVw x x') : AVw (.agg cs) (.agg cs') := fun κ v hr => by
  cases hr with
  | agg _ vs hl' hx =>
    refine .agg _ vs (by omega) (fun i x u h1 h2 => ?_)
    have hi : i < cs.length := by
      rcases Nat.lt_or_ge i cs.length with h' | h'
      · exact h'
      · rw [List.getElem?_eq_none (by omega)] at h1; cases h1
    exact h i cs[i] x (List.getElem?_eq_getElem hi) h1 κ u (hx i _ u (List.getElem?_eq_getElem hi) h2)
theorem vlo_app {P : Program} {t : TypeId} {S : Sg} {β : Nat} {o' : Option Ob} {off : Nat} {R : AV → Prop} (h : S β = o') (hw : vlo P t o' off R) : vlo P t (S β) off R := h ▸ hw
theorem vst_app {i : Option (Option Value × Nat × Nat)} {S : Sg} {b : Nat} {o' : Option Ob} {β off : Nat} {x : AV} {σ : Sg} {R : Sg → Prop} (h : S b = o') (hw : vst i o' β off x σ R) : vst i (S b) β off x σ R := h ▸ hw
end Go.V

set_option linter.unusedVariables false
namespace Go.Parse
open Go.V Go.Lex Go.Proofs.YtjopblbpnedjoaaGreatDoor
abbrev By := List UInt8
structure Rd where
  l : List Tk
  d : Int
  c : Int
  a : Int
def hd (l : List Tk) : Tk := l.getD 0 (0, [], 0, 0)
def Rd.next (s : Rd) : Rd := { s with l := s.l.tail }
def Rd.fail (s : Rd) (e : Int) : Rd := if s.c = 0 then { s with c := e, a := ((hd s.l).2.2.2 : Int) } else s
def Rd.is (s : Rd) (ws : List By) : Int :=
  if s.c ≠ 0 ∨ ((hd s.l).1 ≠ 2 ∧ (hd s.l).1 ≠ 5) then -1 else if idx (hd s.l).2.1 ws < ws.length then (idx (hd s.l).2.1 ws : Nat) else -1
def Rd.pass (s : Rd) (ws : List By) : Rd := if 0 ≤ s.is ws then s.next else s
def Rd.has (s : Rd) (w : By) : Bool := decide (0 ≤ s.is [w])
def Rd.must (s : Rd) : List By → Rd
  | [] => s
  | w :: ws => Rd.must (if s.has w then s.next else s.fail 4) ws
def Rd.takes (s : Rd) (k : Nat) : Prop := s.c = 0 ∧ (hd s.l).1 = k
instance (s : Rd) (k : Nat) : Decidable (s.takes k) := by unfold Rd.takes; infer_instance
def Rd.tok (s : Rd) (k : Nat) : Tk := if s.takes k then hd s.l else (0, [], 0, 0)
def Rd.take (s : Rd) (k : Nat) : Rd := if s.takes k then s.next else s.fail 4
abbrev Vl := Int × Int × By
abbrev v0 : Vl := (0, 0, [])
abbrev wMinus : By := [45]
abbrev wNull : By := [78, 85, 76, 76]
abbrev wNot : By := [78, 79, 84]
def Rd.lit (s : Rd) : Vl × Bool × Rd :=
  if s.c ≠ 0 then (v0, false, s) else
  if (hd s.l).1 = 3 then ((1, ((hd s.l).2.2.1 : Nat), []), true, s.next) else
  if (hd s.l).1 = 4 then ((2, 0, (hd s.l).2.1), true, s.next) else
  if s.is [wMinus] < 0 ∨ (s.l.getD 1 (0, [], 0, 0)).1 ≠ 3 then (v0, s.has wNull, s.pass [wNull]) else
  ((1, IntKind.i64.wrap (0 - ((s.l.getD 1 (0, [], 0, 0)).2.2.1 : Int)), []), true, s.next.next)
inductive Ex
  | mk (k op : Int) (t n : By) (v : Vl) (args : List Ex)
abbrev ex0 : Ex := .mk 0 0 [] [] v0 []
abbrev ofE (k : Int) (e : Ex) : Ex := .mk k 0 [] [] v0 [e]
abbrev opE (op : Int) (e f : Ex) : Ex := .mk 3 op [] [] v0 [e, f]
abbrev Pr := Rd → Ex × Rd
def Rd.column : Pr := fun s =>
  if (s.take 1).has [46] then (.mk 2 0 (s.tok 1).2.1 ((s.take 1).next.tok 1).2.1 v0 [], (s.take 1).next.take 1) else (.mk 2 0 [] (s.tok 1).2.1 v0 [], s.take 1)
def Rd.down (s : Rd) : Rd := if s.d + 1 > 10 then Rd.fail { s with d := s.d + 1 } 10 else { s with d := s.d + 1 }
def Rd.up (s : Rd) : Rd := { s with d := s.d - 1 }
def within (one : Pr) : Pr := fun s => if s.down.c = 0 then ((one s.down).1, (one s.down).2.up) else (ex0, s.down.up)
def rowL (below : Pr) (first : Int) (ws : List By) : Nat → Ex → Rd → Ex × Rd
  | 0, e, s => (e, s)
  | n + 1, e, s => if 0 ≤ s.is ws then rowL below first ws n (opE (first + s.is ws) e (below s.next).1) (below s.next).2 else (e, s)
def row (below : Pr) (first : Int) (ws : List By) : Pr := fun s => rowL below first ws (below s).2.l.length (below s).1 (below s).2
structure Dp where
  fac : Pr
  not : Pr
  ex : Pr
def facL (D : Dp) : Pr := fun s =>
  if s.lit.2.1 then (.mk 1 0 [] [] s.lit.1 [], s.lit.2.2) else
  if s.lit.2.2.is [wMinus, [40]] = 0 then (ofE 5 (within D.fac (s.lit.2.2.next)).1, (within D.fac (s.lit.2.2.next)).2) else
  if s.lit.2.2.is [wMinus, [40]] = 1 then ((within D.ex (s.lit.2.2.next)).1, (within D.ex (s.lit.2.2.next)).2.must [[41]]) else
  s.lit.2.2.column
def termL (D : Dp) : Pr := row (facL D) 11 [[42], [47], [37]]
def sumL (D : Dp) : Pr := row (termL D) 9 [[43], [45]]
abbrev tests : List By := [[61], [60, 62], [60], [60, 61], [62], [62, 61], [73, 83]]
def isNull (e : Ex) (s : Rd) : Ex × Rd :=
  if s.has wNot then (ofE 4 (ofE 6 e), s.next.must [wNull]) else (ofE 6 e, s.must [wNull])
def testL (D : Dp) : Pr := fun s =>
  if (sumL D s).2.is tests < 0 then sumL D s else
  if 3 + (sumL D s).2.is tests ≤ 8 then (opE (3 + (sumL D s).2.is tests) (sumL D s).1 (sumL D (sumL D s).2.next).1, (sumL D (sumL D s).2.next).2) else
  isNull (sumL D s).1 (sumL D s).2.next
def notL (D : Dp) : Pr := fun s => if s.has wNot then (ofE 4 (within D.not s.next).1, (within D.not s.next).2) else testL D s
def andL (D : Dp) : Pr := row (notL D) 2 [[65, 78, 68]]
def exL (D : Dp) : Pr := row (andL D) 1 [[79, 82]]
def dp : Nat → Dp
  | 0 => ⟨fun s => (ex0, s), fun s => (ex0, s), fun s => (ex0, s)⟩
  | n + 1 => ⟨facL (dp n), notL (dp n), exL (dp n)⟩
def rd0 (l : List Tk) : Rd := ⟨l, 0, 0, 0⟩
def Rd.fin (s : Rd) : Rd := if s.c = 0 ∧ (hd s.l).1 ≠ 6 then s.fail 4 else s
def oneT (l : List Tk) : Ex × Rd := (((dp 11).ex (rd0 l)).1, ((dp 11).ex (rd0 l)).2.fin)
def WF : List Tk → Prop
  | [] => False
  | [t] => t.1 = 6
  | _ :: r => WF r
theorem WF.tail {l : List Tk} (h : WF l) (hk : (hd l).1 ≠ 6) : WF l.tail ∧ l.tail.length + 1 = l.length := by
  match l, h with
  | [t], h => exact absurd h hk
  | t :: u :: r, h => exact ⟨h, rfl⟩
theorem WF.pos {l : List Tk} (h : WF l) : 0 < l.length := by
  match l, h with
  | t :: r, _ => simp
structure Ok (s s' : Rd) : Prop where
  d : s'.d = s.d
  wf : WF s'.l
  le : s'.l.length ≤ s.l.length
  c : s.c ≠ 0 → s'.c = s.c ∧ s'.a = s.a
  suf : s'.l <:+ s.l
theorem Ok.refl {s : Rd} (h : WF s.l) : Ok s s := ⟨rfl, h, Nat.le_refl _, fun _ => ⟨rfl, rfl⟩, List.suffix_refl _⟩
theorem Ok.trans {a b c : Rd} (h : Ok a b) (k : Ok b c) : Ok a c :=
  ⟨k.d.trans h.d, k.wf, Nat.le_trans k.le h.le, fun hc => ⟨(k.c (by rw [(h.c hc).1]; exact hc)).1.trans (h.c hc).1, (k.c (by rw [(h.c hc).1]; exact hc)).2.trans (h.c hc).2⟩, k.suf.trans h.suf⟩
def Nice (F : Pr) : Prop := ∀ s, WF s.l → Ok s (F s).2
theorem is_pos {s : Rd} {ws : List By} (h : 0 ≤ s.is ws) : s.c = 0 ∧ ((hd s.l).1 = 2 ∨ (hd s.l).1 = 5) ∧ idx (hd s.l).2.1 ws < ws.length ∧ s.is ws = (idx (hd s.l).2.1 ws : Nat) := by
  unfold Rd.is at h ⊢
  split at h
  · omega
  · rename_i h1
    split at h
    · rename_i h2
      rw [if_neg h1, if_pos h2]
      refine ⟨?_, ?_, h2, rfl⟩
      · exact Classical.byContradiction fun hc => h1 (.inl hc)
      · rcases Classical.em ((hd s.l).1 = 2) with h3 | h3
        · exact .inl h3
        · exact .inr (Classical.byContradiction fun h4 => h1 (.inr ⟨h3, h4⟩))
    · omega
theorem is_lt (s : Rd) (ws : List By) : -1 ≤ s.is ws ∧ s.is ws < ws.length := by
  unfold Rd.is
  split
  · omega
  · split <;> omega
theorem ok_next {s : Rd} (hw : WF s.l) (hk : (hd s.l).1 ≠ 6) (hc : s.c = 0) : Ok s s.next :=
  ⟨rfl, (hw.tail hk).1, by have := (hw.tail hk).2; show s.l.tail.length ≤ _; omega, fun h => absurd hc h, List.tail_suffix _⟩
theorem ok_is {s : Rd} {ws : List By} (hw : WF s.l) (h : 0 ≤ s.is ws) : Ok s s.next := by
  obtain ⟨h1, h2, _⟩ := is_pos h
  exact ok_next hw (by omega) h1
theorem ok_fail {s : Rd} (hw : WF s.l) (e : Int) : Ok s (s.fail e) := by
  unfold Rd.fail
  split
  · rename_i h
    exact ⟨rfl, hw, Nat.le_refl _, fun h' => absurd h h', List.suffix_refl _⟩
  · exact .refl hw
theorem ok_has {s : Rd} {w : By} (hw : WF s.l) (h : s.has w = true) : Ok s s.next := ok_is hw (of_decide_eq_true h)
theorem ok_pass {s : Rd} {ws : List By} (hw : WF s.l) : Ok s (s.pass ws) := by
  unfold Rd.pass
  split
  · exact ok_is hw ‹_›
  · exact .refl hw
theorem ok_must : ∀ (ws : List By) (s : Rd), WF s.l → Ok s (s.must ws)
  | [], s, hw => .refl hw
  | w :: ws, s, hw => by
    unfold Rd.must
    split
    · rename_i h
      exact (ok_has hw h).trans (ok_must ws _ (ok_has hw h).wf)
    · exact (ok_fail hw 4).trans (ok_must ws _ (ok_fail hw 4).wf)
theorem ok_take {s : Rd} {k : Nat} (hw : WF s.l) (hk : k ≠ 6) : Ok s (s.take k) := by
  unfold Rd.take
  split
  · rename_i h
    exact ok_next hw (by rw [h.2]; exact hk) h.1
  · exact ok_fail hw 4
theorem ok_lit {s : Rd} (hw : WF s.l) : Ok s s.lit.2.2 := by
  unfold Rd.lit
  split
  · exact .refl hw
  · rename_i hc
    have hc : s.c = 0 := Classical.byContradiction hc
    split
    · rename_i h; exact ok_next hw (by omega) hc
    · split
      · rename_i h; exact ok_next hw (by omega) hc
      · split
        · exact ok_pass hw
        · rename_i h
          have h1 : 0 ≤ s.is [wMinus] := by
            rcases Int.lt_or_le (s.is [wMinus]) 0 with h' | h'
            · exact absurd (.inl h') h
            · exact h'
          have h2 : (s.l.getD 1 (0, [], 0, 0)).1 = 3 := Classical.byContradiction fun h' => h (.inr h')
          have o1 := ok_is hw h1
          refine o1.trans (ok_next o1.wf ?_ hc)
          have : hd s.next.l = s.l.getD 1 (0, [], 0, 0) := by
            unfold hd Rd.next
            rw [List.getD_eq_getElem?_getD, List.getD_eq_getElem?_getD, List.getElem?_tail]
          rw [this]; omega
theorem nice_column : Nice Rd.column := fun s hw => by
  have o1 := ok_take (k := 1) hw (by decide)
  unfold Rd.column
  split
  · rename_i h
    have o2 := ok_has o1.wf h
    exact (o1.trans o2).trans (ok_take o2.wf (by decide))
  · exact o1
theorem down_ok {s : Rd} (hw : WF s.l) : s.down.d = s.d + 1 ∧ WF s.down.l ∧ s.down.l = s.l ∧ (s.c ≠ 0 → s.down.c = s.c ∧ s.down.a = s.a) := by
  unfold Rd.down
  split
  · have o := ok_fail (s := { s with d := s.d + 1 }) hw 10
    refine ⟨o.d, o.wf, ?_, o.c⟩
    unfold Rd.fail
    split <;> rfl
  · exact ⟨rfl, hw, rfl, fun _ => ⟨rfl, rfl⟩⟩
theorem nice_within {F : Pr} (h : Nice F) : Nice (within F) := fun s hw => by
  obtain ⟨h1, h2, h3, h4⟩ := down_ok hw
  unfold within
  split
  · have o := h s.down h2
    refine ⟨?_, o.wf, by rw [← h3]; exact o.le, fun hc => ?_, by rw [← h3]; exact o.suf⟩
    · show (F s.down).2.d - 1 = s.d
      rw [o.d, h1]; omega
    · rename_i h0; exact absurd ((h4 hc).1.symm.trans h0) hc
  · refine ⟨?_, h2, ?_, fun hc => h4 hc, by rw [← h3]; exact List.suffix_refl _⟩
    · show s.down.d - 1 = s.d
      omega
    · show s.down.l.length ≤ s.l.length
      rw [h3]; exact Nat.le_refl _
theorem ok_rowL {F : Pr} (h : Nice F) (first : Int) (ws : List By) : ∀ (n : Nat) (e : Ex) (s : Rd), WF s.l → Ok s (rowL F first ws n e s).2
  | 0, e, s, hw => .refl hw
  | n + 1, e, s, hw => by
    unfold rowL
    split
    · rename_i h0
      have o1 := ok_is hw h0
      have o2 := h s.next o1.wf
      exact (o1.trans o2).trans (ok_rowL h first ws n _ _ o2.wf)
    · exact .refl hw
theorem nice_row {F : Pr} (h : Nice F) (first : Int) (ws : List By) : Nice (row F first ws) := fun s hw => (h s hw).trans (ok_rowL h first ws _ _ _ (h s hw).wf)
structure Dp.Nice (D : Dp) : Prop where
  fac : Go.Parse.Nice D.fac
  not : Go.Parse.Nice D.not
  ex : Go.Parse.Nice D.ex
theorem nice_fac {D : Dp} (h : D.Nice) : Nice (facL D) := fun s hw => by
  have o := ok_lit hw
  unfold facL
  split
  · exact o
  · split
    · rename_i h0
      have o1 := ok_is (ws := [wMinus, [40]]) o.wf (by omega)
      exact (o.trans o1).trans (nice_within h.fac _ o1.wf)
    · split
      · rename_i h0
        have o1 := ok_is (ws := [wMinus, [40]]) o.wf (by omega)
        have o2 := nice_within h.ex _ o1.wf
        exact ((o.trans o1).trans o2).trans (ok_must _ _ o2.wf)
      · exact o.trans (nice_column _ o.wf)
theorem nice_sum {D : Dp} (h : D.Nice) : Nice (sumL D) := nice_row (nice_row (nice_fac h) _ _) _ _
theorem ok_isNull {e : Ex} {s : Rd} (hw : WF s.l) : Ok s (isNull e s).2 := by
  unfold isNull
  split
  · rename_i h
    exact (ok_has hw h).trans (ok_must _ _ (ok_has hw h).wf)
  · exact ok_must _ _ hw
theorem nice_test {D : Dp} (h : D.Nice) : Nice (testL D) := fun s hw => by
  have o := nice_sum h s hw
  unfold testL
  split
  · exact o
  · rename_i h0
    have o1 := ok_is (ws := tests) o.wf (by omega)
    split
    · exact (o.trans o1).trans (nice_sum h _ o1.wf)
    · exact (o.trans o1).trans (ok_isNull o1.wf)
theorem nice_not {D : Dp} (h : D.Nice) : Nice (notL D) := fun s hw => by
  unfold notL
  split
  · rename_i h0
    exact (ok_has hw h0).trans (nice_within h.not _ (ok_has hw h0).wf)
  · exact nice_test h s hw
theorem nice_ex {D : Dp} (h : D.Nice) : Nice (exL D) := nice_row (nice_row (nice_not h) _ _) _ _
theorem dp_nice : ∀ n, (dp n).Nice
  | 0 => ⟨fun s hw => .refl hw, fun s hw => .refl hw, fun s hw => .refl hw⟩
  | n + 1 => ⟨nice_fac (dp_nice n), nice_not (dp_nice n), nice_ex (dp_nice n)⟩
theorem rowL_fuel {F : Pr} (h : Nice F) (first : Int) (ws : List By) : ∀ (n m : Nat) (e : Ex) (s : Rd), WF s.l → s.l.length ≤ n → s.l.length ≤ m → rowL F first ws n e s = rowL F first ws m e s
  | 0, _, e, s, hw, hn, _ => absurd hw.pos (by omega)
  | _, 0, e, s, hw, _, hm => absurd hw.pos (by omega)
  | n + 1, m + 1, e, s, hw, hn, hm => by
    unfold rowL
    split
    · rename_i h0
      obtain ⟨h1, h2, _⟩ := is_pos h0
      have o1 := ok_is hw h0
      have o2 := h s.next o1.wf
      have hl := (hw.tail (by omega)).2
      have hl2 : s.next.l.length + 1 = s.l.length := hl
      have := o2.le
      exact rowL_fuel h first ws n m _ _ o2.wf (by omega) (by omega)
    · rfl
end Go.Parse

set_option linter.unusedSimpArgs false
set_option linter.unusedVariables false
namespace Go.Proofs.YtjopblbpnedjoaaGreatDoor
open Go Go.V Go.Lex Go.Parse
def rdA (s : Rd) : Ob := .cells 92 [.sl .any (tksA s.l), .i s.d, .i s.c, .i s.a]
theorem hd_get {l : List Tk} (h : 0 < l.length) : (tksA l).getD 0 [] = tkA (hd l) := tksA_get h
theorem p20 (ρ : Nat) (s : Rd) (σ : Sg) (hρ : σ ρ = some (rdA s)) : VCalls Tryz.prog 112 [.ref ρ 0] σ (fun x σ' => x = .b (decide (s.c = 0)) ∧ σ' = σ) := by
  unfold rdA at hρ
  (refine vfun (fun _ => .no) mixed Tryz.func112 (by kernel_rfl) ?_; simp only [bodyOf, Tryz.f112, zp])
  repeat' (first | with_reducible rfl | exact .inr trivial | (with_reducible first | apply And.intro | apply vqx_step | apply vqm_step | refine vkp_free (by decide +kernel) ?_ | intro _) | ((first | (with_reducible first | refine .rs ?_ | refine .ds (by kernel_rfl) ?_ | refine .dg (by kernel_rfl) ?_ | refine .rg ?_ | refine .ite ?_ | refine .ret ?_ | refine .skip ?_ | refine .exit ?_ | refine .scope ?_ | refine .seq (.label ?_) | refine .block ?_ | refine .seq ?_) | (simp (disch := first | assumption | (apply Go.Cert.ne_of2; assumption; assumption) | (apply Go.Cert.ne_ob; assumption; assumption; (intro e; cases e; done)) | omega) only [w64, w8, tg_eq, Go.V.n1, Go.V.n2, Go.V.nn, zj, zk, zl, zm, zn, zo])); (try simp only [vO, vQ, ↓vP, vE, vS, vB, vL, vF, vM, vN, vbs_full, za, zb, zc, ne_eq, not_false_eq_true, zd, ze, zh, zi, Z3, info3, Z92, info92, Z26, info26, Z24, info24, hρ, vT])) | (with_reducible first | refine vfresh_set ?_ | refine vfresh_intro (fun _ _ => ?_) | refine vif_intro (fun _ => ?_) (fun _ => ?_)) | omega | ((with_reducible first | refine vop_at ?_ | refine vops_at ?_ | refine vquiet_at ?_ | refine vmix_at ?_ | refine Holds_at ?_); simp only [vO, vQ, ↓vP, vE, vS, vB, vL, vF, vM, vN, vbs_full, za, zb, zc, ne_eq, not_false_eq_true, zd, ze, zh, zi, Z3, info3, Z92, info92, Z26, info26, Z24, info24, hρ, vT]))
  all_goals exact ⟨_, .refl _, rfl⟩
theorem p21 (ρ : Nat) (s : Rd) (σ : Sg) (hρ : σ ρ = some (rdA s)) (hl : 0 < s.l.length) : VCalls Tryz.prog 113 [.ref ρ 0] σ (fun x σ' => x = .agg (tkA (hd s.l)) ∧ σ' = σ) := by
  unfold rdA at hρ
  have hg := hd_get hl
  generalize hd s.l = t at *
  have ht : tkA t = [.i t.1, .s (bs t.2.1), .i t.2.2.1, .i t.2.2.2] := rfl
  rw [ht] at hg
  (refine vfun (fun _ => .no) mixed Tryz.func113 (by kernel_rfl) ?_; simp only [bodyOf, Tryz.f113, zp])
  repeat' (first | with_reducible rfl | exact .inr trivial | (with_reducible first | apply And.intro | apply vqx_step | apply vqm_step | refine vkp_free (by decide +kernel) ?_ | intro _) | ((first | (with_reducible first | refine .rs ?_ | refine .ds (by kernel_rfl) ?_ | refine .dg (by kernel_rfl) ?_ | refine .rg ?_ | refine .ite ?_ | refine .ret ?_ | refine .skip ?_ | refine .exit ?_ | refine .scope ?_ | refine .seq (.label ?_) | refine .block ?_ | refine .seq ?_) | (simp (disch := first | assumption | (apply Go.Cert.ne_of2; assumption; assumption) | (apply Go.Cert.ne_ob; assumption; assumption; (intro e; cases e; done)) | omega) only [w64, w8, tg_eq, Go.V.n1, Go.V.n2, Go.V.nn, zj, zk, zl, zm, zn, zo])); (try simp only [vO, vQ, ↓vP, vE, vS, vB, vL, vF, vM, vN, vbs_full, za, zb, zc, ne_eq, not_false_eq_true, zd, ze, zh, zi, Z3, info3, Z92, info92, Z26, info26, Z24, info24, Z23, info23, Z84, info84, Z9, info9, hρ, tksA_len, hg, vT])) | (with_reducible first | refine vfresh_set ?_ | refine vfresh_intro (fun _ _ => ?_) | refine vif_intro (fun _ => ?_) (fun _ => ?_)) | omega | ((with_reducible first | refine vop_at ?_ | refine vops_at ?_ | refine vquiet_at ?_ | refine vmix_at ?_ | refine Holds_at ?_); simp only [vO, vQ, ↓vP, vE, vS, vB, vL, vF, vM, vN, vbs_full, za, zb, zc, ne_eq, not_false_eq_true, zd, ze, zh, zi, Z3, info3, Z92, info92, Z26, info26, Z24, info24, Z23, info23, Z84, info84, Z9, info9, hρ, tksA_len, hg, vT]))
  all_goals (first | ((first | refine ⟨_, ?_, rfl⟩ | refine ⟨_, ?_, rfl, rfl⟩ | refine ⟨_, ?_⟩); (first | exact Sg.sub.refl _ | ((repeat (first | exact Sg.sub.refl _ | refine Sg.sub.set_both ?_ | refine Sg.sub.set_fresh ?_ (by first | assumption | exact Sg.set_none (by assumption) (by first | assumption | (apply Go.Cert.ne_of2a; assumption; assumption))))); done) | (intro y p hy; simp only [Sg.set_apply, Sg.del_apply] at hy ⊢; grind))) | (exfalso; omega))
theorem rdA_eq (s : Rd) : rdA s = .cells 92 [.sl .any (tksA s.l), .i s.d, .i s.c, .i s.a] := rfl
theorem p14 (ρ : Nat) (s : Rd) (e : Int) (σ : Sg) (hρ : σ ρ = some (rdA s)) (hl : 0 < s.l.length) : VCalls Tryz.prog 51 [.ref ρ 0, .i e] σ (fun x σ' => x = .tup [] ∧ σ' = σ.set ρ (rdA (s.fail e))) := by
  have h20 := p20 ρ s σ hρ
  have h21 := p21 ρ s σ hρ hl
  have hρ' := hρ
  rw [rdA_eq] at hρ
  by_cases hc : s.c = 0
  · rw [decide_eq_true hc] at h20
    have hf : s.fail e = { s with c := e, a := ((hd s.l).2.2.2 : Int) } := if_pos hc
    rw [hf]
    have ht : tkA (hd s.l) = [.i (hd s.l).1, .s (bs (hd s.l).2.1), .i (hd s.l).2.2.1, .i (hd s.l).2.2.2] := rfl
    rw [ht] at h21
    generalize hd s.l = t at *
    (refine vfun (fun _ => .no) mixed Tryz.func51 (by kernel_rfl) ?_; simp only [bodyOf, Tryz.f51, zp])
    repeat' (first | with_reducible rfl | exact .inr trivial | (with_reducible first | apply And.intro | apply vqx_step | apply vqm_step | refine vkp_free (by decide +kernel) ?_ | intro _) | ((first | (with_reducible first | refine .rs ?_ | refine .ds (by kernel_rfl) ?_ | refine .dg (by kernel_rfl) ?_ | refine .rg ?_ | refine .ite ?_ | refine .ret ?_ | refine .skip ?_ | refine .exit ?_ | refine .scope ?_ | refine .seq (.label ?_) | refine .block ?_ | refine .seq ?_) | (simp (disch := first | assumption | (apply Go.Cert.ne_of2; assumption; assumption) | (apply Go.Cert.ne_ob; assumption; assumption; (intro e; cases e; done)) | omega) only [w64, w8, tg_eq, Go.V.n1, Go.V.n2, Go.V.nn, zj, zk, zl, zm, zn, zo]) | ((with_reducible refine h20.mono ?_); rintro _ S ⟨rfl, rfl⟩) | ((with_reducible refine h21.mono ?_); rintro _ S ⟨rfl, rfl⟩)); (try simp only [vO, vQ, ↓vP, vE, vS, vB, vL, vF, vM, vN, vbs_full, za, zb, zc, ne_eq, not_false_eq_true, zd, ze, zh, zi, Z3, info3, Z92, info92, Z26, info26, Z24, info24, Z23, info23, Z84, info84, Z9, info9, hρ, tksA_len, vT])) | (with_reducible first | refine vfresh_set ?_ | refine vfresh_intro (fun _ _ => ?_) | refine vif_intro (fun _ => ?_) (fun _ => ?_)) | omega | ((with_reducible first | refine vop_at ?_ | refine vops_at ?_ | refine vquiet_at ?_ | refine vmix_at ?_ | refine Holds_at ?_); simp only [vO, vQ, ↓vP, vE, vS, vB, vL, vF, vM, vN, vbs_full, za, zb, zc, ne_eq, not_false_eq_true, zd, ze, zh, zi, Z3, info3, Z92, info92, Z26, info26, Z24, info24, Z23, info23, Z84, info84, Z9, info9, hρ, tksA_len, vT]))
    all_goals exact ⟨_, .refl _, rfl⟩
  · rw [decide_eq_false hc] at h20
    have hf : s.fail e = s := if_neg hc
    rw [hf]
    (refine vfun (fun _ => .no) mixed Tryz.func51 (by kernel_rfl) ?_; simp only [bodyOf, Tryz.f51, zp])
    repeat' (first | with_reducible rfl | exact .inr trivial | (with_reducible first | apply And.intro | apply vqx_step | apply vqm_step | refine vkp_free (by decide +kernel) ?_ | intro _) | ((first | (with_reducible first | refine .rs ?_ | refine .ds (by kernel_rfl) ?_ | refine .dg (by kernel_rfl) ?_ | refine .rg ?_ | refine .ite ?_ | refine .ret ?_ | refine .skip ?_ | refine .exit ?_ | refine .scope ?_ | refine .seq (.label ?_) | refine .block ?_ | refine .seq ?_) | (simp (disch := first | assumption | (apply Go.Cert.ne_of2; assumption; assumption) | (apply Go.Cert.ne_ob; assumption; assumption; (intro e; cases e; done)) | omega) only [w64, w8, tg_eq, Go.V.n1, Go.V.n2, Go.V.nn, zj, zk, zl, zm, zn, zo]) | ((with_reducible refine h20.mono ?_); rintro _ S ⟨rfl, rfl⟩)); (try simp only [vO, vQ, ↓vP, vE, vS, vB, vL, vF, vM, vN, vbs_full, za, zb, zc, ne_eq, not_false_eq_true, zd, ze, zh, zi, Z3, info3, Z92, info92, Z26, info26, Z24, info24, Z23, info23, Z84, info84, Z9, info9, hρ, tksA_len, vT])) | (with_reducible first | refine vfresh_set ?_ | refine vfresh_intro (fun _ _ => ?_) | refine vif_intro (fun _ => ?_) (fun _ => ?_)) | omega | ((with_reducible first | refine vop_at ?_ | refine vops_at ?_ | refine vquiet_at ?_ | refine vmix_at ?_ | refine Holds_at ?_); simp only [vO, vQ, ↓vP, vE, vS, vB, vL, vF, vM, vN, vbs_full, za, zb, zc, ne_eq, not_false_eq_true, zd, ze, zh, zi, Z3, info3, Z92, info92, Z26, info26, Z24, info24, Z23, info23, Z84, info84, Z9, info9, hρ, tksA_len, vT]))
    all_goals exact ⟨_, .refl _, (Sg.set_id hρ').symm⟩
theorem p40 (ρ : Nat) (s : Rd) (o : Own) (ws : List By) (es : List (List AV)) (σ : Sg) (he : es = strs ws) (hρ : σ ρ = some (rdA s)) (hl : 0 < s.l.length) (hw : ws.length < 2 ^ 60) : VCalls Tryz.prog 197 [.ref ρ 0, .sl o es] σ (fun x σ' => x = .i (s.is ws) ∧ σ' = σ) := by
  subst he
  have h20 := fun β o' (hβ : σ β = none) => p20 ρ s (σ.set β o') (at1 hρ hβ)
  have h21 := p21 ρ s σ hρ hl
  have ht : tkA (hd s.l) = [.i (hd s.l).1, .s (bs (hd s.l).2.1), .i (hd s.l).2.2.1, .i (hd s.l).2.2.2] := rfl
  rw [ht] at h21
  have h65 := fun σ => t116 ws o (hd s.l).2.1 σ hw
  unfold Rd.is
  generalize hd s.l = t at *
  by_cases hc : s.c = 0
  · simp only [decide_eq_true hc] at h20
    by_cases h2 : t.1 = 2 ∨ t.1 = 5
    · rw [if_neg (by omega)]
      (refine vfun (fun _ => .no) mixed Tryz.func197 (by kernel_rfl) ?_; simp only [bodyOf, Tryz.f197, zp])
      repeat' (first | with_reducible rfl | exact .inr trivial | (with_reducible first | apply And.intro | apply vqx_step | apply vqm_step | refine vkp_free (by decide +kernel) ?_ | intro _) | ((first | (with_reducible first | refine .rs ?_ | refine .ds (by kernel_rfl) ?_ | refine .dg (by kernel_rfl) ?_ | refine .rg ?_ | refine .ite ?_ | refine .ret ?_ | refine .skip ?_ | refine .exit ?_ | refine .scope ?_ | refine .seq (.label ?_) | refine .block ?_ | refine .seq ?_) | (simp (disch := first | assumption | (apply Go.Cert.ne_of2; assumption; assumption) | (apply Go.Cert.ne_ob; assumption; assumption; (intro e; cases e; done)) | omega) only [w64, w8, tg_eq, Go.V.n1, Go.V.n2, Go.V.nn, zj, zk, zl, zm, zn, zo]) | ((with_reducible refine h21.mono ?_); rintro _ S ⟨rfl, rfl⟩) | ((with_reducible refine (h20 _ _ (by assumption)).mono ?_); rintro _ S ⟨rfl, rfl⟩) | ((with_reducible refine (h65 _).mono ?_); rintro _ S ⟨rfl, rfl⟩)); (try simp only [vO, vQ, ↓vP, vE, vS, vB, vL, vF, vM, vN, vbs_full, za, zb, zc, ne_eq, not_false_eq_true, zd, ze, zh, zi, Z3, info3, Z92, info92, Z26, info26, Z24, info24, Z23, info23, Z84, info84, Z9, info9, hρ, tksA_len, vT])) | (with_reducible first | refine vfresh_set ?_ | refine vfresh_intro (fun _ _ => ?_) | refine vif_intro (fun _ => ?_) (fun _ => ?_)) | omega | ((with_reducible first | refine vop_at ?_ | refine vops_at ?_ | refine vquiet_at ?_ | refine vmix_at ?_ | refine Holds_at ?_); simp only [vO, vQ, ↓vP, vE, vS, vB, vL, vF, vM, vN, vbs_full, za, zb, zc, ne_eq, not_false_eq_true, zd, ze, zh, zi, Z3, info3, Z92, info92, Z26, info26, Z24, info24, Z23, info23, Z84, info84, Z9, info9, hρ, tksA_len, vT]))
      all_goals (first | ((first | refine ⟨_, ?_, rfl⟩ | refine ⟨_, ?_, rfl, rfl⟩ | refine ⟨_, ?_⟩); (first | exact Sg.sub.refl _ | ((repeat (first | exact Sg.sub.refl _ | refine Sg.sub.set_both ?_ | refine Sg.sub.set_fresh ?_ (by first | assumption | exact Sg.set_none (by assumption) (by first | assumption | (apply Go.Cert.ne_of2a; assumption; assumption))))); done) | (intro y p hy; simp only [Sg.set_apply, Sg.del_apply] at hy ⊢; grind))) | (exfalso; omega))
    · rw [if_pos (by omega)]
      (refine vfun (fun _ => .no) mixed Tryz.func197 (by kernel_rfl) ?_; simp only [bodyOf, Tryz.f197, zp])
      repeat' (first | with_reducible rfl | exact .inr trivial | (with_reducible first | apply And.intro | apply vqx_step | apply vqm_step | refine vkp_free (by decide +kernel) ?_ | intro _) | ((first | (with_reducible first | refine .rs ?_ | refine .ds (by kernel_rfl) ?_ | refine .dg (by kernel_rfl) ?_ | refine .rg ?_ | refine .ite ?_ | refine .ret ?_ | refine .skip ?_ | refine .exit ?_ | refine .scope ?_ | refine .seq (.label ?_) | refine .block ?_ | refine .seq ?_) | (simp (disch := first | assumption | (apply Go.Cert.ne_of2; assumption; assumption) | (apply Go.Cert.ne_ob; assumption; assumption; (intro e; cases e; done)) | omega) only [w64, w8, tg_eq, Go.V.n1, Go.V.n2, Go.V.nn, zj, zk, zl, zm, zn, zo]) | ((with_reducible refine h21.mono ?_); rintro _ S ⟨rfl, rfl⟩) | ((with_reducible refine (h20 _ _ (by assumption)).mono ?_); rintro _ S ⟨rfl, rfl⟩) | ((with_reducible refine (h65 _).mono ?_); rintro _ S ⟨rfl, rfl⟩)); (try simp only [vO, vQ, ↓vP, vE, vS, vB, vL, vF, vM, vN, vbs_full, za, zb, zc, ne_eq, not_false_eq_true, zd, ze, zh, zi, Z3, info3, Z92, info92, Z26, info26, Z24, info24, Z23, info23, Z84, info84, Z9, info9, hρ, tksA_len, vT])) | (with_reducible first | refine vfresh_set ?_ | refine vfresh_intro (fun _ _ => ?_) | refine vif_intro (fun _ => ?_) (fun _ => ?_)) | omega | ((with_reducible first | refine vop_at ?_ | refine vops_at ?_ | refine vquiet_at ?_ | refine vmix_at ?_ | refine Holds_at ?_); simp only [vO, vQ, ↓vP, vE, vS, vB, vL, vF, vM, vN, vbs_full, za, zb, zc, ne_eq, not_false_eq_true, zd, ze, zh, zi, Z3, info3, Z92, info92, Z26, info26, Z24, info24, Z23, info23, Z84, info84, Z9, info9, hρ, tksA_len, vT]))
      all_goals (first | ((first | refine ⟨_, ?_, rfl⟩ | refine ⟨_, ?_, rfl, rfl⟩ | refine ⟨_, ?_⟩); (first | exact Sg.sub.refl _ | ((repeat (first | exact Sg.sub.refl _ | refine Sg.sub.set_both ?_ | refine Sg.sub.set_fresh ?_ (by first | assumption | exact Sg.set_none (by assumption) (by first | assumption | (apply Go.Cert.ne_of2a; assumption; assumption))))); done) | (intro y p hy; simp only [Sg.set_apply, Sg.del_apply] at hy ⊢; grind))) | (exfalso; omega))
  · simp only [decide_eq_false hc] at h20
    rw [if_pos (.inl hc)]
    (refine vfun (fun _ => .no) mixed Tryz.func197 (by kernel_rfl) ?_; simp only [bodyOf, Tryz.f197, zp])
    repeat' (first | with_reducible rfl | exact .inr trivial | (with_reducible first | apply And.intro | apply vqx_step | apply vqm_step | refine vkp_free (by decide +kernel) ?_ | intro _) | ((first | (with_reducible first | refine .rs ?_ | refine .ds (by kernel_rfl) ?_ | refine .dg (by kernel_rfl) ?_ | refine .rg ?_ | refine .ite ?_ | refine .ret ?_ | refine .skip ?_ | refine .exit ?_ | refine .scope ?_ | refine .seq (.label ?_) | refine .block ?_ | refine .seq ?_) | (simp (disch := first | assumption | (apply Go.Cert.ne_of2; assumption; assumption) | (apply Go.Cert.ne_ob; assumption; assumption; (intro e; cases e; done)) | omega) only [w64, w8, tg_eq, Go.V.n1, Go.V.n2, Go.V.nn, zj, zk, zl, zm, zn, zo]) | ((with_reducible refine h21.mono ?_); rintro _ S ⟨rfl, rfl⟩) | ((with_reducible refine (h20 _ _ (by assumption)).mono ?_); rintro _ S ⟨rfl, rfl⟩)); (try simp only [vO, vQ, ↓vP, vE, vS, vB, vL, vF, vM, vN, vbs_full, za, zb, zc, ne_eq, not_false_eq_true, zd, ze, zh, zi, Z3, info3, Z92, info92, Z26, info26, Z24, info24, Z23, info23, Z84, info84, Z9, info9, hρ, tksA_len, vT])) | (with_reducible first | refine vfresh_set ?_ | refine vfresh_intro (fun _ _ => ?_) | refine vif_intro (fun _ => ?_) (fun _ => ?_)) | omega | ((with_reducible first | refine vop_at ?_ | refine vops_at ?_ | refine vquiet_at ?_ | refine vmix_at ?_ | refine Holds_at ?_); simp only [vO, vQ, ↓vP, vE, vS, vB, vL, vF, vM, vN, vbs_full, za, zb, zc, ne_eq, not_false_eq_true, zd, ze, zh, zi, Z3, info3, Z92, info92, Z26, info26, Z24, info24, Z23, info23, Z84, info84, Z9, info9, hρ, tksA_len, vT]))
    all_goals (first | ((first | refine ⟨_, ?_, rfl⟩ | refine ⟨_, ?_, rfl, rfl⟩ | refine ⟨_, ?_⟩); (first | exact Sg.sub.refl _ | ((repeat (first | exact Sg.sub.refl _ | refine Sg.sub.set_both ?_ | refine Sg.sub.set_fresh ?_ (by first | assumption | exact Sg.set_none (by assumption) (by first | assumption | (apply Go.Cert.ne_of2a; assumption; assumption))))); done) | (intro y p hy; simp only [Sg.set_apply, Sg.del_apply] at hy ⊢; grind))) | (exfalso; omega))
theorem pass_val (s : Rd) (ws : List By) : s.pass ws = if 0 ≤ s.is ws then s.next else s := rfl
theorem rdA_next (s : Rd) : rdA s.next = .cells 92 [.sl .any (tksA s.l.tail), .i s.d, .i s.c, .i s.a] := rfl
theorem tksA_drop1 (l : List Tk) : (tksA l).drop 1 = tksA l.tail := by cases l <;> rfl
theorem p22 (ρ : Nat) (s : Rd) (o : Own) (ws : List By) (es : List (List AV)) (σ : Sg) (he : es = strs ws) (hρ : σ ρ = some (rdA s)) (hl : 0 < s.l.length) (hw : ws.length < 2 ^ 60) : VCalls Tryz.prog 111 [.ref ρ 0, .sl o es] σ (fun x σ' => x = .i (s.is ws) ∧ σ' = σ.set ρ (rdA (s.pass ws))) := by
  have h40 := p40 ρ s o ws es σ he hρ hl hw
  subst he
  have hρ' := hρ
  rw [rdA_eq] at hρ
  rw [pass_val]
  by_cases hc : 0 ≤ s.is ws
  · rw [if_pos hc, rdA_next]
    generalize s.is ws = k at *
    (refine vfun (fun _ => .no) mixed Tryz.func111 (by kernel_rfl) ?_; simp only [bodyOf, Tryz.f111, zp])
    repeat' (first | with_reducible rfl | exact .inr trivial | (with_reducible first | apply And.intro | apply vqx_step | apply vqm_step | refine vkp_free (by decide +kernel) ?_ | intro _) | ((first | (with_reducible first | refine .rs ?_ | refine .ds (by kernel_rfl) ?_ | refine .dg (by kernel_rfl) ?_ | refine .rg ?_ | refine .ite ?_ | refine .ret ?_ | refine .skip ?_ | refine .exit ?_ | refine .scope ?_ | refine .seq (.label ?_) | refine .block ?_ | refine .seq ?_) | (simp (disch := first | assumption | (apply Go.Cert.ne_of2; assumption; assumption) | (apply Go.Cert.ne_ob; assumption; assumption; (intro e; cases e; done)) | omega) only [w64, w8, tg_eq, Go.V.n1, Go.V.n2, Go.V.nn, zj, zk, zl, zm, zn, zo]) | ((with_reducible refine h40.mono ?_); rintro _ S ⟨rfl, rfl⟩)); (try simp only [vO, vQ, ↓vP, vE, vS, vB, vL, vF, vM, vN, vbs_full, za, zb, zc, ne_eq, not_false_eq_true, zd, ze, zh, zi, Z3, info3, Z92, info92, Z26, info26, Z24, info24, Z23, info23, Z84, info84, Z9, info9, hρ, tksA_len, tksA_drop1, tksA_all, Own.cut, vT])) | (with_reducible first | refine vfresh_set ?_ | refine vfresh_intro (fun _ _ => ?_) | refine vif_intro (fun _ => ?_) (fun _ => ?_)) | omega | ((with_reducible first | refine vop_at ?_ | refine vops_at ?_ | refine vquiet_at ?_ | refine vmix_at ?_ | refine Holds_at ?_); simp only [vO, vQ, ↓vP, vE, vS, vB, vL, vF, vM, vN, vbs_full, za, zb, zc, ne_eq, not_false_eq_true, zd, ze, zh, zi, Z3, info3, Z92, info92, Z26, info26, Z24, info24, Z23, info23, Z84, info84, Z9, info9, hρ, tksA_len, tksA_drop1, tksA_all, Own.cut, vT]))
    all_goals (first | ((first | refine ⟨_, ?_, rfl⟩ | refine ⟨_, ?_, rfl, rfl⟩ | refine ⟨_, ?_⟩); (first | exact Sg.sub.refl _ | ((repeat (first | exact Sg.sub.refl _ | refine Sg.sub.set_both ?_ | refine Sg.sub.set_fresh ?_ (by first | assumption | exact Sg.set_none (by assumption) (by first | assumption | (apply Go.Cert.ne_of2a; assumption; assumption))))); done) | (intro y p hy; simp only [Sg.set_apply, Sg.del_apply] at hy ⊢; grind))) | (exfalso; omega))
  · rw [if_neg hc]
    generalize s.is ws = k at *
    rw [Sg.set_id hρ']
    (refine vfun (fun _ => .no) mixed Tryz.func111 (by kernel_rfl) ?_; simp only [bodyOf, Tryz.f111, zp])
    repeat' (first | with_reducible rfl | exact .inr trivial | (with_reducible first | apply And.intro | apply vqx_step | apply vqm_step | refine vkp_free (by decide +kernel) ?_ | intro _) | ((first | (with_reducible first | refine .rs ?_ | refine .ds (by kernel_rfl) ?_ | refine .dg (by kernel_rfl) ?_ | refine .rg ?_ | refine .ite ?_ | refine .ret ?_ | refine .skip ?_ | refine .exit ?_ | refine .scope ?_ | refine .seq (.label ?_) | refine .block ?_ | refine .seq ?_) | (simp (disch := first | assumption | (apply Go.Cert.ne_of2; assumption; assumption) | (apply Go.Cert.ne_ob; assumption; assumption; (intro e; cases e; done)) | omega) only [w64, w8, tg_eq, Go.V.n1, Go.V.n2, Go.V.nn, zj, zk, zl, zm, zn, zo]) | ((with_reducible refine h40.mono ?_); rintro _ S ⟨rfl, rfl⟩)); (try simp only [vO, vQ, ↓vP, vE, vS, vB, vL, vF, vM, vN, vbs_full, za, zb, zc, ne_eq, not_false_eq_true, zd, ze, zh, zi, Z3, info3, Z92, info92, Z26, info26, Z24, info24, Z23, info23, Z84, info84, Z9, info9, hρ, tksA_len, tksA_drop1, tksA_all, vT])) | (with_reducible first | refine vfresh_set ?_ | refine vfresh_intro (fun _ _ => ?_) | refine vif_intro (fun _ => ?_) (fun _ => ?_)) | omega | ((with_reducible first | refine vop_at ?_ | refine vops_at ?_ | refine vquiet_at ?_ | refine vmix_at ?_ | refine Holds_at ?_); simp only [vO, vQ, ↓vP, vE, vS, vB, vL, vF, vM, vN, vbs_full, za, zb, zc, ne_eq, not_false_eq_true, zd, ze, zh, zi, Z3, info3, Z92, info92, Z26, info26, Z24, info24, Z23, info23, Z84, info84, Z9, info9, hρ, tksA_len, tksA_drop1, tksA_all, vT]))
    all_goals (first | ((first | refine ⟨_, ?_, rfl⟩ | refine ⟨_, ?_, rfl, rfl⟩ | refine ⟨_, ?_⟩); (first | exact Sg.sub.refl _ | ((repeat (first | exact Sg.sub.refl _ | refine Sg.sub.set_both ?_ | refine Sg.sub.set_fresh ?_ (by first | assumption | exact Sg.set_none (by assumption) (by first | assumption | (apply Go.Cert.ne_of2a; assumption; assumption))))); done) | (intro y p hy; simp only [Sg.set_apply, Sg.del_apply] at hy ⊢; grind))) | (exfalso; omega))
theorem pass1 (s : Rd) (w : By) : s.pass [w] = if s.has w then s.next else s := by
  unfold Rd.has Rd.pass
  by_cases h : 0 ≤ s.is [w]
  · rw [if_pos h, if_pos (decide_eq_true h)]
  · rw [if_neg h, if_neg (by simp; omega)]
theorem p13 (ρ : Nat) (s : Rd) (w : By) (σ : Sg) (hρ : σ ρ = some (rdA s)) (hl : 0 < s.l.length) : VCalls Tryz.prog 50 [.ref ρ 0, .s (bs w)] σ (fun x σ' => x = .b (s.has w) ∧ σ' = σ.set ρ (rdA (if s.has w then s.next else s))) := by
  have h22 := fun es he => p22 ρ s .full [w] es σ he hρ hl (by simp)
  rw [pass1] at h22
  cases hb : s.has w with
  | true =>
    have hk : 0 ≤ s.is [w] := of_decide_eq_true hb
    simp only [hb, if_true] at h22 ⊢
    generalize s.is [w] = k at *
    (refine vfun (fun _ => .no) mixed Tryz.func50 (by kernel_rfl) ?_; simp only [bodyOf, Tryz.f50, zp])
    repeat' (first | with_reducible rfl | exact .inr trivial | (with_reducible first | apply And.intro | apply vqx_step | apply vqm_step | refine vkp_free (by decide +kernel) ?_ | intro _) | ((first | (with_reducible first | refine .rs ?_ | refine .ds (by kernel_rfl) ?_ | refine .dg (by kernel_rfl) ?_ | refine .rg ?_ | refine .ite ?_ | refine .ret ?_ | refine .skip ?_ | refine .exit ?_ | refine .scope ?_ | refine .seq (.label ?_) | refine .block ?_ | refine .seq ?_) | (simp (disch := first | assumption | (apply Go.Cert.ne_of2; assumption; assumption) | (apply Go.Cert.ne_ob; assumption; assumption; (intro e; cases e; done)) | omega) only [w64, w8, tg_eq, Go.V.n1, Go.V.n2, Go.V.nn, zj, zk, zl, zm, zn, zo]) | ((with_reducible refine (h22 _ (by with_unfolding_all rfl)).mono ?_); rintro _ S ⟨rfl, rfl⟩)); (try simp only [vO, vQ, ↓vP, vE, vS, vB, vL, vF, vM, vN, vbs_full, za, zb, zc, ne_eq, not_false_eq_true, zd, ze, zh, zi, Z3, info3, Z92, info92, Z87, info87, Z9, info9, vT])) | (with_reducible first | refine vfresh_set ?_ | refine vfresh_intro (fun _ _ => ?_) | refine vif_intro (fun _ => ?_) (fun _ => ?_)) | omega | ((with_reducible first | refine vop_at ?_ | refine vops_at ?_ | refine vquiet_at ?_ | refine vmix_at ?_ | refine Holds_at ?_); simp only [vO, vQ, ↓vP, vE, vS, vB, vL, vF, vM, vN, vbs_full, za, zb, zc, ne_eq, not_false_eq_true, zd, ze, zh, zi, Z3, info3, Z92, info92, Z87, info87, Z9, info9, vT]))
    exact ⟨_, .refl _, b_eq (by simpa using hk), rfl⟩
  | false =>
    have hk : ¬ 0 ≤ s.is [w] := of_decide_eq_false hb
    simp only [hb, Bool.false_eq_true, if_false] at h22 ⊢
    generalize s.is [w] = k at *
    (refine vfun (fun _ => .no) mixed Tryz.func50 (by kernel_rfl) ?_; simp only [bodyOf, Tryz.f50, zp])
    repeat' (first | with_reducible rfl | exact .inr trivial | (with_reducible first | apply And.intro | apply vqx_step | apply vqm_step | refine vkp_free (by decide +kernel) ?_ | intro _) | ((first | (with_reducible first | refine .rs ?_ | refine .ds (by kernel_rfl) ?_ | refine .dg (by kernel_rfl) ?_ | refine .rg ?_ | refine .ite ?_ | refine .ret ?_ | refine .skip ?_ | refine .exit ?_ | refine .scope ?_ | refine .seq (.label ?_) | refine .block ?_ | refine .seq ?_) | (simp (disch := first | assumption | (apply Go.Cert.ne_of2; assumption; assumption) | (apply Go.Cert.ne_ob; assumption; assumption; (intro e; cases e; done)) | omega) only [w64, w8, tg_eq, Go.V.n1, Go.V.n2, Go.V.nn, zj, zk, zl, zm, zn, zo]) | ((with_reducible refine (h22 _ (by with_unfolding_all rfl)).mono ?_); rintro _ S ⟨rfl, rfl⟩)); (try simp only [vO, vQ, ↓vP, vE, vS, vB, vL, vF, vM, vN, vbs_full, za, zb, zc, ne_eq, not_false_eq_true, zd, ze, zh, zi, Z3, info3, Z92, info92, Z87, info87, Z9, info9, vT])) | (with_reducible first | refine vfresh_set ?_ | refine vfresh_intro (fun _ _ => ?_) | refine vif_intro (fun _ => ?_) (fun _ => ?_)) | omega | ((with_reducible first | refine vop_at ?_ | refine vops_at ?_ | refine vquiet_at ?_ | refine vmix_at ?_ | refine Holds_at ?_); simp only [vO, vQ, ↓vP, vE, vS, vB, vL, vF, vM, vN, vbs_full, za, zb, zc, ne_eq, not_false_eq_true, zd, ze, zh, zi, Z3, info3, Z92, info92, Z87, info87, Z9, info9, vT]))
    exact ⟨_, .refl _, b_eq (by simpa using hk), rfl⟩
end Go.Proofs.YtjopblbpnedjoaaGreatDoor

set_option linter.unusedSimpArgs false
set_option linter.unusedVariables false
namespace Go.Proofs.YtjopblbpnedjoaaGreatDoor
open Go Go.V Go.Lex Go.Parse
theorem must_step {s : Rd} {ws : List By} {k : Nat} (h : k < ws.length) : s.must (ws.drop k) = Rd.must (if s.has (ws.getD k []) then s.next else s.fail 4) (ws.drop (k + 1)) := by
  have hg : ws.getD k [] = ws[k] := by simp [List.getD_eq_getElem?_getD, List.getElem?_eq_getElem h]
  rw [hg, List.drop_eq_getElem_cons h]
  rfl
theorem p41 (ρ : Nat) (s : Rd) (o : Own) (ws : List By) (es : List (List AV)) (σ : Sg) (he : es = strs ws) (hρ : σ ρ = some (rdA s)) (hl : WF s.l) (hw : ws.length < 2 ^ 60) : VCalls Tryz.prog 198 [.ref ρ 0, .sl o es] σ (fun x σ' => x = .tup [] ∧ σ' = σ.set ρ (rdA (s.must ws))) := by
  subst he
  (refine vfun (fun _ => .no) mixed Tryz.func198 (by kernel_rfl) ?_; simp only [bodyOf, Tryz.f198, zp])
  repeat' (first | with_reducible rfl | exact .inr trivial | (with_reducible first | apply And.intro | apply vqx_step | apply vqm_step | refine vkp_free (by decide +kernel) ?_ | intro _) | ((first | (with_reducible first | refine .rs ?_ | refine .ds (by kernel_rfl) ?_ | refine .dg (by kernel_rfl) ?_ | refine .rg ?_ | refine .ite ?_ | refine .ret ?_ | refine .skip ?_ | refine .exit ?_ | refine .scope ?_ | refine .seq (.label ?_) | refine .block ?_ | refine .seq ?_) | (simp (disch := first | assumption | (apply Go.Cert.ne_of2; assumption; assumption) | (apply Go.Cert.ne_ob; assumption; assumption; (intro e; cases e; done)) | omega) only [w64, w8, tg_eq, Go.V.n1, Go.V.n2, Go.V.nn, zj, zk, zl, zm, zn, zo])); (try simp only [vO, vQ, ↓vP, vE, vS, vB, vL, vF, vM, vN, vbs_full, za, zb, zc, ne_eq, not_false_eq_true, zd, ze, zh, zi, Z3, info3, Z87, info87, Z9, info9, strs_len, vT])) | (with_reducible first | refine vfresh_set ?_ | refine vfresh_intro (fun _ _ => ?_) | refine vif_intro (fun _ => ?_) (fun _ => ?_)) | omega | ((with_reducible first | refine vop_at ?_ | refine vops_at ?_ | refine vquiet_at ?_ | refine vmix_at ?_ | refine Holds_at ?_); simp only [vO, vQ, ↓vP, vE, vS, vB, vL, vF, vM, vN, vbs_full, za, zb, zc, ne_eq, not_false_eq_true, zd, ze, zh, zi, Z3, info3, Z87, info87, Z9, info9, strs_len, vT]))
  refine VW.loop3 (0 : Nat) s () (fun k s' _ => k ≤ ws.length ∧ s'.must (ws.drop k) = s.must ws ∧ WF s'.l) (fun k _ _ => [(0, .ref ρ 0), (6, .sl o (strs ws)), (7, .i ws.length), (8, .i k)]) (fun _ s' _ => σ.set ρ (rdA s')) (fun k _ _ => ws.length - k) ⟨by omega, by simp, hl⟩ (by rw [Sg.set_id hρ]; exact .refl _) ?_ ?_
  · simp only [vO, vQ, ↓vP, vE, vS, vB, vL, vF, vM, vN, vbs_full, za, zb, zc, ne_eq, not_false_eq_true, zd, ze, zh, zi, vT]
    all_goals rfl
  rintro k s' _ ⟨h1, h2, h3⟩
  have hρ' : (σ.set ρ (rdA s')) ρ = some (rdA s') := zk _ _ _
  rcases Nat.lt_or_ge k ws.length with hk | hk
  · have hg := strs_get hk
    have h13 := p13 ρ s' (ws.getD k []) _ hρ' h3.pos
    have hm := must_step (s := s') hk
    rw [hm] at h2
    cases hb : s'.has (ws.getD k []) with
    | true =>
      simp only [hb, if_true, Sg.set_set] at h13 h2
      repeat' (first | with_reducible rfl | exact .inr trivial | (with_reducible first | apply And.intro | apply vqx_step | apply vqm_step | refine vkp_free (by decide +kernel) ?_ | intro _) | ((first | (with_reducible first | refine .rs ?_ | refine .ds (by kernel_rfl) ?_ | refine .dg (by kernel_rfl) ?_ | refine .rg ?_ | refine .ite ?_ | refine .ret ?_ | refine .skip ?_ | refine .exit ?_ | refine .scope ?_ | refine .seq (.label ?_) | refine .block ?_ | refine .seq ?_) | (simp (disch := first | assumption | (apply Go.Cert.ne_of2; assumption; assumption) | (apply Go.Cert.ne_ob; assumption; assumption; (intro e; cases e; done)) | omega) only [w64, w8, tg_eq, Go.V.n1, Go.V.n2, Go.V.nn, zj, zk, zl, zm, zn, zo]) | ((with_reducible refine h13.mono ?_); rintro _ S ⟨rfl, rfl⟩)); (try simp only [vO, vQ, ↓vP, vE, vS, vB, vL, vF, vM, vN, vbs_full, za, zb, zc, ne_eq, not_false_eq_true, zd, ze, zh, zi, Z3, info3, Z87, info87, Z9, info9, strs_len, hg, vT])) | (with_reducible first | refine vfresh_set ?_ | refine vfresh_intro (fun _ _ => ?_) | refine vif_intro (fun _ => ?_) (fun _ => ?_)) | omega | ((with_reducible first | refine vop_at ?_ | refine vops_at ?_ | refine vquiet_at ?_ | refine vmix_at ?_ | refine Holds_at ?_); simp only [vO, vQ, ↓vP, vE, vS, vB, vL, vF, vM, vN, vbs_full, za, zb, zc, ne_eq, not_false_eq_true, zd, ze, zh, zi, Z3, info3, Z87, info87, Z9, info9, strs_len, hg, vT]))
      exact ⟨k + 1, s'.next, (), ⟨⟨hk, h2, (ok_has h3 hb).wf⟩, by omega⟩, .refl _, rfl⟩
    | false =>
      simp only [hb, Bool.false_eq_true, if_false, Sg.set_set] at h13 h2
      have h14 := p14 ρ s' 4 _ hρ' h3.pos
      rw [Sg.set_set] at h14
      repeat' (first | with_reducible rfl | exact .inr trivial | (with_reducible first | apply And.intro | apply vqx_step | apply vqm_step | refine vkp_free (by decide +kernel) ?_ | intro _) | ((first | (with_reducible first | refine .rs ?_ | refine .ds (by kernel_rfl) ?_ | refine .dg (by kernel_rfl) ?_ | refine .rg ?_ | refine .ite ?_ | refine .ret ?_ | refine .skip ?_ | refine .exit ?_ | refine .scope ?_ | refine .seq (.label ?_) | refine .block ?_ | refine .seq ?_) | (simp (disch := first | assumption | (apply Go.Cert.ne_of2; assumption; assumption) | (apply Go.Cert.ne_ob; assumption; assumption; (intro e; cases e; done)) | omega) only [w64, w8, tg_eq, Go.V.n1, Go.V.n2, Go.V.nn, zj, zk, zl, zm, zn, zo]) | ((with_reducible refine h13.mono ?_); rintro _ S ⟨rfl, rfl⟩) | ((with_reducible refine h14.mono ?_); rintro _ S ⟨rfl, rfl⟩)); (try simp only [vO, vQ, ↓vP, vE, vS, vB, vL, vF, vM, vN, vbs_full, za, zb, zc, ne_eq, not_false_eq_true, zd, ze, zh, zi, Z3, info3, Z87, info87, Z9, info9, strs_len, hg, vT])) | (with_reducible first | refine vfresh_set ?_ | refine vfresh_intro (fun _ _ => ?_) | refine vif_intro (fun _ => ?_) (fun _ => ?_)) | omega | ((with_reducible first | refine vop_at ?_ | refine vops_at ?_ | refine vquiet_at ?_ | refine vmix_at ?_ | refine Holds_at ?_); simp only [vO, vQ, ↓vP, vE, vS, vB, vL, vF, vM, vN, vbs_full, za, zb, zc, ne_eq, not_false_eq_true, zd, ze, zh, zi, Z3, info3, Z87, info87, Z9, info9, strs_len, hg, vT]))
      exact ⟨k + 1, s'.fail 4, (), ⟨⟨hk, h2, (ok_fail h3 4).wf⟩, by omega⟩, .refl _, rfl⟩
  · repeat' (first | with_reducible rfl | exact .inr trivial | (with_reducible first | apply And.intro | apply vqx_step | apply vqm_step | refine vkp_free (by decide +kernel) ?_ | intro _) | ((first | (with_reducible first | refine .rs ?_ | refine .ds (by kernel_rfl) ?_ | refine .dg (by kernel_rfl) ?_ | refine .rg ?_ | refine .ite ?_ | refine .ret ?_ | refine .skip ?_ | refine .exit ?_ | refine .scope ?_ | refine .seq (.label ?_) | refine .block ?_ | refine .seq ?_) | (simp (disch := first | assumption | (apply Go.Cert.ne_of2; assumption; assumption) | (apply Go.Cert.ne_ob; assumption; assumption; (intro e; cases e; done)) | omega) only [w64, w8, tg_eq, Go.V.n1, Go.V.n2, Go.V.nn, zj, zk, zl, zm, zn, zo])); (try simp only [vO, vQ, ↓vP, vE, vS, vB, vL, vF, vM, vN, vbs_full, za, zb, zc, ne_eq, not_false_eq_true, zd, ze, zh, zi, Z3, info3, Z87, info87, Z9, info9, strs_len, vT])) | (with_reducible first | refine vfresh_set ?_ | refine vfresh_intro (fun _ _ => ?_) | refine vif_intro (fun _ => ?_) (fun _ => ?_)) | omega | ((with_reducible first | refine vop_at ?_ | refine vops_at ?_ | refine vquiet_at ?_ | refine vmix_at ?_ | refine Holds_at ?_); simp only [vO, vQ, ↓vP, vE, vS, vB, vL, vF, vM, vN, vbs_full, za, zb, zc, ne_eq, not_false_eq_true, zd, ze, zh, zi, Z3, info3, Z87, info87, Z9, info9, strs_len, vT]))
    rw [List.drop_of_length_le hk] at h2
    exact ⟨_, .refl _, by rw [← h2]; rfl⟩
theorem tkA_eq (t : Tk) : tkA t = [.i t.1, .s (bs t.2.1), .i t.2.2.1, .i t.2.2.2] := rfl
theorem p52 (ρ : Nat) (s : Rd) (k : Nat) (σ : Sg) (hρ : σ ρ = some (rdA s)) (hl : 0 < s.l.length) : VCalls Tryz.prog 209 [.ref ρ 0, .i k] σ (fun x σ' => x = .agg (tkA (s.tok k)) ∧ σ' = σ.set ρ (rdA (s.take k))) := by
  have h20 := fun β o' (hβ : σ β = none) => p20 ρ s (σ.set β o') (at1 hρ hβ)
  have h21 := fun β o' (hβ : σ β = none) => p21 ρ s (σ.set β o') (at1 hρ hβ) hl
  have h14 := fun β o' (hβ : σ β = none) => p14 ρ s 4 (σ.set β o') (at1 hρ hβ) hl
  unfold Rd.tok Rd.take
  have hk : s.takes k ↔ s.c = 0 ∧ (hd s.l).1 = k := Iff.rfl
  simp only [hk]
  rw [tkA_eq] at h21
  have hrd := rdA_next s
  have hρ' := hρ
  rw [rdA_eq] at hρ
  have e0 : tkA (0, [], 0, 0) = [.i 0, .s (bs []), .i 0, .i 0] := rfl
  by_cases hc : s.c = 0
  · simp only [decide_eq_true hc] at h20
    by_cases hk : (hd s.l).1 = k
    · rw [if_pos ⟨hc, hk⟩, if_pos ⟨hc, hk⟩, tkA_eq, hrd]
      generalize hd s.l = t at *
      (refine vfun (fun _ => .no) mixed Tryz.func209 (by kernel_rfl) ?_; simp only [bodyOf, Tryz.f209, zp])
      repeat' (first | with_reducible rfl | exact .inr trivial | (with_reducible first | apply And.intro | apply vqx_step | apply vqm_step | refine vkp_free (by decide +kernel) ?_ | intro _) | ((first | (with_reducible first | refine .rs ?_ | refine .ds (by kernel_rfl) ?_ | refine .dg (by kernel_rfl) ?_ | refine .rg ?_ | refine .ite ?_ | refine .ret ?_ | refine .skip ?_ | refine .exit ?_ | refine .scope ?_ | refine .seq (.label ?_) | refine .block ?_ | refine .seq ?_) | (simp (disch := first | assumption | (apply Go.Cert.ne_of2; assumption; assumption) | (apply Go.Cert.ne_ob; assumption; assumption; (intro e; cases e; done)) | omega) only [w64, w8, tg_eq, Go.V.n1, Go.V.n2, Go.V.nn, zj, zk, zl, zm, zn, zo]) | ((with_reducible refine (h20 _ _ (by assumption)).mono ?_); rintro _ S ⟨rfl, rfl⟩) | ((with_reducible refine (h21 _ _ (by assumption)).mono ?_); rintro _ S ⟨rfl, rfl⟩) | (refine vlo_app Go.Cert.lk ?_) | (refine vst_app Go.Cert.lk ?_)); (try simp only [vO, vQ, ↓vP, vE, vS, vB, vL, vF, vM, vN, vbs_full, za, zb, zc, ne_eq, not_false_eq_true, zd, ze, zh, zi, Z3, info3, Z92, info92, Z26, info26, Z24, info24, Z23, info23, Z84, info84, Z9, info9, hρ, tksA_len, tksA_drop1, tksA_all, Own.cut, vT])) | (with_reducible first | refine vfresh_set ?_ | refine vfresh_intro (fun _ _ => ?_) | refine vif_intro (fun _ => ?_) (fun _ => ?_)) | omega | ((with_reducible first | refine vop_at ?_ | refine vops_at ?_ | refine vquiet_at ?_ | refine vmix_at ?_ | refine Holds_at ?_); simp only [vO, vQ, ↓vP, vE, vS, vB, vL, vF, vM, vN, vbs_full, za, zb, zc, ne_eq, not_false_eq_true, zd, ze, zh, zi, Z3, info3, Z92, info92, Z26, info26, Z24, info24, Z23, info23, Z84, info84, Z9, info9, hρ, tksA_len, tksA_drop1, tksA_all, Own.cut, vT]))
      all_goals (first | ((first | refine ⟨_, ?_, rfl⟩ | refine ⟨_, ?_, rfl, rfl⟩ | refine ⟨_, ?_⟩); (first | exact Sg.sub.refl _ | ((repeat (first | exact Sg.sub.refl _ | refine Sg.sub.set_both ?_ | refine Sg.sub.set_fresh ?_ (by first | assumption | exact Sg.set_none (by assumption) (by first | assumption | (apply Go.Cert.ne_of2a; assumption; assumption))))); done) | (intro y p hy; simp only [Sg.set_apply, Sg.del_apply] at hy ⊢; grind))) | (exfalso; omega))
    · rw [if_neg (fun h => hk h.2), if_neg (fun h => hk h.2), e0]
      generalize hd s.l = t at *
      (refine vfun (fun _ => .no) mixed Tryz.func209 (by kernel_rfl) ?_; simp only [bodyOf, Tryz.f209, zp])
      repeat' (first | with_reducible rfl | exact .inr trivial | (with_reducible first | apply And.intro | apply vqx_step | apply vqm_step | refine vkp_free (by decide +kernel) ?_ | intro _) | ((first | (with_reducible first | refine .rs ?_ | refine .ds (by kernel_rfl) ?_ | refine .dg (by kernel_rfl) ?_ | refine .rg ?_ | refine .ite ?_ | refine .ret ?_ | refine .skip ?_ | refine .exit ?_ | refine .scope ?_ | refine .seq (.label ?_) | refine .block ?_ | refine .seq ?_) | (simp (disch := first | assumption | (apply Go.Cert.ne_of2; assumption; assumption) | (apply Go.Cert.ne_ob; assumption; assumption; (intro e; cases e; done)) | omega) only [w64, w8, tg_eq, Go.V.n1, Go.V.n2, Go.V.nn, zj, zk, zl, zm, zn, zo]) | ((with_reducible refine (h20 _ _ (by assumption)).mono ?_); rintro _ S ⟨rfl, rfl⟩) | ((with_reducible refine (h21 _ _ (by assumption)).mono ?_); rintro _ S ⟨rfl, rfl⟩) | ((with_reducible refine (h14 _ _ (by assumption)).mono ?_); rintro _ S ⟨rfl, rfl⟩) | (refine vlo_app Go.Cert.lk ?_) | (refine vst_app Go.Cert.lk ?_)); (try simp only [vO, vQ, ↓vP, vE, vS, vB, vL, vF, vM, vN, vbs_full, za, zb, zc, ne_eq, not_false_eq_true, zd, ze, zh, zi, Z3, info3, Z92, info92, Z26, info26, Z24, info24, Z23, info23, Z84, info84, Z9, info9, hρ, tksA_len, vT])) | (with_reducible first | refine vfresh_set ?_ | refine vfresh_intro (fun _ _ => ?_) | refine vif_intro (fun _ => ?_) (fun _ => ?_)) | omega | ((with_reducible first | refine vop_at ?_ | refine vops_at ?_ | refine vquiet_at ?_ | refine vmix_at ?_ | refine Holds_at ?_); simp only [vO, vQ, ↓vP, vE, vS, vB, vL, vF, vM, vN, vbs_full, za, zb, zc, ne_eq, not_false_eq_true, zd, ze, zh, zi, Z3, info3, Z92, info92, Z26, info26, Z24, info24, Z23, info23, Z84, info84, Z9, info9, hρ, tksA_len, vT]))
      all_goals (first | ((first | refine ⟨_, ?_, rfl⟩ | refine ⟨_, ?_, rfl, rfl⟩ | refine ⟨_, ?_⟩); (first | exact Sg.sub.refl _ | ((repeat (first | exact Sg.sub.refl _ | refine Sg.sub.set_both ?_ | refine Sg.sub.set_fresh ?_ (by first | assumption | exact Sg.set_none (by assumption) (by first | assumption | (apply Go.Cert.ne_of2a; assumption; assumption))))); done) | (intro y p hy; simp only [Sg.set_apply, Sg.del_apply] at hy ⊢; grind))) | (exfalso; omega))
  · simp only [decide_eq_false hc] at h20
    rw [if_neg (fun h => hc h.1), if_neg (fun h => hc h.1), e0]
    (refine vfun (fun _ => .no) mixed Tryz.func209 (by kernel_rfl) ?_; simp only [bodyOf, Tryz.f209, zp])
    repeat' (first | with_reducible rfl | exact .inr trivial | (with_reducible first | apply And.intro | apply vqx_step | apply vqm_step | refine vkp_free (by decide +kernel) ?_ | intro _) | ((first | (with_reducible first | refine .rs ?_ | refine .ds (by kernel_rfl) ?_ | refine .dg (by kernel_rfl) ?_ | refine .rg ?_ | refine .ite ?_ | refine .ret ?_ | refine .skip ?_ | refine .exit ?_ | refine .scope ?_ | refine .seq (.label ?_) | refine .block ?_ | refine .seq ?_) | (simp (disch := first | assumption | (apply Go.Cert.ne_of2; assumption; assumption) | (apply Go.Cert.ne_ob; assumption; assumption; (intro e; cases e; done)) | omega) only [w64, w8, tg_eq, Go.V.n1, Go.V.n2, Go.V.nn, zj, zk, zl, zm, zn, zo]) | ((with_reducible refine (h20 _ _ (by assumption)).mono ?_); rintro _ S ⟨rfl, rfl⟩) | ((with_reducible refine (h21 _ _ (by assumption)).mono ?_); rintro _ S ⟨rfl, rfl⟩) | ((with_reducible refine (h14 _ _ (by assumption)).mono ?_); rintro _ S ⟨rfl, rfl⟩) | (refine vlo_app Go.Cert.lk ?_) | (refine vst_app Go.Cert.lk ?_)); (try simp only [vO, vQ, ↓vP, vE, vS, vB, vL, vF, vM, vN, vbs_full, za, zb, zc, ne_eq, not_false_eq_true, zd, ze, zh, zi, Z3, info3, Z92, info92, Z26, info26, Z24, info24, Z23, info23, Z84, info84, Z9, info9, hρ, tksA_len, vT])) | (with_reducible first | refine vfresh_set ?_ | refine vfresh_intro (fun _ _ => ?_) | refine vif_intro (fun _ => ?_) (fun _ => ?_)) | omega | ((with_reducible first | refine vop_at ?_ | refine vops_at ?_ | refine vquiet_at ?_ | refine vmix_at ?_ | refine Holds_at ?_); simp only [vO, vQ, ↓vP, vE, vS, vB, vL, vF, vM, vN, vbs_full, za, zb, zc, ne_eq, not_false_eq_true, zd, ze, zh, zi, Z3, info3, Z92, info92, Z26, info26, Z24, info24, Z23, info23, Z84, info84, Z9, info9, hρ, tksA_len, vT]))
    all_goals (first | ((first | refine ⟨_, ?_, rfl⟩ | refine ⟨_, ?_, rfl, rfl⟩ | refine ⟨_, ?_⟩); (first | exact Sg.sub.refl _ | ((repeat (first | exact Sg.sub.refl _ | refine Sg.sub.set_both ?_ | refine Sg.sub.set_fresh ?_ (by first | assumption | exact Sg.set_none (by assumption) (by first | assumption | (apply Go.Cert.ne_of2a; assumption; assumption))))); done) | (intro y p hy; simp only [Sg.set_apply, Sg.del_apply] at hy ⊢; grind))) | (exfalso; omega))
end Go.Proofs.YtjopblbpnedjoaaGreatDoor
