/- Part 13 of the proof: B31, E1, G1, G4, G5, G3, G6, G7, G8, E2, V17, V20, V21, E3, E4, E7. -/
import Derived.Test.YtjopblbpnedjoaaGreatDoorN12
import Derived.Test.YtjopblbpnedjoaaGreatDoorN5
import Derived.Test.YtjopblbpnedjoaaGreatDoorN7
import Derived.Test.YtjopblbpnedjoaaGreatDoorN8
import Derived.Test.YtjopblbpnedjoaaGreatDoorN3
import Derived.Lib.Bytealg
import Derived.Lib.MakeNoZero
import Derived.Test.YtjopblbpnedjoaaGreatDoorN4

set_option linter.all false
set_option maxRecDepth 100000
set_option maxHeartbeats 1000000
open Nat renaming reduceEqDiff → za, reduceAdd → zb, reduceLeDiff → zc, reduceMul → zd, reduceSub → ze
open Int renaming toNat_zero → zh, reduceToNat → zi, tdiv_eq_ediv_of_nonneg → zj
open Go.V.Sg renaming set_same → zk
open Option renaming getD_some → zp
open Go.Cert renaming ne_of2 → zq, ne_ob → zr
open Go.Proofs.Tryz renaming underlying3 → Z3, underlying4 → Z4, underlying9 → Z9, underlying24 → Z24, underlying261 → Z261
set_option linter.unusedSimpArgs false
set_option linter.unusedVariables false
namespace Go.Parse
open Go.V Go.Lex Go.Proofs.YtjopblbpnedjoaaGreatDoor
def Ex.opn : Ex → Int
  | .mk _ op _ _ _ _ => op
def Ex.args : Ex → List Ex
  | .mk _ _ _ _ _ l => l
end Go.Parse
namespace Go.Proofs.YtjopblbpnedjoaaGreatDoor
open Go Go.V Go.Lex Go.Parse
abbrev smA : By := [83, 69, 76, 69, 67, 84, 32, 42, 32, 70, 82, 79, 77, 32, 116, 32, 76, 73, 77, 73, 84, 32, 50]
abbrev smB : By := [49, 32, 43, 32, 50, 32, 42, 32, 45, 51]
theorem smA_ok : (scriptAll smA).2 = (0, 0) ∧ ((scriptAll smA).1.map fun x => (x.k, x.t, x.lim)) = [(6, [116], 2)] := by decide +kernel
theorem smB_ok : (oneAll smB).2 = (0, 0) ∧ (oneAll smB).1.opn = 9 ∧ ((oneAll smB).1.args.map Ex.opn) = [0, 11] := by decide +kernel
theorem eq30 {d : TypeDesc} {a b a' b' : Int} : veqT Tryz.prog 26 d (.agg [.i a, .i b]) (.agg [.i a', .i b']) = some (decide (a = a') && (decide (b = b') && true)) := by
  rw [veqT_agg (by kernel_rfl), veqIn_struct (d := 9999) Tryz.underlying26 (by kernel_rfl)]
  exact veqFs_cons (by decide) (partO_one info24 Z24 rfl) (partO_one info24 Z24 rfl) (veqIn_int Z24) (veqFs_cons (by decide) (partO_one info3 Z3 rfl) (partO_one info3 Z3 rfl) (veqIn_int Z3) rfl)
theorem smA_form : ∃ x : Stm, (scriptAll smA).1 = [x] ∧ x.k = 6 ∧ x.t = [116] ∧ x.lim = 2 := by
  have h := smA_ok.2
  cases hl : (scriptAll smA).1 with
  | nil => rw [hl] at h; cases h
  | cons x r =>
    rw [hl] at h
    simp only [List.map_cons, List.cons.injEq, Prod.mk.injEq, List.map_eq_nil_iff] at h
    obtain ⟨⟨h1, h2, h3⟩, rfl⟩ := h
    exact ⟨x, rfl, h1, h2, h3⟩
theorem smB_form : ∃ k t n v a k2 t2 n2 v2 l2, (oneAll smB).1 = .mk k 9 t n v [a, .mk k2 11 t2 n2 v2 l2] := by
  obtain ⟨_, h1, h2⟩ := smB_ok
  generalize (oneAll smB).1 = e at *
  cases e with
  | mk k op t n v l =>
    cases h1
    cases l with
    | nil => simp [Ex.args] at h2
    | cons a l =>
      cases l with
      | nil => simp [Ex.args] at h2
      | cons b l =>
        cases b with
        | mk k2 op2 t2 n2 v2 l2 =>
          simp only [Ex.args, List.map_cons, List.cons.injEq, Ex.opn, List.map_eq_nil_iff] at h2
          obtain ⟨_, rfl, rfl⟩ := h2
          exact ⟨k, t, n, v, a, k2, t2, n2, v2, l2, rfl⟩
theorem gd0 {α : Type} (a : α) (l : List α) (d : α) : (a :: l).getD 0 d = a := rfl
theorem gd1 {α : Type} (a b : α) (l : List α) (d : α) : (a :: b :: l).getD 1 d = b := rfl
theorem c5 (σ : Sg) : VCalls Tryz.prog 15 [] σ (fun x σ' => x = .b true ∧ σ' = σ) := by
  obtain ⟨z30, h30, hz30⟩ := zero30
  obtain ⟨z27, h27, hz27⟩ := zero27
  obtain ⟨z44, h44, hz44⟩ := zero44
  simp only [ex0, exK_mk, exsA_nil] at hz27
  have h8 : ∀ σ, VCalls Tryz.prog 18 [.s (bs smA)] σ _ := fun σ => c8 smA σ
  have h6 : ∀ σ, VCalls Tryz.prog 19 [.s (bs smB)] σ _ := fun σ => p6 smB σ
  obtain ⟨x, e1, e2, e3, e4⟩ := smA_form
  obtain ⟨k, t, n, v, a, k2, t2, n2, v2, l2, e5⟩ := smB_form
  have hb : exsA [a, .mk k2 11 t2 n2 v2 l2] = [exA a, [.i k2, .i 11, .s (bs t2), .s (bs n2), .i v2.1, .i v2.2.1, .s (bs v2.2.2), .sl .any (exsA l2)]] := by rw [opA, exA_mk]
  have hal := exA_len a
  have e6 : (scriptAll smA).2.1 = 0 := by rw [smA_ok.1]
  have e7 : (scriptAll smA).2.2 = 0 := by rw [smA_ok.1]
  have e8 : (oneAll smB).2.1 = 0 := by rw [smB_ok.1]
  have e9 : (oneAll smB).2.2 = 0 := by rw [smB_ok.1]
  rw [e1, e6, e7] at h8
  rw [e5, e8, e9] at h6
  simp only [List.map_cons, List.map_nil, stmA, e2, e3, e4] at h8
  rw [exA_mk, hb] at h6
  generalize exA a = A at *
  (refine vfun (fun _ => .no) mixed Tryz.func15 (by kernel_rfl) ?_; simp only [bodyOf, Tryz.f15, zp])
  repeat' (first | with_reducible rfl | exact .inr trivial | (with_reducible first | apply And.intro | apply vqx_step | apply vqm_step | refine vkp_free (by decide +kernel) ?_ | intro _) | ((first | (with_reducible first | refine .rs ?_ | refine .ds (by kernel_rfl) ?_ | refine .dg (by kernel_rfl) ?_ | refine .rg ?_ | refine .ite ?_ | refine .ret ?_ | refine .skip ?_ | refine .exit ?_ | refine .scope ?_ | refine .seq (.label ?_) | refine .block ?_ | refine .seq ?_) | (simp (disch := first | assumption | (apply zq; assumption; assumption) | (apply zr; assumption; assumption; (intro e; cases e; done)) | omega) only [w64, w8, tg_eq, Go.V.n1, Go.V.n2, Go.V.nn, zj, zk, Sg.set_ne, Sg.set_ne', Sg.del_ne, Sg.del_ne']) | ((with_reducible refine VCalls.mono (h8 _) ?_); rintro _ S ⟨rfl, rfl⟩) | ((with_reducible refine VCalls.mono (h6 _) ?_); rintro _ S ⟨rfl, rfl⟩) | (refine vlo_app Go.Cert.lk ?_) | (refine vst_app Go.Cert.lk ?_)); (try simp only [vO, vQ, ↓vP, vE, vS, vB, vL, vF, vM, vN, vbs_full, za, zb, zc, ne_eq, not_false_eq_true, zd, ze, zh, zi, Z3, info3, Z4, info4, Z9, info9, Z24, info24, Tryz.underlying26, h30, hz30, Tryz.underlying37, h27, hz27, Tryz.underlying35, info35, Tryz.underlying30, info30, Tryz.underlying54, h44, hz44, eq30, hal, gd0, gd1, decide_true, Bool.and_self, vT])) | (with_reducible first | refine vfresh_set ?_ | refine vfresh_intro (fun _ _ => ?_) | refine vif_intro (fun _ => ?_) (fun _ => ?_)) | omega | ((with_reducible first | refine vop_at ?_ | refine vops_at ?_ | refine vquiet_at ?_ | refine vmix_at ?_ | refine Holds_at ?_); simp only [vO, vQ, ↓vP, vE, vS, vB, vL, vF, vM, vN, vbs_full, za, zb, zc, ne_eq, not_false_eq_true, zd, ze, zh, zi, Z3, info3, Z4, info4, Z9, info9, Z24, info24, Tryz.underlying26, h30, hz30, Tryz.underlying37, h27, hz27, Tryz.underlying35, info35, Tryz.underlying30, info30, Tryz.underlying54, h44, hz44, eq30, hal, gd0, gd1, decide_true, Bool.and_self, vT]))
  all_goals (first | ((first | refine ⟨_, ?_, rfl⟩ | refine ⟨_, ?_, rfl, rfl⟩ | refine ⟨_, ?_⟩); (first | exact Sg.sub.refl _ | ((repeat (first | exact Sg.sub.refl _ | refine Sg.sub.set_both ?_ | refine Sg.sub.set_fresh ?_ (by first | assumption | exact Sg.set_none (by assumption) (by first | assumption | (apply Go.Cert.ne_of2a; assumption; assumption))))); done) | (intro y p hy; simp only [Sg.set_apply, Sg.del_apply] at hy ⊢; grind))) | (exfalso; omega))
end Go.Proofs.YtjopblbpnedjoaaGreatDoor

set_option linter.unusedVariables false
namespace Go.Lex
open Go.V Go.Proofs.YtjopblbpnedjoaaGreatDoor
def dec (n : Nat) : List UInt8 := if _h : n < 10 then [UInt8.ofNat (48 + n)] else dec (n / 10) ++ [UInt8.ofNat (48 + n % 10)]
theorem dec_lt {n : Nat} (h : n < 10) : dec n = [UInt8.ofNat (48 + n)] := by rw [dec, dif_pos h]
theorem dec_ge {n : Nat} (h : ¬ n < 10) : dec n = dec (n / 10) ++ [UInt8.ofNat (48 + n % 10)] := by rw [dec, dif_neg h]
theorem ofNat_toNat {n : Nat} (h : n < 10) : (UInt8.ofNat (48 + n)).toNat = 48 + n := by
  rw [UInt8.toNat_ofNat']
  omega
theorem dec_digit : ∀ (n : Nat), ∀ c ∈ dec n, isDigit c = true := by
  intro n
  induction n using Nat.strongRecOn with
  | ind n ih =>
    intro c hc
    have key : ∀ m, m < 10 → isDigit (UInt8.ofNat (48 + m)) = true := fun m hm => by
      unfold isDigit
      rw [ofNat_toNat hm]
      simp
      omega
    by_cases h : n < 10
    · rw [dec_lt h] at hc
      simp only [List.mem_singleton] at hc
      rw [hc]
      exact key n h
    · rw [dec_ge h, List.mem_append] at hc
      rcases hc with hc | hc
      · exact ih _ (by omega) c hc
      · simp only [List.mem_singleton] at hc
        rw [hc]
        exact key _ (by omega)
theorem dec_ne (n : Nat) : dec n ≠ [] := by
  by_cases h : n < 10
  · rw [dec_lt h]; simp
  · rw [dec_ge h]; simp
theorem num_app (a : List UInt8) : ∀ (n m : Nat) (b : List UInt8), num a n = some m → num (a ++ b) n = num b m := by
  induction a with
  | nil => intro n m b h; cases h; rfl
  | cons c r ih =>
    intro n m b h
    rw [List.cons_append]
    rw [num] at h
    rw [num]
    by_cases ho : 9223372036854775807 < 10 * n + (c.toNat - 48)
    · rw [if_pos ho] at h; cases h
    · rw [if_neg ho] at h; rw [if_neg ho]; exact ih _ _ _ h
theorem num_dec : ∀ (n : Nat), n ≤ 9223372036854775807 → num (dec n) 0 = some n := by
  intro n
  induction n using Nat.strongRecOn with
  | ind n ih =>
    intro hn
    by_cases h : n < 10
    · rw [dec_lt h]
      unfold num
      rw [ofNat_toNat h, if_neg (by omega)]
      unfold num
      congr 1
      omega
    · rw [dec_ge h, num_app _ _ _ _ (ih (n / 10) (by omega) (by omega))]
      unfold num
      rw [ofNat_toNat (by omega), if_neg (by omega)]
      unfold num
      congr 1
      omega
theorem pre_full {p : UInt8 → Bool} : ∀ {a b : List UInt8}, (∀ c ∈ a, p c = true) → (∀ c r, b = c :: r → p c = false) → pre p (a ++ b) = a.length
  | [], [], _, _ => rfl
  | [], c :: r, _, h => by
    unfold pre
    rw [List.nil_append, List.takeWhile_cons, if_neg (by rw [h c r rfl]; simp)]
  | x :: a, b, h1, h2 => by
    have := pre_full (p := p) (a := a) (b := b) (fun c hc => h1 c (by simp [hc])) h2
    unfold pre at this ⊢
    rw [List.cons_append, List.takeWhile_cons, if_pos (h1 x (by simp)), List.length_cons, this, List.length_cons]
theorem dig_not {c : UInt8} (h : isDigit c = true) : c.toNat ≠ 39 ∧ isFirst c = false ∧ isGreat c = false ∧ ws c = false ∧ c.toNat ≠ 45 := by
  have h1 : 48 ≤ c.toNat ∧ c.toNat ≤ 57 := by simpa [isDigit] using h
  refine ⟨by omega, ?_, ?_, ?_, by omega⟩
  · unfold isFirst
    rw [decide_eq_false (by omega), decide_eq_false (p := c.toNat = 95) (by omega)]
    rfl
  · unfold isGreat
    rw [decide_eq_false (by omega)]
    rfl
  · cases hh : ws c with
    | false => rfl
    | true => have := (ws_iff c).1 hh; omega
def Loose (b : List UInt8) : Prop := ∀ c r, b = c :: r → isSmall c = false ∧ isGreat c = false
theorem loose_nil : Loose [] := fun _ _ h => by cases h
theorem loose_blank (r : List UInt8) : Loose (32 :: r) := fun c r' h => by cases h; exact ⟨by decide, by decide⟩
theorem blanks_head {c : UInt8} {r : List UInt8} (hw : ws c = false) (h : c.toNat ≠ 45) : blanks (c :: r) = 0 := by
  have := blanks_end (l := c :: r) (k := 0) (by simp) hw (no_dd (by simp) h)
  simpa using this
theorem glue_loose {a b : List UInt8} (h : Loose b) : glue (a ++ b) a.length = false := by
  cases b with
  | nil => exact noglue2 (by simp)
  | cons c r =>
    have hc := h c r rfl
    have hg : (a ++ c :: r).getD a.length 0 = c := by
      rw [List.getD_eq_getElem?_getD, List.getElem?_append_right (Nat.le_refl _)]
      simp
    exact noglue1 (by rw [hg, hc.1]; simp) (by rw [hg, hc.2]; simp)
theorem tok1_dec {n : Nat} (hn : n ≤ 9223372036854775807) {b : List UInt8} (hb : Loose b) : tok1 (dec n ++ b) = .ok (3, [], n, (dec n).length) := by
  have hd := dec_digit n
  cases h0 : dec n with
  | nil => exact absurd h0 (dec_ne n)
  | cons c r =>
    have hc := hd c (by rw [h0]; simp)
    obtain ⟨g1, g2, g3, _⟩ := dig_not hc
    have hg : (c :: r ++ b).getD 0 0 = c := rfl
    have hp : pre isDigit (c :: r ++ b) = (c :: r).length := by
      refine pre_full (fun x hx => hd x (by rw [h0]; exact hx)) (fun x r' hx => ?_)
      have := (hb x r' hx).1
      unfold isSmall at this
      simpa using (Bool.or_eq_false_iff.1 this).2
    unfold tok1
    rw [hg, if_neg g1, if_neg (by rw [g2]; simp), if_neg (by rw [g3]; simp), if_pos hc, hp]
    refine wl_ok (wordT_3 (glue_loose hb) ?_)
    rw [List.take_left, ← h0]
    exact num_dec n hn
theorem dec_head {n : Nat} {b : List UInt8} : blanks (dec n ++ b) = 0 := by
  cases h0 : dec n with
  | nil => exact absurd h0 (dec_ne n)
  | cons c r =>
    have hc := dec_digit n c (by rw [h0]; simp)
    obtain ⟨_, _, _, g4, g5⟩ := dig_not hc
    exact blanks_head g4 g5
def quo : List UInt8 → List UInt8
  | [] => []
  | c :: r => if c = 39 then 39 :: 39 :: quo r else c :: quo r
def quoteL (t : List UInt8) : List UInt8 := 39 :: (quo t ++ [39])
theorem qd_quo {b : List UInt8} (hb : ∀ c r, b = c :: r → c ≠ 39) : ∀ t : List UInt8, qd (quo t ++ 39 :: b) = some (t, (quo t).length + 1)
  | [] => qd_close hb
  | c :: r => by
    have ih := qd_quo hb r
    unfold quo
    split
    · rename_i h
      rw [List.cons_append, List.cons_append, qd_two, ih, h]
      simp [qa]
      omega
    · rename_i h
      rw [List.cons_append, qd_other h, ih]
      simp [qa]
      omega
theorem tok1_quote {t b : List UInt8} (ht : t.length ≤ 40) (hb : ∀ c r, b = c :: r → c ≠ 39) : tok1 (quoteL t ++ b) = .ok (4, t, 0, (quoteL t).length) := by
  have h0 : quoteL t ++ b = 39 :: (quo t ++ 39 :: b) := by unfold quoteL; simp
  have hq : qd ((39 :: (quo t ++ 39 :: b)).drop 1) = some (t, (quo t).length + 1) := qd_quo hb t
  rw [h0, tok1_q (by rfl), quotedT_ok hq (by omega)]
  have : (quoteL t).length = 1 + ((quo t).length + 1) := by unfold quoteL; simp; omega
  rw [this]
theorem quote_head {t b : List UInt8} : blanks (quoteL t ++ b) = 0 := blanks_head (by decide) (by decide)
theorem toks_one {r : List UInt8} {k v : Nat} {t : List UInt8} (hr : r ≠ []) (hb : blanks r = 0) (ht : tok1 r = .ok (k, t, v, r.length)) (a : Nat) : toks r a = .ok [(k, t, v, a), (6, [], 0, a + r.length)] := by
  have hp : 0 < r.length := List.length_pos_iff.2 hr
  rw [toks_ok (by rw [hb]; exact hp) (by rw [hb]; exact ht), hb]
  have he : r.drop (0 + r.length) = [] := by rw [Nat.zero_add, List.drop_length]
  rw [he, toks_end (by simp)]
  have : blanks [] = 0 := blanks_stop rfl
  rw [this]
  simp [appE]
theorem quo_len : ∀ t : List UInt8, (quo t).length ≤ 2 * t.length
  | [] => Nat.le_refl _
  | c :: r => by
    have := quo_len r
    unfold quo
    split <;> simp <;> omega
theorem dec_len : ∀ n : Nat, ∀ k, n < 10 ^ (k + 1) → (dec n).length ≤ k + 1 := by
  intro n
  induction n using Nat.strongRecOn with
  | ind n ih =>
    intro k hk
    by_cases h : n < 10
    · rw [dec_lt h]; simp
    · cases k with
      | zero => omega
      | succ k =>
        rw [dec_ge h, List.length_append]
        have := ih (n / 10) (by omega) k (by rw [Nat.pow_succ] at hk; omega)
        simp
        omega
end Go.Lex

set_option linter.unusedVariables false
namespace Go.Print
open Go.V Go.Lex Go.Parse Go.Proofs.YtjopblbpnedjoaaGreatDoor
inductive Tr
  | val (v : Vl)
  | col (t n : By)
  | not (e : Tr)
  | neg (e : Tr)
  | null (e : Tr)
  | op (k : Nat) (a b : Tr)
def Tr.ex : Tr → Ex
  | .val v => .mk 1 0 [] [] v []
  | .col t n => .mk 2 0 t n v0 []
  | .op k a b => opE k a.ex b.ex
  | .not e => ofE 4 e.ex
  | .neg e => ofE 5 e.ex
  | .null e => ofE 6 e.ex
def isNm (s : By) : Bool := decide (s ≠ []) && decide (s.length ≤ 16) && isFirst (s.getD 0 0) && decide (pre isSmall s = s.length)
def bareV (k n : Int) (t : By) : Int × By := if k = 0 then (0, []) else if k = 1 then (n, []) else if k = 2 then (0, t) else (n, t)
def rightV (k n : Int) (t : By) : Int := if k < 0 ∨ 2 < k ∨ bareV k n t ≠ (n, t) then 4 else if 40 < t.length then 2 else 0
def okV (v : Vl) : Bool := decide (rightV v.1 v.2.1 v.2.2 = 0) && decide (v.2.1 ≠ -9223372036854775808)
def Tr.wf : Tr → Prop
  | .val v => okV v = true
  | .col t n => isNm n = true ∧ (t = [] ∨ isNm t = true)
  | .op k a b => (1 ≤ k ∧ k ≤ 13) ∧ a.wf ∧ b.wf
  | .not e => e.wf
  | .neg e => e.wf
  | .null e => e.wf
def _root_.Go.Parse.Ex.kd : Ex → Int
  | .mk k _ _ _ _ _ => k
def ops : List By := [[], [79, 82], [65, 78, 68], [61], [60, 62], [60], [60, 61], [62], [62, 61], [43], [45], [42], [47], [37]]
def lvK (k : Nat) : Nat := if k ≤ 2 then k else if k ≤ 8 then 4 else if k ≤ 10 then 5 else 6
def Tr.lvl : Tr → Nat
  | .not (.null _) => 4
  | .not _ => 3
  | .null _ => 4
  | .op k _ _ => lvK k
  | _ => 7
def lftK (k : Nat) : Nat := if lvK k = 4 then 5 else lvK k
def Tr.pos : Tr → Bool
  | .val v => decide (v.1 = 1 ∧ 0 ≤ v.2.1)
  | _ => false
def lo (e : Tr) (k : Nat) : Bool := decide (e.lvl < k)
def bd (b : Bool) : Nat := if b then 1 else 0
def Tr.dp : Tr → Nat
  | .val _ => 0
  | .col _ _ => 0
  | .null e => bd (lo e 5) + e.dp
  | .neg e => 1 + (bd e.pos + (bd (lo e 7) + e.dp))
  | .not (.null x) => bd (lo x 5) + x.dp
  | .not e => 1 + (bd (lo e 3) + e.dp)
  | .op k a b => max (bd (lo a (lftK k)) + a.dp) (bd (lo b (lvK k + 1)) + b.dp)
def Tr.isNull : Tr → Bool
  | .null _ => true
  | _ => false
def txt (t : Tk) : By := if t.1 = 3 then dec t.2.2.1 else if t.1 = 4 then quoteL t.2.1 else t.2.1
def joinS : List By → By
  | [] => []
  | [x] => x
  | x :: y :: r => x ++ 32 :: joinS (y :: r)
def txts (l : List Tk) : List By := (l.filter fun t => decide (t.1 ≠ 6)).map txt
def writeT (l : List Tk) : By := joinS (txts l)
def fin (l : List Tk) (deep : Nat) : By × Int := if 10 < deep then ([], 10) else if 2000 < (writeT l).length then ([], 2) else (writeT l, 0)
end Go.Print

set_option linter.unusedVariables false
namespace Go.Print
open Go.V Go.Lex Go.Parse Go.Proofs.YtjopblbpnedjoaaGreatDoor
def GoodT (t : Tk) : Prop :=
  (t.1 = 1 ∧ isNm t.2.1 = true ∧ t.2.2.1 = 0) ∨ (t.1 = 2 ∧ isKnown t.2.1 = true ∧ t.2.2.1 = 0) ∨ (t.1 = 3 ∧ t.2.1 = [] ∧ t.2.2.1 ≤ 9223372036854775807) ∨
  (t.1 = 4 ∧ t.2.1.length ≤ 40 ∧ t.2.2.1 = 0) ∨ (t.1 = 5 ∧ t.2.1 ∈ signs ∧ t.2.2.1 = 0)
def noAt (t : Tk) : Nat × By × Nat := (t.1, t.2.1, t.2.2.1)
def Sp1 (b : By) : Prop := b = [] ∨ ∃ r, b = 32 :: r
theorem Sp1.loose {b : By} (h : Sp1 b) : Loose b := by
  rcases h with rfl | ⟨r, rfl⟩
  · exact loose_nil
  · exact loose_blank r
theorem Sp1.head {b : By} (h : Sp1 b) {c : UInt8} {r : By} (e : b = c :: r) : c = 32 := by
  rcases h with rfl | ⟨r', rfl⟩
  · cases e
  · cases e; rfl
theorem isNm_iff {s : By} (h : isNm s = true) : s ≠ [] ∧ s.length ≤ 16 ∧ isFirst (s.getD 0 0) = true ∧ pre isSmall s = s.length := by
  unfold isNm at h
  simp only [Bool.and_eq_true, decide_eq_true_eq] at h
  exact ⟨h.1.1.1, h.1.1.2, h.1.2, h.2⟩
theorem pre_all_of {p : UInt8 → Bool} : ∀ {s : By}, pre p s = s.length → ∀ c ∈ s, p c = true
  | [], _, c, hc => by cases hc
  | x :: s, h, c, hc => by
    unfold pre at h
    rw [List.takeWhile_cons] at h
    split at h
    · rename_i hx
      rcases List.mem_cons.1 hc with rfl | hc
      · exact hx
      · refine pre_all_of (s := s) ?_ c hc
        simpa [pre] using h
    · simp at h
theorem getD_app {s b : By} (h : s ≠ []) : (s ++ b).getD 0 0 = s.getD 0 0 := by
  cases s with
  | nil => exact absurd rfl h
  | cons => rfl
theorem known_mem {s : By} (h : isKnown s = true) : s ∈ words := by
  have h := of_decide_eq_true h
  unfold idx at h
  refine Classical.byContradiction fun hn => ?_
  have : words.takeWhile (fun w => w != s) = words := by
    have hall : ∀ w ∈ words, (fun w => w != s) w = true := fun w hw => by
      simp only [bne_iff_ne, ne_eq]
      intro e
      subst e
      exact hn hw
    generalize words = l at hall
    induction l with
    | nil => rfl
    | cons a r ih => rw [List.takeWhile_cons, if_pos (hall a (by simp)), ih (fun w hw => hall w (by simp [hw]))]
  rw [this] at h
  omega
theorem words_great : ∀ s ∈ words, s ≠ [] ∧ (∀ c ∈ s, isGreat c = true) ∧ isGreat (s.getD 0 0) = true := by decide +kernel
theorem tok1_name {s b : By} (h : isNm s = true) (hb : Sp1 b) : tok1 (s ++ b) = .ok (1, s, 0, s.length) := by
  obtain ⟨h0, h1, h2, h3⟩ := isNm_iff h
  have hp : pre isSmall (s ++ b) = s.length := pre_full (pre_all_of h3) (fun c r e => (hb.loose c r e).1)
  rw [tok1_1 (by rw [getD_app h0]; exact h2), hp]
  refine wl_ok ?_
  rw [wordT_1 (glue_loose hb.loose), if_neg (by omega), List.take_left]
theorem tok1_word {s b : By} (h : isKnown s = true) (hb : Sp1 b) : tok1 (s ++ b) = .ok (2, s, 0, s.length) := by
  obtain ⟨h0, h1, h2⟩ := words_great s (known_mem h)
  have hp : pre isGreat (s ++ b) = s.length := pre_full h1 (fun c r e => (hb.loose c r e).2)
  rw [tok1_2 (by rw [getD_app h0]; exact h2), hp]
  refine wl_ok ?_
  rw [wordT_2 (glue_loose hb.loose), List.take_left, if_pos h]
theorem signs_heads : ∀ s ∈ signs, s ≠ [] ∧ (s.getD 0 0).toNat ≠ 39 ∧ isFirst (s.getD 0 0) = false ∧ isGreat (s.getD 0 0) = false ∧ isDigit (s.getD 0 0) = false ∧ ws (s.getD 0 0) = false ∧ (s.getD 1 0).toNat ≠ 45 := by decide +kernel
theorem hasPre_sp {m s b : By} (hm : 32 ∉ m) (hb : Sp1 b) : hasPre m (s ++ b) = hasPre m s := by
  rcases hb with rfl | ⟨r, rfl⟩
  · rw [List.append_nil]
  · induction m generalizing s with
    | nil => rfl
    | cons a m ih =>
      have ha : (32 : UInt8) ≠ a := fun e => hm (by simp [e])
      have hm' : 32 ∉ m := fun h => hm (by simp [h])
      cases s with
      | nil =>
        rw [List.nil_append, hasPre_cons, decide_eq_false ha]
        exact (hasPre_short (by simp)).symm
      | cons c s => rw [List.cons_append, hasPre_cons, hasPre_cons, ih hm']
theorem signs_plain : ∀ m ∈ signs, (32 : UInt8) ∉ m := by decide +kernel
theorem signs_find : ∀ s ∈ signs, signs.find? (fun x => hasPre x s) = some s := by decide +kernel
theorem tok1_sign {s b : By} (h : s ∈ signs) (hb : Sp1 b) : tok1 (s ++ b) = .ok (5, s, 0, s.length) := by
  obtain ⟨h0, h1, h2, h3, h4, _, _⟩ := signs_heads s h
  rw [tok1_s (by rw [getD_app h0]; exact h1) (by rw [getD_app h0, h2]; simp) (by rw [getD_app h0, h3]; simp) (by rw [getD_app h0, h4]; simp)]
  have : signs.find? (fun x => hasPre x (s ++ b)) = some s := by
    rw [find_congr signs _ (fun x => hasPre x s) (fun x hx => hasPre_sp (signs_plain x hx) hb)]
    exact signs_find s h
  rw [this]
theorem tok1_txt {t : Tk} {b : By} (h : GoodT t) (hb : Sp1 b) : tok1 (txt t ++ b) = .ok (t.1, t.2.1, t.2.2.1, (txt t).length) := by
  obtain ⟨k, s, n, a⟩ := t
  rcases h with ⟨rfl, h1, rfl⟩ | ⟨rfl, h1, rfl⟩ | ⟨rfl, rfl, h1⟩ | ⟨rfl, h1, rfl⟩ | ⟨rfl, h1, rfl⟩
  · exact tok1_name h1 hb
  · exact tok1_word h1 hb
  · exact tok1_dec h1 hb.loose
  · exact tok1_quote h1 (fun c r e => by rw [hb.head e]; decide)
  · exact tok1_sign h1 hb
theorem head_small {c : UInt8} (h : isSmall c = true ∨ isGreat c = true) : ws c = false ∧ c.toNat ≠ 45 := by
  have h1 : (97 ≤ c.toNat ∧ c.toNat ≤ 122 ∨ c.toNat = 95) ∨ (48 ≤ c.toNat ∧ c.toNat ≤ 57) ∨ (65 ≤ c.toNat ∧ c.toNat ≤ 90) := by
    rcases h with h | h
    · simp only [isSmall, isFirst, isDigit, Bool.or_eq_true, Bool.and_eq_true, decide_eq_true_eq] at h
      rcases h with (h | h) | h
      · exact .inl (.inl h)
      · exact .inl (.inr h)
      · exact .inr (.inl h)
    · simp only [isGreat, Bool.and_eq_true, decide_eq_true_eq] at h
      exact .inr (.inr h)
  refine ⟨?_, by omega⟩
  cases hw : ws c with
  | false => rfl
  | true => have := (ws_iff c).1 hw; omega
theorem txt_head {t : Tk} {b : By} (h : GoodT t) (hb : Sp1 b) : blanks (txt t ++ b) = 0 ∧ txt t ≠ [] := by
  obtain ⟨k, s, n, a⟩ := t
  rcases h with ⟨rfl, h1, rfl⟩ | ⟨rfl, h1, rfl⟩ | ⟨rfl, rfl, h1⟩ | ⟨rfl, h1, rfl⟩ | ⟨rfl, h1, rfl⟩
  · obtain ⟨h0, _, h2, _⟩ := isNm_iff h1
    have := head_small (c := s.getD 0 0) (.inl (by unfold isSmall; rw [h2]; rfl))
    refine ⟨?_, h0⟩
    show blanks (s ++ b) = 0
    cases s with
    | nil => exact absurd rfl h0
    | cons c r => exact blanks_head this.1 this.2
  · obtain ⟨h0, _, h2⟩ := words_great s (known_mem h1)
    have := head_small (c := s.getD 0 0) (.inr h2)
    refine ⟨?_, h0⟩
    show blanks (s ++ b) = 0
    cases s with
    | nil => exact absurd rfl h0
    | cons c r => exact blanks_head this.1 this.2
  · exact ⟨dec_head, dec_ne n⟩
  · exact ⟨quote_head, by show quoteL s ≠ []; unfold quoteL; simp⟩
  · obtain ⟨h0, _, _, _, _, h5, h6⟩ := signs_heads s h1
    refine ⟨?_, h0⟩
    show blanks (s ++ b) = 0
    refine blanks_stop ?_
    cases s with
    | nil => exact absurd rfl h0
    | cons c r =>
      have hdd : hasPre [45, 45] ((c :: r) ++ b) = false := by
        rw [hasPre_sp (by decide) hb]
        cases r with
        | nil => exact hasPre_short (by simp)
        | cons d r =>
          have hd : d.toNat ≠ 45 := h6
          rw [hasPre_cons, hasPre_cons]
          have : decide (d = 45) = false := decide_eq_false (fun e => hd (by rw [e]; rfl))
          rw [this]; simp
      have := bstep_at (l := (c :: r) ++ b) (k := 0) (by simp)
      rw [List.drop_zero] at this
      rw [this, hdd]
      have hc : ws (((c :: r) ++ b).getD 0 0) = false := h5
      rw [hc]
      simp
theorem blanks_sp (R : By) : blanks (32 :: R) = 1 + blanks R := by
  have hb : bstep (32 :: R) = 1 := by
    have := bstep_at (l := 32 :: R) (k := 0) (by simp)
    rw [List.drop_zero] at this
    rw [this]
    exact if_pos (by rfl)
  rw [blanks_step (by rw [hb]; decide), hb]
  rfl
theorem toks_sp (R : By) (a : Nat) : toks (32 :: R) a = toks R (a + 1) := toks_skip (R := 32 :: R) (c := 1) (by simp) (blanks_sp R)
theorem toks_back : ∀ (l : List Tk) (a : Nat), (∀ t ∈ l, GoodT t) → ∃ m, toks (joinS (l.map txt)) a = .ok (m ++ [(6, [], 0, a + (joinS (l.map txt)).length)]) ∧ m.map noAt = l.map noAt
  | [], a, _ => ⟨[], by
      have : blanks [] = 0 := blanks_stop rfl
      show toks [] a = _
      rw [toks_end (by simp), this]; rfl, rfl⟩
  | [x], a, h => by
    have hx := h x (by simp)
    obtain ⟨h1, h2⟩ := txt_head (b := []) hx (.inl rfl)
    have h3 := tok1_txt (b := []) hx (.inl rfl)
    rw [List.append_nil] at h1 h3
    exact ⟨[(x.1, x.2.1, x.2.2.1, a)], toks_one h2 h1 h3 a, rfl⟩
  | x :: y :: r, a, h => by
    have hx := h x (by simp)
    have e : joinS ((x :: y :: r).map txt) = txt x ++ 32 :: joinS ((y :: r).map txt) := rfl
    obtain ⟨m, hm1, hm2⟩ := toks_back (y :: r) (a + (txt x).length + 1) (fun t ht => h t (by simp [ht]))
    have hsp : Sp1 (32 :: joinS ((y :: r).map txt)) := .inr ⟨_, rfl⟩
    obtain ⟨h1, h2⟩ := txt_head hx hsp
    have h3 := tok1_txt hx hsp
    refine ⟨(x.1, x.2.1, x.2.2.1, a) :: m, ?_, by rw [List.map_cons, hm2]; rfl⟩
    rw [e]
    have hl : 0 < (txt x ++ 32 :: joinS ((y :: r).map txt)).length := by simp only [List.length_append, List.length_cons]; omega
    rw [toks_ok (by rw [h1]; exact hl) (by rw [h1]; exact h3), h1, Nat.zero_add, List.drop_left, toks_sp, Nat.add_zero, hm1]
    simp [appE]
    omega
theorem num_le : ∀ (r : By) (n v : Nat), n ≤ 9223372036854775807 → num r n = some v → v ≤ 9223372036854775807
  | [], n, v, hn, h => by cases h; exact hn
  | c :: r, n, v, hn, h => by
    rw [num] at h
    split at h
    · cases h
    · exact num_le r _ v (by omega) h
theorem tw_tw {p : UInt8 → Bool} : ∀ r : By, (r.takeWhile p).takeWhile p = r.takeWhile p
  | [] => rfl
  | c :: r => by
    rw [List.takeWhile_cons]
    split
    · rename_i h; rw [List.takeWhile_cons, if_pos h, tw_tw r]
    · rfl
theorem tok1_good {r t : By} {k v n : Nat} (h : tok1 r = .ok (k, t, v, n)) (a : Nat) : GoodT (k, t, v, a) := by
  have hwl : ∀ kd m, wl kd r m = .ok (k, t, v, n) → wordT kd r m = .ok (k, t, v) := fun kd m hw => by
    unfold wl at hw
    cases hw' : wordT kd r m with
    | error e => rw [hw'] at hw; cases hw
    | ok q => rw [hw'] at hw; cases hw; rfl
  unfold tok1 at h
  split at h
  · unfold quotedT at h
    split at h
    · cases h
    · split at h
      · cases h
      · rename_i hl
        cases h
        exact .inr (.inr (.inr (.inl ⟨rfl, by show t.length ≤ 40; omega, rfl⟩)))
  · split at h
    · rename_i hf
      have hw := hwl _ _ h
      unfold wordT at hw
      split at hw
      · cases hw
      · rename_i hg
        simp only [za, if_false, if_true] at hw
        split at hw
        · cases hw
        · rename_i hl
          cases hw
          refine .inl ⟨rfl, ?_, rfl⟩
          have h0 : 0 < r.length := by
            cases r with
            | nil => simp [isFirst] at hf
            | cons => simp
          have hp : 0 < pre isSmall r := by
            have hs : isSmall (r.getD 0 0) = true := by unfold isSmall; rw [hf]; rfl
            have := pre_yes (p := isSmall) (l := r) (k := 0) h0 hs
            rw [List.drop_zero] at this
            omega
          have hlen : (r.take (pre isSmall r)).length = pre isSmall r := by
            rw [List.length_take]
            have := pre_le isSmall r
            omega
          unfold isNm
          simp only [Bool.and_eq_true, decide_eq_true_eq]
          refine ⟨⟨⟨?_, by rw [hlen]; omega⟩, ?_⟩, ?_⟩
          · exact fun e => by rw [e] at hlen; simp at hlen; omega
          · have : (r.take (pre isSmall r)).getD 0 0 = r.getD 0 0 := by
              simp [List.getD_eq_getElem?_getD, List.getElem?_take, hp]
            rw [this]; exact hf
          · have : r.take (pre isSmall r) = r.takeWhile isSmall := by
              unfold pre
              exact (List.prefix_iff_eq_take.1 (List.takeWhile_prefix _)).symm
            rw [this]
            unfold pre
            rw [tw_tw]
    · split at h
      · have hw := hwl _ _ h
        unfold wordT at hw
        split at hw
        · cases hw
        · simp only [if_true] at hw
          split at hw
          · rename_i hk
            cases hw
            exact .inr (.inl ⟨rfl, hk, rfl⟩)
          · cases hw
      · split at h
        · have hw := hwl _ _ h
          unfold wordT at hw
          split at hw
          · cases hw
          · simp only [za, if_false, if_true] at hw
            split at hw
            · rename_i w hn
              cases hw
              exact .inr (.inr (.inl ⟨rfl, rfl, num_le _ _ _ (Nat.zero_le _) hn⟩))
            · cases hw
        · split at h
          · rename_i x hx
            cases h
            exact .inr (.inr (.inr (.inr ⟨rfl, List.mem_of_find?_eq_some hx, rfl⟩)))
          · cases h
theorem toks_good : ∀ (n : Nat) (r : By) (a : Nat) (l : List Tk), r.length ≤ n → toks r a = .ok l → ∃ i, l = i ++ [(6, [], 0, a + r.length)] ∧ ∀ t ∈ i, GoodT t := by
  intro n
  induction n with
  | zero =>
    intro r a l hr h
    have : r = [] := List.eq_nil_of_length_eq_zero (by omega)
    subst this
    rw [toks_end (by simp)] at h
    cases h
    exact ⟨[], by rw [show blanks [] = 0 from blanks_stop rfl]; rfl, fun t ht => by cases ht⟩
  | succ n ih =>
    intro r a l hr h
    rcases Nat.lt_or_ge (blanks r) r.length with hb | hb
    · cases ht : tok1 (r.drop (blanks r)) with
      | error e => rw [toks_err hb ht] at h; cases h
      | ok q =>
        obtain ⟨k, t, v, m⟩ := q
        rw [toks_ok hb ht] at h
        have hg := tok1_good ht (a + blanks r)
        have hm := tok1_len (by rw [List.length_drop]; omega) ht
        cases hq : toks (r.drop (blanks r + m)) (a + blanks r + m) with
        | error e => rw [hq] at h; cases h
        | ok l' =>
          rw [hq] at h
          cases h
          obtain ⟨i, hi, hgi⟩ := ih _ _ _ (by rw [List.length_drop]; omega) hq
          subst hi
          refine ⟨(k, t, v, a + blanks r) :: i, ?_, fun x hx => ?_⟩
          · rw [List.length_drop] at hm
            simp only [List.singleton_append, List.cons_append, List.length_drop]
            rw [show a + blanks r + m + (r.length - (blanks r + m)) = a + r.length by omega]
            rfl
          · rcases List.mem_cons.1 hx with rfl | hx
            · exact hg
            · exact hgi x hx
    · rw [toks_end hb] at h
      cases h
      have := blanks_le r
      exact ⟨[], by rw [show blanks r = r.length by omega]; rfl, fun t ht => by cases ht⟩
end Go.Print

set_option linter.unusedVariables false
namespace Go.Parse
open Go.V Go.Lex Go.Proofs.YtjopblbpnedjoaaGreatDoor
def fT (t : Tk) : Tk := (t.1, t.2.1, t.2.2.1, 0)
def Rd.fg (s : Rd) : Rd := ⟨s.l.map fT, s.d, s.c, 0⟩
def Fg {β : Type} (F : Rd → β × Rd) : Prop := ∀ s, F s.fg = ((F s).1, (F s).2.fg)
theorem getD_fg (l : List Tk) (k : Nat) : (l.map fT).getD k (0, [], 0, 0) = fT (l.getD k (0, [], 0, 0)) := by
  simp only [List.getD_eq_getElem?_getD, List.getElem?_map]
  cases l[k]? <;> rfl
theorem hd_fg (s : Rd) : hd s.fg.l = fT (hd s.l) := getD_fg s.l 0
theorem c_fg (s : Rd) : s.fg.c = s.c := rfl
theorem len_fg (s : Rd) : s.fg.l.length = s.l.length := by unfold Rd.fg; simp
theorem next_fg (s : Rd) : s.fg.next = s.next.fg := by
  unfold Rd.fg Rd.next
  simp [List.map_tail]
theorem fail_fg (s : Rd) (e : Int) : s.fg.fail e = (s.fail e).fg := by
  unfold Rd.fail
  rw [hd_fg, c_fg]
  by_cases h : s.c = 0
  · rw [if_pos h, if_pos h]; rfl
  · rw [if_neg h, if_neg h]
theorem is_fg (s : Rd) (ws : List By) : s.fg.is ws = s.is ws := by
  unfold Rd.is
  rw [hd_fg, c_fg]
  rfl
theorem pass_fg (s : Rd) (ws : List By) : s.fg.pass ws = (s.pass ws).fg := by
  unfold Rd.pass
  rw [is_fg, next_fg]
  split <;> rfl
theorem has_fg (s : Rd) (w : By) : s.fg.has w = s.has w := by
  unfold Rd.has
  rw [is_fg]
theorem must_fg : ∀ (ws : List By) (s : Rd), s.fg.must ws = (s.must ws).fg
  | [], s => rfl
  | w :: ws, s => by
    unfold Rd.must
    rw [has_fg, next_fg, fail_fg]
    split
    · exact must_fg ws s.next
    · exact must_fg ws (s.fail 4)
theorem takes_fg (s : Rd) (k : Nat) : s.fg.takes k ↔ s.takes k := by
  unfold Rd.takes
  rw [hd_fg, c_fg]
  exact Iff.rfl
theorem tok_fg (s : Rd) (k : Nat) : s.fg.tok k = fT (s.tok k) := by
  unfold Rd.tok
  rw [hd_fg]
  by_cases h : s.takes k
  · rw [if_pos h, if_pos ((takes_fg s k).2 h)]
  · rw [if_neg h, if_neg (fun h' => h ((takes_fg s k).1 h'))]
    rfl
theorem take_fg (s : Rd) (k : Nat) : s.fg.take k = (s.take k).fg := by
  unfold Rd.take
  rw [next_fg, fail_fg]
  by_cases h : s.takes k
  · rw [if_pos h, if_pos ((takes_fg s k).2 h)]
  · rw [if_neg h, if_neg (fun h' => h ((takes_fg s k).1 h'))]
theorem fT1 (t : Tk) : (fT t).1 = t.1 := rfl
theorem fT2 (t : Tk) : (fT t).2.1 = t.2.1 := rfl
theorem fT3 (t : Tk) : (fT t).2.2.1 = t.2.2.1 := rfl
theorem lit_fg (s : Rd) : s.fg.lit = (s.lit.1, s.lit.2.1, s.lit.2.2.fg) := by
  have hg : s.fg.l.getD 1 (0, [], 0, 0) = fT (s.l.getD 1 (0, [], 0, 0)) := getD_fg s.l 1
  unfold Rd.lit
  simp only [hd_fg, c_fg, is_fg, hg, next_fg, has_fg, pass_fg, fT1, fT2, fT3]
  repeat' split
  all_goals rfl
theorem fg_column : Fg Rd.column := fun s => by
  unfold Rd.column
  simp only [take_fg, has_fg, tok_fg, next_fg, fT2]
  split <;> rfl
theorem down_fg (s : Rd) : s.fg.down = s.down.fg := by
  unfold Rd.down
  have : ({ s.fg with d := s.fg.d + 1 } : Rd) = ({ s with d := s.d + 1 } : Rd).fg := rfl
  rw [this, fail_fg]
  show (if s.d + 1 > 10 then _ else _) = _
  split <;> rfl
theorem fg_within {F : Pr} (h : Fg F) : Fg (within F) := fun s => by
  unfold within
  rw [down_fg, c_fg, h]
  split <;> rfl
theorem rowL_fg {F : Pr} (h : Fg F) (first : Int) (ws : List By) : ∀ (n : Nat) (e : Ex) (s : Rd), rowL F first ws n e s.fg = ((rowL F first ws n e s).1, (rowL F first ws n e s).2.fg)
  | 0, e, s => rfl
  | n + 1, e, s => by
    unfold rowL
    rw [is_fg, next_fg, h]
    split
    · exact rowL_fg h first ws n _ _
    · rfl
theorem fg_row {F : Pr} (h : Fg F) (first : Int) (ws : List By) : Fg (row F first ws) := fun s => by
  unfold row
  rw [h, len_fg]
  exact rowL_fg h first ws _ _ _
structure Dp.Fg (D : Dp) : Prop where
  fac : Go.Parse.Fg D.fac
  not : Go.Parse.Fg D.not
  ex : Go.Parse.Fg D.ex
theorem fg_fac {D : Dp} (h : D.Fg) : Fg (facL D) := fun s => by
  unfold facL
  simp only [lit_fg, is_fg, next_fg, fg_within h.fac _, fg_within h.ex _, must_fg, fg_column _]
  repeat' split
  all_goals rfl
theorem fg_sum {D : Dp} (h : D.Fg) : Fg (sumL D) := fg_row (fg_row (fg_fac h) _ _) _ _
theorem isNull_fg (e : Ex) (s : Rd) : isNull e s.fg = ((isNull e s).1, (isNull e s).2.fg) := by
  unfold isNull
  simp only [has_fg, next_fg, must_fg]
  split <;> rfl
theorem fg_test {D : Dp} (h : D.Fg) : Fg (testL D) := fun s => by
  unfold testL
  simp only [fg_sum h _, is_fg, next_fg, isNull_fg]
  repeat' split
  all_goals rfl
theorem fg_not {D : Dp} (h : D.Fg) : Fg (notL D) := fun s => by
  unfold notL
  simp only [has_fg, next_fg, fg_within h.not _, fg_test h _]
  split <;> rfl
theorem fg_ex {D : Dp} (h : D.Fg) : Fg (exL D) := fg_row (fg_row (fg_not h) _ _) _ _
theorem dp_fg : ∀ n, (dp n).Fg
  | 0 => ⟨fun s => rfl, fun s => rfl, fun s => rfl⟩
  | n + 1 => ⟨fg_fac (dp_fg n), fg_not (dp_fg n), fg_ex (dp_fg n)⟩
theorem fg_exp : Fg exp := (dp_fg 11).ex
theorem fin_fg (s : Rd) : s.fg.fin = s.fin.fg := by
  unfold Rd.fin
  rw [hd_fg, c_fg, fail_fg, fT1]
  split <;> rfl
theorem fg_many {β : Type} {one : Rd → β × Rd} (h : Fg one) (sep : By) : ∀ (k : Nat) (acc : List β) (s : Rd), manyL one sep k acc s.fg = ((manyL one sep k acc s).1, (manyL one sep k acc s).2.fg)
  | 0, acc, s => by
    unfold manyL
    simp only [fail_fg, h _, pass_fg]
  | k + 1, acc, s => by
    unfold manyL
    simp only [h _, has_fg, pass_fg]
    split
    · exact fg_many h sep k _ _
    · rfl
theorem fg_maybe (w : By) : Fg (maybeL w) := fun s => by
  unfold maybeL
  simp only [has_fg, pass_fg, fg_exp _]
  split <;> rfl
theorem fg_by (w : By) : Fg (byL w) := fun s => by
  unfold byL
  simp only [has_fg, pass_fg, must_fg, fg_column _]
  split <;> rfl
theorem fg_coKind : Fg coKind := fun s => by
  unfold coKind
  simp only [is_fg, pass_fg, fail_fg]
  split <;> rfl
theorem fg_coNull : Fg coNull := fun s => by
  unfold coNull
  simp only [has_fg, pass_fg, must_fg]
  split <;> rfl
theorem fg_columnOf : Fg Rd.columnOf := fun s => by
  unfold Rd.columnOf
  simp only [tok_fg, take_fg, fT2, fg_coKind _, fg_coNull _, has_fg, pass_fg]
theorem fg_litV : Fg litV := fun s => by
  unfold litV
  simp only [lit_fg, fail_fg]
  split <;> rfl
theorem fg_tuple : Fg tupleL := fun s => by
  unfold tupleL many
  simp only [must_fg, fg_many fg_litV]
theorem fg_set : Fg setL := fun s => by
  unfold setL
  simp only [tok_fg, take_fg, must_fg, fT2, fg_exp _]
theorem fg_itemB (k : Int) : Fg (itemB k) := fun s => by
  unfold itemB
  simp only [fg_exp _, must_fg, has_fg, pass_fg]
  repeat' split
  all_goals rfl
theorem fg_item : Fg itemL := fun s => by
  unfold itemL
  simp only [is_fg, pass_fg, fg_exp _, must_fg, fg_itemB _ _]
  repeat' split
  all_goals rfl
theorem colsMore_fg (acc : List Co) (s : Rd) : colsMore acc s.fg = colsMore acc s := by
  unfold colsMore
  rw [c_fg, has_fg]
theorem colsAt_fg (acc : List Co) (s : Rd) : colsAt acc s.fg = (colsAt acc s).fg := by
  unfold colsAt
  rw [c_fg, pass_fg]
  split <;> rfl
theorem fg_cols : ∀ (k : Nat) (acc : List Co) (s : Rd), colsL k acc s.fg = ((colsL k acc s).1, (colsL k acc s).2.fg)
  | 0, acc, s => by
    unfold colsL
    simp only [colsMore_fg, colsAt_fg, fail_fg, fg_columnOf _, must_fg]
    split <;> rfl
  | k + 1, acc, s => by
    unfold colsL
    simp only [colsMore_fg, colsAt_fg, fg_columnOf _, must_fg]
    split
    · exact fg_cols k _ _
    · rfl
theorem crA_fg (s : Rd) : crA s.fg = (crA s).fg := must_fg _ _
theorem crB_fg (s : Rd) : crB s.fg = (crB s).fg := by unfold crB; simp only [crA_fg, take_fg, must_fg]
theorem crC_fg : Fg crC := fun s => by unfold crC; simp only [crB_fg, fg_cols]
theorem crD_fg (s : Rd) : crD s.fg = (crD s).fg := by unfold crD; simp only [crC_fg _, must_fg]
theorem fg_create : Fg createL := fun s => by
  unfold createL
  simp only [crA_fg, crC_fg _, crD_fg, tok_fg, take_fg, must_fg, fT2]
theorem fg_drop : Fg dropL := fun s => by
  unfold dropL
  simp only [tok_fg, take_fg, must_fg, fT2]
theorem inA_fg (s : Rd) : inA s.fg = (inA s).fg := must_fg _ _
theorem inB_fg : Fg inB := fun s => by unfold inB many; simp only [inA_fg, take_fg, must_fg, fg_many fg_tuple]
theorem fg_insert : Fg insertL := fun s => by
  unfold insertL
  simp only [inA_fg, inB_fg _, tok_fg, fT2]
theorem upA_fg : Fg upA := fun s => by unfold upA many; simp only [take_fg, must_fg, fg_many fg_set]
theorem fg_update : Fg updateL := fun s => by
  unfold updateL
  simp only [upA_fg _, tok_fg, fT2, fg_maybe _ _]
theorem fg_remove : Fg removeL := fun s => by
  unfold removeL
  simp only [must_fg, tok_fg, take_fg, fT2, fg_maybe _ _]
theorem joinB_fg (s : Rd) : joinB s.fg = (joinB s).fg := by unfold joinB; simp only [pass_fg, take_fg, must_fg]
theorem join_fg (s : Rd) : joinL s.fg = ((joinL s).1, (joinL s).2.1, (joinL s).2.2.fg) := by
  unfold joinL
  simp only [has_fg, pass_fg, tok_fg, fT2, joinB_fg, fg_exp _]
  split <;> rfl
theorem fg_desc (o : List Ex) : Fg (descL o) := fun s => by
  unfold descL
  simp only [has_fg, pass_fg]
  split <;> rfl
theorem fg_lim : Fg limL := fun s => by
  unfold limL
  simp only [has_fg, pass_fg, tok_fg, take_fg, fT3]
  split <;> rfl
theorem seA_fg : Fg seA := fun s => by unfold seA many; simp only [fg_many fg_item]
theorem seB_fg (s : Rd) : seB s.fg = (seB s).fg := by unfold seB; simp only [seA_fg _, must_fg]
theorem seC_fg (s : Rd) : seC s.fg = ((seC s).1, (seC s).2.1, (seC s).2.2.fg) := by unfold seC; simp only [seB_fg, take_fg, join_fg]
theorem seD_fg : Fg seD := fun s => by unfold seD; simp only [seC_fg, fg_maybe _ _]
theorem seE_fg : Fg seE := fun s => by unfold seE; simp only [seD_fg _, fg_by _ _]
theorem seF_fg : Fg seF := fun s => by unfold seF; simp only [seE_fg _, fg_by _ _]
theorem seG_fg : Fg seG := fun s => by unfold seG; simp only [seF_fg _, fg_desc _ _]
theorem seH_fg : Fg seH := fun s => by unfold seH; simp only [seG_fg _, fg_lim _]
theorem fg_choose : Fg chooseL := fun s => by
  unfold chooseL
  simp only [seA_fg _, seB_fg, seC_fg, seD_fg _, seE_fg _, seF_fg _, seG_fg _, seH_fg _, tok_fg, fT2]
theorem fg_stateK (k : Int) : Fg (stateK k) := fun s => by
  unfold stateK
  simp only [fail_fg, fg_create _, fg_drop _, fg_insert _, fg_update _, fg_remove _, fg_choose _]
  repeat' split
  all_goals rfl
theorem fg_state : Fg stateL := fun s => by
  unfold stateL
  simp only [is_fg, pass_fg, fg_stateK _ _]
theorem rd0_fg (l : List Tk) : (rd0 l).fg = rd0 (l.map fT) := rfl
theorem scriptT_fg (l : List Tk) : scriptT (l.map fT) = ((scriptT l).1, (scriptT l).2.fg) := by
  unfold scriptT
  rw [← rd0_fg, fg_many fg_state, fin_fg]
theorem oneT_fg (l : List Tk) : oneT (l.map fT) = ((oneT l).1, (oneT l).2.fg) := by
  unfold oneT
  rw [← rd0_fg, (dp_fg 11).ex, fin_fg]
theorem script_alike {l m : List Tk} (h : l.map fT = m.map fT) : (scriptR l).1 = (scriptR m).1 ∧ (scriptR l).2.1 = (scriptR m).2.1 := by
  have h1 := scriptT_fg l
  have h2 := scriptT_fg m
  have h1 := h1.symm.trans ((congrArg scriptT h).trans h2)
  have e1 : (scriptT m).1 = (scriptT l).1 := (congrArg Prod.fst h1).symm
  have e2 : (scriptT m).2.c = (scriptT l).2.c := (congrArg (fun x => x.2.c) h1).symm
  unfold scriptR
  rw [e1, e2]
  split <;> exact ⟨rfl, rfl⟩
theorem one_alike {l m : List Tk} (h : l.map fT = m.map fT) : (oneR l).1 = (oneR m).1 ∧ (oneR l).2.1 = (oneR m).2.1 := by
  have h1 := oneT_fg l
  have h2 := oneT_fg m
  have h1 := h1.symm.trans ((congrArg oneT h).trans h2)
  have e1 : (oneT m).1 = (oneT l).1 := (congrArg Prod.fst h1).symm
  have e2 : (oneT m).2.c = (oneT l).2.c := (congrArg (fun x => x.2.c) h1).symm
  unfold oneR
  rw [e1, e2]
  split <;> exact ⟨rfl, rfl⟩
end Go.Parse

set_option linter.unusedVariables false
namespace Go.Print
open Go.V Go.Lex Go.Parse Go.Proofs.YtjopblbpnedjoaaGreatDoor
def inR (n : Int) : Prop := -9223372036854775808 ≤ n ∧ n ≤ 9223372036854775807
end Go.Print

set_option linter.unusedVariables false
namespace Go.Print
open Go.V Go.Lex Go.Parse Go.Proofs.YtjopblbpnedjoaaGreatDoor
def RL (L : Nat) (D : Dp) : Pr := match L with | 1 => exL D | 2 => andL D | 3 => notL D | 4 => testL D | 5 => sumL D | 6 => termL D | _ => facL D
def opsF (L : Nat) : List By :=
  [46] :: ((if L ≤ 6 then [[42], [47], [37]] else []) ++ ((if L ≤ 5 then [[43], [45]] else []) ++ ((if L ≤ 4 then tests else []) ++ ((if L ≤ 2 then [[65, 78, 68]] else []) ++ (if L ≤ 1 then [[79, 82]] else [])))))
def isW (x : Tk) (w : By) : Bool := decide ((x.1 = 2 ∨ x.1 = 5) ∧ x.2.1 = w)
def Stop (L : Nat) (r : List Tk) : Prop := ∀ w ∈ opsF L, isW (hd r) w = false
theorem Stop.mono {L M : Nat} {r : List Tk} (h : Stop L r) (hLM : L ≤ M) : Stop M r := fun w hw => h w (by
  unfold opsF at hw ⊢
  simp only [List.mem_cons, List.mem_append] at hw ⊢
  rcases hw with hw | hw | hw | hw | hw | hw
  · exact .inl hw
  · split at hw
    · exact .inr (.inl (by rw [if_pos (by omega)]; exact hw))
    · cases hw
  · split at hw
    · exact .inr (.inr (.inl (by rw [if_pos (by omega)]; exact hw)))
    · cases hw
  · split at hw
    · exact .inr (.inr (.inr (.inl (by rw [if_pos (by omega)]; exact hw))))
    · cases hw
  · split at hw
    · exact .inr (.inr (.inr (.inr (.inl (by rw [if_pos (by omega)]; exact hw)))))
    · cases hw
  · split at hw
    · exact .inr (.inr (.inr (.inr (.inr (by rw [if_pos (by omega)]; exact hw)))))
    · cases hw)
theorem pass1 (s : Rd) (w : By) : s.pass [w] = if s.has w then s.next else s := by
  unfold Rd.has Rd.pass
  by_cases h : 0 ≤ s.is [w]
  · rw [if_pos h, if_pos (decide_eq_true h)]
  · rw [if_neg h, if_neg (by simp; omega)]
end Go.Print

set_option linter.unusedVariables false
namespace Go.Print
open Go.V Go.Lex Go.Parse Go.Proofs.YtjopblbpnedjoaaGreatDoor
def Tr.rg : Tr → Prop
  | .val v => inR v.2.1
  | .col _ _ => True
  | .op _ a b => a.rg ∧ b.rg
  | .not e => e.rg
  | .neg e => e.rg
  | .null e => e.rg
end Go.Print

set_option linter.unusedVariables false
namespace Go.Print
open Go.V Go.Lex Go.Parse Go.Proofs.YtjopblbpnedjoaaGreatDoor
theorem words_len : ∀ s ∈ words, s.length ≤ 16 := by decide +kernel
theorem signs_len : ∀ s ∈ signs, s.length ≤ 2 := by decide +kernel
theorem txt_len {t : Tk} (h : GoodT t) : (txt t).length ≤ 82 := by
  obtain ⟨k, s, n, a⟩ := t
  rcases h with ⟨rfl, h1, rfl⟩ | ⟨rfl, h1, rfl⟩ | ⟨rfl, rfl, h1⟩ | ⟨rfl, h1, rfl⟩ | ⟨rfl, h1, rfl⟩
  · have h2 : s.length ≤ 16 := (isNm_iff h1).2.1
    show s.length ≤ 82; omega
  · have := words_len s (known_mem h1); show s.length ≤ 82; omega
  · have h1 : n ≤ 9223372036854775807 := h1
    have := dec_len n 19 (by omega); show (dec n).length ≤ 82; omega
  · have := quo_len s; show (quoteL s).length ≤ 82; unfold quoteL; simp at h1 ⊢; omega
  · have := signs_len s h1; show s.length ≤ 82; omega
theorem joinS_le : ∀ l : List By, (∀ x ∈ l, x.length ≤ 82) → (joinS l).length ≤ 83 * l.length
  | [], _ => Nat.zero_le _
  | [a], h => by have := h a (by simp); show a.length ≤ 83 * 1; omega
  | a :: b :: r, h => by
    have := h a (by simp)
    have ih := joinS_le (b :: r) (fun x hx => h x (by simp [hx]))
    have e : joinS (a :: b :: r) = a ++ 32 :: joinS (b :: r) := rfl
    rw [e]
    simp only [List.length_append, List.length_cons] at ih ⊢
    omega
theorem writeT_len {l : List Tk} (h : ∀ x ∈ l, GoodT x) : (writeT l).length ≤ 83 * l.length := by
  unfold writeT
  have h1 := joinS_le (txts l) (fun x hx => by
    unfold txts at hx
    obtain ⟨t, ht, rfl⟩ := List.mem_map.1 hx
    exact txt_len (h t (List.mem_filter.1 ht).1))
  have h2 : (txts l).length ≤ l.length := by
    unfold txts
    rw [List.length_map]
    exact List.length_filter_le _ _
  omega
end Go.Print

set_option linter.unusedVariables false
namespace Go.Lex
open Go.V Go.Proofs.YtjopblbpnedjoaaGreatDoor
def padD : Nat → Nat → List UInt8
  | 0, _ => []
  | k + 1, u => padD k (u / 10) ++ [UInt8.ofNat (48 + u % 10)]
theorem padD_len : ∀ k u, (padD k u).length = k
  | 0, u => rfl
  | k + 1, u => by rw [padD, List.length_append, padD_len k]; rfl
theorem padD_add (j : Nat) : ∀ k u, padD (j + k) u = padD j (u / 10 ^ k) ++ padD k u
  | 0, u => by rw [Nat.add_zero, Nat.pow_zero, Nat.div_one, padD, List.append_nil]
  | k + 1, u => by
    rw [← Nat.add_assoc, padD, padD_add j k, padD, Nat.div_div_eq_div_mul, Nat.pow_succ, Nat.mul_comm 10, List.append_assoc]
theorem dec_pad : ∀ (k u : Nat), (k = 0 ∨ 10 ^ k ≤ u) → u < 10 ^ (k + 1) → dec u = padD (k + 1) u
  | 0, u, _, h => by
    rw [dec_lt (by omega), padD, padD, List.nil_append, Nat.mod_eq_of_lt (by omega)]
  | k + 1, u, h1, h2 => by
    have h3 : 10 ^ (k + 1) ≤ u := by rcases h1 with h | h <;> omega
    rw [Nat.pow_succ] at h2 h3
    have hp : 1 ≤ 10 ^ k := Nat.one_le_pow _ _ (by decide)
    rw [dec_ge (by omega), padD, dec_pad k (u / 10) (.inr (by omega)) (by omega)]
theorem pad2 (u : Nat) : padD 2 u = [UInt8.ofNat (48 + u / 10 % 10), UInt8.ofNat (48 + u % 10)] := rfl
theorem pad4 (u : Nat) : padD 4 u = [UInt8.ofNat (48 + u / 10 / 10 / 10 % 10), UInt8.ofNat (48 + u / 10 / 10 % 10), UInt8.ofNat (48 + u / 10 % 10), UInt8.ofNat (48 + u % 10)] := rfl
theorem pad8 (u : Nat) : padD 8 u = [UInt8.ofNat (48 + u / 10 / 10 / 10 / 10 / 10 / 10 / 10 % 10), UInt8.ofNat (48 + u / 10 / 10 / 10 / 10 / 10 / 10 % 10), UInt8.ofNat (48 + u / 10 / 10 / 10 / 10 / 10 % 10), UInt8.ofNat (48 + u / 10 / 10 / 10 / 10 % 10), UInt8.ofNat (48 + u / 10 / 10 / 10 % 10), UInt8.ofNat (48 + u / 10 / 10 % 10), UInt8.ofNat (48 + u / 10 % 10), UInt8.ofNat (48 + u % 10)] := rfl
def nd10 (len : Nat) : Nat := len * 78913 / 262144
theorem nd10_ok : ∀ len, len ≤ 64 → 1 ≤ len → 2 ^ len ≤ 10 ^ (nd10 len + 1) ∧ (nd10 len = 0 ∨ 10 ^ (nd10 len - 1) ≤ 2 ^ (len - 1)) ∧ nd10 len ≤ 19 := by decide +kernel
theorem digits_ok {len u : Nat} (h1 : 1 ≤ len) (h2 : len ≤ 64) (h3 : 2 ^ (len - 1) ≤ u) (h4 : u < 2 ^ len) :
    (10 ^ nd10 len ≤ u → dec u = padD (nd10 len + 1) u) ∧ (u < 10 ^ nd10 len → 1 ≤ nd10 len ∧ dec u = padD (nd10 len) u) := by
  obtain ⟨a, b, c⟩ := nd10_ok len h2 h1
  have hp : 1 ≤ 2 ^ (len - 1) := Nat.one_le_pow _ _ (by decide)
  refine ⟨fun h => dec_pad _ u (.inr h) (by omega), fun h => ?_⟩
  rcases b with b | b
  · rw [b] at h; omega
  · obtain ⟨m, hm⟩ : ∃ m, nd10 len = m + 1 := by
      cases hn : nd10 len with
      | zero => rw [hn] at h; omega
      | succ m => exact ⟨m, rfl⟩
    rw [hm] at b h ⊢
    exact ⟨by omega, dec_pad m u (.inr (by simpa using Nat.le_trans b h3)) h⟩
theorem dec_pow : ∀ n, n < 10 ^ (dec n).length := fun n => by
  induction n using Nat.strongRecOn with
  | ind n ih =>
    by_cases h : n < 10
    · rw [dec_lt h]; simpa using h
    · rw [dec_ge h, List.length_append, List.length_singleton, Nat.pow_succ]
      have := ih (n / 10) (by omega)
      omega
theorem dec_padlen : ∀ n, dec n = padD (dec n).length n := fun n => by
  induction n using Nat.strongRecOn with
  | ind n ih =>
    by_cases h : n < 10
    · rw [dec_lt h]
      show _ = padD 1 n
      rw [padD, padD, List.nil_append, Nat.mod_eq_of_lt h]
    · rw [dec_ge h, List.length_append, List.length_singleton, padD, ← ih (n / 10) (by omega)]
end Go.Lex

set_option linter.unusedVariables false
namespace Go.V
open Go.RowKit
variable {P : Program}
end Go.V

set_option linter.unusedVariables false
namespace Go.V
open Go.RowKit
variable {P : Program}
end Go.V

set_option linter.unusedVariables false
namespace Go.V
open Go.RowKit
variable {P : Program} {σ : Sg}
theorem vCountString {f : FuncId} {fn : Func} {s : ByteArray} {c : UInt8} (hf : P.funcs[f]? = some fn) (hname : (fn.name == "runtime.NumGoroutine") = false) (hb : fn.body.isNone = true) (hn : Extern.findNext fn = none) (he : Extern.find fn = some Extern.BytealgCount.count) :
    VCalls P f [.s s, .u8 c.toNat] σ (fun y σ' => y = .i (s.data.toList.count c : Nat) ∧ σ' = σ) :=
  vextern hf hname hb hn he (fun κ vs hst hargs => by
    obtain ⟨u, v, rfl, hx, hy⟩ := relRow2 hargs
    cases hx
    cases hy
    have h := Lib.run_countString (P := P) s (c.toNat : Int) κ.w
    have hcc : ((c.toNat : Int).toNat).toUInt8 = c := by simp
    rw [hcc] at h
    exact ⟨_, κ.w, h, post_same hst (.val _) ⟨rfl, rfl⟩⟩)
theorem vMakeNoZero {f : FuncId} {fn : Func} {ps : Array TypeId} {t e : TypeId} {n : Nat} (hf : P.funcs[f]? = some fn) (hname : (fn.name == "runtime.NumGoroutine") = false) (hb : fn.body.isNone = true) (hn : Extern.findNext fn = none) (he : Extern.find fn = some (Extern.BytealgMakeNoZero.makeNoZero ps #[t]))
    (ht : P.underlying t = some (.slice e)) (hsz : n ≤ 281474976710656) :
    VCalls P f [.i n] σ (fun y σ' => ∃ τ, σ τ = none ∧ y = .nz τ n 1 ∧ σ' = σ.set τ (.tok (some e))) :=
  vextern hf hname hb hn he (fun κ vs hst hargs => by
    obtain ⟨u, rfl, hx⟩ := relRow1 hargs
    cases hx
    obtain ⟨cs, h1, h2, _⟩ := Lib.run_makeNoZero (P := P) κ.w ps t e ht n hsz
    have hst2 := hst.drew.drew
    obtain ⟨τ, hτ, hτσ⟩ := hst2.fresh
    obtain ⟨hle, hs⟩ := hst2.newTok (τ := τ) (lo := 0) (c := cs) (t := e) (fz := (0, 0)) (e := some e) (Nat.zero_le _) (fun i _ h => by simp at h) (fun t' h => by cases h; exact ⟨rfl, rfl⟩) hτ
    refine ⟨_, _, h1, ⟨_, _, _, ?_, (K.le_drew κ).trans ((K.le_drew _).trans hle), hs, ?_, τ, hτσ σ (.refl σ), rfl, rfl⟩⟩
    · rfl
    · refine .nz τ n 1 κ.w.heap.size cs.size ?_ h2
      simp [K.named, K.drew])
theorem cap_nil (t e ty : TypeId) (l : List TypeId) (σ : Sg) (R : AV → Sg → Prop) (he : P.underlying t = some (.slice e)) : vbuiltin P .cap [.sl .nil []] (List.toArray (t :: l)) ty σ R = R (.i 0) σ := by
  simp only [vbuiltin, true_and, List.getElem?_toArray, List.getElem?_cons_zero, Option.bind_some, he]
  refine propext ⟨fun h => h.2, fun h => ⟨⟨e, rfl⟩, h⟩⟩
theorem vsl_nz (e : TypeId) (τ n sz : Nat) (k : IntKind) (σ : Sg) (R : AV → Prop) : vsl P (some (.slice e)) (.nz τ n sz) none (some (.val (.int k 0))) none σ R = vixE (tInfo P e) (fun s => s = sz ∧ R (.sl (.tok τ sz) [])) := by
  unfold vsl vixE
  simp only [optInt]
  cases tInfo P e <;> simp
theorem vcopy_nil (t e : TypeId) (τ sz : Nat) (σ : Sg) (R : AV → Sg → Prop) (he : P.underlying t = some (.slice e)) (hi : (tInfo P e).isSome = true) : vcopy P t (.sl (.tok τ sz) []) (.sl .nil []) σ R = R (.i 0) σ := by
  unfold vcopy
  simp only [he, elems, hi, true_and]
theorem ev_global (ρ : Nat → AV) (g : Nat) (cs : List Value) (h : gtab g = some cs) : ev ρ (.global g) = .ro (cs.map .val) := by
  show (match gtab g with | some cs => AV.ro (cs.map .val) | none => .val (.pointer (some ⟨g, 0, none⟩))) = _
  rw [h]
end Go.V

set_option linter.unusedSimpArgs false
set_option linter.unusedVariables false
namespace Go.Lex
open Go.V Go.Proofs.YtjopblbpnedjoaaGreatDoor
theorem shr_nat (x k : Nat) (t : IntKind) (h : k ≤ t.bits) : ((x : Nat) : Int).fdiv (2 ^ min k t.bits) = ((x / 2 ^ k : Nat) : Int) := by
  rw [Nat.min_eq_left h, Int.fdiv_eq_ediv_of_nonneg _ (by exact_mod_cast Nat.zero_le (2 ^ k))]
  norm_cast
theorem shr32 (x : Nat) : ((x : Nat) : Int).fdiv (2 ^ min 32 IntKind.u64.bits) = ((x / 4294967296 : Nat) : Int) := shr_nat x 32 _ (by decide)
theorem shr16 (x : Nat) : ((x : Nat) : Int).fdiv (2 ^ min 16 IntKind.u64.bits) = ((x / 65536 : Nat) : Int) := shr_nat x 16 _ (by decide)
theorem shr8 (x : Nat) : ((x : Nat) : Int).fdiv (2 ^ min 8 IntKind.u64.bits) = ((x / 256 : Nat) : Int) := shr_nat x 8 _ (by decide)
theorem shr18 (x : Nat) : ((x : Nat) : Int).fdiv (2 ^ min 18 IntKind.i64.bits) = ((x / 262144 : Nat) : Int) := shr_nat x 18 _ (by decide)
theorem len_leaf {L : List UInt8} {b u v : Nat} {c : Int} (hc : c = (b : Nat)) (hv : u / 2 ^ b = v) (h8 : v < 256) (hb : b ≤ 56) (h0 : 1 ≤ v)
    (hL : ∀ k, k < 256 → k < 2 ^ (L.getD k 0).toNat ∧ (1 ≤ k → 1 ≤ (L.getD k 0).toNat ∧ 2 ^ ((L.getD k 0).toNat - 1) ≤ k) ∧ (L.getD k 0).toNat ≤ 8) : ∃ n : Nat, 1 ≤ n ∧ n ≤ 64 ∧ 2 ^ (n - 1) ≤ u ∧ u < 2 ^ n ∧ AV.val (.int .i64 (IntKind.i64.wrap (c + IntKind.i64.wrap ((L.getD v 0).toNat : Int)))) = AV.i n := by
  obtain ⟨a1, a2, a3⟩ := hL v h8
  obtain ⟨a4, a5⟩ := a2 h0
  generalize (L.getD v 0).toNat = t at *
  have hp : 0 < 2 ^ b := Nat.pow_pos (by decide)
  refine ⟨b + t, by omega, by omega, ?_, ?_, by rw [w64 (n := (t : Int)) (by omega) (by omega), w64 (by omega) (by omega), hc]; rfl⟩
  · rw [show b + t - 1 = b + (t - 1) by omega, Nat.pow_add]
    calc 2 ^ b * 2 ^ (t - 1) ≤ 2 ^ b * v := Nat.mul_le_mul_left _ a5
      _ ≤ u := by rw [← hv]; exact Nat.mul_div_le u (2 ^ b)
  · rw [Nat.pow_add]
    have h1 : u < 2 ^ b * (v + 1) := by
      have := Nat.lt_mul_div_succ u hp
      rwa [hv] at this
    exact Nat.lt_of_lt_of_le h1 (Nat.mul_le_mul_left _ a1)
end Go.Lex
namespace Go.Proofs.YtjopblbpnedjoaaGreatDoor
open Go Go.V Go.Lex
theorem e55 (b : Bool) (σ : Sg) : VCalls Tryz.prog 306 [.b b] σ (fun x σ' => x = .i (if b then 1 else 0) ∧ σ' = σ) := by
  cases b
  · (refine vfun (fun _ => .no) mixed Tryz.func306 (by kernel_rfl) ?_; simp only [bodyOf, Tryz.f306, zp])
    repeat' (first | with_reducible rfl | exact .inr trivial | (with_reducible first | apply And.intro | apply vqx_step | apply vqm_step | refine vkp_free (by decide +kernel) ?_ | intro _) | ((first | (with_reducible first | refine .rs ?_ | refine .ds (by kernel_rfl) ?_ | refine .dg (by kernel_rfl) ?_ | refine .rg ?_ | refine .ite ?_ | refine .ret ?_ | refine .skip ?_ | refine .exit ?_ | refine .scope ?_ | refine .seq (.label ?_) | refine .block ?_ | refine .seq ?_) | (simp (disch := first | assumption | (apply zq; assumption; assumption) | (apply zr; assumption; assumption; (intro e; cases e; done)) | omega) only [w64, w8, tg_eq, Go.V.n1, Go.V.n2, Go.V.nn, zj, zk, Sg.set_ne, Sg.set_ne', Sg.del_ne, Sg.del_ne'])); (try simp only [vO, vQ, ↓vP, vE, vS, vB, vL, vF, vM, vN, vbs_full, za, zb, zc, ne_eq, not_false_eq_true, zd, ze, zh, zi, Z3, info3, Z4, info4, vT])) | (with_reducible first | refine vfresh_set ?_ | refine vfresh_intro (fun _ _ => ?_) | refine vif_intro (fun _ => ?_) (fun _ => ?_)) | omega | ((with_reducible first | refine vop_at ?_ | refine vops_at ?_ | refine vquiet_at ?_ | refine vmix_at ?_ | refine Holds_at ?_); simp only [vO, vQ, ↓vP, vE, vS, vB, vL, vF, vM, vN, vbs_full, za, zb, zc, ne_eq, not_false_eq_true, zd, ze, zh, zi, Z3, info3, Z4, info4, vT]))
    all_goals (first | ((first | refine ⟨_, ?_, rfl⟩ | refine ⟨_, ?_, rfl, rfl⟩ | refine ⟨_, ?_⟩); (first | exact Sg.sub.refl _ | ((repeat (first | exact Sg.sub.refl _ | refine Sg.sub.set_both ?_ | refine Sg.sub.set_fresh ?_ (by first | assumption | exact Sg.set_none (by assumption) (by first | assumption | (apply Go.Cert.ne_of2a; assumption; assumption))))); done) | (intro y p hy; simp only [Sg.set_apply, Sg.del_apply] at hy ⊢; grind))) | (exfalso; omega))
  · (refine vfun (fun _ => .no) mixed Tryz.func306 (by kernel_rfl) ?_; simp only [bodyOf, Tryz.f306, zp])
    repeat' (first | with_reducible rfl | exact .inr trivial | (with_reducible first | apply And.intro | apply vqx_step | apply vqm_step | refine vkp_free (by decide +kernel) ?_ | intro _) | ((first | (with_reducible first | refine .rs ?_ | refine .ds (by kernel_rfl) ?_ | refine .dg (by kernel_rfl) ?_ | refine .rg ?_ | refine .ite ?_ | refine .ret ?_ | refine .skip ?_ | refine .exit ?_ | refine .scope ?_ | refine .seq (.label ?_) | refine .block ?_ | refine .seq ?_) | (simp (disch := first | assumption | (apply zq; assumption; assumption) | (apply zr; assumption; assumption; (intro e; cases e; done)) | omega) only [w64, w8, tg_eq, Go.V.n1, Go.V.n2, Go.V.nn, zj, zk, Sg.set_ne, Sg.set_ne', Sg.del_ne, Sg.del_ne'])); (try simp only [vO, vQ, ↓vP, vE, vS, vB, vL, vF, vM, vN, vbs_full, za, zb, zc, ne_eq, not_false_eq_true, zd, ze, zh, zi, Z3, info3, Z4, info4, vT])) | (with_reducible first | refine vfresh_set ?_ | refine vfresh_intro (fun _ _ => ?_) | refine vif_intro (fun _ => ?_) (fun _ => ?_)) | omega | ((with_reducible first | refine vop_at ?_ | refine vops_at ?_ | refine vquiet_at ?_ | refine vmix_at ?_ | refine Holds_at ?_); simp only [vO, vQ, ↓vP, vE, vS, vB, vL, vF, vM, vN, vbs_full, za, zb, zc, ne_eq, not_false_eq_true, zd, ze, zh, zi, Z3, info3, Z4, info4, vT]))
    all_goals (first | ((first | refine ⟨_, ?_, rfl⟩ | refine ⟨_, ?_, rfl, rfl⟩ | refine ⟨_, ?_⟩); (first | exact Sg.sub.refl _ | ((repeat (first | exact Sg.sub.refl _ | refine Sg.sub.set_both ?_ | refine Sg.sub.set_fresh ?_ (by first | assumption | exact Sg.set_none (by assumption) (by first | assumption | (apply Go.Cert.ne_of2a; assumption; assumption))))); done) | (intro y p hy; simp only [Sg.set_apply, Sg.del_apply] at hy ⊢; grind))) | (exfalso; omega))
theorem e53 (n : Nat) (hn : n ≤ 64) (σ : Sg) : VCalls Tryz.prog 304 [.i n] σ (fun x σ' => x = .i (nd10 n) ∧ σ' = σ) := by
  (refine vfun (fun _ => .no) mixed Tryz.func304 (by kernel_rfl) ?_; simp only [bodyOf, Tryz.f304, zp])
  repeat' (first | with_reducible rfl | exact .inr trivial | (with_reducible first | apply And.intro | apply vqx_step | apply vqm_step | refine vkp_free (by decide +kernel) ?_ | intro _) | ((first | (with_reducible first | refine .rs ?_ | refine .ds (by kernel_rfl) ?_ | refine .dg (by kernel_rfl) ?_ | refine .rg ?_ | refine .ite ?_ | refine .ret ?_ | refine .skip ?_ | refine .exit ?_ | refine .scope ?_ | refine .seq (.label ?_) | refine .block ?_ | refine .seq ?_) | (simp (disch := first | assumption | (apply zq; assumption; assumption) | (apply zr; assumption; assumption; (intro e; cases e; done)) | omega) only [w64, w8, tg_eq, Go.V.n1, Go.V.n2, Go.V.nn, zj, zk, Sg.set_ne, Sg.set_ne', Sg.del_ne, Sg.del_ne'])); (try simp only [vO, vQ, ↓vP, vE, vS, vB, vL, vF, vM, vN, vbs_full, za, zb, zc, ne_eq, not_false_eq_true, zd, ze, zh, zi, Z3, info3, Z4, info4, vT])) | (with_reducible first | refine vfresh_set ?_ | refine vfresh_intro (fun _ _ => ?_) | refine vif_intro (fun _ => ?_) (fun _ => ?_)) | omega | ((with_reducible first | refine vop_at ?_ | refine vops_at ?_ | refine vquiet_at ?_ | refine vmix_at ?_ | refine Holds_at ?_); simp only [vO, vQ, ↓vP, vE, vS, vB, vL, vF, vM, vN, vbs_full, za, zb, zc, ne_eq, not_false_eq_true, zd, ze, zh, zi, Z3, info3, Z4, info4, vT]))
  refine ⟨_, .refl _, ?_, rfl⟩
  have : ((n : Nat) : Int) * 78913 = ((n * 78913 : Nat) : Int) := by omega
  rw [this, shr18]
  rfl
theorem e54 (u : Nat) (h1 : 1 ≤ u) (h2 : u < 2 ^ 64) (σ : Sg) : VCalls Tryz.prog 305 [.val (.int .u64 u)] σ (fun x σ' => (∃ n : Nat, 1 ≤ n ∧ n ≤ 64 ∧ 2 ^ (n - 1) ≤ u ∧ u < 2 ^ n ∧ x = .i n) ∧ σ' = σ) := by
  (refine vfun (fun _ => .no) mixed Tryz.func305 (by kernel_rfl) ?_; simp only [bodyOf, Tryz.f305, zp])
  repeat' (first | with_reducible rfl | exact .inr trivial | (with_reducible first | apply And.intro | apply vqx_step | apply vqm_step | refine vkp_free (by decide +kernel) ?_ | intro _) | ((first | (with_reducible first | refine .rs ?_ | refine .ds (by kernel_rfl) ?_ | refine .dg (by kernel_rfl) ?_ | refine .rg ?_ | refine .ite ?_ | refine .ret ?_ | refine .skip ?_ | refine .exit ?_ | refine .scope ?_ | refine .seq (.label ?_) | refine .block ?_ | refine .seq ?_) | (simp (disch := first | assumption | (apply zq; assumption; assumption) | (apply zr; assumption; assumption; (intro e; cases e; done)) | omega) only [w64, w8, tg_eq, Go.V.n1, Go.V.n2, Go.V.nn, zj, zk, Sg.set_ne, Sg.set_ne', Sg.del_ne, Sg.del_ne'])); (try simp only [vO, vQ, ↓vP, vE, vS, vB, vL, vF, vM, vN, vbs_full, za, zb, zc, ne_eq, not_false_eq_true, zd, ze, zh, zi, Z3, info3, Z4, info4, Z261, info261, Tryz.underlying5, info5, Z9, info9, shr32, shr16, shr8, vT])) | (with_reducible first | refine vfresh_set ?_ | refine vfresh_intro (fun _ _ => ?_) | refine vif_intro (fun _ => ?_) (fun _ => ?_)) | omega | ((with_reducible first | refine vop_at ?_ | refine vops_at ?_ | refine vquiet_at ?_ | refine vmix_at ?_ | refine Holds_at ?_); simp only [vO, vQ, ↓vP, vE, vS, vB, vL, vF, vM, vN, vbs_full, za, zb, zc, ne_eq, not_false_eq_true, zd, ze, zh, zi, Z3, info3, Z4, info4, Z261, info261, Tryz.underlying5, info5, Z9, info9, shr32, shr16, shr8, vT]))
  all_goals first
    | exact Nat.lt_of_lt_of_le (m := 256) (by omega) (by decide +kernel)
    | exact ⟨_, .refl _, len_leaf (b := 56) (u := u) (by decide) (by omega) (by omega) (by decide) (by omega) (by decide +kernel), rfl⟩
    | exact ⟨_, .refl _, len_leaf (b := 48) (u := u) (by decide) (by omega) (by omega) (by decide) (by omega) (by decide +kernel), rfl⟩
    | exact ⟨_, .refl _, len_leaf (b := 40) (u := u) (by decide) (by omega) (by omega) (by decide) (by omega) (by decide +kernel), rfl⟩
    | exact ⟨_, .refl _, len_leaf (b := 32) (u := u) (by decide) (by omega) (by omega) (by decide) (by omega) (by decide +kernel), rfl⟩
    | exact ⟨_, .refl _, len_leaf (b := 24) (u := u) (by decide) (by omega) (by omega) (by decide) (by omega) (by decide +kernel), rfl⟩
    | exact ⟨_, .refl _, len_leaf (b := 16) (u := u) (by decide) (by omega) (by omega) (by decide) (by omega) (by decide +kernel), rfl⟩
    | exact ⟨_, .refl _, len_leaf (b := 8) (u := u) (by decide) (by omega) (by omega) (by decide) (by omega) (by decide +kernel), rfl⟩
    | exact ⟨_, .refl _, len_leaf (b := 0) (u := u) (by decide) (by omega) (by omega) (by decide) (by omega) (by decide +kernel), rfl⟩
theorem dec_len1 {u r : Nat} (h : dec u = padD r u) : (dec u).length = r := by rw [h, padD_len]
theorem pow_drop : ∀ k, k ≤ 19 → List.drop (k * 1) (List.map AV.val pow10tab) = .val (.int .u64 ((10 ^ k : Nat) : Int)) :: List.drop (k + 1) (List.map AV.val pow10tab)
  | 0, _ => rfl
  | 1, _ => rfl
  | 2, _ => rfl
  | 3, _ => rfl
  | 4, _ => rfl
  | 5, _ => rfl
  | 6, _ => rfl
  | 7, _ => rfl
  | 8, _ => rfl
  | 9, _ => rfl
  | 10, _ => rfl
  | 11, _ => rfl
  | 12, _ => rfl
  | 13, _ => rfl
  | 14, _ => rfl
  | 15, _ => rfl
  | 16, _ => rfl
  | 17, _ => rfl
  | 18, _ => rfl
  | 19, _ => rfl
  | k + 20, h => by omega
theorem nd_le {n : Nat} (h2 : n ≤ 64) (h1 : 1 ≤ n) : nd10 n ≤ 19 := (nd10_ok n h2 h1).2.2
theorem e43 (u : Nat) (h1 : 1 ≤ u) (h2 : u < 2 ^ 64) (σ : Sg) : VCalls Tryz.prog 288 [.val (.int .u64 u)] σ (fun x σ' => x = .i (dec u).length ∧ σ' = σ) := by
  have h54 := fun σ => e54 u h1 h2 σ
  have h53 := fun n hn σ => e53 n hn σ
  have h55 := fun b σ => e55 b σ
  have hg := fun ρ => ev_global ρ 1 pow10tab rfl
  (refine vfun (fun _ => .no) mixed Tryz.func288 (by kernel_rfl) ?_; simp only [bodyOf, Tryz.f288, zp])
  repeat' (first | with_reducible rfl | exact .inr trivial | (with_reducible first | apply And.intro | apply vqx_step | apply vqm_step | refine vkp_free (by decide +kernel) ?_ | intro _) | ((first | (with_reducible first | refine .rs ?_ | refine .ds (by kernel_rfl) ?_ | refine .dg (by kernel_rfl) ?_ | refine .rg ?_ | refine .ite ?_ | refine .ret ?_ | refine .skip ?_ | refine .exit ?_ | refine .scope ?_ | refine .seq (.label ?_) | refine .block ?_ | refine .seq ?_) | (simp (disch := first | assumption | (apply zq; assumption; assumption) | (apply zr; assumption; assumption; (intro e; cases e; done)) | omega) only [w64, w8, tg_eq, Go.V.n1, Go.V.n2, Go.V.nn, zj, zk, Sg.set_ne, Sg.set_ne', Sg.del_ne, Sg.del_ne']) | ((with_reducible refine VCalls.mono (h54 _) ?_); rintro _ S ⟨⟨n, hn1, hn2, hn3, hn4, rfl⟩, rfl⟩; have hnd := nd_le hn2 hn1) | ((with_reducible refine VCalls.mono (h53 _ (by assumption) _) ?_); rintro _ S ⟨rfl, rfl⟩) | ((with_reducible refine VCalls.mono (h55 _ _) ?_); rintro _ S ⟨rfl, rfl⟩) | with_reducible rw [pow_drop _ (by assumption)]); (try simp only [vO, vQ, ↓vP, vE, vS, vB, vL, vF, vM, vN, vbs_full, za, zb, zc, ne_eq, not_false_eq_true, zd, ze, zh, zi, Z3, info3, Z4, info4, Z261, info261, Tryz.underlying272, info272, hg, vT])) | (with_reducible first | refine vfresh_set ?_ | refine vfresh_intro (fun _ _ => ?_) | refine vif_intro (fun _ => ?_) (fun _ => ?_)) | omega | ((with_reducible first | refine vop_at ?_ | refine vops_at ?_ | refine vquiet_at ?_ | refine vmix_at ?_ | refine Holds_at ?_); simp only [vO, vQ, ↓vP, vE, vS, vB, vL, vF, vM, vN, vbs_full, za, zb, zc, ne_eq, not_false_eq_true, zd, ze, zh, zi, Z3, info3, Z4, info4, Z261, info261, Tryz.underlying272, info272, hg, vT]))

  obtain ⟨d1, d2⟩ := digits_ok hn1 hn2 hn3 hn4
  refine ⟨_, .refl _, ?_, rfl⟩
  by_cases hc : 10 ^ nd10 n ≤ u
  · rw [if_pos (by exact_mod_cast hc), dec_len1 (d1 hc)]
    rfl
  · rw [if_neg (by exact_mod_cast hc), dec_len1 (d2 (by omega)).2]
    simp
theorem small1 : ∀ n, n < 10 → List.drop n (48 :: List.take n [49, 50, 51, 52, 53, 54, 55, 56, 57, 97, 98, 99, 100, 101, 102, 103, 104, 105, 106, 107, 108, 109, 110, 111, 112, 113, 114, 115, 116, 117, 118, 119, 120, 121, 122]) = [UInt8.ofNat (48 + n)] := by decide +kernel
theorem small2 {L : List UInt8} {n : Nat} (h1 : 10 ≤ n) (h2 : n < 100) (hL : ∀ n, n < 100 → List.drop (n * 2) (List.take (n * 2 + 2) L) = padD 2 n) : AV.s (bs (List.drop ((n : Int) * 2).toNat (List.take ((n : Int) * 2 + 2).toNat L))) = AV.s (bs (dec n)) := by
  have e1 : ((n : Int) * 2).toNat = n * 2 := by omega
  have e2 : ((n : Int) * 2 + 2).toNat = n * 2 + 2 := by omega
  rw [e1, e2, hL n h2, dec_pad 1 n (.inr (by omega)) (by omega)]
theorem e42 (n : Nat) (hn : n < 100) (σ : Sg) : VCalls Tryz.prog 287 [.i n] σ (fun x σ' => x = .s (bs (dec n)) ∧ σ' = σ) := by
  (refine vfun (fun _ => .no) mixed Tryz.func287 (by kernel_rfl) ?_; simp only [bodyOf, Tryz.f287, zp])
  repeat' (first | with_reducible rfl | exact .inr trivial | (with_reducible first | apply And.intro | apply vqx_step | apply vqm_step | refine vkp_free (by decide +kernel) ?_ | intro _) | ((first | (with_reducible first | refine .rs ?_ | refine .ds (by kernel_rfl) ?_ | refine .dg (by kernel_rfl) ?_ | refine .rg ?_ | refine .ite ?_ | refine .ret ?_ | refine .skip ?_ | refine .exit ?_ | refine .scope ?_ | refine .seq (.label ?_) | refine .block ?_ | refine .seq ?_) | (simp (disch := first | assumption | (apply zq; assumption; assumption) | (apply zr; assumption; assumption; (intro e; cases e; done)) | omega) only [w64, w8, tg_eq, Go.V.n1, Go.V.n2, Go.V.nn, zj, zk, Sg.set_ne, Sg.set_ne', Sg.del_ne, Sg.del_ne'])); (try simp only [vO, vQ, ↓vP, vE, vS, vB, vL, vF, vM, vN, vbs_full, za, zb, zc, ne_eq, not_false_eq_true, zd, ze, zh, zi, Z3, info3, Z4, info4, Z9, info9, vT])) | (with_reducible first | refine vfresh_set ?_ | refine vfresh_intro (fun _ _ => ?_) | refine vif_intro (fun _ => ?_) (fun _ => ?_)) | omega | ((with_reducible first | refine vop_at ?_ | refine vops_at ?_ | refine vquiet_at ?_ | refine vmix_at ?_ | refine Holds_at ?_); simp only [vO, vQ, ↓vP, vE, vS, vB, vL, vF, vM, vN, vbs_full, za, zb, zc, ne_eq, not_false_eq_true, zd, ze, zh, zi, Z3, info3, Z4, info4, Z9, info9, vT]))
  all_goals first
    | exact ⟨_, .refl _, by rw [dec_lt (by omega), small1 n (by omega)], rfl⟩
    | exact Int.le_trans (b := 200) (by omega) (by decide +kernel)
    | exact ⟨_, .refl _, small2 (by omega) hn (by decide +kernel), rfl⟩
end Go.Proofs.YtjopblbpnedjoaaGreatDoor

set_option linter.unusedSimpArgs false
set_option linter.unusedVariables false
namespace Go.Lex
open Go.V Go.Proofs.YtjopblbpnedjoaaGreatDoor
def smallsL : List UInt8 := (([48, 48, 48, 49, 48, 50, 48, 51, 48, 52, 48, 53, 48, 54, 48, 55, 48, 56, 48, 57, 49, 48, 49, 49, 49, 50, 49, 51, 49, 52, 49, 53, 49, 54, 49, 55, 49, 56, 49, 57, 50, 48, 50, 49, 50, 50, 50, 51, 50, 52].append [50, 53, 50, 54, 50, 55, 50, 56, 50, 57, 51, 48, 51, 49, 51, 50, 51, 51, 51, 52, 51, 53, 51, 54, 51, 55, 51, 56, 51, 57, 52, 48, 52, 49, 52, 50, 52, 51, 52, 52, 52, 53, 52, 54, 52, 55, 52, 56, 52, 57]).append ([53, 48, 53, 49, 53, 50, 53, 51, 53, 52, 53, 53, 53, 54, 53, 55, 53, 56, 53, 57, 54, 48, 54, 49, 54, 50, 54, 51, 54, 52, 54, 53, 54, 54, 54, 55, 54, 56, 54, 57, 55, 48, 55, 49, 55, 50, 55, 51, 55, 52].append [55, 53, 55, 54, 55, 55, 55, 56, 55, 57, 56, 48, 56, 49, 56, 50, 56, 51, 56, 52, 56, 53, 56, 54, 56, 55, 56, 56, 56, 57, 57, 48, 57, 49, 57, 50, 57, 51, 57, 52, 57, 53, 57, 54, 57, 55, 57, 56, 57, 57]))
theorem sm_fold : (⟨((([48, 48, 48, 49, 48, 50, 48, 51, 48, 52, 48, 53, 48, 54, 48, 55, 48, 56, 48, 57, 49, 48, 49, 49, 49, 50, 49, 51, 49, 52, 49, 53, 49, 54, 49, 55, 49, 56, 49, 57, 50, 48, 50, 49, 50, 50, 50, 51, 50, 52].append [50, 53, 50, 54, 50, 55, 50, 56, 50, 57, 51, 48, 51, 49, 51, 50, 51, 51, 51, 52, 51, 53, 51, 54, 51, 55, 51, 56, 51, 57, 52, 48, 52, 49, 52, 50, 52, 51, 52, 52, 52, 53, 52, 54, 52, 55, 52, 56, 52, 57]).append ([53, 48, 53, 49, 53, 50, 53, 51, 53, 52, 53, 53, 53, 54, 53, 55, 53, 56, 53, 57, 54, 48, 54, 49, 54, 50, 54, 51, 54, 52, 54, 53, 54, 54, 54, 55, 54, 56, 54, 57, 55, 48, 55, 49, 55, 50, 55, 51, 55, 52].append [55, 53, 55, 54, 55, 55, 55, 56, 55, 57, 56, 48, 56, 49, 56, 50, 56, 51, 56, 52, 56, 53, 56, 54, 56, 55, 56, 56, 56, 57, 57, 48, 57, 49, 57, 50, 57, 51, 57, 52, 57, 53, 57, 54, 57, 55, 57, 56, 57, 57]))).toArray⟩ : ByteArray) = bs smallsL := rfl
theorem sm_len : smallsL.length = 200 := by decide +kernel
theorem sm_even : ∀ j, j < 100 → smallsL.getD (j * 2) 0 = UInt8.ofNat (48 + j / 10) := by decide +kernel
theorem sm_odd : ∀ j, j < 100 → smallsL.getD (j * 2 + 1) 0 = UInt8.ofNat (48 + j % 10) := by decide +kernel
theorem take_app {α : Type} (P L : List α) (k : Nat) : List.take (P.length + k) (P ++ L) = P ++ List.take k L := by simp [List.take_append, List.take_of_length_le]
theorem drop_app {α : Type} (P L : List α) (k : Nat) : List.drop (P.length + k + 1) (P ++ L) = List.drop (k + 1) L := by
  rw [Nat.add_assoc]
  simp [List.drop_append, List.drop_of_length_le]
theorem take_app0 {α : Type} (P L : List α) : List.take P.length (P ++ L) = P := by simp
theorem drop_app0 {α : Type} (P L : List α) : List.drop (P.length + 1) (P ++ L) = List.drop 1 L := by
  simp [List.drop_append, List.drop_of_length_le]
theorem smE {k : Nat} (h : k < 100) : (smallsL.getD (k * 2) 0).toNat = 48 + k / 10 := by
  rw [sm_even k h, UInt8.toNat_ofNat']
  omega
theorem smO {k : Nat} (h : k < 100) : (smallsL.getD (k * 2 + 1) 0).toNat = 48 + k % 10 := by
  rw [sm_odd k h, UInt8.toNat_ofNat']
  omega
theorem nz8 : ((100000000 : Int) = 0) = False := by simp
theorem nz4 : ((10000 : Int) = 0) = False := by simp
theorem nz2 : ((100 : Int) = 0) = False := by simp
theorem tm8 (v : Nat) : (v : Int).tmod 100000000 = ((v % 100000000 : Nat) : Int) := rfl
theorem tm4 (v : Nat) : (v : Int).tmod 10000 = ((v % 10000 : Nat) : Int) := rfl
theorem tm2 (v : Nat) : (v : Int).tmod 100 = ((v % 100 : Nat) : Int) := rfl
theorem td8 (v : Nat) : (v : Int).tdiv 100000000 = ((v / 100000000 : Nat) : Int) := rfl
theorem td4 (v : Nat) : (v : Int).tdiv 10000 = ((v / 10000 : Nat) : Int) := rfl
theorem td2 (v : Nat) : (v : Int).tdiv 100 = ((v / 100 : Nat) : Int) := rfl
theorem cm2 (v : Nat) : (v : Int) * 2 = ((v * 2 : Nat) : Int) := rfl
theorem ca1 (v : Nat) : (v : Int) + 1 = ((v + 1 : Nat) : Int) := rfl
theorem wr32 (v : Nat) : IntKind.u32.wrap (v : Int) = ((v % 4294967296 : Nat) : Int) := rfl
theorem wr64 (v : Nat) : IntKind.u64.wrap (v : Int) = ((v % 18446744073709551616 : Nat) : Int) := rfl
theorem wrN {n : Nat} (h : n < 4294967296) : IntKind.u32.wrap (n : Int) = n := by rw [wr32, Nat.mod_eq_of_lt h]
theorem wrM {n : Nat} (h : n < 18446744073709551616) : IntKind.u64.wrap (n : Int) = n := by rw [wr64, Nat.mod_eq_of_lt h]
def u8s (l : List UInt8) : List AV := l.map fun c => AV.u8 c.toNat
theorem u8s_app (a b : List UInt8) : u8s (a ++ b) = u8s a ++ u8s b := by simp [u8s]
theorem u8s_len (a : List UInt8) : (u8s a).length = a.length := by simp [u8s]
end Go.Lex
namespace Go.Proofs.YtjopblbpnedjoaaGreatDoor
open Go Go.V Go.Lex
theorem len8 {l : List AV} (h : l.length = 8) : ∃ a b c d e f g i, l = [a, b, c, d, e, f, g, i] := by
  match l, h with
  | [a, b, c, d, e, f, g, i], _ => exact ⟨a, b, c, d, e, f, g, i, rfl⟩
end Go.Proofs.YtjopblbpnedjoaaGreatDoor

set_option linter.unusedSimpArgs false
set_option linter.unusedVariables false
namespace Go.Proofs.YtjopblbpnedjoaaGreatDoor
open Go Go.V Go.Lex
theorem cutq {P : Program} {H : Nat → Hint} {n : Nat} {Q : VX → (Nat → AV) → Sg → Prop} {ρ : Nat → AV} {σ : Sg} {α : Type} {x y : Code} (Inv : α → Prop) (vals : α → List (Nat × AV)) (sg : α → Sg) (h : VW P H n x (sq (At Inv vals sg) Q) ρ σ) (h' : ∀ z, Inv z → VW P H n y Q (env (vals z)) (sg z)) : VW P H n x (sq (VW P H n y Q) Q) ρ σ := by
  refine h.mono (fun e ρ σ hq => ?_)
  cases e with
  | normal =>
    obtain ⟨z, hz, hs, hv⟩ := hq
    exact ((h' z hz).weak (Holds.weak hv)).forget hs
  | exit id => exact hq
  | ret => exact hq
theorem cut_list (A mid : List AV) (m n off : Nat) (hA : A.length = off) (hmn : m + n ≤ mid.length) : ∃ P E : List AV, A ++ mid.take m = P ∧ P.length = off + m ∧ E.length = n ∧ A ++ mid.take (m + n) = P ++ E :=
  ⟨_, (mid.drop m).take n, rfl, by simp; omega, by simp; omega, by rw [List.take_add, List.append_assoc]⟩
theorem len4 {l : List AV} (h : l.length = 4) : ∃ a b c d, l = [a, b, c, d] := by
  match l, h with
  | [a, b, c, d], _ => exact ⟨a, b, c, d, rfl⟩
theorem len2 {l : List AV} (h : l.length = 2) : ∃ a b, l = [a, b] := by
  match l, h with
  | [a, b], _ => exact ⟨a, b, rfl⟩
theorem cons_u8 {a b : Nat} {T T' : List AV} (h : a = b) (h' : T = T') : AV.u8 a :: T = AV.u8 b :: T' := by rw [h, h']
theorem u8s8 (x : Nat) (hx : x < 100000000) (T : List AV) : u8s (padD 8 x) ++ T = .u8 (48 + x / 10000 / 100 / 10 : Nat) :: .u8 (48 + x / 10000 / 100 % 10 : Nat) :: .u8 (48 + x / 10000 % 100 / 10 : Nat) :: .u8 (48 + x / 10000 % 100 % 10 : Nat) :: .u8 (48 + x % 10000 / 100 / 10 : Nat) :: .u8 (48 + x % 10000 / 100 % 10 : Nat) :: .u8 (48 + x % 10000 % 100 / 10 : Nat) :: .u8 (48 + x % 10000 % 100 % 10 : Nat) :: T := by
  rw [pad8]
  simp only [u8s, List.map_cons, List.map_nil, List.cons_append, List.nil_append, UInt8.toNat_ofNat']
  repeat (refine cons_u8 (by omega) ?_)
  rfl
theorem u8s4 (x : Nat) (hx : x < 10000) (T : List AV) : u8s (padD 4 x) ++ T = .u8 (48 + x / 100 / 10 : Nat) :: .u8 (48 + x / 100 % 10 : Nat) :: .u8 (48 + x % 100 / 10 : Nat) :: .u8 (48 + x % 100 % 10 : Nat) :: T := by
  rw [pad4]
  simp only [u8s, List.map_cons, List.map_nil, List.cons_append, List.nil_append, UInt8.toNat_ofNat']
  repeat (refine cons_u8 (by omega) ?_)
  rfl
theorem u8s2 (x : Nat) (hx : x < 100) (T : List AV) : u8s (padD 2 x) ++ T = .u8 (48 + x / 10 : Nat) :: .u8 (48 + x % 10 : Nat) :: T := by
  rw [pad2]
  simp only [u8s, List.map_cons, List.map_nil, List.cons_append, List.nil_append, UInt8.toNat_ofNat']
  repeat (refine cons_u8 (by omega) ?_)
  rfl
theorem pad_lt (k m v : Nat) (h : v < 10 ^ (m + k)) : v / 10 ^ k < 10 ^ m := Nat.div_lt_of_lt_mul (by rw [Nat.pow_add, Nat.mul_comm] at h; exact h)
theorem padD_mod : ∀ (k v : Nat), padD k (v % 10 ^ k) = padD k v
  | 0, _ => rfl
  | k + 1, v => by
    have e1 : v % 10 ^ (k + 1) / 10 = v / 10 % 10 ^ k := by rw [Nat.pow_succ, Nat.mul_comm]; exact Nat.mod_mul_right_div_self ..
    have e2 : v % 10 ^ (k + 1) % 10 = v % 10 := by rw [Nat.pow_succ, Nat.mul_comm]; exact Nat.mod_mul_right_mod ..
    rw [padD, e1, e2, padD_mod k, padD]
theorem pad_next (k m v : Nat) (dn L : List UInt8) (h : padD (m + k) v ++ dn = L) : padD m (v / 10 ^ k) ++ (padD k (v % 10 ^ k) ++ dn) = L := by
  rw [← h, padD_add, padD_mod, List.append_assoc]
end Go.Proofs.YtjopblbpnedjoaaGreatDoor
