/- Part 8 of the proof: B2, E1, G1, W1, G3, B3, B4, B5, W2, W9, W10, V23, G6, G7. -/
import Derived.Test.YtjdapkelojdefaaGreatDoorN6
import Derived.Test.YtjdapkelojdefaaGreatDoorN7
import Derived.Test.YtjdapkelojdefaaGreatDoorN4

set_option linter.all false
set_option maxRecDepth 100000
set_option maxHeartbeats 400000
open Go.V.Sg renaming set_same → zm, set_ne' → zo, del_ne' → zq
open Option renaming getD_some → zr
open Go.Cert renaming ne_of2 → zv, ne_ob → zw, lk → zx
open Go.V.VCalls renaming mono → zy
set_option linter.unusedVariables false
namespace Go.Parse
open Go.V Go.Lex Go.Proofs.YtjdapkelojdefaaGreatDoor
abbrev By := List UInt8
structure Rd where
  l : List Tk
  d : Int
  c : Int
  a : Int
def hd (l : List Tk) : Tk := l.getD 0 (0, [], 0, 0)
def Rd.next (s : Rd) : Rd := { s with l := s.l.tail }
def Rd.fail (s : Rd) (e : Int) : Rd := if s.c = 0 then { s with c := e, a := ((hd s.l).2.2.2 : Int) } else s
def Rd.is (s : Rd) (ws : List By) : Int :=
  if s.c ≠ 0 ∨ ((hd s.l).1 ≠ 2 ∧ (hd s.l).1 ≠ 5) then -1 else if idx (hd s.l).2.1 ws < ws.length then (idx (hd s.l).2.1 ws : Nat) else -1
def Rd.pass (s : Rd) (ws : List By) : Rd := if 0 ≤ s.is ws then s.next else s
def Rd.has (s : Rd) (w : By) : Bool := decide (0 ≤ s.is [w])
def Rd.must (s : Rd) : List By → Rd
  | [] => s
  | w :: ws => Rd.must (if s.has w then s.next else s.fail 4) ws
def Rd.takes (s : Rd) (k : Nat) : Prop := s.c = 0 ∧ (hd s.l).1 = k
instance (s : Rd) (k : Nat) : Decidable (s.takes k) := by unfold Rd.takes; infer_instance
def Rd.tok (s : Rd) (k : Nat) : Tk := if s.takes k then hd s.l else (0, [], 0, 0)
def Rd.take (s : Rd) (k : Nat) : Rd := if s.takes k then s.next else s.fail 4
abbrev Vl := Int × Int × By
abbrev v0 : Vl := (0, 0, [])
abbrev wMinus : By := [45]
abbrev wNull : By := [78, 85, 76, 76]
abbrev wNot : By := [78, 79, 84]
def Rd.lit (s : Rd) : Vl × Bool × Rd :=
  if s.c ≠ 0 then (v0, false, s) else
  if (hd s.l).1 = 3 then ((1, ((hd s.l).2.2.1 : Nat), []), true, s.next) else
  if (hd s.l).1 = 4 then ((2, 0, (hd s.l).2.1), true, s.next) else
  if s.is [wMinus] < 0 ∨ (s.l.getD 1 (0, [], 0, 0)).1 ≠ 3 then (v0, s.has wNull, s.pass [wNull]) else
  ((1, IntKind.i64.wrap (0 - ((s.l.getD 1 (0, [], 0, 0)).2.2.1 : Int)), []), true, s.next.next)
inductive Ex
  | mk (k op : Int) (t n : By) (v : Vl) (args : List Ex)
abbrev ex0 : Ex := .mk 0 0 [] [] v0 []
abbrev ofE (k : Int) (e : Ex) : Ex := .mk k 0 [] [] v0 [e]
abbrev opE (op : Int) (e f : Ex) : Ex := .mk 3 op [] [] v0 [e, f]
abbrev Pr := Rd → Ex × Rd
def Rd.column : Pr := fun s =>
  if (s.take 1).has [46] then (.mk 2 0 (s.tok 1).2.1 ((s.take 1).next.tok 1).2.1 v0 [], (s.take 1).next.take 1) else (.mk 2 0 [] (s.tok 1).2.1 v0 [], s.take 1)
def Rd.down (s : Rd) : Rd := if s.d + 1 > 10 then Rd.fail { s with d := s.d + 1 } 10 else { s with d := s.d + 1 }
def Rd.up (s : Rd) : Rd := { s with d := s.d - 1 }
def within (one : Pr) : Pr := fun s => if s.down.c = 0 then ((one s.down).1, (one s.down).2.up) else (ex0, s.down.up)
def rowL (below : Pr) (first : Int) (ws : List By) : Nat → Ex → Rd → Ex × Rd
  | 0, e, s => (e, s)
  | n + 1, e, s => if 0 ≤ s.is ws then rowL below first ws n (opE (first + s.is ws) e (below s.next).1) (below s.next).2 else (e, s)
def row (below : Pr) (first : Int) (ws : List By) : Pr := fun s => rowL below first ws (below s).2.l.length (below s).1 (below s).2
structure Dp where
  fac : Pr
  not : Pr
  ex : Pr
def facL (D : Dp) : Pr := fun s =>
  if s.lit.2.1 then (.mk 1 0 [] [] s.lit.1 [], s.lit.2.2) else
  if s.lit.2.2.is [wMinus, [40]] = 0 then (ofE 5 (within D.fac (s.lit.2.2.next)).1, (within D.fac (s.lit.2.2.next)).2) else
  if s.lit.2.2.is [wMinus, [40]] = 1 then ((within D.ex (s.lit.2.2.next)).1, (within D.ex (s.lit.2.2.next)).2.must [[41]]) else
  s.lit.2.2.column
def termL (D : Dp) : Pr := row (facL D) 11 [[42], [47], [37]]
def sumL (D : Dp) : Pr := row (termL D) 9 [[43], [45]]
abbrev tests : List By := [[61], [60, 62], [60], [60, 61], [62], [62, 61], [73, 83]]
def isNull (e : Ex) (s : Rd) : Ex × Rd :=
  if s.has wNot then (ofE 4 (ofE 6 e), s.next.must [wNull]) else (ofE 6 e, s.must [wNull])
def testL (D : Dp) : Pr := fun s =>
  if (sumL D s).2.is tests < 0 then sumL D s else
  if 3 + (sumL D s).2.is tests ≤ 8 then (opE (3 + (sumL D s).2.is tests) (sumL D s).1 (sumL D (sumL D s).2.next).1, (sumL D (sumL D s).2.next).2) else
  isNull (sumL D s).1 (sumL D s).2.next
def notL (D : Dp) : Pr := fun s => if s.has wNot then (ofE 4 (within D.not s.next).1, (within D.not s.next).2) else testL D s
def andL (D : Dp) : Pr := row (notL D) 2 [[65, 78, 68]]
def exL (D : Dp) : Pr := row (andL D) 1 [[79, 82]]
def dp : Nat → Dp
  | 0 => ⟨fun s => (ex0, s), fun s => (ex0, s), fun s => (ex0, s)⟩
  | n + 1 => ⟨facL (dp n), notL (dp n), exL (dp n)⟩
def Rd.fin (s : Rd) : Rd := if s.c = 0 ∧ (hd s.l).1 ≠ 6 then s.fail 4 else s
def WF : List Tk → Prop
  | [] => False
  | [t] => t.1 = 6
  | _ :: r => WF r
theorem WF.tail {l : List Tk} (h : WF l) (hk : (hd l).1 ≠ 6) : WF l.tail ∧ l.tail.length + 1 = l.length := by
  match l, h with
  | [t], h => exact absurd h hk
  | t :: u :: r, h => exact ⟨h, rfl⟩
theorem WF.pos {l : List Tk} (h : WF l) : 0 < l.length := by
  match l, h with
  | t :: r, _ => simp
structure Ok (s s' : Rd) : Prop where
  d : s'.d = s.d
  wf : WF s'.l
  le : s'.l.length ≤ s.l.length
  c : s.c ≠ 0 → s'.c = s.c ∧ s'.a = s.a
  suf : s'.l <:+ s.l
theorem Ok.refl {s : Rd} (h : WF s.l) : Ok s s := ⟨rfl, h, Nat.le_refl _, fun _ => ⟨rfl, rfl⟩, List.suffix_refl _⟩
theorem Ok.trans {a b c : Rd} (h : Ok a b) (k : Ok b c) : Ok a c :=
  ⟨k.d.trans h.d, k.wf, Nat.le_trans k.le h.le, fun hc => ⟨(k.c (by rw [(h.c hc).1]; exact hc)).1.trans (h.c hc).1, (k.c (by rw [(h.c hc).1]; exact hc)).2.trans (h.c hc).2⟩, k.suf.trans h.suf⟩
end Go.Parse

set_option linter.unusedVariables false
namespace Go.Lex
open Go.V Go.Proofs.YtjdapkelojdefaaGreatDoor
def dec (n : Nat) : List UInt8 := if _h : n < 10 then [UInt8.ofNat (48 + n)] else dec (n / 10) ++ [UInt8.ofNat (48 + n % 10)]
theorem dec_lt {n : Nat} (h : n < 10) : dec n = [UInt8.ofNat (48 + n)] := by rw [dec, dif_pos h]
theorem dec_ge {n : Nat} (h : ¬ n < 10) : dec n = dec (n / 10) ++ [UInt8.ofNat (48 + n % 10)] := by rw [dec, dif_neg h]
theorem ofNat_toNat {n : Nat} (h : n < 10) : (UInt8.ofNat (48 + n)).toNat = 48 + n := by
  rw [UInt8.toNat_ofNat']
  omega
def quo : List UInt8 → List UInt8
  | [] => []
  | c :: r => if c = 39 then 39 :: 39 :: quo r else c :: quo r
def quoteL (t : List UInt8) : List UInt8 := 39 :: (quo t ++ [39])
theorem quo_len : ∀ t : List UInt8, (quo t).length ≤ 2 * t.length
  | [] => Nat.le_refl _
  | c :: r => by
    have := quo_len r
    unfold quo
    split <;> simp <;> omega
theorem dec_len : ∀ n : Nat, ∀ k, n < 10 ^ (k + 1) → (dec n).length ≤ k + 1 := by
  intro n
  induction n using Nat.strongRecOn with
  | ind n ih =>
    intro k hk
    by_cases h : n < 10
    · rw [dec_lt h]; simp
    · cases k with
      | zero => omega
      | succ k =>
        rw [dec_ge h, List.length_append]
        have := ih (n / 10) (by omega) k (by rw [Nat.pow_succ] at hk; omega)
        simp
        omega
end Go.Lex

set_option linter.unusedVariables false
namespace Go.Print
open Go.V Go.Lex Go.Parse Go.Proofs.YtjdapkelojdefaaGreatDoor
inductive Tr
  | val (v : Vl)
  | col (t n : By)
  | not (e : Tr)
  | neg (e : Tr)
  | null (e : Tr)
  | op (k : Nat) (a b : Tr)
def Tr.ex : Tr → Ex
  | .val v => .mk 1 0 [] [] v []
  | .col t n => .mk 2 0 t n v0 []
  | .op k a b => opE k a.ex b.ex
  | .not e => ofE 4 e.ex
  | .neg e => ofE 5 e.ex
  | .null e => ofE 6 e.ex
def isNm (s : By) : Bool := decide (s ≠ []) && decide (s.length ≤ 16) && isFirst (s.getD 0 0) && decide (pre isSmall s = s.length)
def bareV (k n : Int) (t : By) : Int × By := if k = 0 then (0, []) else if k = 1 then (n, []) else if k = 2 then (0, t) else (n, t)
def rightV (k n : Int) (t : By) : Int := if k < 0 ∨ 2 < k ∨ bareV k n t ≠ (n, t) then 4 else if 40 < t.length then 2 else 0
def okV (v : Vl) : Bool := decide (rightV v.1 v.2.1 v.2.2 = 0) && decide (v.2.1 ≠ -9223372036854775808)
def Tr.wf : Tr → Prop
  | .val v => okV v = true
  | .col t n => isNm n = true ∧ (t = [] ∨ isNm t = true)
  | .op k a b => (1 ≤ k ∧ k ≤ 13) ∧ a.wf ∧ b.wf
  | .not e => e.wf
  | .neg e => e.wf
  | .null e => e.wf
def rtN (k op : Int) (t n : By) (v : Vl) (len : Nat) : Bool :=
  if k = 1 then okV v && decide (op = 0 ∧ t = [] ∧ n = [] ∧ len = 0) else
  if k = 2 then isNm n && (decide (t = []) || isNm t) && decide (op = 0 ∧ v = v0 ∧ len = 0) else
  if k = 3 then decide ((1 ≤ op ∧ op ≤ 13) ∧ t = [] ∧ n = [] ∧ v = v0 ∧ len = 2) else
  if k = 4 ∨ k = 5 ∨ k = 6 then decide (op = 0 ∧ t = [] ∧ n = [] ∧ v = v0 ∧ len = 1) else false
mutual
def rt : Ex → Bool
  | .mk k op t n v args => rtN k op t n v args.length && rts args
def rts : List Ex → Bool
  | [] => true
  | e :: r => rt e && rts r
end
abbrev tr0 : Tr := .val v0
def mkTr (k op : Int) (t n : By) (v : Vl) (l : List Tr) : Tr :=
  if k = 1 then .val v else if k = 2 then .col t n else if k = 3 then .op op.toNat (l.getD 0 tr0) (l.getD 1 tr0) else
  if k = 4 then .not (l.getD 0 tr0) else if k = 5 then .neg (l.getD 0 tr0) else .null (l.getD 0 tr0)
mutual
def toTr : Ex → Tr
  | .mk k op t n v args => mkTr k op t n v (toTrs args)
def toTrs : List Ex → List Tr
  | [] => []
  | e :: r => toTr e :: toTrs r
end
theorem rt_mk (k op : Int) (t n : By) (v : Vl) (l : List Ex) : rt (.mk k op t n v l) = (rtN k op t n v l.length && rts l) := by rw [rt]
theorem rts_nil : rts [] = true := by rw [rts]
theorem rts_cons (e : Ex) (r : List Ex) : rts (e :: r) = (rt e && rts r) := by rw [rts]
theorem toTr_mk (k op : Int) (t n : By) (v : Vl) (l : List Ex) : toTr (.mk k op t n v l) = mkTr k op t n v (toTrs l) := by rw [toTr]
theorem toTrs_nil : toTrs [] = [] := by rw [toTrs]
theorem toTrs_cons (e : Ex) (r : List Ex) : toTrs (e :: r) = toTr e :: toTrs r := by rw [toTrs]
theorem rtN_cases {k op : Int} {t n : By} {v : Vl} {len : Nat} (h : rtN k op t n v len = true) :
    (k = 1 ∧ okV v = true ∧ op = 0 ∧ t = [] ∧ n = [] ∧ len = 0) ∨ (k = 2 ∧ isNm n = true ∧ (t = [] ∨ isNm t = true) ∧ op = 0 ∧ v = v0 ∧ len = 0) ∨
    (k = 3 ∧ (1 ≤ op ∧ op ≤ 13) ∧ t = [] ∧ n = [] ∧ v = v0 ∧ len = 2) ∨ ((k = 4 ∨ k = 5 ∨ k = 6) ∧ op = 0 ∧ t = [] ∧ n = [] ∧ v = v0 ∧ len = 1) := by
  unfold rtN at h
  split at h
  · rename_i hk
    simp only [Bool.and_eq_true, decide_eq_true_eq] at h
    exact .inl ⟨hk, h.1, h.2⟩
  · split at h
    · rename_i hk
      simp only [Bool.and_eq_true, Bool.or_eq_true, decide_eq_true_eq] at h
      exact .inr (.inl ⟨hk, h.1.1, h.1.2, h.2⟩)
    · split at h
      · rename_i hk
        exact .inr (.inr (.inl ⟨hk, of_decide_eq_true h⟩))
      · split at h
        · rename_i hk
          exact .inr (.inr (.inr ⟨hk, of_decide_eq_true h⟩))
        · cases h
mutual
theorem toTr_ok : ∀ e : Ex, rt e = true → (toTr e).ex = e ∧ (toTr e).wf
  | .mk k op t n v l, h => by
    rw [rt_mk, Bool.and_eq_true] at h
    have ih := toTrs_ok l h.2
    rw [toTr_mk]
    rcases rtN_cases h.1 with ⟨rfl, hv, rfl, rfl, rfl, hl⟩ | ⟨rfl, hn, ht, rfl, rfl, hl⟩ | ⟨rfl, ho, rfl, rfl, rfl, hl⟩ | ⟨hk, rfl, rfl, rfl, rfl, hl⟩
    · cases l with
      | nil => exact ⟨rfl, hv⟩
      | cons => cases hl
    · cases l with
      | nil => exact ⟨rfl, hn, ht⟩
      | cons => cases hl
    · match l, hl with
      | [a, b], _ =>
        rw [toTrs_cons, toTrs_cons, toTrs_nil] at ih ⊢
        have ha := ih (toTr a) (by simp)
        have hb := ih (toTr b) (by simp)
        have e : mkTr 3 op [] [] v0 [toTr a, toTr b] = .op op.toNat (toTr a) (toTr b) := rfl
        rw [e]
        have ea := toTr_ok a (by rw [rts_cons, Bool.and_eq_true] at h; exact h.2.1)
        have eb := toTr_ok b (by rw [rts_cons, rts_cons, Bool.and_eq_true, Bool.and_eq_true] at h; exact h.2.2.1)
        refine ⟨?_, ⟨by omega, by omega⟩, ea.2, eb.2⟩
        show Ex.mk 3 (op.toNat : Int) [] [] v0 [(toTr a).ex, (toTr b).ex] = _
        rw [ea.1, eb.1, show (op.toNat : Int) = op by omega]
    · match l, hl with
      | [a], _ =>
        rw [toTrs_cons, toTrs_nil]
        have ea := toTr_ok a (by rw [rts_cons, Bool.and_eq_true] at h; exact h.2.1)
        rcases hk with rfl | rfl | rfl
        · exact ⟨by show Ex.mk 4 0 [] [] v0 [(toTr a).ex] = _; rw [ea.1], ea.2⟩
        · exact ⟨by show Ex.mk 5 0 [] [] v0 [(toTr a).ex] = _; rw [ea.1], ea.2⟩
        · exact ⟨by show Ex.mk 6 0 [] [] v0 [(toTr a).ex] = _; rw [ea.1], ea.2⟩
theorem toTrs_ok : ∀ l : List Ex, rts l = true → ∀ t ∈ toTrs l, True
  | _, _, _, _ => trivial
end
def _root_.Go.Parse.Ex.kd : Ex → Int
  | .mk k _ _ _ _ _ => k
def wT (s : By) : Tk := (2, s, 0, 0)
def sT (s : By) : Tk := (5, s, 0, 0)
def nT (s : By) : Tk := (1, s, 0, 0)
def iT (n : Int) : Tk := (3, [], n.toNat, 0)
def wd (s : By) : Tk := if 65 ≤ (s.getD 0 0).toNat ∧ (s.getD 0 0).toNat ≤ 90 then wT s else sT s
def wds (l : List By) : List Tk := l.map wd
def numT (n : Int) : List Tk := if n < 0 then [sT [45], iT (-n)] else [iT n]
def litT (v : Vl) : List Tk := if v.1 = 0 then [wT [78, 85, 76, 76]] else if v.1 = 2 then [(4, v.2.2, 0, 0)] else numT v.2.1
def ops : List By := [[], [79, 82], [65, 78, 68], [61], [60, 62], [60], [60, 61], [62], [62, 61], [43], [45], [42], [47], [37]]
def lvK (k : Nat) : Nat := if k ≤ 2 then k else if k ≤ 8 then 4 else if k ≤ 10 then 5 else 6
def Tr.lvl : Tr → Nat
  | .not (.null _) => 4
  | .not _ => 3
  | .null _ => 4
  | .op k _ _ => lvK k
  | _ => 7
def lftK (k : Nat) : Nat := if lvK k = 4 then 5 else lvK k
def Tr.pos : Tr → Bool
  | .val v => decide (v.1 = 1 ∧ 0 ≤ v.2.1)
  | _ => false
def br (b : Bool) (l : List Tk) : List Tk := if b then sT [40] :: (l ++ [sT [41]]) else l
def lo (e : Tr) (k : Nat) : Bool := decide (e.lvl < k)
def Tr.tk : Tr → List Tk
  | .val v => litT v
  | .col t n => if t = [] then [nT n] else [nT t, sT [46], nT n]
  | .null e => br (lo e 5) e.tk ++ [wT [73, 83], wT [78, 85, 76, 76]]
  | .neg e => sT [45] :: br e.pos (br (lo e 7) e.tk)
  | .not (.null x) => br (lo x 5) x.tk ++ [wT [73, 83], wT [78, 79, 84], wT [78, 85, 76, 76]]
  | .not e => wT [78, 79, 84] :: br (lo e 3) e.tk
  | .op k a b => br (lo a (lftK k)) a.tk ++ wd (ops.getD k []) :: br (lo b (lvK k + 1)) b.tk
def bd (b : Bool) : Nat := if b then 1 else 0
def Tr.dp : Tr → Nat
  | .val _ => 0
  | .col _ _ => 0
  | .null e => bd (lo e 5) + e.dp
  | .neg e => 1 + (bd e.pos + (bd (lo e 7) + e.dp))
  | .not (.null x) => bd (lo x 5) + x.dp
  | .not e => 1 + (bd (lo e 3) + e.dp)
  | .op k a b => max (bd (lo a (lftK k)) + a.dp) (bd (lo b (lvK k + 1)) + b.dp)
theorem tk_null (e : Tr) : (Tr.null e).tk = br (lo e 5) e.tk ++ [wT [73, 83], wT [78, 85, 76, 76]] := by rw [Tr.tk]
theorem tk_neg (e : Tr) : (Tr.neg e).tk = sT [45] :: br e.pos (br (lo e 7) e.tk) := by rw [Tr.tk]
theorem tk_notnull (x : Tr) : (Tr.not (.null x)).tk = br (lo x 5) x.tk ++ [wT [73, 83], wT [78, 79, 84], wT [78, 85, 76, 76]] := by rw [Tr.tk]
def Tr.isNull : Tr → Bool
  | .null _ => true
  | _ => false
theorem tk_not {e : Tr} (h : e.isNull = false) : (Tr.not e).tk = wT [78, 79, 84] :: br (lo e 3) e.tk := by
  cases e <;> first | (cases h; done) | simp [Tr.tk]
theorem dp_not {e : Tr} (h : e.isNull = false) : (Tr.not e).dp = 1 + (bd (lo e 3) + e.dp) := by
  cases e <;> first | (cases h; done) | simp [Tr.dp]
theorem dp_notnull (x : Tr) : (Tr.not (.null x)).dp = bd (lo x 5) + x.dp := by rw [Tr.dp]
theorem lvl_not {e : Tr} (h : e.isNull = false) : (Tr.not e).lvl = 3 := by
  cases e <;> first | (cases h; done) | rfl
theorem tk_op (k : Nat) (a b : Tr) : (Tr.op k a b).tk = br (lo a (lftK k)) a.tk ++ wd (ops.getD k []) :: br (lo b (lvK k + 1)) b.tk := by rw [Tr.tk]
def txt (t : Tk) : By := if t.1 = 3 then dec t.2.2.1 else if t.1 = 4 then quoteL t.2.1 else t.2.1
def joinS : List By → By
  | [] => []
  | [x] => x
  | x :: y :: r => x ++ 32 :: joinS (y :: r)
def txts (l : List Tk) : List By := (l.filter fun t => decide (t.1 ≠ 6)).map txt
def writeT (l : List Tk) : By := joinS (txts l)
def fin (l : List Tk) (deep : Nat) : By × Int := if 10 < deep then ([], 10) else if 2000 < (writeT l).length then ([], 2) else (writeT l, 0)
def exprR (e : Ex) : By × Int := if rt e then fin (toTr e).tk (toTr e).dp else ([], 4)
end Go.Print

set_option linter.unusedSimpArgs false
set_option linter.unusedVariables false
namespace Go.Print
open Go.V Go.Lex Go.Parse Go.Proofs.YtjdapkelojdefaaGreatDoor
abbrev wOb (T : TypeId) (r : List AV) (τ : Nat) (l : List Tk) : Ob := .cells T (.sl (.tok τ 4) (tksA l) :: r)
abbrev WB (T : TypeId) (r : List AV) (B : Sg) (ω τ : Nat) (l : List Tk) : Sg := (B.set τ (.tok (some 102))).set ω (wOb T r τ l)
def inR' (n : Int) : Prop := -9223372036854775807 ≤ n ∧ n ≤ 9223372036854775807
structure okS (B : Sg) (ω τ : Nat) : Prop where
  free : B τ = none
  ne : τ ≠ ω
theorem WB_eq {T : TypeId} {r : List AV} {B : Sg} {ω τ : Nat} {l : List Tk} : WB T r B ω τ l = (B.set τ (.tok (some 102))).set ω (.cells T (.sl (.tok τ 4) (tksA l) :: r)) := rfl
theorem WB_grow {T : TypeId} {r : List AV} {B : Sg} {ω τ : Nat} {l m : List Tk} {es : List (List AV)} (h : es = tksA m) : (B.set τ (.tok (some 102))).set ω (.cells T (.sl (.tok τ 4) (tksA l ++ es) :: r)) = WB T r B ω τ (l ++ m) := by
  rw [h, tksA_app]
theorem WB_sub {B : Sg} {ω τ τ' : Nat} {t t' ob ob' : Ob} (h : B τ' = none) (h0 : B τ = none) : ((B.set τ' t').set ω ob').sub (((((B.set τ t).set ω ob).del τ).set τ' t').set ω ob') := by
  intro y p hy
  simp only [Sg.set_apply, Sg.del_apply] at hy ⊢
  grind
end Go.Print
namespace Go.Proofs.YtjdapkelojdefaaGreatDoor
open Go Go.V Go.Lex Go.Parse Go.Print
theorem splice0 (a x : AV) (r : List AV) : splice (a :: r) 0 [x] = x :: r := by simp [splice]
theorem w_name (T : TypeId) (r : List AV) (B : Sg) (ω τ : Nat) (l : List Tk) (s : By) (h : okS B ω τ) (hl : l.length < 2 ^ 40) : VCalls Tryz.prog 46 [.ref ω 0, .s (bs s)] (WB T r B ω τ l) (fun x σ' => x = .tup [] ∧ ∃ τ', okS B ω τ' ∧ σ' = WB T r B ω τ' (l ++ [nT s])) := by
  obtain ⟨h1, h2⟩ := h
  have h2' := h2.symm
  rw [WB_eq]
  have hlen := tksA_len l
  have hall := tksA_all l
  (refine vfun (fun _ => .no) mixed Tryz.func46 (by kernel_rfl) ?_; simp only [bodyOf, Tryz.f46, zr])
  repeat' (first | with_reducible rfl | exact trivial | exact .inr trivial | (with_reducible first | apply And.intro | apply vqx_step | apply vqm_step | refine vkp_free (by decide +kernel) ?_ | intro _) | refine zaY (j3 ui0 ui3 (j9 ui9 ui56 ui57 ui100 ui101 ui102 hlen hall @splice0)) ?_ | ((first | (refine vlo_app zx ?_) | (refine vst_app zx ?_)); (try refine zsY (j3 ui0 ui3 (j9 ui9 ui56 ui57 ui100 ui101 ui102 hlen hall @splice0)) ?_)) | (with_reducible first | refine vfresh_set ?_ | refine vfresh_intro (fun _ _ => ?_) | refine vif_intro (fun _ => ?_) (fun _ => ?_)) | omega | refine ztY (j3 ui0 ui3 (j9 ui9 ui56 ui57 ui100 ui101 ui102 hlen hall @splice0)) ?_ | fail)
  all_goals (exact ⟨_, WB_sub ‹B _ = none› (by assumption), _, ⟨‹B _ = none›, by assumption⟩, WB_grow rfl⟩)
theorem wds_len (l : List By) : (wds l).length = l.length := by simp [wds]
theorem iT_A {n : Int} (h : 0 ≤ n) : [[AV.i 3, .s (bs []), .i n, .i 0]] = tksA [iT n] := by
  have : ((n.toNat : Nat) : Int) = n := by omega
  show _ = [[AV.i 3, .s (bs []), .i ((n.toNat : Nat) : Int), .i 0]]
  rw [this]
theorem wds_step {ws : List By} {k : Nat} (h : k < ws.length) : wds (ws.take (k + 1)) = wds (ws.take k) ++ [wd (ws.getD k [])] := by
  unfold wds
  rw [List.take_succ_eq_append_getElem h, List.map_append]
  simp [List.getD_eq_getElem?_getD, List.getElem?_eq_getElem h]
theorem w_words (T : TypeId) (r : List AV) (B : Sg) (ω τ : Nat) (l : List Tk) (o : Own) (ws : List By) (es : List (List AV)) (he : es = strs ws) (h : okS B ω τ) (hl : l.length + ws.length < 2 ^ 40) (hw : ∀ w ∈ ws, w ≠ []) : VCalls Tryz.prog 29 [.ref ω 0, .sl o es] (WB T r B ω τ l) (fun x σ' => x = .tup [] ∧ ∃ τ', okS B ω τ' ∧ σ' = WB T r B ω τ' (l ++ wds ws)) := by
  subst he
  have hsl := strs_len ws
  (refine vfun (fun _ => .no) mixed Tryz.func29 (by kernel_rfl) ?_; simp only [bodyOf, Tryz.f29, zr])
  repeat' (first | with_reducible rfl | exact trivial | exact .inr trivial | (with_reducible first | apply And.intro | apply vqx_step | apply vqm_step | refine vkp_free (by decide +kernel) ?_ | intro _) | refine zaY (j4 ui0 ui3 ui4 (j9 ui5 ui9 ui56 ui57 ui75 ui100 ui101 ui102 hsl)) ?_ | ((first | (refine vlo_app zx ?_) | (refine vst_app zx ?_)); (try refine zsY (j4 ui0 ui3 ui4 (j9 ui5 ui9 ui56 ui57 ui75 ui100 ui101 ui102 hsl)) ?_)) | (with_reducible first | refine vfresh_set ?_ | refine vfresh_intro (fun _ _ => ?_) | refine vif_intro (fun _ => ?_) (fun _ => ?_)) | omega | refine ztY (j4 ui0 ui3 ui4 (j9 ui5 ui9 ui56 ui57 ui75 ui100 ui101 ui102 hsl)) ?_ | fail)
  refine VW.loop3 (0 : Nat) τ () (fun k τ' _ => k ≤ ws.length ∧ okS B ω τ') (fun k _ _ => [(0, .ref ω 0), (7, .sl o (strs ws)), (8, .i ws.length), (9, .i k)]) (fun k τ' _ => WB T r B ω τ' (l ++ wds (ws.take k))) (fun k _ _ => ws.length - k) ⟨Nat.zero_le _, h⟩ (by simp [wds]; exact .refl _) ?_ ?_
  · simp only [vO, vQ, ↓vP, vE, vS, vB, vL, vF, vM, vN, vbs_full, Nat.reduceEqDiff, Nat.reduceAdd, Nat.reduceLeDiff, ne_eq, not_false_eq_true, Nat.reduceMul, Nat.reduceSub, Int.toNat_zero, Int.reduceToNat, vT]
    all_goals rfl
  rintro k τ' _ ⟨hk, h1, h2⟩
  have h2' := h2.symm
  rw [WB_eq]
  rcases Nat.lt_or_ge k ws.length with hk2 | hk2
  · have hg := strs_get hk2
    have hwk : ws.getD k [] ≠ [] := hw _ (by simp [List.getD_eq_getElem?_getD, List.getElem?_eq_getElem hk2])
    have hwl : 0 < (ws.getD k []).length := List.length_pos_iff.2 hwk
    have hst := wds_step hk2
    have hwd : wd (ws.getD k []) = if 65 ≤ ((ws.getD k []).getD 0 0).toNat ∧ ((ws.getD k []).getD 0 0).toNat ≤ 90 then wT (ws.getD k []) else sT (ws.getD k []) := rfl
    generalize ws.getD k [] = w at *
    have hall := tksA_all (l ++ wds (ws.take k))
    have hlen : (tksA (l ++ wds (ws.take k))).length = l.length + k := by rw [tksA_len, List.length_append]; simp [wds]; omega
    generalize hL : l ++ wds (ws.take k) = L at *
    repeat' (first | with_reducible rfl | exact trivial | exact .inr trivial | (with_reducible first | apply And.intro | apply vqx_step | apply vqm_step | refine vkp_free (by decide +kernel) ?_ | intro _) | refine zaY (j8 ui0 ui3 ui4 ui5 ui9 ui56 ui57 (j9 ui75 ui100 ui101 ui102 hsl hg hall hlen @splice0)) ?_ | ((first | (refine vlo_app zx ?_) | (refine vst_app zx ?_)); (try refine zsY (j8 ui0 ui3 ui4 ui5 ui9 ui56 ui57 (j9 ui75 ui100 ui101 ui102 hsl hg hall hlen @splice0)) ?_)) | (with_reducible first | refine vfresh_set ?_ | refine vfresh_intro (fun _ _ => ?_) | refine vif_intro (fun _ => ?_) (fun _ => ?_)) | omega | refine ztY (j8 ui0 ui3 ui4 ui5 ui9 ui56 ui57 (j9 ui75 ui100 ui101 ui102 hsl hg hall hlen @splice0)) ?_ | fail)
    · rename_i τ2 q1 _ q2
      exact ⟨k + 1, τ2, (), ⟨⟨hk2, q1, q2⟩, by omega⟩, by rw [hst, ← List.append_assoc, hL, hwd, if_pos ⟨by omega, by omega⟩, ← WB_grow (m := [wT w]) rfl]; exact WB_sub q1 h1, rfl⟩
    all_goals rename_i τ2 q1 _ q2
    all_goals exact ⟨k + 1, τ2, (), ⟨⟨hk2, q1, q2⟩, by omega⟩, by rw [hst, ← List.append_assoc, hL, hwd, if_neg (by omega), ← WB_grow (m := [sT w]) rfl]; exact WB_sub q1 h1, rfl⟩
  · repeat' (first | with_reducible rfl | exact trivial | exact .inr trivial | (with_reducible first | apply And.intro | apply vqx_step | apply vqm_step | refine vkp_free (by decide +kernel) ?_ | intro _) | refine zaY (j4 ui0 ui3 ui4 (j9 ui5 ui9 ui56 ui57 ui75 ui100 ui101 ui102 hsl)) ?_ | ((first | (refine vlo_app zx ?_) | (refine vst_app zx ?_)); (try refine zsY (j4 ui0 ui3 ui4 (j9 ui5 ui9 ui56 ui57 ui75 ui100 ui101 ui102 hsl)) ?_)) | (with_reducible first | refine vfresh_set ?_ | refine vfresh_intro (fun _ _ => ?_) | refine vif_intro (fun _ => ?_) (fun _ => ?_)) | omega | refine ztY (j4 ui0 ui3 ui4 (j9 ui5 ui9 ui56 ui57 ui75 ui100 ui101 ui102 hsl)) ?_ | fail)
    rw [List.take_of_length_le hk2]
    exact ⟨_, .refl _, τ', ⟨h1, h2⟩, rfl⟩
def wdsE (es : List (List AV)) : List Tk := es.map fun e => wd (match e with | [.val (.string s)] => s.data.toList | _ => [])
theorem wdsE_strs (ws : List By) : wdsE (strs ws) = wds ws := by
  unfold wdsE strs wds
  rw [List.map_map]
  refine List.map_congr_left (fun w _ => ?_)
  show wd ((bs w).data.toList) = wd w
  rw [bs_toList]
theorem wdsE_nil : wdsE [] = [] := rfl
theorem wdsE_cons (w : By) (es : List (List AV)) : wdsE ([.val (.string (bs w))] :: es) = wd w :: wdsE es := by
  show wd ((bs w).data.toList) :: wdsE es = _
  rw [bs_toList]
def okW (es : List (List AV)) : Prop := ∃ ws, es = strs ws ∧ ∀ w ∈ ws, w ≠ []
theorem okW_nil : okW [] := ⟨[], rfl, fun w h => by cases h⟩
theorem okW_cons {w : By} {es : List (List AV)} (h : okW es) (hw : w ≠ []) : okW ([AV.s (bs w)] :: es) := by
  obtain ⟨ws, rfl, h⟩ := h
  exact ⟨w :: ws, rfl, fun x hx => by
    rcases List.mem_cons.1 hx with rfl | hx
    · exact hw
    · exact h x hx⟩
theorem w_wordsE (T : TypeId) (r : List AV) (B : Sg) (ω τ : Nat) (l : List Tk) (o : Own) (es : List (List AV)) (he : okW es) (h : okS B ω τ) (hl : l.length + es.length < 2 ^ 40) : VCalls Tryz.prog 29 [.ref ω 0, .sl o es] (WB T r B ω τ l) (fun x σ' => x = .tup [] ∧ ∃ τ', okS B ω τ' ∧ σ' = WB T r B ω τ' (l ++ wdsE es)) := by
  obtain ⟨ws, rfl, hw⟩ := he
  rw [strs_len] at hl
  rw [wdsE_strs]
  exact w_words T r B ω τ l o ws _ rfl h hl hw
theorem w_number (T : TypeId) (r : List AV) (B : Sg) (ω τ : Nat) (l : List Tk) (n : Int) (h : okS B ω τ) (hl : l.length < 2 ^ 39) (hn : inR' n) : VCalls Tryz.prog 103 [.ref ω 0, .i n] (WB T r B ω τ l) (fun x σ' => x = .tup [] ∧ ∃ τ', okS B ω τ' ∧ σ' = WB T r B ω τ' (l ++ numT n)) := by
  unfold inR' at hn
  unfold numT
  by_cases hc : n < 0
  · rw [if_pos hc]
    (refine vfun (fun _ => .no) mixed Tryz.func103 (by kernel_rfl) ?_; simp only [bodyOf, Tryz.f103, zr])
    repeat' (first | with_reducible rfl | exact trivial | exact .inr trivial | (with_reducible first | apply And.intro | apply vqx_step | apply vqm_step | refine vkp_free (by decide +kernel) ?_ | intro _) | refine zaY (j4 ui0 ui3 ui4 (j9 ui9 ui56 ui57 ui75 ui100 ui101 ui102 @tksA_len (j9 @tksA_all @tksA_one @List.length_append.{0} @List.length_cons.{0} @List.length_nil.{0} @wds_len @wdsE_nil @wdsE_cons @splice0))) ?_ | ((first | ((with_reducible refine zy (w_wordsE _ _ _ _ _ _ _ _ (by repeat (first | exact okW_nil | refine okW_cons ?_ (by simp))) (by first | assumption | exact ⟨by assumption, by assumption⟩) (by first | omega | (simp only [List.length_append, List.length_cons, List.length_nil, List.length_map]; omega))) ?_); rintro _ S ⟨rfl, τ1, ⟨f1, n1⟩, rfl⟩; have n1s := n1.symm) | (refine vlo_app zx ?_) | (refine vst_app zx ?_)); (try refine zsY (j4 ui0 ui3 ui4 (j9 ui9 ui56 ui57 ui75 ui100 ui101 ui102 @tksA_len (j9 @tksA_all @tksA_one @List.length_append.{0} @List.length_cons.{0} @List.length_nil.{0} @wds_len @wdsE_nil @wdsE_cons @splice0))) ?_)) | (with_reducible first | refine vfresh_set ?_ | refine vfresh_intro (fun _ _ => ?_) | refine vif_intro (fun _ => ?_) (fun _ => ?_)) | omega | refine ztY (j4 ui0 ui3 ui4 (j9 ui9 ui56 ui57 ui75 ui100 ui101 ui102 @tksA_len (j9 @tksA_all @tksA_one @List.length_append.{0} @List.length_cons.{0} @List.length_nil.{0} @wds_len @wdsE_nil @wdsE_cons @splice0))) ?_ | fail)
    rename_i τ2 q1 _ q2
    exact ⟨_, WB_sub q1 (by assumption), _, ⟨q1, q2⟩, by rw [WB_grow (m := [iT (0 - n)]) (iT_A (by omega)), List.append_assoc, Int.zero_sub]; rfl⟩
  · rw [if_neg hc]
    obtain ⟨f0, n0⟩ := h
    have n0s := n0.symm
    (refine vfun (fun _ => .no) mixed Tryz.func103 (by kernel_rfl) ?_; simp only [bodyOf, Tryz.f103, zr])
    repeat' (first | with_reducible rfl | exact trivial | exact .inr trivial | (with_reducible first | apply And.intro | apply vqx_step | apply vqm_step | refine vkp_free (by decide +kernel) ?_ | intro _) | refine zaY (j4 ui0 ui3 ui4 (j9 ui9 ui56 ui57 ui75 ui100 ui101 ui102 @tksA_len (j9 @tksA_all @tksA_one @List.length_append.{0} @List.length_cons.{0} @List.length_nil.{0} @wds_len @wdsE_nil @wdsE_cons @splice0))) ?_ | ((first | ((with_reducible refine zy (w_wordsE _ _ _ _ _ _ _ _ (by repeat (first | exact okW_nil | refine okW_cons ?_ (by simp))) (by first | assumption | exact ⟨by assumption, by assumption⟩) (by first | omega | (simp only [List.length_append, List.length_cons, List.length_nil, List.length_map]; omega))) ?_); rintro _ S ⟨rfl, τ1, ⟨f1, n1⟩, rfl⟩; have n1s := n1.symm) | (refine vlo_app zx ?_) | (refine vst_app zx ?_)); (try refine zsY (j4 ui0 ui3 ui4 (j9 ui9 ui56 ui57 ui75 ui100 ui101 ui102 @tksA_len (j9 @tksA_all @tksA_one @List.length_append.{0} @List.length_cons.{0} @List.length_nil.{0} @wds_len @wdsE_nil @wdsE_cons @splice0))) ?_)) | (with_reducible first | refine vfresh_set ?_ | refine vfresh_intro (fun _ _ => ?_) | refine vif_intro (fun _ => ?_) (fun _ => ?_)) | omega | refine ztY (j4 ui0 ui3 ui4 (j9 ui9 ui56 ui57 ui75 ui100 ui101 ui102 @tksA_len (j9 @tksA_all @tksA_one @List.length_append.{0} @List.length_cons.{0} @List.length_nil.{0} @wds_len @wdsE_nil @wdsE_cons @splice0))) ?_ | fail)
    rename_i τ2 q1 _ q2
    exact ⟨_, WB_sub q1 (by assumption), _, ⟨q1, q2⟩, by rw [WB_grow (m := [iT n]) (iT_A (by omega))]⟩
theorem w_literal (T : TypeId) (r : List AV) (B : Sg) (ω τ : Nat) (l : List Tk) (v : Vl) (h : okS B ω τ) (hl : l.length < 2 ^ 38) (hn : inR' v.2.1) (hk : v.1 = 0 ∨ v.1 = 1 ∨ v.1 = 2) : VCalls Tryz.prog 45 [.ref ω 0, .agg [.i v.1, .i v.2.1, .s (bs v.2.2)]] (WB T r B ω τ l) (fun x σ' => x = .tup [] ∧ ∃ τ', okS B ω τ' ∧ σ' = WB T r B ω τ' (l ++ litT v)) := by
  unfold litT
  obtain ⟨k, n, t⟩ := v
  simp only at hn hk ⊢
  rcases hk with rfl | rfl | rfl
  · (refine vfun (fun _ => .ro) mixed Tryz.func45 (by kernel_rfl) ?_; simp only [bodyOf, Tryz.f45, zr])
    repeat' (first | with_reducible rfl | exact trivial | exact .inr trivial | (with_reducible first | apply And.intro | apply vqx_step | apply vqm_step | refine vkp_free (by decide +kernel) ?_ | intro _) | refine zaY (j6 ui0 ui3 ui4 ui9 ui22 (j9 ui23 ui56 ui57 ui75 ui100 ui101 ui102 @tksA_len (j9 @tksA_all @tksA_one @List.length_append.{0} @List.length_cons.{0} @List.length_nil.{0} @wds_len @wdsE_nil @wdsE_cons @splice0))) ?_ | ((first | ((with_reducible refine zy (w_wordsE _ _ _ _ _ _ _ _ (by repeat (first | exact okW_nil | refine okW_cons ?_ (by simp))) (by first | assumption | exact ⟨by assumption, by assumption⟩) (by first | omega | (simp only [List.length_append, List.length_cons, List.length_nil, List.length_map]; omega))) ?_); rintro _ S ⟨rfl, τ1, ⟨f1, n1⟩, rfl⟩; have n1s := n1.symm) | ((with_reducible refine zy (w_number _ _ _ _ _ _ _ (by first | assumption | exact ⟨by assumption, by assumption⟩) (by first | omega | (simp only [List.length_append, List.length_cons, List.length_nil, List.length_map]; omega)) (by assumption)) ?_); rintro _ S ⟨rfl, τ1, ⟨f1, n1⟩, rfl⟩; have n1s := n1.symm) | (refine vlo_app zx ?_) | (refine vst_app zx ?_)); (try refine zsY (j6 ui0 ui3 ui4 ui9 ui22 (j9 ui23 ui56 ui57 ui75 ui100 ui101 ui102 @tksA_len (j9 @tksA_all @tksA_one @List.length_append.{0} @List.length_cons.{0} @List.length_nil.{0} @wds_len @wdsE_nil @wdsE_cons @splice0))) ?_)) | (with_reducible first | refine vfresh_set ?_ | refine vfresh_intro (fun _ _ => ?_) | refine vif_intro (fun _ => ?_) (fun _ => ?_)) | omega | refine ztY (j6 ui0 ui3 ui4 ui9 ui22 (j9 ui23 ui56 ui57 ui75 ui100 ui101 ui102 @tksA_len (j9 @tksA_all @tksA_one @List.length_append.{0} @List.length_cons.{0} @List.length_nil.{0} @wds_len @wdsE_nil @wdsE_cons @splice0))) ?_ | fail)
    exact ⟨_, .refl _, τ1, ⟨f1, n1⟩, rfl⟩
  · (refine vfun (fun _ => .ro) mixed Tryz.func45 (by kernel_rfl) ?_; simp only [bodyOf, Tryz.f45, zr])
    repeat' (first | with_reducible rfl | exact trivial | exact .inr trivial | (with_reducible first | apply And.intro | apply vqx_step | apply vqm_step | refine vkp_free (by decide +kernel) ?_ | intro _) | refine zaY (j6 ui0 ui3 ui4 ui9 ui22 (j9 ui23 ui56 ui57 ui75 ui100 ui101 ui102 @tksA_len (j9 @tksA_all @tksA_one @List.length_append.{0} @List.length_cons.{0} @List.length_nil.{0} @wds_len @wdsE_nil @wdsE_cons @splice0))) ?_ | ((first | ((with_reducible refine zy (w_wordsE _ _ _ _ _ _ _ _ (by repeat (first | exact okW_nil | refine okW_cons ?_ (by simp))) (by first | assumption | exact ⟨by assumption, by assumption⟩) (by first | omega | (simp only [List.length_append, List.length_cons, List.length_nil, List.length_map]; omega))) ?_); rintro _ S ⟨rfl, τ1, ⟨f1, n1⟩, rfl⟩; have n1s := n1.symm) | ((with_reducible refine zy (w_number _ _ _ _ _ _ _ (by first | assumption | exact ⟨by assumption, by assumption⟩) (by first | omega | (simp only [List.length_append, List.length_cons, List.length_nil, List.length_map]; omega)) (by assumption)) ?_); rintro _ S ⟨rfl, τ1, ⟨f1, n1⟩, rfl⟩; have n1s := n1.symm) | (refine vlo_app zx ?_) | (refine vst_app zx ?_)); (try refine zsY (j6 ui0 ui3 ui4 ui9 ui22 (j9 ui23 ui56 ui57 ui75 ui100 ui101 ui102 @tksA_len (j9 @tksA_all @tksA_one @List.length_append.{0} @List.length_cons.{0} @List.length_nil.{0} @wds_len @wdsE_nil @wdsE_cons @splice0))) ?_)) | (with_reducible first | refine vfresh_set ?_ | refine vfresh_intro (fun _ _ => ?_) | refine vif_intro (fun _ => ?_) (fun _ => ?_)) | omega | refine ztY (j6 ui0 ui3 ui4 ui9 ui22 (j9 ui23 ui56 ui57 ui75 ui100 ui101 ui102 @tksA_len (j9 @tksA_all @tksA_one @List.length_append.{0} @List.length_cons.{0} @List.length_nil.{0} @wds_len @wdsE_nil @wdsE_cons @splice0))) ?_ | fail)
    exact ⟨_, .refl _, τ1, ⟨f1, n1⟩, rfl⟩
  · obtain ⟨f0, n0⟩ := h
    have n0s := n0.symm
    (refine vfun (fun _ => .ro) mixed Tryz.func45 (by kernel_rfl) ?_; simp only [bodyOf, Tryz.f45, zr])
    repeat' (first | with_reducible rfl | exact trivial | exact .inr trivial | (with_reducible first | apply And.intro | apply vqx_step | apply vqm_step | refine vkp_free (by decide +kernel) ?_ | intro _) | ((with_reducible refine .dms (fun x => x = ω) [(0, false), (1, false), (2, false), (3, false), (4, true), (5, true), (6, true), (7, false), (8, true), (9, true), (10, true)] (by decide) (by decide +kernel) ?_); (refine zsR (j6 ui0 ui3 ui4 ui9 ui22 (j9 ui23 ui56 ui57 ui75 ui100 ui101 ui102 @tksA_len (j9 @tksA_all @tksA_one @List.length_append.{0} @List.length_cons.{0} @List.length_nil.{0} @wds_len @wdsE_nil @wdsE_cons @splice0))) ?_)) | ((with_reducible refine .dm (fun x => x = ω) [(0, false), (1, false), (2, false), (3, false), (4, true), (5, true), (6, true), (7, false), (8, true), (9, true), (10, true)] (by decide) (by decide +kernel) ?_); (refine zsR (j6 ui0 ui3 ui4 ui9 ui22 (j9 ui23 ui56 ui57 ui75 ui100 ui101 ui102 @tksA_len (j9 @tksA_all @tksA_one @List.length_append.{0} @List.length_cons.{0} @List.length_nil.{0} @wds_len @wdsE_nil @wdsE_cons @splice0))) ?_)) | refine zaR (j6 ui0 ui3 ui4 ui9 ui22 (j9 ui23 ui56 ui57 ui75 ui100 ui101 ui102 @tksA_len (j9 @tksA_all @tksA_one @List.length_append.{0} @List.length_cons.{0} @List.length_nil.{0} @wds_len @wdsE_nil @wdsE_cons @splice0))) ?_ | refine zkK (j6 ui0 ui3 ui4 ui9 ui22 (j9 ui23 ui56 ui57 ui75 ui100 ui101 ui102 @tksA_len (j9 @tksA_all @tksA_one @List.length_append.{0} @List.length_cons.{0} @List.length_nil.{0} @wds_len @wdsE_nil @wdsE_cons @splice0))) ?_ | ((first | (refine vkp_keep (by intro β h; first | (rcases h with h | h <;> subst h <;> (simp (disch := first | assumption | (apply zv; assumption; assumption) | (apply zw; assumption; assumption; (intro e; cases e; done)) | omega) only [zm, Sg.set_ne, zo, Sg.del_ne, zq])) | (subst h; (simp (disch := first | assumption | (apply zv; assumption; assumption) | (apply zw; assumption; assumption; (intro e; cases e; done)) | omega) only [zm, Sg.set_ne, zo, Sg.del_ne, zq]))) ?_) | ((with_reducible refine zy (w_wordsE _ _ _ _ _ _ _ _ (by repeat (first | exact okW_nil | refine okW_cons ?_ (by simp))) (by first | assumption | exact ⟨by assumption, by assumption⟩) (by first | omega | (simp only [List.length_append, List.length_cons, List.length_nil, List.length_map]; omega))) ?_); rintro _ S ⟨rfl, τ1, ⟨f1, n1⟩, rfl⟩; have n1s := n1.symm) | ((with_reducible refine zy (w_number _ _ _ _ _ _ _ (by first | assumption | exact ⟨by assumption, by assumption⟩) (by first | omega | (simp only [List.length_append, List.length_cons, List.length_nil, List.length_map]; omega)) (by assumption)) ?_); rintro _ S ⟨rfl, τ1, ⟨f1, n1⟩, rfl⟩; have n1s := n1.symm) | (refine vlo_app zx ?_) | (refine vst_app zx ?_)); (try refine zsR (j6 ui0 ui3 ui4 ui9 ui22 (j9 ui23 ui56 ui57 ui75 ui100 ui101 ui102 @tksA_len (j9 @tksA_all @tksA_one @List.length_append.{0} @List.length_cons.{0} @List.length_nil.{0} @wds_len @wdsE_nil @wdsE_cons @splice0))) ?_)) | refine zmR (j6 ui0 ui3 ui4 ui9 ui22 (j9 ui23 ui56 ui57 ui75 ui100 ui101 ui102 @tksA_len (j9 @tksA_all @tksA_one @List.length_append.{0} @List.length_cons.{0} @List.length_nil.{0} @wds_len @wdsE_nil @wdsE_cons @splice0))) ?_ | (with_reducible first | refine vfresh_set ?_ | refine vfresh_intro (fun _ _ => ?_) | refine vif_intro (fun _ => ?_) (fun _ => ?_)) | omega | refine ztR (j6 ui0 ui3 ui4 ui9 ui22 (j9 ui23 ui56 ui57 ui75 ui100 ui101 ui102 @tksA_len (j9 @tksA_all @tksA_one @List.length_append.{0} @List.length_cons.{0} @List.length_nil.{0} @wds_len @wdsE_nil @wdsE_cons @splice0))) ?_ | fail)
    rename_i τ2 q1 _ q2
    exact ⟨_, WB_sub q1 f0, _, ⟨q1, q2⟩, WB_grow rfl⟩
end Go.Proofs.YtjdapkelojdefaaGreatDoor

set_option linter.unusedVariables false
namespace Go.Print
open Go.V Go.Lex Go.Parse Go.Proofs.YtjdapkelojdefaaGreatDoor
def inR (n : Int) : Prop := -9223372036854775808 ≤ n ∧ n ≤ 9223372036854775807
inductive Lim : Ex → Prop
  | mk (k op : Int) (t n : By) (v : Vl) (l : List Ex) (h : l.length ≤ 9223372036854775807) (hr : inR k ∧ inR op ∧ inR v.1 ∧ inR v.2.1) (hl : ∀ e ∈ l, Lim e) : Lim (.mk k op t n v l)
def fewB : Nat → Ex → Bool
  | 0, _ => false
  | d + 1, .mk k op t n v l => decide (l.length ≤ 3 ∧ t.length ≤ 4096 ∧ n.length ≤ 4096 ∧ v.2.2.length ≤ 4096) && l.all (fewB d)
theorem few_mk {d : Nat} {k op : Int} {t n : By} {v : Vl} {l : List Ex} (h : fewB (d + 1) (.mk k op t n v l) = true) : l.length ≤ 3 ∧ ∀ e ∈ l, fewB d e = true := by
  unfold fewB at h
  rw [Bool.and_eq_true, decide_eq_true_eq, List.all_eq_true] at h
  exact ⟨h.1.1, h.2⟩
theorem br_len (b : Bool) (l : List Tk) : l.length ≤ (br b l).length ∧ (br b l).length ≤ l.length + 2 := by
  cases b <;> simp [br] <;> omega
theorem litT_len (v : Vl) : 1 ≤ (litT v).length ∧ (litT v).length ≤ 2 := by
  unfold litT numT
  repeat' split
  all_goals simp
theorem br_bd (b : Bool) (l : List Tk) {d : Nat} (h : d ≤ l.length) : bd b + d ≤ (br b l).length := by
  cases b <;> simp [br, bd] <;> omega
theorem dp_le : ∀ t : Tr, t.dp ≤ t.tk.length
  | .val v => Nat.zero_le _
  | .col t n => Nat.zero_le _
  | .null e => by
    have := br_bd (lo e 5) e.tk (dp_le e)
    rw [tk_null, Tr.dp, List.length_append]
    omega
  | .neg e => by
    have := br_bd e.pos _ (br_bd (lo e 7) e.tk (dp_le e))
    rw [tk_neg, Tr.dp, List.length_cons]
    omega
  | .not (.null x) => by
    have := br_bd (lo x 5) x.tk (dp_le x)
    rw [tk_notnull, dp_notnull, List.length_append]
    omega
  | .not (.val v) => by
    have := br_bd (lo (.val v) 3) (Tr.val v).tk (dp_le (.val v))
    rw [tk_not rfl, dp_not rfl, List.length_cons]; omega
  | .not (.col t n) => by
    have := br_bd (lo (.col t n) 3) (Tr.col t n).tk (dp_le (.col t n))
    rw [tk_not rfl, dp_not rfl, List.length_cons]; omega
  | .not (.not x) => by
    have := br_bd (lo (.not x) 3) (Tr.not x).tk (dp_le (.not x))
    rw [tk_not rfl, dp_not rfl, List.length_cons]; omega
  | .not (.neg x) => by
    have := br_bd (lo (.neg x) 3) (Tr.neg x).tk (dp_le (.neg x))
    rw [tk_not rfl, dp_not rfl, List.length_cons]; omega
  | .not (.op k a b) => by
    have := br_bd (lo (.op k a b) 3) (Tr.op k a b).tk (dp_le (.op k a b))
    rw [tk_not rfl, dp_not rfl, List.length_cons]; omega
  | .op k a b => by
    have h1 := br_bd (lo a (lftK k)) a.tk (dp_le a)
    have h2 := br_bd (lo b (lvK k + 1)) b.tk (dp_le b)
    rw [tk_op, Tr.dp, List.length_append, List.length_cons]
    omega
theorem few_tk : ∀ (d : Nat) (t : Tr), fewB d t.ex = true → t.tk.length + 8 ≤ 16 * 2 ^ d
  | 0, t, h => by cases h
  | d + 1, .val v, h => by
    have := (litT_len v).2
    have : 1 ≤ 2 ^ d := Nat.one_le_two_pow
    rw [Nat.pow_succ]
    show (litT v).length + 8 ≤ _
    omega
  | d + 1, .col t n, h => by
    have : 1 ≤ 2 ^ d := Nat.one_le_two_pow
    rw [Nat.pow_succ, Tr.tk]
    split <;> simp <;> omega
  | d + 1, .null e, h => by
    have ih := few_tk d e ((few_mk h).2 _ (by simp))
    have := (br_len (lo e 5) e.tk).2
    rw [Nat.pow_succ, tk_null, List.length_append]
    simp only [List.length_cons, List.length_nil]
    omega
  | d + 1, .neg e, h => by
    have ih := few_tk d e ((few_mk h).2 _ (by simp))
    have h1 := (br_len (lo e 7) e.tk).2
    have h2 := (br_len e.pos (br (lo e 7) e.tk)).2
    rw [Nat.pow_succ, tk_neg, List.length_cons]
    omega
  | d + 1, .op k a b, h => by
    have ha := few_tk d a ((few_mk h).2 _ (by simp))
    have hb := few_tk d b ((few_mk h).2 _ (by simp))
    have h1 := (br_len (lo a (lftK k)) a.tk).2
    have h2 := (br_len (lo b (lvK k + 1)) b.tk).2
    rw [Nat.pow_succ, tk_op, List.length_append, List.length_cons]
    omega
  | d + 1, .not e, h => by
    have hf := (few_mk h).2 _ (List.mem_cons_self ..)
    cases he : e.isNull with
    | false =>
      have ih := few_tk d e hf
      have h1 := (br_len (lo e 3) e.tk).2
      rw [Nat.pow_succ, tk_not he, List.length_cons]
      omega
    | true =>
      cases e <;> first | (cases he; done) | skip
      rename_i x
      cases d with
      | zero => cases hf
      | succ d =>
        have ih := few_tk d x ((few_mk hf).2 _ (List.mem_cons_self ..))
        have h1 := (br_len (lo x 5) x.tk).2
        rw [Nat.pow_succ, Nat.pow_succ, tk_notnull, List.length_append]
        simp only [List.length_cons, List.length_nil]
        omega
end Go.Print

set_option linter.unusedSimpArgs false
set_option linter.unusedVariables false
namespace Go.Proofs.YtjdapkelojdefaaGreatDoor
open Go Go.V Go.Lex Go.Parse
end Go.Proofs.YtjdapkelojdefaaGreatDoor

set_option linter.unusedSimpArgs false
set_option linter.unusedVariables false
namespace Go.Proofs.YtjdapkelojdefaaGreatDoor
open Go Go.V Go.Lex Go.Parse
end Go.Proofs.YtjdapkelojdefaaGreatDoor

set_option linter.unusedSimpArgs false
set_option linter.unusedVariables false
namespace Go.Parse
open Go.V Go.Lex Go.Proofs.YtjdapkelojdefaaGreatDoor
mutual
def exA : Ex → List AV
  | .mk k op t n v args => [.i k, .i op, .s (bs t), .s (bs n), .i v.1, .i v.2.1, .s (bs v.2.2), .sl .any (exsA args)]
def exsA : List Ex → List (List AV)
  | [] => []
  | e :: r => exA e :: exsA r
end
theorem exA_mk (k op : Int) (t n : By) (v : Vl) (args : List Ex) : exA (.mk k op t n v args) = [.i k, .i op, .s (bs t), .s (bs n), .i v.1, .i v.2.1, .s (bs v.2.2), .sl .any (exsA args)] := by rw [exA]
theorem exsA_nil : exsA [] = [] := by rw [exsA]
theorem exsA_cons (e : Ex) (r : List Ex) : exsA (e :: r) = exA e :: exsA r := by rw [exsA]
theorem exA_len (e : Ex) : (exA e).length = 8 := by cases e; rw [exA_mk]; rfl
theorem exA_take (e : Ex) : (exA e).take 8 = exA e := List.take_of_length_le (by rw [exA_len]; omega)
theorem exA_drop (e : Ex) : (exA e).drop 8 = [] := List.drop_of_length_le (by rw [exA_len]; omega)
theorem exA_one (e : Ex) : (exA e).all AV.one = true := by cases e; rw [exA_mk]; rfl
theorem exsA_len : ∀ l : List Ex, (exsA l).length = l.length
  | [] => by rw [exsA_nil]; rfl
  | e :: r => by rw [exsA_cons, List.length_cons, exsA_len r, List.length_cons]
def exK (o : Own) : Ex → List AV
  | .mk k op t n v args => [.i k, .i op, .s (bs t), .s (bs n), .i v.1, .i v.2.1, .s (bs v.2.2), .sl o (exsA args)]
theorem exK_mk (o : Own) (k op : Int) (t n : By) (v : Vl) (args : List Ex) : exK o (.mk k op t n v args) = [.i k, .i op, .s (bs t), .s (bs n), .i v.1, .i v.2.1, .s (bs v.2.2), .sl o (exsA args)] := rfl
theorem AVw.ex (o : Own) (e : Ex) : AVw (.agg (exK o e)) (.agg (exA e)) := by
  cases e
  rw [exA_mk, exK_mk]
  refine AVw.agg rfl (fun i x x' h1 h2 => ?_)
  match i with
  | 0 => cases h1; cases h2; exact AVw.refl _
  | 1 => cases h1; cases h2; exact AVw.refl _
  | 2 => cases h1; cases h2; exact AVw.refl _
  | 3 => cases h1; cases h2; exact AVw.refl _
  | 4 => cases h1; cases h2; exact AVw.refl _
  | 5 => cases h1; cases h2; exact AVw.refl _
  | 6 => cases h1; cases h2; exact AVw.refl _
  | 7 => cases h1; cases h2; exact AVw.any _ _
  | i + 8 => simp at h1
end Go.Parse
namespace Go.Proofs.YtjdapkelojdefaaGreatDoor
open Go Go.V Go.Lex Go.Parse
theorem lose_ex {f : FuncId} {args : List AV} {e : Ex} {σ S : Sg} (h : VCalls Tryz.prog f args σ (fun x σ' => ∃ o, x = .agg (exK o e) ∧ S.sub σ')) : VCalls Tryz.prog f args σ (fun x σ' => x = .agg (exA e) ∧ σ' = S) :=
  h.lose fun x σ' hx => by
    obtain ⟨o, rfl, hs⟩ := hx
    exact ⟨_, S, AVw.ex o e, hs, rfl, rfl⟩
theorem zero27 : ∃ z, tInfo Tryz.prog 26 = some (some z, 8, 104) ∧ ofValue z = .agg (exK .nil ex0) := ⟨_, info26, by unfold ex0; rw [exK_mk, exsA_nil]; rfl⟩
theorem opA {e f : Ex} : exsA [e, f] = [exA e, exA f] := by rw [exsA_cons, exsA_cons, exsA_nil]
theorem ofA {e : Ex} : exsA [e] = [exA e] := by rw [exsA_cons, exsA_nil]
end Go.Proofs.YtjdapkelojdefaaGreatDoor

set_option linter.unusedSimpArgs false
set_option linter.unusedVariables false
namespace Go.Proofs.YtjdapkelojdefaaGreatDoor
open Go Go.V Go.Lex Go.Parse Go.Print
theorem ex_val (v : Vl) : exA (Tr.val v).ex = [.i 1, .i 0, .s (bs []), .s (bs []), .i v.1, .i v.2.1, .s (bs v.2.2), .sl .any []] := by rw [Tr.ex, exA_mk, exsA_nil]
theorem ex_col (t n : By) : exA (Tr.col t n).ex = [.i 2, .i 0, .s (bs t), .s (bs n), .i 0, .i 0, .s (bs []), .sl .any []] := by rw [Tr.ex, exA_mk, exsA_nil]
theorem ex_op (k : Nat) (a b : Tr) : exA (Tr.op k a b).ex = [.i 3, .i k, .s (bs []), .s (bs []), .i 0, .i 0, .s (bs []), .sl .any [exA a.ex, exA b.ex]] := by rw [Tr.ex, exA_mk, opA]
theorem ex_not (e : Tr) : exA (Tr.not e).ex = [.i 4, .i 0, .s (bs []), .s (bs []), .i 0, .i 0, .s (bs []), .sl .any [exA e.ex]] := by rw [Tr.ex, exA_mk, ofA]
theorem ex_neg (e : Tr) : exA (Tr.neg e).ex = [.i 5, .i 0, .s (bs []), .s (bs []), .i 0, .i 0, .s (bs []), .sl .any [exA e.ex]] := by rw [Tr.ex, exA_mk, ofA]
theorem ex_null (e : Tr) : exA (Tr.null e).ex = [.i 6, .i 0, .s (bs []), .s (bs []), .i 0, .i 0, .s (bs []), .sl .any [exA e.ex]] := by rw [Tr.ex, exA_mk, ofA]
theorem ex_form (e : Ex) : ∃ (op : Int) (t n : By) (v : Vl) (l : List Ex), exA e = [.i e.kd, .i op, .s (bs t), .s (bs n), .i v.1, .i v.2.1, .s (bs v.2.2), .sl .any (exsA l)] := by
  cases e with
  | mk k op t n v l => exact ⟨op, t, n, v, l, exA_mk _ _ _ _ _ _⟩
theorem kd_null (e : Tr) : e.ex.kd = 6 ↔ e.isNull = true := by
  cases e <;> simp [Tr.ex, Ex.kd, Tr.isNull]
theorem w_level (t : Tr) (hw : t.wf) (E : List AV) (hE : E = exA t.ex) (σ : Sg) : VCalls Tryz.prog 50 [.agg E] σ (fun x σ' => x = .i t.lvl ∧ σ' = σ) := by
  subst hE
  cases t with
  | val v =>
    rw [ex_val]
    (refine vfun (fun _ => .ro) mixed Tryz.func50 (by kernel_rfl) ?_; simp only [bodyOf, Tryz.f50, zr])
    repeat' (first | with_reducible rfl | exact trivial | exact .inr trivial | (with_reducible first | apply And.intro | apply vqx_step | apply vqm_step | refine vkp_free (by decide +kernel) ?_ | intro _) | refine zaY (j9 ui0 ui3 ui4 ui9 ui22 ui23 ui24 ui25 ui26) ?_ | ((first | (refine vlo_app zx ?_) | (refine vst_app zx ?_)); (try refine zsY (j9 ui0 ui3 ui4 ui9 ui22 ui23 ui24 ui25 ui26) ?_)) | (with_reducible first | refine vfresh_set ?_ | refine vfresh_intro (fun _ _ => ?_) | refine vif_intro (fun _ => ?_) (fun _ => ?_)) | omega | refine ztY (j9 ui0 ui3 ui4 ui9 ui22 ui23 ui24 ui25 ui26) ?_ | fail)
    all_goals exact ⟨_, .refl _, rfl, rfl⟩
  | col t n =>
    rw [ex_col]
    (refine vfun (fun _ => .ro) mixed Tryz.func50 (by kernel_rfl) ?_; simp only [bodyOf, Tryz.f50, zr])
    repeat' (first | with_reducible rfl | exact trivial | exact .inr trivial | (with_reducible first | apply And.intro | apply vqx_step | apply vqm_step | refine vkp_free (by decide +kernel) ?_ | intro _) | refine zaY (j9 ui0 ui3 ui4 ui9 ui22 ui23 ui24 ui25 ui26) ?_ | ((first | (refine vlo_app zx ?_) | (refine vst_app zx ?_)); (try refine zsY (j9 ui0 ui3 ui4 ui9 ui22 ui23 ui24 ui25 ui26) ?_)) | (with_reducible first | refine vfresh_set ?_ | refine vfresh_intro (fun _ _ => ?_) | refine vif_intro (fun _ => ?_) (fun _ => ?_)) | omega | refine ztY (j9 ui0 ui3 ui4 ui9 ui22 ui23 ui24 ui25 ui26) ?_ | fail)
    all_goals exact ⟨_, .refl _, rfl, rfl⟩
  | neg e =>
    rw [ex_neg]
    (refine vfun (fun _ => .ro) mixed Tryz.func50 (by kernel_rfl) ?_; simp only [bodyOf, Tryz.f50, zr])
    repeat' (first | with_reducible rfl | exact trivial | exact .inr trivial | (with_reducible first | apply And.intro | apply vqx_step | apply vqm_step | refine vkp_free (by decide +kernel) ?_ | intro _) | refine zaY (j9 ui0 ui3 ui4 ui9 ui22 ui23 ui24 ui25 ui26) ?_ | ((first | (refine vlo_app zx ?_) | (refine vst_app zx ?_)); (try refine zsY (j9 ui0 ui3 ui4 ui9 ui22 ui23 ui24 ui25 ui26) ?_)) | (with_reducible first | refine vfresh_set ?_ | refine vfresh_intro (fun _ _ => ?_) | refine vif_intro (fun _ => ?_) (fun _ => ?_)) | omega | refine ztY (j9 ui0 ui3 ui4 ui9 ui22 ui23 ui24 ui25 ui26) ?_ | fail)
    all_goals exact ⟨_, .refl _, rfl, rfl⟩
  | null e =>
    rw [ex_null]
    (refine vfun (fun _ => .ro) mixed Tryz.func50 (by kernel_rfl) ?_; simp only [bodyOf, Tryz.f50, zr])
    repeat' (first | with_reducible rfl | exact trivial | exact .inr trivial | (with_reducible first | apply And.intro | apply vqx_step | apply vqm_step | refine vkp_free (by decide +kernel) ?_ | intro _) | refine zaY (j9 ui0 ui3 ui4 ui9 ui22 ui23 ui24 ui25 ui26) ?_ | ((first | (refine vlo_app zx ?_) | (refine vst_app zx ?_)); (try refine zsY (j9 ui0 ui3 ui4 ui9 ui22 ui23 ui24 ui25 ui26) ?_)) | (with_reducible first | refine vfresh_set ?_ | refine vfresh_intro (fun _ _ => ?_) | refine vif_intro (fun _ => ?_) (fun _ => ?_)) | omega | refine ztY (j9 ui0 ui3 ui4 ui9 ui22 ui23 ui24 ui25 ui26) ?_ | fail)
    all_goals exact ⟨_, .refl _, rfl, rfl⟩
  | not e =>
    rw [ex_not]
    have hk := kd_null e
    obtain ⟨op, t, n, v, l, h⟩ := ex_form e.ex
    rw [h]
    cases he : e.isNull with
    | false =>
      rw [lvl_not he]
      have hk : ¬ e.ex.kd = 6 := fun h => by rw [hk.1 h] at he; cases he
      (refine vfun (fun _ => .ro) mixed Tryz.func50 (by kernel_rfl) ?_; simp only [bodyOf, Tryz.f50, zr])
      repeat' (first | with_reducible rfl | exact trivial | exact .inr trivial | (with_reducible first | apply And.intro | apply vqx_step | apply vqm_step | refine vkp_free (by decide +kernel) ?_ | intro _) | refine zaY (j2 ui0 (j9 ui3 ui4 ui9 ui22 ui23 ui24 ui25 ui26 hk)) ?_ | ((first | (refine vlo_app zx ?_) | (refine vst_app zx ?_)); (try refine zsY (j2 ui0 (j9 ui3 ui4 ui9 ui22 ui23 ui24 ui25 ui26 hk)) ?_)) | (with_reducible first | refine vfresh_set ?_ | refine vfresh_intro (fun _ _ => ?_) | refine vif_intro (fun _ => ?_) (fun _ => ?_)) | omega | refine ztY (j2 ui0 (j9 ui3 ui4 ui9 ui22 ui23 ui24 ui25 ui26 hk)) ?_ | fail)
      all_goals exact ⟨_, .refl _, rfl, rfl⟩
    | true =>
      have hl : (Tr.not e).lvl = 4 := by cases e <;> first | (cases he; done) | rfl
      rw [hl, hk.2 he]
      (refine vfun (fun _ => .ro) mixed Tryz.func50 (by kernel_rfl) ?_; simp only [bodyOf, Tryz.f50, zr])
      repeat' (first | with_reducible rfl | exact trivial | exact .inr trivial | (with_reducible first | apply And.intro | apply vqx_step | apply vqm_step | refine vkp_free (by decide +kernel) ?_ | intro _) | refine zaY (j9 ui0 ui3 ui4 ui9 ui22 ui23 ui24 ui25 ui26) ?_ | ((first | (refine vlo_app zx ?_) | (refine vst_app zx ?_)); (try refine zsY (j9 ui0 ui3 ui4 ui9 ui22 ui23 ui24 ui25 ui26) ?_)) | (with_reducible first | refine vfresh_set ?_ | refine vfresh_intro (fun _ _ => ?_) | refine vif_intro (fun _ => ?_) (fun _ => ?_)) | omega | refine ztY (j9 ui0 ui3 ui4 ui9 ui22 ui23 ui24 ui25 ui26) ?_ | fail)
      all_goals exact ⟨_, .refl _, rfl, rfl⟩
  | op k a b =>
    rw [ex_op]
    have hk := hw.1
    (refine vfun (fun _ => .ro) mixed Tryz.func50 (by kernel_rfl) ?_; simp only [bodyOf, Tryz.f50, zr])
    repeat' (first | with_reducible rfl | exact trivial | exact .inr trivial | (with_reducible first | apply And.intro | apply vqx_step | apply vqm_step | refine vkp_free (by decide +kernel) ?_ | intro _) | refine zaY (j9 ui0 ui3 ui4 ui9 ui22 ui23 ui24 ui25 ui26) ?_ | ((first | (refine vlo_app zx ?_) | (refine vst_app zx ?_)); (try refine zsY (j9 ui0 ui3 ui4 ui9 ui22 ui23 ui24 ui25 ui26) ?_)) | (with_reducible first | refine vfresh_set ?_ | refine vfresh_intro (fun _ _ => ?_) | refine vif_intro (fun _ => ?_) (fun _ => ?_)) | omega | refine ztY (j9 ui0 ui3 ui4 ui9 ui22 ui23 ui24 ui25 ui26) ?_ | fail)
    all_goals (refine ⟨_, .refl _, i_eq ?_, rfl⟩; show _ = ((lvK k : Nat) : Int); rcases (by omega : k = 1 ∨ k = 2 ∨ k = 3 ∨ k = 4 ∨ k = 5 ∨ k = 6 ∨ k = 7 ∨ k = 8 ∨ k = 9 ∨ k = 10 ∨ k = 11 ∨ k = 12 ∨ k = 13) with rfl | rfl | rfl | rfl | rfl | rfl | rfl | rfl | rfl | rfl | rfl | rfl | rfl <;> first | rfl | (exfalso; omega))
theorem w_ops (σ : Sg) : VCalls Tryz.prog 51 [] σ (fun x σ' => x = .sl .full (strs ops) ∧ σ' = σ) := by
  (refine vfun (fun _ => .no) mixed Tryz.func51 (by kernel_rfl) ?_; simp only [bodyOf, Tryz.f51, zr])
  repeat' (first | with_reducible rfl | exact trivial | exact .inr trivial | (with_reducible first | apply And.intro | apply vqx_step | apply vqm_step | refine vkp_free (by decide +kernel) ?_ | intro _) | refine zaY (j2 ui9 ui75) ?_ | ((first | (refine vlo_app zx ?_) | (refine vst_app zx ?_)); (try refine zsY (j2 ui9 ui75) ?_)) | (with_reducible first | refine vfresh_set ?_ | refine vfresh_intro (fun _ _ => ?_) | refine vif_intro (fun _ => ?_) (fun _ => ?_)) | omega | refine ztY (j2 ui9 ui75) ?_ | fail)
  all_goals exact ⟨_, .refl _, rfl, rfl⟩
end Go.Proofs.YtjdapkelojdefaaGreatDoor

set_option linter.unusedSimpArgs false
set_option linter.unusedVariables false
namespace Go.Proofs.YtjdapkelojdefaaGreatDoor
open Go Go.V Go.Lex Go.Parse Go.Print
theorem d_word (s : By) (σ : Sg) : VCalls Tryz.prog 74 [.s (bs s)] σ (fun x σ' => x = .agg [.i 2, .s (bs s), .i 0, .i 0] ∧ σ' = σ) := by
  (refine vfun (fun _ => .no) mixed Tryz.func74 (by kernel_rfl) ?_; simp only [bodyOf, Tryz.f74, zr])
  repeat' (first | with_reducible rfl | exact trivial | exact .inr trivial | (with_reducible first | apply And.intro | apply vqx_step | apply vqm_step | refine vkp_free (by decide +kernel) ?_ | intro _) | refine zaY (j5 ui0 ui3 ui9 ui101 ui102) ?_ | ((first | (refine vlo_app zx ?_) | (refine vst_app zx ?_)); (try refine zsY (j5 ui0 ui3 ui9 ui101 ui102) ?_)) | (with_reducible first | refine vfresh_set ?_ | refine vfresh_intro (fun _ _ => ?_) | refine vif_intro (fun _ => ?_) (fun _ => ?_)) | omega | refine ztY (j5 ui0 ui3 ui9 ui101 ui102) ?_ | fail)
  all_goals exact ⟨σ, by (exact Go.V.zu), rfl⟩
theorem d_sign (s : By) (σ : Sg) : VCalls Tryz.prog 75 [.s (bs s)] σ (fun x σ' => x = .agg [.i 5, .s (bs s), .i 0, .i 0] ∧ σ' = σ) := by
  (refine vfun (fun _ => .no) mixed Tryz.func75 (by kernel_rfl) ?_; simp only [bodyOf, Tryz.f75, zr])
  repeat' (first | with_reducible rfl | exact trivial | exact .inr trivial | (with_reducible first | apply And.intro | apply vqx_step | apply vqm_step | refine vkp_free (by decide +kernel) ?_ | intro _) | refine zaY (j5 ui0 ui3 ui9 ui101 ui102) ?_ | ((first | (refine vlo_app zx ?_) | (refine vst_app zx ?_)); (try refine zsY (j5 ui0 ui3 ui9 ui101 ui102) ?_)) | (with_reducible first | refine vfresh_set ?_ | refine vfresh_intro (fun _ _ => ?_) | refine vif_intro (fun _ => ?_) (fun _ => ?_)) | omega | refine ztY (j5 ui0 ui3 ui9 ui101 ui102) ?_ | fail)
  all_goals exact ⟨σ, by (exact Go.V.zu), rfl⟩
theorem d_name (s : By) (σ : Sg) : VCalls Tryz.prog 110 [.s (bs s)] σ (fun x σ' => x = .agg [.i 1, .s (bs s), .i 0, .i 0] ∧ σ' = σ) := by
  (refine vfun (fun _ => .no) mixed Tryz.func110 (by kernel_rfl) ?_; simp only [bodyOf, Tryz.f110, zr])
  repeat' (first | with_reducible rfl | exact trivial | exact .inr trivial | (with_reducible first | apply And.intro | apply vqx_step | apply vqm_step | refine vkp_free (by decide +kernel) ?_ | intro _) | refine zaY (j5 ui0 ui3 ui9 ui101 ui102) ?_ | ((first | (refine vlo_app zx ?_) | (refine vst_app zx ?_)); (try refine zsY (j5 ui0 ui3 ui9 ui101 ui102) ?_)) | (with_reducible first | refine vfresh_set ?_ | refine vfresh_intro (fun _ _ => ?_) | refine vif_intro (fun _ => ?_) (fun _ => ?_)) | omega | refine ztY (j5 ui0 ui3 ui9 ui101 ui102) ?_ | fail)
  all_goals exact ⟨σ, by (exact Go.V.zu), rfl⟩
def NewT (σ : Sg) (l : List Tk) (x : AV) (σ' : Sg) : Prop := ∃ τ, σ τ = none ∧ x = .sl (.tok τ 4) (tksA l) ∧ σ' = σ.set τ (.tok (some 102))
theorem iT_A' {n : Int} (h : 0 ≤ n) : [AV.i 3, .s (bs []), .i n, .i 0] = tkA (iT n) := by
  have : ((n.toNat : Nat) : Int) = n := by omega
  show _ = [AV.i 3, .s (bs []), .i ((n.toNat : Nat) : Int), .i 0]
  rw [this]
theorem d_literal (v : Vl) (hn : inR' v.2.1) (hk : v.1 = 0 ∨ (v.1 = 1 ∧ v.2.2 = []) ∨ v.1 = 2) (σ : Sg) : VCalls Tryz.prog 79 [.agg [.i v.1, .i v.2.1, .s (bs v.2.2)]] σ (NewT σ (litT v)) := by
  unfold inR' at hn
  unfold NewT litT numT
  obtain ⟨k, n, t⟩ := v
  simp only at hn hk ⊢
  rcases hk with rfl | ⟨rfl, rfl⟩ | rfl
  · (refine vfun (fun k => if k = 1 then .ro else .obj) mixed Tryz.func79 (by kernel_rfl) ?_; simp only [bodyOf, Tryz.f79, zr])
    repeat' (first | with_reducible rfl | exact trivial | exact .inr trivial | (with_reducible first | apply And.intro | apply vqx_step | apply vqm_step | refine vkp_free (by decide +kernel) ?_ | intro _) | ((with_reducible refine .dms (fun x => False) [(0, false), (1, true), (2, true), (3, true), (4, false), (5, true), (6, true)] (by decide) (by decide +kernel) ?_); (refine zsR (j9 ui0 ui3 ui4 ui9 ui22 ui23 ui56 ui101 ui102) ?_)) | ((with_reducible refine .dm (fun x => False) [(0, false), (1, true), (2, true), (3, true), (4, false), (5, true), (6, true)] (by decide) (by decide +kernel) ?_); (refine zsR (j9 ui0 ui3 ui4 ui9 ui22 ui23 ui56 ui101 ui102) ?_)) | refine zaR (j9 ui0 ui3 ui4 ui9 ui22 ui23 ui56 ui101 ui102) ?_ | refine zkN (j9 ui0 ui3 ui4 ui9 ui22 ui23 ui56 ui101 ui102) ?_ | ((first | (refine vkp_keep (by intro β h; first | (rcases h with h | h <;> subst h <;> (simp (disch := first | assumption | (apply zv; assumption; assumption) | (apply zw; assumption; assumption; (intro e; cases e; done)) | omega) only [zm, Sg.set_ne, zo, Sg.del_ne, zq])) | (subst h; (simp (disch := first | assumption | (apply zv; assumption; assumption) | (apply zw; assumption; assumption; (intro e; cases e; done)) | omega) only [zm, Sg.set_ne, zo, Sg.del_ne, zq]))) ?_) | ((with_reducible refine zy (d_word _ _) ?_); rintro _ S ⟨rfl, rfl⟩) | ((with_reducible refine zy (d_sign _ _) ?_); rintro _ S ⟨rfl, rfl⟩) | (refine vlo_app zx ?_) | (refine vst_app zx ?_)); (try refine zsR (j9 ui0 ui3 ui4 ui9 ui22 ui23 ui56 ui101 ui102) ?_)) | refine zmR (j9 ui0 ui3 ui4 ui9 ui22 ui23 ui56 ui101 ui102) ?_ | (with_reducible first | refine vfresh_set ?_ | refine vfresh_intro (fun _ _ => ?_) | refine vif_intro (fun _ => ?_) (fun _ => ?_)) | omega | refine ztR (j9 ui0 ui3 ui4 ui9 ui22 ui23 ui56 ui101 ui102) ?_ | fail)
    all_goals (refine ⟨_, ?_, _, ‹_ = none›, ?_, rfl⟩ <;> first | (first | exact Sg.sub.refl _ | ((repeat (first | exact Sg.sub.refl _ | refine Sg.sub.set_both ?_ | refine Sg.sub.set_fresh ?_ (by first | assumption | exact Sg.set_none (by assumption) (by first | assumption | (apply Go.Cert.ne_of2a; assumption; assumption))))); done) | (intro y p hy; simp only [Sg.set_apply, Sg.del_apply] at hy ⊢; grind)) | (with_unfolding_all rfl) | (simp only [*, ↓reduceIte, Int.reduceEq]; simp only [tksA, List.map_cons, List.map_nil]; congr 2; first | rfl | ((try simp only [Int.zero_sub]); first | rfl | (rw [← iT_A' (by omega)]; done))))
  · (refine vfun (fun k => if k = 1 then .ro else .obj) mixed Tryz.func79 (by kernel_rfl) ?_; simp only [bodyOf, Tryz.f79, zr])
    repeat' (first | with_reducible rfl | exact trivial | exact .inr trivial | (with_reducible first | apply And.intro | apply vqx_step | apply vqm_step | refine vkp_free (by decide +kernel) ?_ | intro _) | ((with_reducible refine .dms (fun x => False) [(0, false), (1, true), (2, true), (3, true), (4, false), (5, true), (6, true)] (by decide) (by decide +kernel) ?_); (refine zsR (j9 ui0 ui3 ui4 ui9 ui22 ui23 ui56 ui101 ui102) ?_)) | ((with_reducible refine .dm (fun x => False) [(0, false), (1, true), (2, true), (3, true), (4, false), (5, true), (6, true)] (by decide) (by decide +kernel) ?_); (refine zsR (j9 ui0 ui3 ui4 ui9 ui22 ui23 ui56 ui101 ui102) ?_)) | refine zaR (j9 ui0 ui3 ui4 ui9 ui22 ui23 ui56 ui101 ui102) ?_ | refine zkN (j9 ui0 ui3 ui4 ui9 ui22 ui23 ui56 ui101 ui102) ?_ | ((first | (refine vkp_keep (by intro β h; first | (rcases h with h | h <;> subst h <;> (simp (disch := first | assumption | (apply zv; assumption; assumption) | (apply zw; assumption; assumption; (intro e; cases e; done)) | omega) only [zm, Sg.set_ne, zo, Sg.del_ne, zq])) | (subst h; (simp (disch := first | assumption | (apply zv; assumption; assumption) | (apply zw; assumption; assumption; (intro e; cases e; done)) | omega) only [zm, Sg.set_ne, zo, Sg.del_ne, zq]))) ?_) | ((with_reducible refine zy (d_word _ _) ?_); rintro _ S ⟨rfl, rfl⟩) | ((with_reducible refine zy (d_sign _ _) ?_); rintro _ S ⟨rfl, rfl⟩) | (refine vlo_app zx ?_) | (refine vst_app zx ?_)); (try refine zsR (j9 ui0 ui3 ui4 ui9 ui22 ui23 ui56 ui101 ui102) ?_)) | refine zmR (j9 ui0 ui3 ui4 ui9 ui22 ui23 ui56 ui101 ui102) ?_ | (with_reducible first | refine vfresh_set ?_ | refine vfresh_intro (fun _ _ => ?_) | refine vif_intro (fun _ => ?_) (fun _ => ?_)) | omega | refine ztR (j9 ui0 ui3 ui4 ui9 ui22 ui23 ui56 ui101 ui102) ?_ | fail)
    all_goals (refine ⟨_, ?_, _, ‹_ = none›, ?_, rfl⟩ <;> first | (first | exact Sg.sub.refl _ | ((repeat (first | exact Sg.sub.refl _ | refine Sg.sub.set_both ?_ | refine Sg.sub.set_fresh ?_ (by first | assumption | exact Sg.set_none (by assumption) (by first | assumption | (apply Go.Cert.ne_of2a; assumption; assumption))))); done) | (intro y p hy; simp only [Sg.set_apply, Sg.del_apply] at hy ⊢; grind)) | (with_unfolding_all rfl) | (simp only [*, ↓reduceIte, Int.reduceEq]; simp only [tksA, List.map_cons, List.map_nil]; congr 2; first | rfl | ((try simp only [Int.zero_sub]); first | rfl | (rw [← iT_A' (by omega)]; done))))
  · (refine vfun (fun k => if k = 1 then .ro else .obj) mixed Tryz.func79 (by kernel_rfl) ?_; simp only [bodyOf, Tryz.f79, zr])
    repeat' (first | with_reducible rfl | exact trivial | exact .inr trivial | (with_reducible first | apply And.intro | apply vqx_step | apply vqm_step | refine vkp_free (by decide +kernel) ?_ | intro _) | ((with_reducible refine .dms (fun x => False) [(0, false), (1, true), (2, true), (3, true), (4, false), (5, true), (6, true)] (by decide) (by decide +kernel) ?_); (refine zsR (j9 ui0 ui3 ui4 ui9 ui22 ui23 ui56 ui101 ui102) ?_)) | ((with_reducible refine .dm (fun x => False) [(0, false), (1, true), (2, true), (3, true), (4, false), (5, true), (6, true)] (by decide) (by decide +kernel) ?_); (refine zsR (j9 ui0 ui3 ui4 ui9 ui22 ui23 ui56 ui101 ui102) ?_)) | refine zaR (j9 ui0 ui3 ui4 ui9 ui22 ui23 ui56 ui101 ui102) ?_ | refine zkN (j9 ui0 ui3 ui4 ui9 ui22 ui23 ui56 ui101 ui102) ?_ | ((first | (refine vkp_keep (by intro β h; first | (rcases h with h | h <;> subst h <;> (simp (disch := first | assumption | (apply zv; assumption; assumption) | (apply zw; assumption; assumption; (intro e; cases e; done)) | omega) only [zm, Sg.set_ne, zo, Sg.del_ne, zq])) | (subst h; (simp (disch := first | assumption | (apply zv; assumption; assumption) | (apply zw; assumption; assumption; (intro e; cases e; done)) | omega) only [zm, Sg.set_ne, zo, Sg.del_ne, zq]))) ?_) | ((with_reducible refine zy (d_word _ _) ?_); rintro _ S ⟨rfl, rfl⟩) | ((with_reducible refine zy (d_sign _ _) ?_); rintro _ S ⟨rfl, rfl⟩) | (refine vlo_app zx ?_) | (refine vst_app zx ?_)); (try refine zsR (j9 ui0 ui3 ui4 ui9 ui22 ui23 ui56 ui101 ui102) ?_)) | refine zmR (j9 ui0 ui3 ui4 ui9 ui22 ui23 ui56 ui101 ui102) ?_ | (with_reducible first | refine vfresh_set ?_ | refine vfresh_intro (fun _ _ => ?_) | refine vif_intro (fun _ => ?_) (fun _ => ?_)) | omega | refine ztR (j9 ui0 ui3 ui4 ui9 ui22 ui23 ui56 ui101 ui102) ?_ | fail)
    all_goals (refine ⟨_, ?_, _, ‹_ = none›, ?_, rfl⟩ <;> first | (first | exact Sg.sub.refl _ | ((repeat (first | exact Sg.sub.refl _ | refine Sg.sub.set_both ?_ | refine Sg.sub.set_fresh ?_ (by first | assumption | exact Sg.set_none (by assumption) (by first | assumption | (apply Go.Cert.ne_of2a; assumption; assumption))))); done) | (intro y p hy; simp only [Sg.set_apply, Sg.del_apply] at hy ⊢; grind)) | (with_unfolding_all rfl) | (simp only [*, ↓reduceIte, Int.reduceEq]; simp only [tksA, List.map_cons, List.map_nil]; congr 2; first | rfl | ((try simp only [Int.zero_sub]); first | rfl | (rw [← iT_A' (by omega)]; done))))
end Go.Proofs.YtjdapkelojdefaaGreatDoor

set_option linter.unusedSimpArgs false
set_option linter.unusedVariables false
namespace Go.Proofs.YtjdapkelojdefaaGreatDoor
open Go Go.V Go.Lex Go.Parse Go.Print
theorem d_level (t : Tr) (hw : t.wf) (E : List AV) (hE : E = exA t.ex) (σ : Sg) : VCalls Tryz.prog 112 [.agg E] σ (fun x σ' => x = .i t.lvl ∧ σ' = σ) := by
  subst hE
  cases t with
  | val v =>
    rw [ex_val]
    (refine vfun (fun _ => .ro) mixed Tryz.func112 (by kernel_rfl) ?_; simp only [bodyOf, Tryz.f112, zr])
    repeat' (first | with_reducible rfl | exact trivial | exact .inr trivial | (with_reducible first | apply And.intro | apply vqx_step | apply vqm_step | refine vkp_free (by decide +kernel) ?_ | intro _) | refine zaY (j9 ui0 ui3 ui4 ui9 ui22 ui23 ui24 ui25 ui26) ?_ | ((first | (refine vlo_app zx ?_) | (refine vst_app zx ?_)); (try refine zsY (j9 ui0 ui3 ui4 ui9 ui22 ui23 ui24 ui25 ui26) ?_)) | (with_reducible first | refine vfresh_set ?_ | refine vfresh_intro (fun _ _ => ?_) | refine vif_intro (fun _ => ?_) (fun _ => ?_)) | omega | refine ztY (j9 ui0 ui3 ui4 ui9 ui22 ui23 ui24 ui25 ui26) ?_ | fail)
    all_goals exact ⟨_, .refl _, rfl, rfl⟩
  | col t n =>
    rw [ex_col]
    (refine vfun (fun _ => .ro) mixed Tryz.func112 (by kernel_rfl) ?_; simp only [bodyOf, Tryz.f112, zr])
    repeat' (first | with_reducible rfl | exact trivial | exact .inr trivial | (with_reducible first | apply And.intro | apply vqx_step | apply vqm_step | refine vkp_free (by decide +kernel) ?_ | intro _) | refine zaY (j9 ui0 ui3 ui4 ui9 ui22 ui23 ui24 ui25 ui26) ?_ | ((first | (refine vlo_app zx ?_) | (refine vst_app zx ?_)); (try refine zsY (j9 ui0 ui3 ui4 ui9 ui22 ui23 ui24 ui25 ui26) ?_)) | (with_reducible first | refine vfresh_set ?_ | refine vfresh_intro (fun _ _ => ?_) | refine vif_intro (fun _ => ?_) (fun _ => ?_)) | omega | refine ztY (j9 ui0 ui3 ui4 ui9 ui22 ui23 ui24 ui25 ui26) ?_ | fail)
    all_goals exact ⟨_, .refl _, rfl, rfl⟩
  | neg e =>
    rw [ex_neg]
    (refine vfun (fun _ => .ro) mixed Tryz.func112 (by kernel_rfl) ?_; simp only [bodyOf, Tryz.f112, zr])
    repeat' (first | with_reducible rfl | exact trivial | exact .inr trivial | (with_reducible first | apply And.intro | apply vqx_step | apply vqm_step | refine vkp_free (by decide +kernel) ?_ | intro _) | refine zaY (j9 ui0 ui3 ui4 ui9 ui22 ui23 ui24 ui25 ui26) ?_ | ((first | (refine vlo_app zx ?_) | (refine vst_app zx ?_)); (try refine zsY (j9 ui0 ui3 ui4 ui9 ui22 ui23 ui24 ui25 ui26) ?_)) | (with_reducible first | refine vfresh_set ?_ | refine vfresh_intro (fun _ _ => ?_) | refine vif_intro (fun _ => ?_) (fun _ => ?_)) | omega | refine ztY (j9 ui0 ui3 ui4 ui9 ui22 ui23 ui24 ui25 ui26) ?_ | fail)
    all_goals exact ⟨_, .refl _, rfl, rfl⟩
  | null e =>
    rw [ex_null]
    (refine vfun (fun _ => .ro) mixed Tryz.func112 (by kernel_rfl) ?_; simp only [bodyOf, Tryz.f112, zr])
    repeat' (first | with_reducible rfl | exact trivial | exact .inr trivial | (with_reducible first | apply And.intro | apply vqx_step | apply vqm_step | refine vkp_free (by decide +kernel) ?_ | intro _) | refine zaY (j9 ui0 ui3 ui4 ui9 ui22 ui23 ui24 ui25 ui26) ?_ | ((first | (refine vlo_app zx ?_) | (refine vst_app zx ?_)); (try refine zsY (j9 ui0 ui3 ui4 ui9 ui22 ui23 ui24 ui25 ui26) ?_)) | (with_reducible first | refine vfresh_set ?_ | refine vfresh_intro (fun _ _ => ?_) | refine vif_intro (fun _ => ?_) (fun _ => ?_)) | omega | refine ztY (j9 ui0 ui3 ui4 ui9 ui22 ui23 ui24 ui25 ui26) ?_ | fail)
    all_goals exact ⟨_, .refl _, rfl, rfl⟩
  | not e =>
    rw [ex_not]
    have hk := kd_null e
    obtain ⟨op, t, n, v, l, h⟩ := ex_form e.ex
    rw [h]
    cases he : e.isNull with
    | false =>
      rw [lvl_not he]
      have hk : ¬ e.ex.kd = 6 := fun h => by rw [hk.1 h] at he; cases he
      (refine vfun (fun _ => .ro) mixed Tryz.func112 (by kernel_rfl) ?_; simp only [bodyOf, Tryz.f112, zr])
      repeat' (first | with_reducible rfl | exact trivial | exact .inr trivial | (with_reducible first | apply And.intro | apply vqx_step | apply vqm_step | refine vkp_free (by decide +kernel) ?_ | intro _) | refine zaY (j2 ui0 (j9 ui3 ui4 ui9 ui22 ui23 ui24 ui25 ui26 hk)) ?_ | ((first | (refine vlo_app zx ?_) | (refine vst_app zx ?_)); (try refine zsY (j2 ui0 (j9 ui3 ui4 ui9 ui22 ui23 ui24 ui25 ui26 hk)) ?_)) | (with_reducible first | refine vfresh_set ?_ | refine vfresh_intro (fun _ _ => ?_) | refine vif_intro (fun _ => ?_) (fun _ => ?_)) | omega | refine ztY (j2 ui0 (j9 ui3 ui4 ui9 ui22 ui23 ui24 ui25 ui26 hk)) ?_ | fail)
      all_goals exact ⟨_, .refl _, rfl, rfl⟩
    | true =>
      have hl : (Tr.not e).lvl = 4 := by cases e <;> first | (cases he; done) | rfl
      rw [hl, hk.2 he]
      (refine vfun (fun _ => .ro) mixed Tryz.func112 (by kernel_rfl) ?_; simp only [bodyOf, Tryz.f112, zr])
      repeat' (first | with_reducible rfl | exact trivial | exact .inr trivial | (with_reducible first | apply And.intro | apply vqx_step | apply vqm_step | refine vkp_free (by decide +kernel) ?_ | intro _) | refine zaY (j9 ui0 ui3 ui4 ui9 ui22 ui23 ui24 ui25 ui26) ?_ | ((first | (refine vlo_app zx ?_) | (refine vst_app zx ?_)); (try refine zsY (j9 ui0 ui3 ui4 ui9 ui22 ui23 ui24 ui25 ui26) ?_)) | (with_reducible first | refine vfresh_set ?_ | refine vfresh_intro (fun _ _ => ?_) | refine vif_intro (fun _ => ?_) (fun _ => ?_)) | omega | refine ztY (j9 ui0 ui3 ui4 ui9 ui22 ui23 ui24 ui25 ui26) ?_ | fail)
      all_goals exact ⟨_, .refl _, rfl, rfl⟩
  | op k a b =>
    rw [ex_op]
    have hk := hw.1
    (refine vfun (fun _ => .ro) mixed Tryz.func112 (by kernel_rfl) ?_; simp only [bodyOf, Tryz.f112, zr])
    repeat' (first | with_reducible rfl | exact trivial | exact .inr trivial | (with_reducible first | apply And.intro | apply vqx_step | apply vqm_step | refine vkp_free (by decide +kernel) ?_ | intro _) | refine zaY (j9 ui0 ui3 ui4 ui9 ui22 ui23 ui24 ui25 ui26) ?_ | ((first | (refine vlo_app zx ?_) | (refine vst_app zx ?_)); (try refine zsY (j9 ui0 ui3 ui4 ui9 ui22 ui23 ui24 ui25 ui26) ?_)) | (with_reducible first | refine vfresh_set ?_ | refine vfresh_intro (fun _ _ => ?_) | refine vif_intro (fun _ => ?_) (fun _ => ?_)) | omega | refine ztY (j9 ui0 ui3 ui4 ui9 ui22 ui23 ui24 ui25 ui26) ?_ | fail)
    all_goals (refine ⟨_, .refl _, i_eq ?_, rfl⟩; show _ = ((lvK k : Nat) : Int); rcases (by omega : k = 1 ∨ k = 2 ∨ k = 3 ∨ k = 4 ∨ k = 5 ∨ k = 6 ∨ k = 7 ∨ k = 8 ∨ k = 9 ∨ k = 10 ∨ k = 11 ∨ k = 12 ∨ k = 13) with rfl | rfl | rfl | rfl | rfl | rfl | rfl | rfl | rfl | rfl | rfl | rfl | rfl <;> first | rfl | (exfalso; omega))
theorem ops_get' (k : Nat) (h : k < 14) : (strs ops).getD k [] = [.s (bs (ops.getD k []))] := strs_get h
theorem ops_len' : (strs ops).length = 14 := rfl
theorem strs_fold : [[AV.val (Value.string (bs []))], [AV.val (Value.string (bs [79, 82]))], [AV.val (Value.string (bs [65, 78, 68]))], [AV.val (Value.string (bs [61]))], [AV.val (Value.string (bs [60, 62]))], [AV.val (Value.string (bs [60]))], [AV.val (Value.string (bs [60, 61]))], [AV.val (Value.string (bs [62]))], [AV.val (Value.string (bs [62, 61]))], [AV.val (Value.string (bs [43]))], [AV.val (Value.string (bs [45]))], [AV.val (Value.string (bs [42]))], [AV.val (Value.string (bs [47]))], [AV.val (Value.string (bs [37]))]] = strs ops := rfl
theorem op_kind : ∀ k, k < 14 → 1 ≤ k → wd (ops.getD k []) = if k ≤ 2 then wT (ops.getD k []) else sT (ops.getD k []) := by decide +kernel
theorem d_op (k : Nat) (h1 : 1 ≤ k) (h2 : k ≤ 13) (σ : Sg) : VCalls Tryz.prog 113 [.i k] σ (fun x σ' => x = .agg (tkA (wd (ops.getD k []))) ∧ σ' = σ) := by
  have hg := ops_get' k (by omega)
  have hk := op_kind k (by omega) h1
  generalize ops.getD k [] = W at *
  rw [hk]
  (refine vfun (fun _ => .no) mixed Tryz.func113 (by kernel_rfl) ?_; simp only [bodyOf, Tryz.f113, zr])
  repeat' (first | with_reducible rfl | exact trivial | exact .inr trivial | (with_reducible first | apply And.intro | apply vqx_step | apply vqm_step | refine vkp_free (by decide +kernel) ?_ | intro _) | refine zaY (j2 ui0 (j9 ui3 ui4 ui9 ui75 ui101 ui102 @strs_fold @ops_len' hg)) ?_ | ((first | ((with_reducible refine zy (d_word _ _) ?_); rintro _ S ⟨rfl, rfl⟩) | ((with_reducible refine zy (d_sign _ _) ?_); rintro _ S ⟨rfl, rfl⟩) | (refine vlo_app zx ?_) | (refine vst_app zx ?_)); (try refine zsY (j2 ui0 (j9 ui3 ui4 ui9 ui75 ui101 ui102 @strs_fold @ops_len' hg)) ?_)) | (with_reducible first | refine vfresh_set ?_ | refine vfresh_intro (fun _ _ => ?_) | refine vif_intro (fun _ => ?_) (fun _ => ?_)) | omega | refine ztY (j2 ui0 (j9 ui3 ui4 ui9 ui75 ui101 ui102 @strs_fold @ops_len' hg)) ?_ | fail)
  · exact ⟨σ, by (exact Go.V.zu), by rw [if_pos (by omega)]; rfl, rfl⟩
  · exact ⟨σ, by (exact Go.V.zu), by rw [if_neg (by omega)]; rfl, rfl⟩
def NewD (σ : Sg) (l : List Tk) (d : Nat) (x : AV) (σ' : Sg) : Prop := ∃ τ, σ τ = none ∧ x = .tup [.sl (.tok τ 4) (tksA l), .i d] ∧ σ' = σ.set τ (.tok (some 102))
theorem tupT {τ : Nat} {A B : List (List AV)} {d d' : Int} (h1 : A = B) (h2 : d = d') : AV.tup [.sl (.tok τ 4) A, .i d] = AV.tup [.sl (.tok τ 4) B, .i d'] := by rw [h1, h2]
def Dx (t : Tr) : Prop := t.tk.length ≤ 2 ^ 36 → ∀ σ, VCalls Tryz.prog 56 [.agg (exA t.ex)] σ (NewD σ t.tk t.dp)
theorem d_at (t : Tr) (hw : t.wf) (hC : Dx t) (k : Nat) (hk : k ≤ 7) (hl : (br (lo t k) t.tk).length ≤ 2 ^ 36) (σ : Sg) : VCalls Tryz.prog 111 [.agg (exA t.ex), .i k] σ (NewD σ (br (lo t k) t.tk) (bd (lo t k) + t.dp)) := by
  have hbl := (br_len (lo t k) t.tk).1
  have hdp := dp_le t
  have hC := hC (by omega)
  have hlv := d_level t hw _ rfl
  have hl7 : t.lvl ≤ 7 := by
    cases t with
    | op k a b => show lvK k ≤ 7; unfold lvK; (repeat' split) <;> omega
    | not e => cases e <;> exact Nat.le_of_ble_eq_true rfl
    | _ => exact Nat.le_of_ble_eq_true rfl
  have hlen : t.tk.length ≤ 2 ^ 36 := by omega
  unfold NewD at hC ⊢
  unfold lo at hl ⊢
  clear hw hbl
  by_cases hc : t.lvl < k
  · rw [decide_eq_true hc]
    generalize t.lvl = L at *
    (refine vfun (fun k => if k = 2 then .ro else .obj) mixed Tryz.func111 (by kernel_rfl) ?_; simp only [bodyOf, Tryz.f111, zr])
    repeat' (first | with_reducible rfl | exact trivial | exact .inr trivial | (with_reducible first | apply And.intro | apply vqx_step | apply vqm_step | refine vkp_free (by decide +kernel) ?_ | intro _) | refine zaY (j6 ui0 ui3 ui4 ui9 ui22 (j9 ui23 ui24 ui25 ui26 ui56 ui94 ui101 ui102 (j9 @tksA_len @tksA_all @tksA_one @List.length_append.{0} @List.length_cons.{0} @List.length_nil.{0} @wds_len @wdsE_nil (j9 @wdsE_cons @splice0 @exA_len @exA_take @exA_drop @exA_one @exsA_nil @exsA_cons @exsA_len)))) ?_ | ((first | ((with_reducible refine zy (hlv _) ?_); rintro _ S ⟨rfl, rfl⟩) | ((with_reducible refine zy (hC _) ?_); rintro _ S ⟨τ1, f1, rfl, rfl⟩) | ((with_reducible refine zy (d_sign _ _) ?_); rintro _ S ⟨rfl, rfl⟩) | ((with_reducible refine zy (d_level _ (by assumption) _ (by first | assumption | rfl) _) ?_); rintro _ S ⟨rfl, rfl⟩) | (refine vlo_app zx ?_) | (refine vst_app zx ?_)); (try refine zsY (j6 ui0 ui3 ui4 ui9 ui22 (j9 ui23 ui24 ui25 ui26 ui56 ui94 ui101 ui102 (j9 @tksA_len @tksA_all @tksA_one @List.length_append.{0} @List.length_cons.{0} @List.length_nil.{0} @wds_len @wdsE_nil (j9 @wdsE_cons @splice0 @exA_len @exA_take @exA_drop @exA_one @exsA_nil @exsA_cons @exsA_len)))) ?_)) | (with_reducible first | refine vfresh_set ?_ | refine vfresh_intro (fun _ _ => ?_) | refine vif_intro (fun _ => ?_) (fun _ => ?_)) | omega | refine ztY (j6 ui0 ui3 ui4 ui9 ui22 (j9 ui23 ui24 ui25 ui26 ui56 ui94 ui101 ui102 (j9 @tksA_len @tksA_all @tksA_one @List.length_append.{0} @List.length_cons.{0} @List.length_nil.{0} @wds_len @wdsE_nil (j9 @wdsE_cons @splice0 @exA_len @exA_take @exA_drop @exA_one @exsA_nil @exsA_cons @exsA_len)))) ?_ | fail)
    all_goals first | (exfalso; omega) | (refine ⟨_, ?_, _, ?_, tupT ?_ ?_, rfl⟩; rotate_left 2; (first | (with_unfolding_all rfl) | (simp only [tksA, br, List.map_append, List.map_cons, List.map_nil, List.append_assoc, List.cons_append, List.nil_append, Bool.false_eq_true, ↓reduceIte]; first | rfl | (with_unfolding_all rfl))); (first | rfl | omega | (simp only [bd, ↓reduceIte, Bool.false_eq_true]; omega)); all_goals (first | ((first | exact Sg.sub.refl _ | ((repeat (first | exact Sg.sub.refl _ | refine Sg.sub.set_both ?_ | refine Sg.sub.set_fresh ?_ (by first | assumption | exact Sg.set_none (by assumption) (by first | assumption | (apply Go.Cert.ne_of2a; assumption; assumption))))); done) | (intro y p hy; simp only [Sg.set_apply, Sg.del_apply] at hy ⊢; grind))) | ((try simp only [Sg.set_apply, Sg.del_apply] at *); (try intro y p hy); (try simp only [Sg.set_apply, Sg.del_apply] at *); grind (splits := 40))))
  · rw [decide_eq_false hc]
    generalize t.lvl = L at *
    (refine vfun (fun k => if k = 2 then .ro else .obj) mixed Tryz.func111 (by kernel_rfl) ?_; simp only [bodyOf, Tryz.f111, zr])
    repeat' (first | with_reducible rfl | exact trivial | exact .inr trivial | (with_reducible first | apply And.intro | apply vqx_step | apply vqm_step | refine vkp_free (by decide +kernel) ?_ | intro _) | refine zaY (j6 ui0 ui3 ui4 ui9 ui22 (j9 ui23 ui24 ui25 ui26 ui56 ui94 ui101 ui102 (j9 @tksA_len @tksA_all @tksA_one @List.length_append.{0} @List.length_cons.{0} @List.length_nil.{0} @wds_len @wdsE_nil (j9 @wdsE_cons @splice0 @exA_len @exA_take @exA_drop @exA_one @exsA_nil @exsA_cons @exsA_len)))) ?_ | ((first | ((with_reducible refine zy (hlv _) ?_); rintro _ S ⟨rfl, rfl⟩) | ((with_reducible refine zy (hC _) ?_); rintro _ S ⟨τ1, f1, rfl, rfl⟩) | ((with_reducible refine zy (d_sign _ _) ?_); rintro _ S ⟨rfl, rfl⟩) | ((with_reducible refine zy (d_level _ (by assumption) _ (by first | assumption | rfl) _) ?_); rintro _ S ⟨rfl, rfl⟩) | (refine vlo_app zx ?_) | (refine vst_app zx ?_)); (try refine zsY (j6 ui0 ui3 ui4 ui9 ui22 (j9 ui23 ui24 ui25 ui26 ui56 ui94 ui101 ui102 (j9 @tksA_len @tksA_all @tksA_one @List.length_append.{0} @List.length_cons.{0} @List.length_nil.{0} @wds_len @wdsE_nil (j9 @wdsE_cons @splice0 @exA_len @exA_take @exA_drop @exA_one @exsA_nil @exsA_cons @exsA_len)))) ?_)) | (with_reducible first | refine vfresh_set ?_ | refine vfresh_intro (fun _ _ => ?_) | refine vif_intro (fun _ => ?_) (fun _ => ?_)) | omega | refine ztY (j6 ui0 ui3 ui4 ui9 ui22 (j9 ui23 ui24 ui25 ui26 ui56 ui94 ui101 ui102 (j9 @tksA_len @tksA_all @tksA_one @List.length_append.{0} @List.length_cons.{0} @List.length_nil.{0} @wds_len @wdsE_nil (j9 @wdsE_cons @splice0 @exA_len @exA_take @exA_drop @exA_one @exsA_nil @exsA_cons @exsA_len)))) ?_ | fail)
    all_goals first | (exfalso; omega) | (refine ⟨_, ?_, _, ?_, tupT ?_ ?_, rfl⟩; rotate_left 2; (first | (with_unfolding_all rfl) | (simp only [tksA, br, List.map_append, List.map_cons, List.map_nil, List.append_assoc, List.cons_append, List.nil_append, Bool.false_eq_true, ↓reduceIte]; first | rfl | (with_unfolding_all rfl))); (first | rfl | omega | (simp only [bd, ↓reduceIte, Bool.false_eq_true]; omega)); all_goals (first | ((first | exact Sg.sub.refl _ | ((repeat (first | exact Sg.sub.refl _ | refine Sg.sub.set_both ?_ | refine Sg.sub.set_fresh ?_ (by first | assumption | exact Sg.set_none (by assumption) (by first | assumption | (apply Go.Cert.ne_of2a; assumption; assumption))))); done) | (intro y p hy; simp only [Sg.set_apply, Sg.del_apply] at hy ⊢; grind))) | ((try simp only [Sg.set_apply, Sg.del_apply] at *); (try intro y p hy); (try simp only [Sg.set_apply, Sg.del_apply] at *); grind (splits := 40))))
end Go.Proofs.YtjdapkelojdefaaGreatDoor

set_option linter.unusedVariables false
namespace Go.V
open Go.RowKit
variable {P : Program}
theorem VCalls.fr {f : FuncId} {args : List AV} {σ : Sg} {R' : AV → Sg → Prop} {X : Nat → AV} {S : Nat → Sg} (hc : VCalls P f args σ (fun x σ' => ∃ τ, σ τ = none ∧ x = X τ ∧ σ' = S τ)) (h : vfresh σ fun τ => R' (X τ) (S τ)) : VCalls P f args σ R' :=
  hc.mono (fun x σ' hx => by
    obtain ⟨τ, h0, rfl, rfl⟩ := hx
    exact h τ h0)
theorem allOne_app (a b : List (List AV)) (n : Nat) : allOne (a ++ b) n = (allOne a n ∧ allOne b n) := propext ⟨fun h => ⟨fun e he => h e (List.mem_append_left _ he), fun e he => h e (List.mem_append_right _ he)⟩, fun h e he => (List.mem_append.1 he).elim (h.1 e) (h.2 e)⟩
theorem allLen_app (a b : List (List AV)) (n : Nat) : allLen (a ++ b) n = (allLen a n ∧ allLen b n) := propext ⟨fun h => ⟨fun e he => h e (List.mem_append_left _ he), fun e he => h e (List.mem_append_right _ he)⟩, fun h e he => (List.mem_append.1 he).elim (h.1 e) (h.2 e)⟩
theorem allOne_cons (x : List AV) (b : List (List AV)) (n : Nat) : allOne (x :: b) n = ((x.length = n ∧ (x.all AV.one) = true) ∧ allOne b n) := propext ⟨fun h => ⟨h x (List.mem_cons_self ..), fun e he => h e (List.mem_cons_of_mem _ he)⟩, fun h e he => (List.mem_cons.1 he).elim (fun hh => hh ▸ h.1) (h.2 e)⟩
theorem allLen_cons (x : List AV) (b : List (List AV)) (n : Nat) : allLen (x :: b) n = (x.length = n ∧ allLen b n) := propext ⟨fun h => ⟨h x (List.mem_cons_self ..), fun e he => h e (List.mem_cons_of_mem _ he)⟩, fun h e he => (List.mem_cons.1 he).elim (fun hh => hh ▸ h.1) (h.2 e)⟩
theorem allOne_nil (n : Nat) : allOne [] n = True := eq_true (fun e he => by cases he)
theorem allLen_nil (n : Nat) : allLen [] n = True := eq_true (fun e he => by cases he)
end Go.V

set_option linter.unusedVariables false
namespace Go.Print
open Go.V Go.Lex Go.Parse Go.Proofs.YtjdapkelojdefaaGreatDoor
def RL (L : Nat) (D : Dp) : Pr := match L with | 1 => exL D | 2 => andL D | 3 => notL D | 4 => testL D | 5 => sumL D | 6 => termL D | _ => facL D
def opsF (L : Nat) : List By :=
  [46] :: ((if L ≤ 6 then [[42], [47], [37]] else []) ++ ((if L ≤ 5 then [[43], [45]] else []) ++ ((if L ≤ 4 then tests else []) ++ ((if L ≤ 2 then [[65, 78, 68]] else []) ++ (if L ≤ 1 then [[79, 82]] else [])))))
def isW (x : Tk) (w : By) : Bool := decide ((x.1 = 2 ∨ x.1 = 5) ∧ x.2.1 = w)
def Stop (L : Nat) (r : List Tk) : Prop := ∀ w ∈ opsF L, isW (hd r) w = false
theorem Stop.mono {L M : Nat} {r : List Tk} (h : Stop L r) (hLM : L ≤ M) : Stop M r := fun w hw => h w (by
  unfold opsF at hw ⊢
  simp only [List.mem_cons, List.mem_append] at hw ⊢
  rcases hw with hw | hw | hw | hw | hw | hw
  · exact .inl hw
  · split at hw
    · exact .inr (.inl (by rw [if_pos (by omega)]; exact hw))
    · cases hw
  · split at hw
    · exact .inr (.inr (.inl (by rw [if_pos (by omega)]; exact hw)))
    · cases hw
  · split at hw
    · exact .inr (.inr (.inr (.inl (by rw [if_pos (by omega)]; exact hw))))
    · cases hw
  · split at hw
    · exact .inr (.inr (.inr (.inr (.inl (by rw [if_pos (by omega)]; exact hw)))))
    · cases hw
  · split at hw
    · exact .inr (.inr (.inr (.inr (.inr (by rw [if_pos (by omega)]; exact hw)))))
    · cases hw)
theorem lvK_le (k : Nat) (h : 1 ≤ k) : 1 ≤ lvK k ∧ lvK k ≤ 6 ∧ lvK k ≠ 3 := by
  unfold lvK
  repeat' split
  all_goals omega
end Go.Print

set_option linter.unusedVariables false
namespace Go.Print
open Go.V Go.Lex Go.Parse Go.Proofs.YtjdapkelojdefaaGreatDoor
def Tr.rg : Tr → Prop
  | .val v => inR v.2.1
  | .col _ _ => True
  | .op _ a b => a.rg ∧ b.rg
  | .not e => e.rg
  | .neg e => e.rg
  | .null e => e.rg
theorem okV_cases {v : Vl} (h : okV v = true) : v = v0 ∨ (v.1 = 1 ∧ v.2.2 = [] ∧ v.2.1 ≠ -9223372036854775808) ∨ (v.1 = 2 ∧ v.2.1 = 0 ∧ v.2.2.length ≤ 40) := by
  obtain ⟨k, n, t⟩ := v
  unfold okV rightV at h
  simp only [Bool.and_eq_true, decide_eq_true_eq] at h
  obtain ⟨h, hm⟩ := h
  split at h
  · cases h
  · rename_i hn
    split at h
    · cases h
    · rename_i hl
      have hb : bareV k n t = (n, t) := Classical.byContradiction fun hb => hn (.inr (.inr hb))
      have hk : k = 0 ∨ k = 1 ∨ k = 2 := by omega
      rcases hk with rfl | rfl | rfl
      · simp only [bareV, if_true, Prod.mk.injEq] at hb
        left; rw [← hb.1, ← hb.2]
      · simp only [bareV, Int.reduceEq, if_false, if_true, Prod.mk.injEq, true_and] at hb
        exact .inr (.inl ⟨rfl, hb.symm, hm⟩)
      · simp only [bareV, Int.reduceEq, if_false, if_true, Prod.mk.injEq, and_true] at hb
        exact .inr (.inr ⟨rfl, hb.symm, by simp only; omega⟩)
end Go.Print
