/- Part 8 of the proof: B2, E1, G1, W1, G3, B3, B4, B5, W2, W9, W10, V23, G6, G7, W11, W3. -/
import Derived.Test.YtjdapkelojdefaaGreatDoorN6
import Derived.Test.YtjdapkelojdefaaGreatDoorN7
import Derived.Test.YtjdapkelojdefaaGreatDoorN4

set_option linter.all false
set_option maxRecDepth 100000
set_option maxHeartbeats 1000000
open Go.V.Sg renaming set_same → zn, set_ne → zp, set_ne' → zq, del_ne → zr, del_ne' → zv
open Option renaming getD_some → zw
open List renaming length_append → zx, length_cons → zy, append_assoc → zC, cons_append → zF, nil_append → zG
open Go.Cert renaming ne_of2 → zP, ne_ob → zQ
open Go.V.VCalls renaming mono → zS
namespace Go.Parse
open Go.V Go.Lex Go.Proofs.YtjdapkelojdefaaGreatDoor
abbrev By := List UInt8
structure Rd where
  l : List Tk
  d : Int
  c : Int
  a : Int
def hd (l : List Tk) : Tk := l.getD 0 (0, [], 0, 0)
def Rd.next (s : Rd) : Rd := { s with l := s.l.tail }
def Rd.fail (s : Rd) (e : Int) : Rd := if s.c = 0 then { s with c := e, a := ((hd s.l).2.2.2 : Int) } else s
def Rd.is (s : Rd) (ws : List By) : Int :=
  if s.c ≠ 0 ∨ ((hd s.l).1 ≠ 2 ∧ (hd s.l).1 ≠ 5) then -1 else if idx (hd s.l).2.1 ws < ws.length then (idx (hd s.l).2.1 ws : Nat) else -1
def Rd.pass (s : Rd) (ws : List By) : Rd := if 0 ≤ s.is ws then s.next else s
def Rd.has (s : Rd) (w : By) : Bool := decide (0 ≤ s.is [w])
def Rd.must (s : Rd) : List By → Rd
  | [] => s
  | w :: ws => Rd.must (if s.has w then s.next else s.fail 4) ws
def Rd.takes (s : Rd) (k : Nat) : Prop := s.c = 0 ∧ (hd s.l).1 = k
instance (s : Rd) (k : Nat) : Decidable (s.takes k) := by unfold Rd.takes; infer_instance
def Rd.tok (s : Rd) (k : Nat) : Tk := if s.takes k then hd s.l else (0, [], 0, 0)
def Rd.take (s : Rd) (k : Nat) : Rd := if s.takes k then s.next else s.fail 4
abbrev Vl := Int × Int × By
abbrev v0 : Vl := (0, 0, [])
abbrev wMinus : By := [45]
abbrev wNull : By := [78, 85, 76, 76]
abbrev wNot : By := [78, 79, 84]
def Rd.lit (s : Rd) : Vl × Bool × Rd :=
  if s.c ≠ 0 then (v0, false, s) else
  if (hd s.l).1 = 3 then ((1, ((hd s.l).2.2.1 : Nat), []), true, s.next) else
  if (hd s.l).1 = 4 then ((2, 0, (hd s.l).2.1), true, s.next) else
  if s.is [wMinus] < 0 ∨ (s.l.getD 1 (0, [], 0, 0)).1 ≠ 3 then (v0, s.has wNull, s.pass [wNull]) else
  ((1, IntKind.i64.wrap (0 - ((s.l.getD 1 (0, [], 0, 0)).2.2.1 : Int)), []), true, s.next.next)
inductive Ex
  | mk (k op : Int) (t n : By) (v : Vl) (args : List Ex)
abbrev ex0 : Ex := .mk 0 0 [] [] v0 []
abbrev ofE (k : Int) (e : Ex) : Ex := .mk k 0 [] [] v0 [e]
abbrev opE (op : Int) (e f : Ex) : Ex := .mk 3 op [] [] v0 [e, f]
abbrev Pr := Rd → Ex × Rd
def Rd.column : Pr := fun s =>
  if (s.take 1).has [46] then (.mk 2 0 (s.tok 1).2.1 ((s.take 1).next.tok 1).2.1 v0 [], (s.take 1).next.take 1) else (.mk 2 0 [] (s.tok 1).2.1 v0 [], s.take 1)
def Rd.down (s : Rd) : Rd := if s.d + 1 > 10 then Rd.fail { s with d := s.d + 1 } 10 else { s with d := s.d + 1 }
def Rd.up (s : Rd) : Rd := { s with d := s.d - 1 }
def X2r (one : Pr) : Pr := fun s => if s.down.c = 0 then ((one s.down).1, (one s.down).2.up) else (ex0, s.down.up)
def rowL (below : Pr) (first : Int) (ws : List By) : Nat → Ex → Rd → Ex × Rd
  | 0, e, s => (e, s)
  | n + 1, e, s => if 0 ≤ s.is ws then rowL below first ws n (opE (first + s.is ws) e (below s.next).1) (below s.next).2 else (e, s)
def row (below : Pr) (first : Int) (ws : List By) : Pr := fun s => rowL below first ws (below s).2.l.length (below s).1 (below s).2
structure Dp where
  fac : Pr
  not : Pr
  ex : Pr
def facL (D : Dp) : Pr := fun s =>
  if s.lit.2.1 then (.mk 1 0 [] [] s.lit.1 [], s.lit.2.2) else
  if s.lit.2.2.is [wMinus, [40]] = 0 then (ofE 5 (X2r D.fac (s.lit.2.2.next)).1, (X2r D.fac (s.lit.2.2.next)).2) else
  if s.lit.2.2.is [wMinus, [40]] = 1 then ((X2r D.ex (s.lit.2.2.next)).1, (X2r D.ex (s.lit.2.2.next)).2.must [[41]]) else
  s.lit.2.2.column
def termL (D : Dp) : Pr := row (facL D) 11 [[42], [47], [37]]
def sumL (D : Dp) : Pr := row (termL D) 9 [[43], [45]]
abbrev tests : List By := [[61], [60, 62], [60], [60, 61], [62], [62, 61], [73, 83]]
def isNull (e : Ex) (s : Rd) : Ex × Rd :=
  if s.has wNot then (ofE 4 (ofE 6 e), s.next.must [wNull]) else (ofE 6 e, s.must [wNull])
def testL (D : Dp) : Pr := fun s =>
  if (sumL D s).2.is tests < 0 then sumL D s else
  if 3 + (sumL D s).2.is tests ≤ 8 then (opE (3 + (sumL D s).2.is tests) (sumL D s).1 (sumL D (sumL D s).2.next).1, (sumL D (sumL D s).2.next).2) else
  isNull (sumL D s).1 (sumL D s).2.next
def notL (D : Dp) : Pr := fun s => if s.has wNot then (ofE 4 (X2r D.not s.next).1, (X2r D.not s.next).2) else testL D s
def andL (D : Dp) : Pr := row (notL D) 2 [[65, 78, 68]]
def exL (D : Dp) : Pr := row (andL D) 1 [[79, 82]]
def dp : Nat → Dp
  | 0 => ⟨fun s => (ex0, s), fun s => (ex0, s), fun s => (ex0, s)⟩
  | n + 1 => ⟨facL (dp n), notL (dp n), exL (dp n)⟩
def Rd.fin (s : Rd) : Rd := if s.c = 0 ∧ (hd s.l).1 ≠ 6 then s.fail 4 else s
end Go.Parse
namespace Go.Lex
open Go.V Go.Proofs.YtjdapkelojdefaaGreatDoor
def dec (n : Nat) : List UInt8 := if _h : n < 10 then [UInt8.ofNat (48 + n)] else dec (n / 10) ++ [UInt8.ofNat (48 + n % 10)]
theorem X2s {n : Nat} (h : n < 10) : dec n = [UInt8.ofNat (48 + n)] := by rw [dec, dif_pos h]
theorem dec_ge {n : Nat} (h : ¬ n < 10) : dec n = dec (n / 10) ++ [UInt8.ofNat (48 + n % 10)] := by rw [dec, dif_neg h]
theorem ofNat_toNat {n : Nat} (h : n < 10) : (UInt8.ofNat (48 + n)).toNat = 48 + n := by
  rw [UInt8.toNat_ofNat']
  omega
def quo : List UInt8 → List UInt8
  | [] => []
  | c :: r => if c = 39 then 39 :: 39 :: quo r else c :: quo r
def X0w (t : List UInt8) : List UInt8 := 39 :: (quo t ++ [39])
theorem X1r : ∀ t : List UInt8, (quo t).length ≤ 2 * t.length
  | [] => Nat.le_refl _
  | c :: r => by
    have := X1r r
    unfold quo
    split <;> simp <;> omega
theorem X3q : ∀ n : Nat, ∀ k, n < 10 ^ (k + 1) → (dec n).length ≤ k + 1 := by
  intro n
  induction n using Nat.strongRecOn with
  | ind n ih =>
    intro k hk
    by_cases h : n < 10
    · rw [X2s h]; simp
    · cases k with
      | zero => omega
      | succ k =>
        rw [dec_ge h, zx]
        have := ih (n / 10) (by omega) k (by rw [Nat.pow_succ] at hk; omega)
        simp
        omega
end Go.Lex
namespace Go.Print
open Go.V Go.Lex Go.Parse Go.Proofs.YtjdapkelojdefaaGreatDoor
inductive Tr
  | val (v : Vl)
  | col (t n : By)
  | not (e : Tr)
  | neg (e : Tr)
  | null (e : Tr)
  | op (k : Nat) (a b : Tr)
def Tr.ex : Tr → Ex
  | .val v => .mk 1 0 [] [] v []
  | .col t n => .mk 2 0 t n v0 []
  | .op k a b => opE k a.ex b.ex
  | .not e => ofE 4 e.ex
  | .neg e => ofE 5 e.ex
  | .null e => ofE 6 e.ex
def isNm (s : By) : Bool := decide (s ≠ []) && decide (s.length ≤ 16) && Q6p (s.getD 0 0) && decide (pre Q3q s = s.length)
def X1s (k n : Int) (t : By) : Int × By := if k = 0 then (0, []) else if k = 1 then (n, []) else if k = 2 then (0, t) else (n, t)
def X0x (k n : Int) (t : By) : Int := if k < 0 ∨ 2 < k ∨ X1s k n t ≠ (n, t) then 4 else if 40 < t.length then 2 else 0
def okV (v : Vl) : Bool := decide (X0x v.1 v.2.1 v.2.2 = 0) && decide (v.2.1 ≠ -9223372036854775808)
def Tr.wf : Tr → Prop
  | .val v => okV v = true
  | .col t n => isNm n = true ∧ (t = [] ∨ isNm t = true)
  | .op k a b => (1 ≤ k ∧ k ≤ 13) ∧ a.wf ∧ b.wf
  | .not e => e.wf
  | .neg e => e.wf
  | .null e => e.wf
def rtN (k op : Int) (t n : By) (v : Vl) (len : Nat) : Bool :=
  if k = 1 then okV v && decide (op = 0 ∧ t = [] ∧ n = [] ∧ len = 0) else
  if k = 2 then isNm n && (decide (t = []) || isNm t) && decide (op = 0 ∧ v = v0 ∧ len = 0) else
  if k = 3 then decide ((1 ≤ op ∧ op ≤ 13) ∧ t = [] ∧ n = [] ∧ v = v0 ∧ len = 2) else
  if k = 4 ∨ k = 5 ∨ k = 6 then decide (op = 0 ∧ t = [] ∧ n = [] ∧ v = v0 ∧ len = 1) else false
mutual
def rt : Ex → Bool
  | .mk k op t n v args => rtN k op t n v args.length && rts args
def rts : List Ex → Bool
  | [] => true
  | e :: r => rt e && rts r
end
abbrev tr0 : Tr := .val v0
def mkTr (k op : Int) (t n : By) (v : Vl) (l : List Tr) : Tr :=
  if k = 1 then .val v else if k = 2 then .col t n else if k = 3 then .op op.toNat (l.getD 0 tr0) (l.getD 1 tr0) else
  if k = 4 then .not (l.getD 0 tr0) else if k = 5 then .neg (l.getD 0 tr0) else .null (l.getD 0 tr0)
mutual
def toTr : Ex → Tr
  | .mk k op t n v args => mkTr k op t n v (X3r args)
def X3r : List Ex → List Tr
  | [] => []
  | e :: r => toTr e :: X3r r
end
theorem rt_mk (k op : Int) (t n : By) (v : Vl) (l : List Ex) : rt (.mk k op t n v l) = (rtN k op t n v l.length && rts l) := by rw [rt]
theorem X1t : rts [] = true := by rw [rts]
theorem Q3b (e : Ex) (r : List Ex) : rts (e :: r) = (rt e && rts r) := by rw [rts]
theorem toTr_mk (k op : Int) (t n : By) (v : Vl) (l : List Ex) : toTr (.mk k op t n v l) = mkTr k op t n v (X3r l) := by rw [toTr]
theorem toTrs_nil : X3r [] = [] := by rw [X3r]
theorem X0e (e : Ex) (r : List Ex) : X3r (e :: r) = toTr e :: X3r r := by rw [X3r]
theorem rtN_cases {k op : Int} {t n : By} {v : Vl} {len : Nat} (h : rtN k op t n v len = true) :
    (k = 1 ∧ okV v = true ∧ op = 0 ∧ t = [] ∧ n = [] ∧ len = 0) ∨ (k = 2 ∧ isNm n = true ∧ (t = [] ∨ isNm t = true) ∧ op = 0 ∧ v = v0 ∧ len = 0) ∨
    (k = 3 ∧ (1 ≤ op ∧ op ≤ 13) ∧ t = [] ∧ n = [] ∧ v = v0 ∧ len = 2) ∨ ((k = 4 ∨ k = 5 ∨ k = 6) ∧ op = 0 ∧ t = [] ∧ n = [] ∧ v = v0 ∧ len = 1) := by
  unfold rtN at h
  split at h
  · rename_i hk
    simp only [Bool.and_eq_true, decide_eq_true_eq] at h
    exact .inl ⟨hk, h.1, h.2⟩
  · split at h
    · rename_i hk
      simp only [Bool.and_eq_true, Bool.or_eq_true, decide_eq_true_eq] at h
      exact .inr (.inl ⟨hk, h.1.1, h.1.2, h.2⟩)
    · split at h
      · rename_i hk
        exact .inr (.inr (.inl ⟨hk, of_decide_eq_true h⟩))
      · split at h
        · rename_i hk
          exact .inr (.inr (.inr ⟨hk, of_decide_eq_true h⟩))
        · cases h
mutual
theorem Q7j : ∀ e : Ex, rt e = true → (toTr e).ex = e ∧ (toTr e).wf
  | .mk k op t n v l, h => by
    rw [rt_mk, Bool.and_eq_true] at h
    have ih := toTrs_ok l h.2
    rw [toTr_mk]
    rcases rtN_cases h.1 with ⟨rfl, hv, rfl, rfl, rfl, hl⟩ | ⟨rfl, hn, ht, rfl, rfl, hl⟩ | ⟨rfl, ho, rfl, rfl, rfl, hl⟩ | ⟨hk, rfl, rfl, rfl, rfl, hl⟩
    · cases l with
      | nil => exact ⟨rfl, hv⟩
      | cons => cases hl
    · cases l with
      | nil => exact ⟨rfl, hn, ht⟩
      | cons => cases hl
    · match l, hl with
      | [a, b], _ =>
        rw [X0e, X0e, toTrs_nil] at ih ⊢
        have ha := ih (toTr a) (by simp)
        have hb := ih (toTr b) (by simp)
        have e : mkTr 3 op [] [] v0 [toTr a, toTr b] = .op op.toNat (toTr a) (toTr b) := rfl
        rw [e]
        have ea := Q7j a (by rw [Q3b, Bool.and_eq_true] at h; exact h.2.1)
        have eb := Q7j b (by rw [Q3b, Q3b, Bool.and_eq_true, Bool.and_eq_true] at h; exact h.2.2.1)
        refine ⟨?_, ⟨by omega, by omega⟩, ea.2, eb.2⟩
        show Ex.mk 3 (op.toNat : Int) [] [] v0 [(toTr a).ex, (toTr b).ex] = _
        rw [ea.1, eb.1, show (op.toNat : Int) = op by omega]
    · match l, hl with
      | [a], _ =>
        rw [X0e, toTrs_nil]
        have ea := Q7j a (by rw [Q3b, Bool.and_eq_true] at h; exact h.2.1)
        rcases hk with rfl | rfl | rfl
        · exact ⟨by show Ex.mk 4 0 [] [] v0 [(toTr a).ex] = _; rw [ea.1], ea.2⟩
        · exact ⟨by show Ex.mk 5 0 [] [] v0 [(toTr a).ex] = _; rw [ea.1], ea.2⟩
        · exact ⟨by show Ex.mk 6 0 [] [] v0 [(toTr a).ex] = _; rw [ea.1], ea.2⟩
theorem toTrs_ok : ∀ l : List Ex, rts l = true → ∀ t ∈ X3r l, True
  | _, _, _, _ => trivial
end
def _root_.Go.Parse.Ex.kd : Ex → Int
  | .mk k _ _ _ _ _ => k
def wT (s : By) : Tk := (2, s, 0, 0)
def sT (s : By) : Tk := (5, s, 0, 0)
def nT (s : By) : Tk := (1, s, 0, 0)
def iT (n : Int) : Tk := (3, [], n.toNat, 0)
def wd (s : By) : Tk := if 65 ≤ (s.getD 0 0).toNat ∧ (s.getD 0 0).toNat ≤ 90 then wT s else sT s
def wds (l : List By) : List Tk := l.map wd
def numT (n : Int) : List Tk := if n < 0 then [sT [45], iT (-n)] else [iT n]
def litT (v : Vl) : List Tk := if v.1 = 0 then [wT [78, 85, 76, 76]] else if v.1 = 2 then [(4, v.2.2, 0, 0)] else numT v.2.1
def ops : List By := [[], [79, 82], [65, 78, 68], [61], [60, 62], [60], [60, 61], [62], [62, 61], [43], [45], [42], [47], [37]]
def lvK (k : Nat) : Nat := if k ≤ 2 then k else if k ≤ 8 then 4 else if k ≤ 10 then 5 else 6
def Tr.lvl : Tr → Nat
  | .not (.null _) => 4
  | .not _ => 3
  | .null _ => 4
  | .op k _ _ => lvK k
  | _ => 7
def lftK (k : Nat) : Nat := if lvK k = 4 then 5 else lvK k
def Tr.pos : Tr → Bool
  | .val v => decide (v.1 = 1 ∧ 0 ≤ v.2.1)
  | _ => false
def br (b : Bool) (l : List Tk) : List Tk := if b then sT [40] :: (l ++ [sT [41]]) else l
def lo (e : Tr) (k : Nat) : Bool := decide (e.lvl < k)
def Tr.tk : Tr → List Tk
  | .val v => litT v
  | .col t n => if t = [] then [nT n] else [nT t, sT [46], nT n]
  | .null e => br (lo e 5) e.tk ++ [wT [73, 83], wT [78, 85, 76, 76]]
  | .neg e => sT [45] :: br e.pos (br (lo e 7) e.tk)
  | .not (.null x) => br (lo x 5) x.tk ++ [wT [73, 83], wT [78, 79, 84], wT [78, 85, 76, 76]]
  | .not e => wT [78, 79, 84] :: br (lo e 3) e.tk
  | .op k a b => br (lo a (lftK k)) a.tk ++ wd (ops.getD k []) :: br (lo b (lvK k + 1)) b.tk
def bd (b : Bool) : Nat := if b then 1 else 0
def Tr.dp : Tr → Nat
  | .val _ => 0
  | .col _ _ => 0
  | .null e => bd (lo e 5) + e.dp
  | .neg e => 1 + (bd e.pos + (bd (lo e 7) + e.dp))
  | .not (.null x) => bd (lo x 5) + x.dp
  | .not e => 1 + (bd (lo e 3) + e.dp)
  | .op k a b => max (bd (lo a (lftK k)) + a.dp) (bd (lo b (lvK k + 1)) + b.dp)
theorem X1u (e : Tr) : (Tr.null e).tk = br (lo e 5) e.tk ++ [wT [73, 83], wT [78, 85, 76, 76]] := by rw [Tr.tk]
theorem tk_neg (e : Tr) : (Tr.neg e).tk = sT [45] :: br e.pos (br (lo e 7) e.tk) := by rw [Tr.tk]
theorem Q6a (x : Tr) : (Tr.not (.null x)).tk = br (lo x 5) x.tk ++ [wT [73, 83], wT [78, 79, 84], wT [78, 85, 76, 76]] := by rw [Tr.tk]
def Tr.isNull : Tr → Bool
  | .null _ => true
  | _ => false
theorem Q9i {e : Tr} (h : e.isNull = false) : (Tr.not e).tk = wT [78, 79, 84] :: br (lo e 3) e.tk := by
  cases e <;> first | (cases h; done) | simp [Tr.tk]
theorem X1v {e : Tr} (h : e.isNull = false) : (Tr.not e).dp = 1 + (bd (lo e 3) + e.dp) := by
  cases e <;> first | (cases h; done) | simp [Tr.dp]
theorem X0f (x : Tr) : (Tr.not (.null x)).dp = bd (lo x 5) + x.dp := by rw [Tr.dp]
theorem lvl_not {e : Tr} (h : e.isNull = false) : (Tr.not e).lvl = 3 := by
  cases e <;> first | (cases h; done) | rfl
theorem tk_op (k : Nat) (a b : Tr) : (Tr.op k a b).tk = br (lo a (lftK k)) a.tk ++ wd (ops.getD k []) :: br (lo b (lvK k + 1)) b.tk := by rw [Tr.tk]
def txt (t : Tk) : By := if t.1 = 3 then dec t.2.2.1 else if t.1 = 4 then X0w t.2.1 else t.2.1
def Q3j : List By → By
  | [] => []
  | [x] => x
  | x :: y :: r => x ++ 32 :: Q3j (y :: r)
def txts (l : List Tk) : List By := (l.filter fun t => decide (t.1 ≠ 6)).map txt
def Q8j (l : List Tk) : By := Q3j (txts l)
def fin (l : List Tk) (deep : Nat) : By × Int := if 10 < deep then ([], 10) else if 2000 < (Q8j l).length then ([], 2) else (Q8j l, 0)
def exprR (e : Ex) : By × Int := if rt e then fin (toTr e).tk (toTr e).dp else ([], 4)
abbrev wOb (T : TypeId) (r : List AV) (τ : Nat) (l : List Tk) : Ob := .cells T (.sl (.tok τ 4) (tksA l) :: r)
abbrev WB (T : TypeId) (r : List AV) (B : Sg) (ω τ : Nat) (l : List Tk) : Sg := (B.set τ (.tok (some 102))).set ω (wOb T r τ l)
def inR' (n : Int) : Prop := -9223372036854775807 ≤ n ∧ n ≤ 9223372036854775807
structure okS (B : Sg) (ω τ : Nat) : Prop where
  free : B τ = none
  ne : τ ≠ ω
theorem Q8c {T : TypeId} {r : List AV} {B : Sg} {ω τ : Nat} {l : List Tk} : WB T r B ω τ l = (B.set τ (.tok (some 102))).set ω (.cells T (.sl (.tok τ 4) (tksA l) :: r)) := rfl
theorem Q6r {T : TypeId} {r : List AV} {B : Sg} {ω τ : Nat} {l m : List Tk} {es : List (List AV)} (h : es = tksA m) : (B.set τ (.tok (some 102))).set ω (.cells T (.sl (.tok τ 4) (tksA l ++ es) :: r)) = WB T r B ω τ (l ++ m) := by
  rw [h, X1c]
theorem Q8k {B : Sg} {ω τ τ' : Nat} {t t' ob ob' : Ob} (h : B τ' = none) (h0 : B τ = none) : ((B.set τ' t').set ω ob').sub (((((B.set τ t).set ω ob).del τ).set τ' t').set ω ob') := by
  intro y p hy
  simp only [Sg.set_apply, Sg.del_apply] at hy ⊢
  grind
end Go.Print
namespace Go.Proofs.YtjdapkelojdefaaGreatDoor
open Go Go.V Go.Lex Go.Parse Go.Print
theorem Q5q (a x : AV) (r : List AV) : Q2o (a :: r) 0 [x] = x :: r := by simp [Q2o]
theorem Q2n (T : TypeId) (r : List AV) (B : Sg) (ω τ : Nat) (l : List Tk) (s : By) (h : okS B ω τ) (hl : l.length < 2 ^ 40) : VCalls Tryz.prog 46 [.ref ω 0, .s (bs s)] (WB T r B ω τ l) (fun x σ' => x = .tup [] ∧ ∃ τ', okS B ω τ' ∧ σ' = WB T r B ω τ' (l ++ [nT s])) := by
  obtain ⟨h1, h2⟩ := h
  have h2' := h2.symm
  rw [Q8c]
  have hlen := Q2p l
  have hall := Q3e l
  (refine vfun (fun _ => .no) Q0k Tryz.func46 (by kernel_rfl) ?_; simp only [Q0f, Tryz.f46, zw])
  (have zz := Bx.mk (j3 ui0 ui3 (j9 ui9 ui56 ui57 X3o Q0q Q0r hlen hall @Q5q)); (repeat' (first | exact zc | (with_reducible first | apply And.intro | apply Q0a | apply Q0b | refine Q0c (by decide +kernel) ?_ | intro _) | refine zaY zz.out ?_ | ((first | (refine Q0d (by exact zK) ?_) | (refine Q0e (by exact zK) ?_)); (try refine zsY zz.out ?_)) | refine zo ?_ | omega | refine ztY zz.out ?_ | fail)); try (all_goals clear zz))
  all_goals (exact ⟨_, Q8k ‹B _ = none› (by assumption), _, ⟨‹B _ = none›, by assumption⟩, Q6r rfl⟩)
theorem Q1k (l : List By) : (wds l).length = l.length := by simp [wds]
theorem iT_A {n : Int} (h : 0 ≤ n) : [[AV.i 3, .s (bs []), .i n, .i 0]] = tksA [iT n] := by
  have : ((n.toNat : Nat) : Int) = n := by omega
  show _ = [[AV.i 3, .s (bs []), .i ((n.toNat : Nat) : Int), .i 0]]
  rw [this]
theorem wds_step {ws : List By} {k : Nat} (h : k < ws.length) : wds (ws.take (k + 1)) = wds (ws.take k) ++ [wd (ws.getD k [])] := by
  unfold wds
  rw [List.take_succ_eq_append_getElem h, List.map_append]
  simp [List.getD_eq_getElem?_getD, List.getElem?_eq_getElem h]
theorem w_words (T : TypeId) (r : List AV) (B : Sg) (ω τ : Nat) (l : List Tk) (o : Own) (ws : List By) (es : List (List AV)) (he : es = strs ws) (h : okS B ω τ) (hl : l.length + ws.length < 2 ^ 40) (hw : ∀ w ∈ ws, w ≠ []) : VCalls Tryz.prog 29 [.ref ω 0, .sl o es] (WB T r B ω τ l) (fun x σ' => x = .tup [] ∧ ∃ τ', okS B ω τ' ∧ σ' = WB T r B ω τ' (l ++ wds ws)) := by
  subst he
  have hsl := Q6q ws
  (refine vfun (fun _ => .no) Q0k Tryz.func29 (by kernel_rfl) ?_; simp only [Q0f, Tryz.f29, zw])
  (have zz := Bx.mk (j4 ui0 ui3 ui4 (j9 ui5 ui9 ui56 ui57 ui75 X3o Q0q Q0r hsl)); (repeat' (first | exact zc | (with_reducible first | apply And.intro | apply Q0a | apply Q0b | refine Q0c (by decide +kernel) ?_ | intro _) | refine zaY zz.out ?_ | ((first | (refine Q0d (by exact zK) ?_) | (refine Q0e (by exact zK) ?_)); (try refine zsY zz.out ?_)) | refine zo ?_ | omega | refine ztY zz.out ?_ | fail)); try (all_goals clear zz))
  refine VW.loop3 (0 : Nat) τ () (fun k τ' _ => k ≤ ws.length ∧ okS B ω τ') (fun k _ _ => [(0, .ref ω 0), (7, .sl o (strs ws)), (8, .i ws.length), (9, .i k)]) (fun k τ' _ => WB T r B ω τ' (l ++ wds (ws.take k))) (fun k _ _ => ws.length - k) ⟨Nat.zero_le _, h⟩ (by simp [wds]; exact .refl _) ?_ ?_
  · simp only [vO, vQ, ↓vP, vE, vS, vB, vL, vF, vM, vN, Q0i, Nat.reduceEqDiff, Nat.reduceAdd, Nat.reduceLeDiff, ne_eq, not_false_eq_true, Nat.reduceMul, Nat.reduceSub, Int.toNat_zero, Int.reduceToNat, vT]
    all_goals rfl
  rintro k τ' _ ⟨hk, h1, h2⟩
  have h2' := h2.symm
  rw [Q8c]
  rcases Nat.lt_or_ge k ws.length with hk2 | hk2
  · have hg := Q7u hk2
    have hwk : ws.getD k [] ≠ [] := hw _ (by simp [List.getD_eq_getElem?_getD, List.getElem?_eq_getElem hk2])
    have hwl : 0 < (ws.getD k []).length := List.length_pos_iff.2 hwk
    have hst := wds_step hk2
    have hwd : wd (ws.getD k []) = if 65 ≤ ((ws.getD k []).getD 0 0).toNat ∧ ((ws.getD k []).getD 0 0).toNat ≤ 90 then wT (ws.getD k []) else sT (ws.getD k []) := rfl
    generalize ws.getD k [] = w at *
    have hall := Q3e (l ++ wds (ws.take k))
    have hlen : (tksA (l ++ wds (ws.take k))).length = l.length + k := by rw [Q2p, zx]; simp [wds]; omega
    generalize hL : l ++ wds (ws.take k) = L at *
    (have zz := Bx.mk (j8 ui0 ui3 ui4 ui5 ui9 ui56 ui57 (j9 ui75 X3o Q0q Q0r hsl hg hall hlen @Q5q)); (repeat' (first | exact zc | (with_reducible first | apply And.intro | apply Q0a | apply Q0b | refine Q0c (by decide +kernel) ?_ | intro _) | refine zaY zz.out ?_ | ((first | (refine Q0d (by exact zK) ?_) | (refine Q0e (by exact zK) ?_)); (try refine zsY zz.out ?_)) | refine zo ?_ | omega | refine ztY zz.out ?_ | fail)); try (all_goals clear zz))
    · rename_i τ2 q1 _ q2
      exact ⟨k + 1, τ2, (), ⟨⟨hk2, q1, q2⟩, by omega⟩, by rw [hst, ← zC, hL, hwd, if_pos ⟨by omega, by omega⟩, ← Q6r (m := [wT w]) rfl]; exact Q8k q1 h1, rfl⟩
    all_goals rename_i τ2 q1 _ q2
    all_goals exact ⟨k + 1, τ2, (), ⟨⟨hk2, q1, q2⟩, by omega⟩, by rw [hst, ← zC, hL, hwd, if_neg (by omega), ← Q6r (m := [sT w]) rfl]; exact Q8k q1 h1, rfl⟩
  · (have zz := Bx.mk (j4 ui0 ui3 ui4 (j9 ui5 ui9 ui56 ui57 ui75 X3o Q0q Q0r hsl)); (repeat' (first | exact zc | (with_reducible first | apply And.intro | apply Q0a | apply Q0b | refine Q0c (by decide +kernel) ?_ | intro _) | refine zaY zz.out ?_ | ((first | (refine Q0d (by exact zK) ?_) | (refine Q0e (by exact zK) ?_)); (try refine zsY zz.out ?_)) | refine zo ?_ | omega | refine ztY zz.out ?_ | fail)); try (all_goals clear zz))
    rw [List.take_of_length_le hk2]
    exact ⟨_, .refl _, τ', ⟨h1, h2⟩, rfl⟩
def wdsE (es : List (List AV)) : List Tk := es.map fun e => wd (match e with | [.val (.string s)] => s.data.toList | _ => [])
theorem wdsE_strs (ws : List By) : wdsE (strs ws) = wds ws := by
  unfold wdsE strs wds
  rw [List.map_map]
  refine List.map_congr_left (fun w _ => ?_)
  show wd ((bs w).data.toList) = wd w
  rw [Q4z]
theorem Q4q : wdsE [] = [] := rfl
theorem Q3d (w : By) (es : List (List AV)) : wdsE ([.val (.string (bs w))] :: es) = wd w :: wdsE es := by
  show wd ((bs w).data.toList) :: wdsE es = _
  rw [Q4z]
def okW (es : List (List AV)) : Prop := ∃ ws, es = strs ws ∧ ∀ w ∈ ws, w ≠ []
theorem Q0j : okW [] := ⟨[], rfl, fun w h => by cases h⟩
theorem Q0g {w : By} {es : List (List AV)} (h : okW es) (hw : w ≠ []) : okW ([AV.s (bs w)] :: es) := by
  obtain ⟨ws, rfl, h⟩ := h
  exact ⟨w :: ws, rfl, fun x hx => by
    rcases List.mem_cons.1 hx with rfl | hx
    · exact hw
    · exact h x hx⟩
theorem Q0n (T : TypeId) (r : List AV) (B : Sg) (ω τ : Nat) (l : List Tk) (o : Own) (es : List (List AV)) (he : okW es) (h : okS B ω τ) (hl : l.length + es.length < 2 ^ 40) : VCalls Tryz.prog 29 [.ref ω 0, .sl o es] (WB T r B ω τ l) (fun x σ' => x = .tup [] ∧ ∃ τ', okS B ω τ' ∧ σ' = WB T r B ω τ' (l ++ wdsE es)) := by
  obtain ⟨ws, rfl, hw⟩ := he
  rw [Q6q] at hl
  rw [wdsE_strs]
  exact w_words T r B ω τ l o ws _ rfl h hl hw
def WLg := And.intro (j9 @Q2p @Q3e @Q7v @List.length_append.{0} @List.length_cons.{0} @List.length_nil.{0} @Q1k @Q4q @Q3d) @Q5q
theorem Q9j (T : TypeId) (r : List AV) (B : Sg) (ω τ : Nat) (l : List Tk) (n : Int) (h : okS B ω τ) (hl : l.length < 2 ^ 39) (hn : inR' n) : VCalls Tryz.prog 103 [.ref ω 0, .i n] (WB T r B ω τ l) (fun x σ' => x = .tup [] ∧ ∃ τ', okS B ω τ' ∧ σ' = WB T r B ω τ' (l ++ numT n)) := by
  unfold inR' at hn
  unfold numT
  by_cases hc : n < 0
  · rw [if_pos hc]
    (refine vfun (fun _ => .no) Q0k Tryz.func103 (by kernel_rfl) ?_; simp only [Q0f, Tryz.f103, zw])
    (have zz := Bx.mk (j4 ui0 ui3 ui4 (j9 ui9 ui56 ui57 ui75 X3o Q0q Q0r @Q2p (j9 @Q3e @Q7v @List.length_append.{0} @List.length_cons.{0} @List.length_nil.{0} @Q1k @Q4q @Q3d @Q5q))); (repeat' (first | exact zc | (with_reducible first | apply And.intro | apply Q0a | apply Q0b | refine Q0c (by decide +kernel) ?_ | intro _) | refine zaY zz.out ?_ | ((first | ((with_reducible refine zS (Q0n _ _ _ _ _ _ _ _ (by repeat (first | exact Q0j | refine Q0g ?_ (by simp))) (by exact zO) (by exact zN)) ?_); rintro _ S ⟨rfl, τ1, ⟨f1, n1⟩, rfl⟩; have n1s := n1.symm) | (refine Q0d (by exact zK) ?_) | (refine Q0e (by exact zK) ?_)); (try refine zsY zz.out ?_)) | refine zo ?_ | omega | refine ztY zz.out ?_ | fail)); try (all_goals clear zz))
    rename_i τ2 q1 _ q2
    exact ⟨_, Q8k q1 (by assumption), _, ⟨q1, q2⟩, by rw [Q6r (m := [iT (0 - n)]) (iT_A (by omega)), zC, Int.zero_sub]; rfl⟩
  · rw [if_neg hc]
    obtain ⟨f0, n0⟩ := h
    have n0s := n0.symm
    (refine vfun (fun _ => .no) Q0k Tryz.func103 (by kernel_rfl) ?_; simp only [Q0f, Tryz.f103, zw])
    (have zz := Bx.mk (j4 ui0 ui3 ui4 (j9 ui9 ui56 ui57 ui75 X3o Q0q Q0r @Q2p (j9 @Q3e @Q7v @List.length_append.{0} @List.length_cons.{0} @List.length_nil.{0} @Q1k @Q4q @Q3d @Q5q))); (repeat' (first | exact zc | (with_reducible first | apply And.intro | apply Q0a | apply Q0b | refine Q0c (by decide +kernel) ?_ | intro _) | refine zaY zz.out ?_ | ((first | ((with_reducible refine zS (Q0n _ _ _ _ _ _ _ _ (by repeat (first | exact Q0j | refine Q0g ?_ (by simp))) (by exact zO) (by exact zN)) ?_); rintro _ S ⟨rfl, τ1, ⟨f1, n1⟩, rfl⟩; have n1s := n1.symm) | (refine Q0d (by exact zK) ?_) | (refine Q0e (by exact zK) ?_)); (try refine zsY zz.out ?_)) | refine zo ?_ | omega | refine ztY zz.out ?_ | fail)); try (all_goals clear zz))
    rename_i τ2 q1 _ q2
    exact ⟨_, Q8k q1 (by assumption), _, ⟨q1, q2⟩, by rw [Q6r (m := [iT n]) (iT_A (by omega))]⟩
theorem Q2z (T : TypeId) (r : List AV) (B : Sg) (ω τ : Nat) (l : List Tk) (v : Vl) (h : okS B ω τ) (hl : l.length < 2 ^ 38) (hn : inR' v.2.1) (hk : v.1 = 0 ∨ v.1 = 1 ∨ v.1 = 2) : VCalls Tryz.prog 45 [.ref ω 0, .agg [.i v.1, .i v.2.1, .s (bs v.2.2)]] (WB T r B ω τ l) (fun x σ' => x = .tup [] ∧ ∃ τ', okS B ω τ' ∧ σ' = WB T r B ω τ' (l ++ litT v)) := by
  unfold litT
  obtain ⟨k, n, t⟩ := v
  simp only at hn hk ⊢
  rcases hk with rfl | rfl | rfl
  · (refine vfun (fun _ => .ro) Q0k Tryz.func45 (by kernel_rfl) ?_; simp only [Q0f, Tryz.f45, zw])
    (have zz := Bx.mk (j6 ui0 ui3 ui4 ui9 ui22 (j9 ui23 ui56 ui57 ui75 X3o Q0q Q0r @Q2p (j9 @Q3e @Q7v @List.length_append.{0} @List.length_cons.{0} @List.length_nil.{0} @Q1k @Q4q @Q3d @Q5q))); (repeat' (first | exact zc | (with_reducible first | apply And.intro | apply Q0a | apply Q0b | refine Q0c (by decide +kernel) ?_ | intro _) | refine zaY zz.out ?_ | ((first | ((with_reducible refine zS (Q0n _ _ _ _ _ _ _ _ (by repeat (first | exact Q0j | refine Q0g ?_ (by simp))) (by exact zO) (by exact zN)) ?_); rintro _ S ⟨rfl, τ1, ⟨f1, n1⟩, rfl⟩; have n1s := n1.symm) | ((with_reducible refine zS (Q9j _ _ _ _ _ _ _ (by exact zO) (by exact zN) (by assumption)) ?_); rintro _ S ⟨rfl, τ1, ⟨f1, n1⟩, rfl⟩; have n1s := n1.symm) | (refine Q0d (by exact zK) ?_) | (refine Q0e (by exact zK) ?_)); (try refine zsY zz.out ?_)) | refine zo ?_ | omega | refine ztY zz.out ?_ | fail)); try (all_goals clear zz))
    exact ⟨_, .refl _, τ1, ⟨f1, n1⟩, rfl⟩
  · (refine vfun (fun _ => .ro) Q0k Tryz.func45 (by kernel_rfl) ?_; simp only [Q0f, Tryz.f45, zw])
    (have zz := Bx.mk (j6 ui0 ui3 ui4 ui9 ui22 (j9 ui23 ui56 ui57 ui75 X3o Q0q Q0r @Q2p (j9 @Q3e @Q7v @List.length_append.{0} @List.length_cons.{0} @List.length_nil.{0} @Q1k @Q4q @Q3d @Q5q))); (repeat' (first | exact zc | (with_reducible first | apply And.intro | apply Q0a | apply Q0b | refine Q0c (by decide +kernel) ?_ | intro _) | refine zaY zz.out ?_ | ((first | ((with_reducible refine zS (Q0n _ _ _ _ _ _ _ _ (by repeat (first | exact Q0j | refine Q0g ?_ (by simp))) (by exact zO) (by exact zN)) ?_); rintro _ S ⟨rfl, τ1, ⟨f1, n1⟩, rfl⟩; have n1s := n1.symm) | ((with_reducible refine zS (Q9j _ _ _ _ _ _ _ (by exact zO) (by exact zN) (by assumption)) ?_); rintro _ S ⟨rfl, τ1, ⟨f1, n1⟩, rfl⟩; have n1s := n1.symm) | (refine Q0d (by exact zK) ?_) | (refine Q0e (by exact zK) ?_)); (try refine zsY zz.out ?_)) | refine zo ?_ | omega | refine ztY zz.out ?_ | fail)); try (all_goals clear zz))
    exact ⟨_, .refl _, τ1, ⟨f1, n1⟩, rfl⟩
  · obtain ⟨f0, n0⟩ := h
    have n0s := n0.symm
    (refine vfun (fun _ => .ro) Q0k Tryz.func45 (by kernel_rfl) ?_; simp only [Q0f, Tryz.f45, zw])
    (have zz := Bx.mk (j6 ui0 ui3 ui4 ui9 ui22 (j9 ui23 ui56 ui57 ui75 X3o Q0q Q0r @Q2p (j9 @Q3e @Q7v @List.length_append.{0} @List.length_cons.{0} @List.length_nil.{0} @Q1k @Q4q @Q3d @Q5q))); (repeat' (first | exact zc | (with_reducible first | apply And.intro | apply Q0a | apply Q0b | refine Q0c (by decide +kernel) ?_ | intro _) | ((with_reducible first | refine .dms (fun x => x = ω) [(0, false), (1, false), (2, false), (3, false), (4, true), (5, true), (6, true), (7, false), (8, true), (9, true), (10, true)] (by decide) (by decide +kernel) ?_ | refine .dm (fun x => x = ω) [(0, false), (1, false), (2, false), (3, false), (4, true), (5, true), (6, true), (7, false), (8, true), (9, true), (10, true)] (by decide) (by decide +kernel) ?_); (refine zsR zz.out ?_)) | refine zaR zz.out ?_ | refine zkK zz.out ?_ | ((first | (refine Q0l (by intro β h; first | (rcases h with h | h <;> subst h <;> (simp (disch := first | assumption | (apply zP; assumption; assumption) | (apply zQ; assumption; assumption; (intro e; cases e; done)) | omega) only [zn, zp, zq, zr, zv])) | (subst h; (simp (disch := first | assumption | (apply zP; assumption; assumption) | (apply zQ; assumption; assumption; (intro e; cases e; done)) | omega) only [zn, zp, zq, zr, zv]))) ?_) | ((with_reducible refine zS (Q0n _ _ _ _ _ _ _ _ (by repeat (first | exact Q0j | refine Q0g ?_ (by simp))) (by exact zO) (by exact zN)) ?_); rintro _ S ⟨rfl, τ1, ⟨f1, n1⟩, rfl⟩; have n1s := n1.symm) | ((with_reducible refine zS (Q9j _ _ _ _ _ _ _ (by exact zO) (by exact zN) (by assumption)) ?_); rintro _ S ⟨rfl, τ1, ⟨f1, n1⟩, rfl⟩; have n1s := n1.symm) | (refine Q0d (by exact zK) ?_) | (refine Q0e (by exact zK) ?_)); (try refine zsR zz.out ?_)) | refine zmR zz.out ?_ | refine zo ?_ | omega | refine ztR zz.out ?_ | fail)); try (all_goals clear zz))
    rename_i τ2 q1 _ q2
    exact ⟨_, Q8k q1 f0, _, ⟨q1, q2⟩, Q6r rfl⟩
end Go.Proofs.YtjdapkelojdefaaGreatDoor
namespace Go.Print
open Go.V Go.Lex Go.Parse Go.Proofs.YtjdapkelojdefaaGreatDoor
def inR (n : Int) : Prop := -9223372036854775808 ≤ n ∧ n ≤ 9223372036854775807
inductive Lim : Ex → Prop
  | mk (k op : Int) (t n : By) (v : Vl) (l : List Ex) (h : l.length ≤ 9223372036854775807) (hr : inR k ∧ inR op ∧ inR v.1 ∧ inR v.2.1) (hl : ∀ e ∈ l, Lim e) : Lim (.mk k op t n v l)
def fewB : Nat → Ex → Bool
  | 0, _ => false
  | d + 1, .mk k op t n v l => decide (l.length ≤ 3 ∧ t.length ≤ 4096 ∧ n.length ≤ 4096 ∧ v.2.2.length ≤ 4096) && l.all (fewB d)
theorem X2t {d : Nat} {k op : Int} {t n : By} {v : Vl} {l : List Ex} (h : fewB (d + 1) (.mk k op t n v l) = true) : l.length ≤ 3 ∧ ∀ e ∈ l, fewB d e = true := by
  unfold fewB at h
  rw [Bool.and_eq_true, decide_eq_true_eq, List.all_eq_true] at h
  exact ⟨h.1.1, h.2⟩
theorem Q7k (b : Bool) (l : List Tk) : l.length ≤ (br b l).length ∧ (br b l).length ≤ l.length + 2 := by
  cases b <;> simp [br] <;> omega
theorem X1d (v : Vl) : 1 ≤ (litT v).length ∧ (litT v).length ≤ 2 := by
  unfold litT numT
  repeat' split
  all_goals simp
theorem X0g (b : Bool) (l : List Tk) {d : Nat} (h : d ≤ l.length) : bd b + d ≤ (br b l).length := by
  cases b <;> simp [br, bd] <;> omega
theorem Q8d : ∀ t : Tr, t.dp ≤ t.tk.length
  | .val v => Nat.zero_le _
  | .col t n => Nat.zero_le _
  | .null e => by
    have := X0g (lo e 5) e.tk (Q8d e)
    rw [X1u, Tr.dp, zx]
    omega
  | .neg e => by
    have := X0g e.pos _ (X0g (lo e 7) e.tk (Q8d e))
    rw [tk_neg, Tr.dp, zy]
    omega
  | .not (.null x) => by
    have := X0g (lo x 5) x.tk (Q8d x)
    rw [Q6a, X0f, zx]
    omega
  | .not (.val v) => by
    have := X0g (lo (.val v) 3) (Tr.val v).tk (Q8d (.val v))
    rw [Q9i rfl, X1v rfl, zy]; omega
  | .not (.col t n) => by
    have := X0g (lo (.col t n) 3) (Tr.col t n).tk (Q8d (.col t n))
    rw [Q9i rfl, X1v rfl, zy]; omega
  | .not (.not x) => by
    have := X0g (lo (.not x) 3) (Tr.not x).tk (Q8d (.not x))
    rw [Q9i rfl, X1v rfl, zy]; omega
  | .not (.neg x) => by
    have := X0g (lo (.neg x) 3) (Tr.neg x).tk (Q8d (.neg x))
    rw [Q9i rfl, X1v rfl, zy]; omega
  | .not (.op k a b) => by
    have := X0g (lo (.op k a b) 3) (Tr.op k a b).tk (Q8d (.op k a b))
    rw [Q9i rfl, X1v rfl, zy]; omega
  | .op k a b => by
    have h1 := X0g (lo a (lftK k)) a.tk (Q8d a)
    have h2 := X0g (lo b (lvK k + 1)) b.tk (Q8d b)
    rw [tk_op, Tr.dp, zx, zy]
    omega
theorem X1w : ∀ (d : Nat) (t : Tr), fewB d t.ex = true → t.tk.length + 8 ≤ 16 * 2 ^ d
  | 0, t, h => by cases h
  | d + 1, .val v, h => by
    have := (X1d v).2
    have : 1 ≤ 2 ^ d := Nat.one_le_two_pow
    rw [Nat.pow_succ]
    show (litT v).length + 8 ≤ _
    omega
  | d + 1, .col t n, h => by
    have : 1 ≤ 2 ^ d := Nat.one_le_two_pow
    rw [Nat.pow_succ, Tr.tk]
    split <;> simp <;> omega
  | d + 1, .null e, h => by
    have ih := X1w d e ((X2t h).2 _ (by simp))
    have := (Q7k (lo e 5) e.tk).2
    rw [Nat.pow_succ, X1u, zx]
    simp only [zy, List.length_nil]
    omega
  | d + 1, .neg e, h => by
    have ih := X1w d e ((X2t h).2 _ (by simp))
    have h1 := (Q7k (lo e 7) e.tk).2
    have h2 := (Q7k e.pos (br (lo e 7) e.tk)).2
    rw [Nat.pow_succ, tk_neg, zy]
    omega
  | d + 1, .op k a b, h => by
    have ha := X1w d a ((X2t h).2 _ (by simp))
    have hb := X1w d b ((X2t h).2 _ (by simp))
    have h1 := (Q7k (lo a (lftK k)) a.tk).2
    have h2 := (Q7k (lo b (lvK k + 1)) b.tk).2
    rw [Nat.pow_succ, tk_op, zx, zy]
    omega
  | d + 1, .not e, h => by
    have hf := (X2t h).2 _ (List.mem_cons_self ..)
    cases he : e.isNull with
    | false =>
      have ih := X1w d e hf
      have h1 := (Q7k (lo e 3) e.tk).2
      rw [Nat.pow_succ, Q9i he, zy]
      omega
    | true =>
      cases e <;> first | (cases he; done) | skip
      rename_i x
      cases d with
      | zero => cases hf
      | succ d =>
        have ih := X1w d x ((X2t hf).2 _ (List.mem_cons_self ..))
        have h1 := (Q7k (lo x 5) x.tk).2
        rw [Nat.pow_succ, Nat.pow_succ, Q6a, zx]
        simp only [zy, List.length_nil]
        omega
end Go.Print
namespace Go.Proofs.YtjdapkelojdefaaGreatDoor
open Go Go.V Go.Lex Go.Parse
end Go.Proofs.YtjdapkelojdefaaGreatDoor
namespace Go.Parse
open Go.V Go.Lex Go.Proofs.YtjdapkelojdefaaGreatDoor
mutual
def exA : Ex → List AV
  | .mk k op t n v args => [.i k, .i op, .s (bs t), .s (bs n), .i v.1, .i v.2.1, .s (bs v.2.2), .sl .any (exsA args)]
def exsA : List Ex → List (List AV)
  | [] => []
  | e :: r => exA e :: exsA r
end
theorem Q4d (k op : Int) (t n : By) (v : Vl) (args : List Ex) : exA (.mk k op t n v args) = [.i k, .i op, .s (bs t), .s (bs n), .i v.1, .i v.2.1, .s (bs v.2.2), .sl .any (exsA args)] := by rw [exA]
theorem Q1h : exsA [] = [] := by rw [exsA]
theorem Q1j (e : Ex) (r : List Ex) : exsA (e :: r) = exA e :: exsA r := by rw [exsA]
theorem Q1a (e : Ex) : (exA e).length = 8 := by cases e; rw [Q4d]; rfl
theorem Q1b (e : Ex) : (exA e).take 8 = exA e := List.take_of_length_le (by rw [Q1a]; omega)
theorem Q2q (e : Ex) : (exA e).drop 8 = [] := List.drop_of_length_le (by rw [Q1a]; omega)
theorem Q3r (e : Ex) : (exA e).all AV.one = true := by cases e; rw [Q4d]; rfl
theorem Q1c : ∀ l : List Ex, (exsA l).length = l.length
  | [] => by rw [Q1h]; rfl
  | e :: r => by rw [Q1j, zy, Q1c r, zy]
def exK (o : Own) : Ex → List AV
  | .mk k op t n v args => [.i k, .i op, .s (bs t), .s (bs n), .i v.1, .i v.2.1, .s (bs v.2.2), .sl o (exsA args)]
theorem exK_mk (o : Own) (k op : Int) (t n : By) (v : Vl) (args : List Ex) : exK o (.mk k op t n v args) = [.i k, .i op, .s (bs t), .s (bs n), .i v.1, .i v.2.1, .s (bs v.2.2), .sl o (exsA args)] := rfl
end Go.Parse
namespace Go.Proofs.YtjdapkelojdefaaGreatDoor
open Go Go.V Go.Lex Go.Parse
theorem opA {e f : Ex} : exsA [e, f] = [exA e, exA f] := by rw [Q1j, Q1j, Q1h]
theorem ofA {e : Ex} : exsA [e] = [exA e] := by rw [Q1j, Q1h]
end Go.Proofs.YtjdapkelojdefaaGreatDoor
namespace Go.Proofs.YtjdapkelojdefaaGreatDoor
open Go Go.V Go.Lex Go.Parse Go.Print
theorem Q8l (v : Vl) : exA (Tr.val v).ex = [.i 1, .i 0, .s (bs []), .s (bs []), .i v.1, .i v.2.1, .s (bs v.2.2), .sl .any []] := by rw [Tr.ex, Q4d, Q1h]
theorem ex_col (t n : By) : exA (Tr.col t n).ex = [.i 2, .i 0, .s (bs t), .s (bs n), .i 0, .i 0, .s (bs []), .sl .any []] := by rw [Tr.ex, Q4d, Q1h]
theorem ex_op (k : Nat) (a b : Tr) : exA (Tr.op k a b).ex = [.i 3, .i k, .s (bs []), .s (bs []), .i 0, .i 0, .s (bs []), .sl .any [exA a.ex, exA b.ex]] := by rw [Tr.ex, Q4d, opA]
theorem ex_not (e : Tr) : exA (Tr.not e).ex = [.i 4, .i 0, .s (bs []), .s (bs []), .i 0, .i 0, .s (bs []), .sl .any [exA e.ex]] := by rw [Tr.ex, Q4d, ofA]
theorem X2u (e : Tr) : exA (Tr.neg e).ex = [.i 5, .i 0, .s (bs []), .s (bs []), .i 0, .i 0, .s (bs []), .sl .any [exA e.ex]] := by rw [Tr.ex, Q4d, ofA]
theorem X0h (e : Tr) : exA (Tr.null e).ex = [.i 6, .i 0, .s (bs []), .s (bs []), .i 0, .i 0, .s (bs []), .sl .any [exA e.ex]] := by rw [Tr.ex, Q4d, ofA]
theorem X0i (e : Ex) : ∃ (op : Int) (t n : By) (v : Vl) (l : List Ex), exA e = [.i e.kd, .i op, .s (bs t), .s (bs n), .i v.1, .i v.2.1, .s (bs v.2.2), .sl .any (exsA l)] := by
  cases e with
  | mk k op t n v l => exact ⟨op, t, n, v, l, Q4d _ _ _ _ _ _⟩
theorem X3s (e : Tr) : e.ex.kd = 6 ↔ e.isNull = true := by
  cases e <;> simp [Tr.ex, Ex.kd, Tr.isNull]
theorem Q4l (t : Tr) (hw : t.wf) (E : List AV) (hE : E = exA t.ex) (σ : Sg) : VCalls Tryz.prog 50 [.agg E] σ (fun x σ' => x = .i t.lvl ∧ σ' = σ) := by
  subst hE
  cases t with
  | val v =>
    rw [Q8l]
    (refine vfun (fun _ => .ro) Q0k Tryz.func50 (by kernel_rfl) ?_; simp only [Q0f, Tryz.f50, zw])
    (have zz := Bx.mk (j9 ui0 ui3 ui4 ui9 ui22 ui23 ui24 ui25 ui26); (repeat' (first | exact zc | (with_reducible first | apply And.intro | apply Q0a | apply Q0b | refine Q0c (by decide +kernel) ?_ | intro _) | refine zaY zz.out ?_ | ((first | (refine Q0d (by exact zK) ?_) | (refine Q0e (by exact zK) ?_)); (try refine zsY zz.out ?_)) | refine zo ?_ | omega | refine ztY zz.out ?_ | fail)); try (all_goals clear zz))
    all_goals exact ⟨_, .refl _, rfl, rfl⟩
  | col t n =>
    rw [ex_col]
    (refine vfun (fun _ => .ro) Q0k Tryz.func50 (by kernel_rfl) ?_; simp only [Q0f, Tryz.f50, zw])
    (have zz := Bx.mk (j9 ui0 ui3 ui4 ui9 ui22 ui23 ui24 ui25 ui26); (repeat' (first | exact zc | (with_reducible first | apply And.intro | apply Q0a | apply Q0b | refine Q0c (by decide +kernel) ?_ | intro _) | refine zaY zz.out ?_ | ((first | (refine Q0d (by exact zK) ?_) | (refine Q0e (by exact zK) ?_)); (try refine zsY zz.out ?_)) | refine zo ?_ | omega | refine ztY zz.out ?_ | fail)); try (all_goals clear zz))
    all_goals exact ⟨_, .refl _, rfl, rfl⟩
  | neg e =>
    rw [X2u]
    (refine vfun (fun _ => .ro) Q0k Tryz.func50 (by kernel_rfl) ?_; simp only [Q0f, Tryz.f50, zw])
    (have zz := Bx.mk (j9 ui0 ui3 ui4 ui9 ui22 ui23 ui24 ui25 ui26); (repeat' (first | exact zc | (with_reducible first | apply And.intro | apply Q0a | apply Q0b | refine Q0c (by decide +kernel) ?_ | intro _) | refine zaY zz.out ?_ | ((first | (refine Q0d (by exact zK) ?_) | (refine Q0e (by exact zK) ?_)); (try refine zsY zz.out ?_)) | refine zo ?_ | omega | refine ztY zz.out ?_ | fail)); try (all_goals clear zz))
    all_goals exact ⟨_, .refl _, rfl, rfl⟩
  | null e =>
    rw [X0h]
    (refine vfun (fun _ => .ro) Q0k Tryz.func50 (by kernel_rfl) ?_; simp only [Q0f, Tryz.f50, zw])
    (have zz := Bx.mk (j9 ui0 ui3 ui4 ui9 ui22 ui23 ui24 ui25 ui26); (repeat' (first | exact zc | (with_reducible first | apply And.intro | apply Q0a | apply Q0b | refine Q0c (by decide +kernel) ?_ | intro _) | refine zaY zz.out ?_ | ((first | (refine Q0d (by exact zK) ?_) | (refine Q0e (by exact zK) ?_)); (try refine zsY zz.out ?_)) | refine zo ?_ | omega | refine ztY zz.out ?_ | fail)); try (all_goals clear zz))
    all_goals exact ⟨_, .refl _, rfl, rfl⟩
  | not e =>
    rw [ex_not]
    have hk := X3s e
    obtain ⟨op, t, n, v, l, h⟩ := X0i e.ex
    rw [h]
    cases he : e.isNull with
    | false =>
      rw [lvl_not he]
      have hk : ¬ e.ex.kd = 6 := fun h => by rw [hk.1 h] at he; cases he
      (refine vfun (fun _ => .ro) Q0k Tryz.func50 (by kernel_rfl) ?_; simp only [Q0f, Tryz.f50, zw])
      (have zz := Bx.mk (j2 ui0 (j9 ui3 ui4 ui9 ui22 ui23 ui24 ui25 ui26 hk)); (repeat' (first | exact zc | (with_reducible first | apply And.intro | apply Q0a | apply Q0b | refine Q0c (by decide +kernel) ?_ | intro _) | refine zaY zz.out ?_ | ((first | (refine Q0d (by exact zK) ?_) | (refine Q0e (by exact zK) ?_)); (try refine zsY zz.out ?_)) | refine zo ?_ | omega | refine ztY zz.out ?_ | fail)); try (all_goals clear zz))
      all_goals exact ⟨_, .refl _, rfl, rfl⟩
    | true =>
      have hl : (Tr.not e).lvl = 4 := by cases e <;> first | (cases he; done) | rfl
      rw [hl, hk.2 he]
      (refine vfun (fun _ => .ro) Q0k Tryz.func50 (by kernel_rfl) ?_; simp only [Q0f, Tryz.f50, zw])
      (have zz := Bx.mk (j9 ui0 ui3 ui4 ui9 ui22 ui23 ui24 ui25 ui26); (repeat' (first | exact zc | (with_reducible first | apply And.intro | apply Q0a | apply Q0b | refine Q0c (by decide +kernel) ?_ | intro _) | refine zaY zz.out ?_ | ((first | (refine Q0d (by exact zK) ?_) | (refine Q0e (by exact zK) ?_)); (try refine zsY zz.out ?_)) | refine zo ?_ | omega | refine ztY zz.out ?_ | fail)); try (all_goals clear zz))
      all_goals exact ⟨_, .refl _, rfl, rfl⟩
  | op k a b =>
    rw [ex_op]
    have hk := hw.1
    (refine vfun (fun _ => .ro) Q0k Tryz.func50 (by kernel_rfl) ?_; simp only [Q0f, Tryz.f50, zw])
    (have zz := Bx.mk (j9 ui0 ui3 ui4 ui9 ui22 ui23 ui24 ui25 ui26); (repeat' (first | exact zc | (with_reducible first | apply And.intro | apply Q0a | apply Q0b | refine Q0c (by decide +kernel) ?_ | intro _) | refine zaY zz.out ?_ | ((first | (refine Q0d (by exact zK) ?_) | (refine Q0e (by exact zK) ?_)); (try refine zsY zz.out ?_)) | refine zo ?_ | omega | refine ztY zz.out ?_ | fail)); try (all_goals clear zz))
    all_goals (refine ⟨_, .refl _, i_eq ?_, rfl⟩; show _ = ((lvK k : Nat) : Int); rcases (by omega : k = 1 ∨ k = 2 ∨ k = 3 ∨ k = 4 ∨ k = 5 ∨ k = 6 ∨ k = 7 ∨ k = 8 ∨ k = 9 ∨ k = 10 ∨ k = 11 ∨ k = 12 ∨ k = 13) with rfl | rfl | rfl | rfl | rfl | rfl | rfl | rfl | rfl | rfl | rfl | rfl | rfl <;> first | rfl | (exfalso; omega))
theorem w_ops (σ : Sg) : VCalls Tryz.prog 51 [] σ (fun x σ' => x = .sl .full (strs ops) ∧ σ' = σ) := by
  (refine vfun (fun _ => .no) Q0k Tryz.func51 (by kernel_rfl) ?_; simp only [Q0f, Tryz.f51, zw])
  (have zz := Bx.mk (j2 ui9 ui75); (repeat' (first | exact zc | (with_reducible first | apply And.intro | apply Q0a | apply Q0b | refine Q0c (by decide +kernel) ?_ | intro _) | refine zaY zz.out ?_ | ((first | (refine Q0d (by exact zK) ?_) | (refine Q0e (by exact zK) ?_)); (try refine zsY zz.out ?_)) | refine zo ?_ | omega | refine ztY zz.out ?_ | fail)); try (all_goals clear zz))
  all_goals exact ⟨_, .refl _, rfl, rfl⟩
theorem Q3v (s : By) (σ : Sg) : VCalls Tryz.prog 74 [.s (bs s)] σ (fun x σ' => x = .agg [.i 2, .s (bs s), .i 0, .i 0] ∧ σ' = σ) := by
  (refine vfun (fun _ => .no) Q0k Tryz.func74 (by kernel_rfl) ?_; simp only [Q0f, Tryz.f74, zw])
  (have zz := Bx.mk (j5 ui0 ui3 ui9 Q0q Q0r); (repeat' (first | exact zc | (with_reducible first | apply And.intro | apply Q0a | apply Q0b | refine Q0c (by decide +kernel) ?_ | intro _) | refine zaY zz.out ?_ | ((first | (refine Q0d (by exact zK) ?_) | (refine Q0e (by exact zK) ?_)); (try refine zsY zz.out ?_)) | refine zo ?_ | omega | refine ztY zz.out ?_ | fail)); try (all_goals clear zz))
  all_goals exact ⟨σ, by (exact zu), rfl⟩
theorem Q3m (s : By) (σ : Sg) : VCalls Tryz.prog 75 [.s (bs s)] σ (fun x σ' => x = .agg [.i 5, .s (bs s), .i 0, .i 0] ∧ σ' = σ) := by
  (refine vfun (fun _ => .no) Q0k Tryz.func75 (by kernel_rfl) ?_; simp only [Q0f, Tryz.f75, zw])
  (have zz := Bx.mk (j5 ui0 ui3 ui9 Q0q Q0r); (repeat' (first | exact zc | (with_reducible first | apply And.intro | apply Q0a | apply Q0b | refine Q0c (by decide +kernel) ?_ | intro _) | refine zaY zz.out ?_ | ((first | (refine Q0d (by exact zK) ?_) | (refine Q0e (by exact zK) ?_)); (try refine zsY zz.out ?_)) | refine zo ?_ | omega | refine ztY zz.out ?_ | fail)); try (all_goals clear zz))
  all_goals exact ⟨σ, by (exact zu), rfl⟩
theorem Q6x (s : By) (σ : Sg) : VCalls Tryz.prog 110 [.s (bs s)] σ (fun x σ' => x = .agg [.i 1, .s (bs s), .i 0, .i 0] ∧ σ' = σ) := by
  (refine vfun (fun _ => .no) Q0k Tryz.func110 (by kernel_rfl) ?_; simp only [Q0f, Tryz.f110, zw])
  (have zz := Bx.mk (j5 ui0 ui3 ui9 Q0q Q0r); (repeat' (first | exact zc | (with_reducible first | apply And.intro | apply Q0a | apply Q0b | refine Q0c (by decide +kernel) ?_ | intro _) | refine zaY zz.out ?_ | ((first | (refine Q0d (by exact zK) ?_) | (refine Q0e (by exact zK) ?_)); (try refine zsY zz.out ?_)) | refine zo ?_ | omega | refine ztY zz.out ?_ | fail)); try (all_goals clear zz))
  all_goals exact ⟨σ, by (exact zu), rfl⟩
def NewT (σ : Sg) (l : List Tk) (x : AV) (σ' : Sg) : Prop := ∃ τ, σ τ = none ∧ x = .sl (.tok τ 4) (tksA l) ∧ σ' = σ.set τ (.tok (some 102))
theorem iT_A' {n : Int} (h : 0 ≤ n) : [AV.i 3, .s (bs []), .i n, .i 0] = tkA (iT n) := by
  have : ((n.toNat : Nat) : Int) = n := by omega
  show _ = [AV.i 3, .s (bs []), .i ((n.toNat : Nat) : Int), .i 0]
  rw [this]
theorem d_literal (v : Vl) (hn : inR' v.2.1) (hk : v.1 = 0 ∨ (v.1 = 1 ∧ v.2.2 = []) ∨ v.1 = 2) (σ : Sg) : VCalls Tryz.prog 79 [.agg [.i v.1, .i v.2.1, .s (bs v.2.2)]] σ (NewT σ (litT v)) := by
  unfold inR' at hn
  unfold NewT litT numT
  obtain ⟨k, n, t⟩ := v
  simp only at hn hk ⊢
  rcases hk with rfl | ⟨rfl, rfl⟩ | rfl
  · (refine vfun (fun k => if k = 1 then .ro else .obj) Q0k Tryz.func79 (by kernel_rfl) ?_; simp only [Q0f, Tryz.f79, zw])
    (have zz := Bx.mk (j9 ui0 ui3 ui4 ui9 ui22 ui23 ui56 Q0q Q0r); (repeat' (first | exact zc | (with_reducible first | apply And.intro | apply Q0a | apply Q0b | refine Q0c (by decide +kernel) ?_ | intro _) | ((with_reducible first | refine .dms (fun x => False) [(0, false), (1, true), (2, true), (3, true), (4, false), (5, true), (6, true)] (by decide) (by decide +kernel) ?_ | refine .dm (fun x => False) [(0, false), (1, true), (2, true), (3, true), (4, false), (5, true), (6, true)] (by decide) (by decide +kernel) ?_); (refine zsR zz.out ?_)) | refine zaR zz.out ?_ | refine zkN zz.out ?_ | ((first | (refine Q0l (by intro β h; first | (rcases h with h | h <;> subst h <;> (simp (disch := first | assumption | (apply zP; assumption; assumption) | (apply zQ; assumption; assumption; (intro e; cases e; done)) | omega) only [zn, zp, zq, zr, zv])) | (subst h; (simp (disch := first | assumption | (apply zP; assumption; assumption) | (apply zQ; assumption; assumption; (intro e; cases e; done)) | omega) only [zn, zp, zq, zr, zv]))) ?_) | (with_reducible refine uc (Q3v _ _) ?_) | (with_reducible refine uc (Q3m _ _) ?_) | (refine Q0d (by exact zK) ?_) | (refine Q0e (by exact zK) ?_)); (try refine zsR zz.out ?_)) | refine zmR zz.out ?_ | refine zo ?_ | omega | refine ztR zz.out ?_ | fail)); try (all_goals clear zz))
    all_goals (refine ⟨_, ?_, _, ‹_ = none›, ?_, rfl⟩ <;> first | (first | exact Sg.sub.refl _ | ((repeat (first | exact Sg.sub.refl _ | refine Sg.sub.set_both ?_ | refine Sg.sub.set_fresh ?_ (by first | assumption | exact Sg.set_none (by assumption) (by first | assumption | (apply Go.Cert.ne_of2a; assumption; assumption))))); done) | (intro y p hy; simp only [Sg.set_apply, Sg.del_apply] at hy ⊢; grind)) | (with_unfolding_all rfl) | (simp only [*, ↓reduceIte, Int.reduceEq]; simp only [tksA, List.map_cons, List.map_nil]; congr 2; first | rfl | ((try simp only [Int.zero_sub]); first | rfl | (rw [← iT_A' (by omega)]; done))))
  · (refine vfun (fun k => if k = 1 then .ro else .obj) Q0k Tryz.func79 (by kernel_rfl) ?_; simp only [Q0f, Tryz.f79, zw])
    (have zz := Bx.mk (j9 ui0 ui3 ui4 ui9 ui22 ui23 ui56 Q0q Q0r); (repeat' (first | exact zc | (with_reducible first | apply And.intro | apply Q0a | apply Q0b | refine Q0c (by decide +kernel) ?_ | intro _) | ((with_reducible first | refine .dms (fun x => False) [(0, false), (1, true), (2, true), (3, true), (4, false), (5, true), (6, true)] (by decide) (by decide +kernel) ?_ | refine .dm (fun x => False) [(0, false), (1, true), (2, true), (3, true), (4, false), (5, true), (6, true)] (by decide) (by decide +kernel) ?_); (refine zsR zz.out ?_)) | refine zaR zz.out ?_ | refine zkN zz.out ?_ | ((first | (refine Q0l (by intro β h; first | (rcases h with h | h <;> subst h <;> (simp (disch := first | assumption | (apply zP; assumption; assumption) | (apply zQ; assumption; assumption; (intro e; cases e; done)) | omega) only [zn, zp, zq, zr, zv])) | (subst h; (simp (disch := first | assumption | (apply zP; assumption; assumption) | (apply zQ; assumption; assumption; (intro e; cases e; done)) | omega) only [zn, zp, zq, zr, zv]))) ?_) | (with_reducible refine uc (Q3v _ _) ?_) | (with_reducible refine uc (Q3m _ _) ?_) | (refine Q0d (by exact zK) ?_) | (refine Q0e (by exact zK) ?_)); (try refine zsR zz.out ?_)) | refine zmR zz.out ?_ | refine zo ?_ | omega | refine ztR zz.out ?_ | fail)); try (all_goals clear zz))
    all_goals (refine ⟨_, ?_, _, ‹_ = none›, ?_, rfl⟩ <;> first | (first | exact Sg.sub.refl _ | ((repeat (first | exact Sg.sub.refl _ | refine Sg.sub.set_both ?_ | refine Sg.sub.set_fresh ?_ (by first | assumption | exact Sg.set_none (by assumption) (by first | assumption | (apply Go.Cert.ne_of2a; assumption; assumption))))); done) | (intro y p hy; simp only [Sg.set_apply, Sg.del_apply] at hy ⊢; grind)) | (with_unfolding_all rfl) | (simp only [*, ↓reduceIte, Int.reduceEq]; simp only [tksA, List.map_cons, List.map_nil]; congr 2; first | rfl | ((try simp only [Int.zero_sub]); first | rfl | (rw [← iT_A' (by omega)]; done))))
  · (refine vfun (fun k => if k = 1 then .ro else .obj) Q0k Tryz.func79 (by kernel_rfl) ?_; simp only [Q0f, Tryz.f79, zw])
    (have zz := Bx.mk (j9 ui0 ui3 ui4 ui9 ui22 ui23 ui56 Q0q Q0r); (repeat' (first | exact zc | (with_reducible first | apply And.intro | apply Q0a | apply Q0b | refine Q0c (by decide +kernel) ?_ | intro _) | ((with_reducible first | refine .dms (fun x => False) [(0, false), (1, true), (2, true), (3, true), (4, false), (5, true), (6, true)] (by decide) (by decide +kernel) ?_ | refine .dm (fun x => False) [(0, false), (1, true), (2, true), (3, true), (4, false), (5, true), (6, true)] (by decide) (by decide +kernel) ?_); (refine zsR zz.out ?_)) | refine zaR zz.out ?_ | refine zkN zz.out ?_ | ((first | (refine Q0l (by intro β h; first | (rcases h with h | h <;> subst h <;> (simp (disch := first | assumption | (apply zP; assumption; assumption) | (apply zQ; assumption; assumption; (intro e; cases e; done)) | omega) only [zn, zp, zq, zr, zv])) | (subst h; (simp (disch := first | assumption | (apply zP; assumption; assumption) | (apply zQ; assumption; assumption; (intro e; cases e; done)) | omega) only [zn, zp, zq, zr, zv]))) ?_) | (with_reducible refine uc (Q3v _ _) ?_) | (with_reducible refine uc (Q3m _ _) ?_) | (refine Q0d (by exact zK) ?_) | (refine Q0e (by exact zK) ?_)); (try refine zsR zz.out ?_)) | refine zmR zz.out ?_ | refine zo ?_ | omega | refine ztR zz.out ?_ | fail)); try (all_goals clear zz))
    all_goals (refine ⟨_, ?_, _, ‹_ = none›, ?_, rfl⟩ <;> first | (first | exact Sg.sub.refl _ | ((repeat (first | exact Sg.sub.refl _ | refine Sg.sub.set_both ?_ | refine Sg.sub.set_fresh ?_ (by first | assumption | exact Sg.set_none (by assumption) (by first | assumption | (apply Go.Cert.ne_of2a; assumption; assumption))))); done) | (intro y p hy; simp only [Sg.set_apply, Sg.del_apply] at hy ⊢; grind)) | (with_unfolding_all rfl) | (simp only [*, ↓reduceIte, Int.reduceEq]; simp only [tksA, List.map_cons, List.map_nil]; congr 2; first | rfl | ((try simp only [Int.zero_sub]); first | rfl | (rw [← iT_A' (by omega)]; done))))
theorem Q3k (t : Tr) (hw : t.wf) (E : List AV) (hE : E = exA t.ex) (σ : Sg) : VCalls Tryz.prog 112 [.agg E] σ (fun x σ' => x = .i t.lvl ∧ σ' = σ) := by
  subst hE
  cases t with
  | val v =>
    rw [Q8l]
    (refine vfun (fun _ => .ro) Q0k Tryz.func112 (by kernel_rfl) ?_; simp only [Q0f, Tryz.f112, zw])
    (have zz := Bx.mk (j9 ui0 ui3 ui4 ui9 ui22 ui23 ui24 ui25 ui26); (repeat' (first | exact zc | (with_reducible first | apply And.intro | apply Q0a | apply Q0b | refine Q0c (by decide +kernel) ?_ | intro _) | refine zaY zz.out ?_ | ((first | (refine Q0d (by exact zK) ?_) | (refine Q0e (by exact zK) ?_)); (try refine zsY zz.out ?_)) | refine zo ?_ | omega | refine ztY zz.out ?_ | fail)); try (all_goals clear zz))
    all_goals exact ⟨_, .refl _, rfl, rfl⟩
  | col t n =>
    rw [ex_col]
    (refine vfun (fun _ => .ro) Q0k Tryz.func112 (by kernel_rfl) ?_; simp only [Q0f, Tryz.f112, zw])
    (have zz := Bx.mk (j9 ui0 ui3 ui4 ui9 ui22 ui23 ui24 ui25 ui26); (repeat' (first | exact zc | (with_reducible first | apply And.intro | apply Q0a | apply Q0b | refine Q0c (by decide +kernel) ?_ | intro _) | refine zaY zz.out ?_ | ((first | (refine Q0d (by exact zK) ?_) | (refine Q0e (by exact zK) ?_)); (try refine zsY zz.out ?_)) | refine zo ?_ | omega | refine ztY zz.out ?_ | fail)); try (all_goals clear zz))
    all_goals exact ⟨_, .refl _, rfl, rfl⟩
  | neg e =>
    rw [X2u]
    (refine vfun (fun _ => .ro) Q0k Tryz.func112 (by kernel_rfl) ?_; simp only [Q0f, Tryz.f112, zw])
    (have zz := Bx.mk (j9 ui0 ui3 ui4 ui9 ui22 ui23 ui24 ui25 ui26); (repeat' (first | exact zc | (with_reducible first | apply And.intro | apply Q0a | apply Q0b | refine Q0c (by decide +kernel) ?_ | intro _) | refine zaY zz.out ?_ | ((first | (refine Q0d (by exact zK) ?_) | (refine Q0e (by exact zK) ?_)); (try refine zsY zz.out ?_)) | refine zo ?_ | omega | refine ztY zz.out ?_ | fail)); try (all_goals clear zz))
    all_goals exact ⟨_, .refl _, rfl, rfl⟩
  | null e =>
    rw [X0h]
    (refine vfun (fun _ => .ro) Q0k Tryz.func112 (by kernel_rfl) ?_; simp only [Q0f, Tryz.f112, zw])
    (have zz := Bx.mk (j9 ui0 ui3 ui4 ui9 ui22 ui23 ui24 ui25 ui26); (repeat' (first | exact zc | (with_reducible first | apply And.intro | apply Q0a | apply Q0b | refine Q0c (by decide +kernel) ?_ | intro _) | refine zaY zz.out ?_ | ((first | (refine Q0d (by exact zK) ?_) | (refine Q0e (by exact zK) ?_)); (try refine zsY zz.out ?_)) | refine zo ?_ | omega | refine ztY zz.out ?_ | fail)); try (all_goals clear zz))
    all_goals exact ⟨_, .refl _, rfl, rfl⟩
  | not e =>
    rw [ex_not]
    have hk := X3s e
    obtain ⟨op, t, n, v, l, h⟩ := X0i e.ex
    rw [h]
    cases he : e.isNull with
    | false =>
      rw [lvl_not he]
      have hk : ¬ e.ex.kd = 6 := fun h => by rw [hk.1 h] at he; cases he
      (refine vfun (fun _ => .ro) Q0k Tryz.func112 (by kernel_rfl) ?_; simp only [Q0f, Tryz.f112, zw])
      (have zz := Bx.mk (j2 ui0 (j9 ui3 ui4 ui9 ui22 ui23 ui24 ui25 ui26 hk)); (repeat' (first | exact zc | (with_reducible first | apply And.intro | apply Q0a | apply Q0b | refine Q0c (by decide +kernel) ?_ | intro _) | refine zaY zz.out ?_ | ((first | (refine Q0d (by exact zK) ?_) | (refine Q0e (by exact zK) ?_)); (try refine zsY zz.out ?_)) | refine zo ?_ | omega | refine ztY zz.out ?_ | fail)); try (all_goals clear zz))
      all_goals exact ⟨_, .refl _, rfl, rfl⟩
    | true =>
      have hl : (Tr.not e).lvl = 4 := by cases e <;> first | (cases he; done) | rfl
      rw [hl, hk.2 he]
      (refine vfun (fun _ => .ro) Q0k Tryz.func112 (by kernel_rfl) ?_; simp only [Q0f, Tryz.f112, zw])
      (have zz := Bx.mk (j9 ui0 ui3 ui4 ui9 ui22 ui23 ui24 ui25 ui26); (repeat' (first | exact zc | (with_reducible first | apply And.intro | apply Q0a | apply Q0b | refine Q0c (by decide +kernel) ?_ | intro _) | refine zaY zz.out ?_ | ((first | (refine Q0d (by exact zK) ?_) | (refine Q0e (by exact zK) ?_)); (try refine zsY zz.out ?_)) | refine zo ?_ | omega | refine ztY zz.out ?_ | fail)); try (all_goals clear zz))
      all_goals exact ⟨_, .refl _, rfl, rfl⟩
  | op k a b =>
    rw [ex_op]
    have hk := hw.1
    (refine vfun (fun _ => .ro) Q0k Tryz.func112 (by kernel_rfl) ?_; simp only [Q0f, Tryz.f112, zw])
    (have zz := Bx.mk (j9 ui0 ui3 ui4 ui9 ui22 ui23 ui24 ui25 ui26); (repeat' (first | exact zc | (with_reducible first | apply And.intro | apply Q0a | apply Q0b | refine Q0c (by decide +kernel) ?_ | intro _) | refine zaY zz.out ?_ | ((first | (refine Q0d (by exact zK) ?_) | (refine Q0e (by exact zK) ?_)); (try refine zsY zz.out ?_)) | refine zo ?_ | omega | refine ztY zz.out ?_ | fail)); try (all_goals clear zz))
    all_goals (refine ⟨_, .refl _, i_eq ?_, rfl⟩; show _ = ((lvK k : Nat) : Int); rcases (by omega : k = 1 ∨ k = 2 ∨ k = 3 ∨ k = 4 ∨ k = 5 ∨ k = 6 ∨ k = 7 ∨ k = 8 ∨ k = 9 ∨ k = 10 ∨ k = 11 ∨ k = 12 ∨ k = 13) with rfl | rfl | rfl | rfl | rfl | rfl | rfl | rfl | rfl | rfl | rfl | rfl | rfl <;> first | rfl | (exfalso; omega))
theorem ops_get' (k : Nat) (h : k < 14) : (strs ops).getD k [] = [.s (bs (ops.getD k []))] := Q7u h
theorem ops_len' : (strs ops).length = 14 := rfl
theorem strs_fold : [[AV.val (Value.string (bs []))], [AV.val (Value.string (bs [79, 82]))], [AV.val (Value.string (bs [65, 78, 68]))], [AV.val (Value.string (bs [61]))], [AV.val (Value.string (bs [60, 62]))], [AV.val (Value.string (bs [60]))], [AV.val (Value.string (bs [60, 61]))], [AV.val (Value.string (bs [62]))], [AV.val (Value.string (bs [62, 61]))], [AV.val (Value.string (bs [43]))], [AV.val (Value.string (bs [45]))], [AV.val (Value.string (bs [42]))], [AV.val (Value.string (bs [47]))], [AV.val (Value.string (bs [37]))]] = strs ops := rfl
theorem op_kind : ∀ k, k < 14 → 1 ≤ k → wd (ops.getD k []) = if k ≤ 2 then wT (ops.getD k []) else sT (ops.getD k []) := by decide +kernel
theorem d_op (k : Nat) (h1 : 1 ≤ k) (h2 : k ≤ 13) (σ : Sg) : VCalls Tryz.prog 113 [.i k] σ (fun x σ' => x = .agg (tkA (wd (ops.getD k []))) ∧ σ' = σ) := by
  have hg := ops_get' k (by omega)
  have hk := op_kind k (by omega) h1
  generalize ops.getD k [] = W at *
  rw [hk]
  (refine vfun (fun _ => .no) Q0k Tryz.func113 (by kernel_rfl) ?_; simp only [Q0f, Tryz.f113, zw])
  (have zz := Bx.mk (j2 ui0 (j9 ui3 ui4 ui9 ui75 Q0q Q0r @strs_fold @ops_len' hg)); (repeat' (first | exact zc | (with_reducible first | apply And.intro | apply Q0a | apply Q0b | refine Q0c (by decide +kernel) ?_ | intro _) | refine zaY zz.out ?_ | ((first | (with_reducible refine uc (Q3v _ _) ?_) | (with_reducible refine uc (Q3m _ _) ?_) | (refine Q0d (by exact zK) ?_) | (refine Q0e (by exact zK) ?_)); (try refine zsY zz.out ?_)) | refine zo ?_ | omega | refine ztY zz.out ?_ | fail)); try (all_goals clear zz))
  · exact ⟨σ, by (exact zu), by rw [if_pos (by omega)]; rfl, rfl⟩
  · exact ⟨σ, by (exact zu), by rw [if_neg (by omega)]; rfl, rfl⟩
def NewD (σ : Sg) (l : List Tk) (d : Nat) (x : AV) (σ' : Sg) : Prop := ∃ τ, σ τ = none ∧ x = .tup [.sl (.tok τ 4) (tksA l), .i d] ∧ σ' = σ.set τ (.tok (some 102))
theorem tupT {τ : Nat} {A B : List (List AV)} {d d' : Int} (h1 : A = B) (h2 : d = d') : AV.tup [.sl (.tok τ 4) A, .i d] = AV.tup [.sl (.tok τ 4) B, .i d'] := by rw [h1, h2]
def Dx (t : Tr) : Prop := t.tk.length ≤ 2 ^ 36 → ∀ σ, VCalls Tryz.prog 56 [.agg (exA t.ex)] σ (NewD σ t.tk t.dp)
theorem d_at (t : Tr) (hw : t.wf) (hC : Dx t) (k : Nat) (hk : k ≤ 7) (hl : (br (lo t k) t.tk).length ≤ 2 ^ 36) (σ : Sg) : VCalls Tryz.prog 111 [.agg (exA t.ex), .i k] σ (NewD σ (br (lo t k) t.tk) (bd (lo t k) + t.dp)) := by
  have hbl := (Q7k (lo t k) t.tk).1
  have hdp := Q8d t
  have hC := hC (by omega)
  have hlv := Q3k t hw _ rfl
  have hl7 : t.lvl ≤ 7 := by
    cases t with
    | op k a b => show lvK k ≤ 7; unfold lvK; (repeat' split) <;> omega
    | not e => cases e <;> exact Nat.le_of_ble_eq_true rfl
    | _ => exact Nat.le_of_ble_eq_true rfl
  have hlen : t.tk.length ≤ 2 ^ 36 := by omega
  unfold NewD at hC ⊢
  unfold lo at hl ⊢
  clear hw hbl
  by_cases hc : t.lvl < k
  · rw [decide_eq_true hc]
    generalize t.lvl = L at *
    (refine vfun (fun k => if k = 2 then .ro else .obj) Q0k Tryz.func111 (by kernel_rfl) ?_; simp only [Q0f, Tryz.f111, zw])
    (have zz := Bx.mk (j5 ui0 ui3 ui4 ui9 (j9 ui22 ui23 ui24 ui25 ui26 ui56 ui94 Q0q (j9 Q0r @Q1a @Q1b @Q2q @Q3r @Q1h @Q1j @Q1c WLg))); (repeat' (first | exact zc | (with_reducible first | apply And.intro | apply Q0a | apply Q0b | refine Q0c (by decide +kernel) ?_ | intro _) | refine zaY zz.out ?_ | ((first | (with_reducible refine uc (hlv _) ?_) | ((with_reducible refine zS (hC _) ?_); rintro _ S ⟨τ1, f1, rfl, rfl⟩) | (with_reducible refine uc (Q3m _ _) ?_) | (with_reducible refine uc (Q3k _ (by assumption) _ (by first | assumption | rfl) _) ?_) | (refine Q0d (by exact zK) ?_) | (refine Q0e (by exact zK) ?_)); (try refine zsY zz.out ?_)) | refine zo ?_ | omega | refine ztY zz.out ?_ | fail)); try (all_goals clear zz))
    all_goals first | (exfalso; omega) | (refine ⟨_, ?_, _, ?_, tupT ?_ ?_, rfl⟩; rotate_left 2; (first | (with_unfolding_all rfl) | (simp only [tksA, br, List.map_append, List.map_cons, List.map_nil, zC, zF, zG, Bool.false_eq_true, ↓reduceIte]; first | rfl | (with_unfolding_all rfl))); (first | rfl | omega | (simp only [bd, ↓reduceIte, Bool.false_eq_true]; omega)); all_goals (first | ((first | exact Sg.sub.refl _ | ((repeat (first | exact Sg.sub.refl _ | refine Sg.sub.set_both ?_ | refine Sg.sub.set_fresh ?_ (by first | assumption | exact Sg.set_none (by assumption) (by first | assumption | (apply Go.Cert.ne_of2a; assumption; assumption))))); done) | (intro y p hy; simp only [Sg.set_apply, Sg.del_apply] at hy ⊢; grind))) | ((try simp only [Sg.set_apply, Sg.del_apply] at *); (try intro y p hy); (try simp only [Sg.set_apply, Sg.del_apply] at *); grind (splits := 40))))
  · rw [decide_eq_false hc]
    generalize t.lvl = L at *
    (refine vfun (fun k => if k = 2 then .ro else .obj) Q0k Tryz.func111 (by kernel_rfl) ?_; simp only [Q0f, Tryz.f111, zw])
    (have zz := Bx.mk (j5 ui0 ui3 ui4 ui9 (j9 ui22 ui23 ui24 ui25 ui26 ui56 ui94 Q0q (j9 Q0r @Q1a @Q1b @Q2q @Q3r @Q1h @Q1j @Q1c WLg))); (repeat' (first | exact zc | (with_reducible first | apply And.intro | apply Q0a | apply Q0b | refine Q0c (by decide +kernel) ?_ | intro _) | refine zaY zz.out ?_ | ((first | (with_reducible refine uc (hlv _) ?_) | ((with_reducible refine zS (hC _) ?_); rintro _ S ⟨τ1, f1, rfl, rfl⟩) | (with_reducible refine uc (Q3m _ _) ?_) | (with_reducible refine uc (Q3k _ (by assumption) _ (by first | assumption | rfl) _) ?_) | (refine Q0d (by exact zK) ?_) | (refine Q0e (by exact zK) ?_)); (try refine zsY zz.out ?_)) | refine zo ?_ | omega | refine ztY zz.out ?_ | fail)); try (all_goals clear zz))
    all_goals first | (exfalso; omega) | (refine ⟨_, ?_, _, ?_, tupT ?_ ?_, rfl⟩; rotate_left 2; (first | (with_unfolding_all rfl) | (simp only [tksA, br, List.map_append, List.map_cons, List.map_nil, zC, zF, zG, Bool.false_eq_true, ↓reduceIte]; first | rfl | (with_unfolding_all rfl))); (first | rfl | omega | (simp only [bd, ↓reduceIte, Bool.false_eq_true]; omega)); all_goals (first | ((first | exact Sg.sub.refl _ | ((repeat (first | exact Sg.sub.refl _ | refine Sg.sub.set_both ?_ | refine Sg.sub.set_fresh ?_ (by first | assumption | exact Sg.set_none (by assumption) (by first | assumption | (apply Go.Cert.ne_of2a; assumption; assumption))))); done) | (intro y p hy; simp only [Sg.set_apply, Sg.del_apply] at hy ⊢; grind))) | ((try simp only [Sg.set_apply, Sg.del_apply] at *); (try intro y p hy); (try simp only [Sg.set_apply, Sg.del_apply] at *); grind (splits := 40))))
end Go.Proofs.YtjdapkelojdefaaGreatDoor
namespace Go.V
open Go.RowKit
variable {P : Program}
theorem VCalls.fr {f : FuncId} {args : List AV} {σ : Sg} {R' : AV → Sg → Prop} {X : Nat → AV} {S : Nat → Sg} (hc : VCalls P f args σ (fun x σ' => ∃ τ, σ τ = none ∧ x = X τ ∧ σ' = S τ)) (h : Q1x σ fun τ => R' (X τ) (S τ)) : VCalls P f args σ R' :=
  hc.mono (fun x σ' hx => by
    obtain ⟨τ, h0, rfl, rfl⟩ := hx
    exact h τ h0)
theorem Q1t (a b : List (List AV)) (n : Nat) : Q3l (a ++ b) n = (Q3l a n ∧ Q3l b n) := propext ⟨fun h => ⟨fun e he => h e (List.mem_append_left _ he), fun e he => h e (List.mem_append_right _ he)⟩, fun h e he => (List.mem_append.1 he).elim (h.1 e) (h.2 e)⟩
theorem Q1u (a b : List (List AV)) (n : Nat) : Q1i (a ++ b) n = (Q1i a n ∧ Q1i b n) := propext ⟨fun h => ⟨fun e he => h e (List.mem_append_left _ he), fun e he => h e (List.mem_append_right _ he)⟩, fun h e he => (List.mem_append.1 he).elim (h.1 e) (h.2 e)⟩
theorem Q1n (x : List AV) (b : List (List AV)) (n : Nat) : Q3l (x :: b) n = ((x.length = n ∧ (x.all AV.one) = true) ∧ Q3l b n) := propext ⟨fun h => ⟨h x (List.mem_cons_self ..), fun e he => h e (List.mem_cons_of_mem _ he)⟩, fun h e he => (List.mem_cons.1 he).elim (fun hh => hh ▸ h.1) (h.2 e)⟩
theorem Q1o (x : List AV) (b : List (List AV)) (n : Nat) : Q1i (x :: b) n = (x.length = n ∧ Q1i b n) := propext ⟨fun h => ⟨h x (List.mem_cons_self ..), fun e he => h e (List.mem_cons_of_mem _ he)⟩, fun h e he => (List.mem_cons.1 he).elim (fun hh => hh ▸ h.1) (h.2 e)⟩
theorem Q1v (n : Nat) : Q3l [] n = True := eq_true (fun e he => by cases he)
theorem Q1w (n : Nat) : Q1i [] n = True := eq_true (fun e he => by cases he)
end Go.V
namespace Go.Print
open Go.V Go.Lex Go.Parse Go.Proofs.YtjdapkelojdefaaGreatDoor
def RL (L : Nat) (D : Dp) : Pr := match L with | 1 => exL D | 2 => andL D | 3 => notL D | 4 => testL D | 5 => sumL D | 6 => termL D | _ => facL D
theorem lvK_le (k : Nat) (h : 1 ≤ k) : 1 ≤ lvK k ∧ lvK k ≤ 6 ∧ lvK k ≠ 3 := by
  unfold lvK
  repeat' split
  all_goals omega
def Tr.rg : Tr → Prop
  | .val v => inR v.2.1
  | .col _ _ => True
  | .op _ a b => a.rg ∧ b.rg
  | .not e => e.rg
  | .neg e => e.rg
  | .null e => e.rg
theorem X1x {v : Vl} (h : okV v = true) : v = v0 ∨ (v.1 = 1 ∧ v.2.2 = [] ∧ v.2.1 ≠ -9223372036854775808) ∨ (v.1 = 2 ∧ v.2.1 = 0 ∧ v.2.2.length ≤ 40) := by
  obtain ⟨k, n, t⟩ := v
  unfold okV X0x at h
  simp only [Bool.and_eq_true, decide_eq_true_eq] at h
  obtain ⟨h, hm⟩ := h
  split at h
  · cases h
  · rename_i hn
    split at h
    · cases h
    · rename_i hl
      have hb : X1s k n t = (n, t) := Classical.byContradiction fun hb => hn (.inr (.inr hb))
      have hk : k = 0 ∨ k = 1 ∨ k = 2 := by omega
      rcases hk with rfl | rfl | rfl
      · simp only [X1s, if_true, Prod.mk.injEq] at hb
        left; rw [← hb.1, ← hb.2]
      · simp only [X1s, Int.reduceEq, if_false, if_true, Prod.mk.injEq, true_and] at hb
        exact .inr (.inl ⟨rfl, hb.symm, hm⟩)
      · simp only [X1s, Int.reduceEq, if_false, if_true, Prod.mk.injEq, and_true] at hb
        exact .inr (.inr ⟨rfl, hb.symm, by simp only; omega⟩)
end Go.Print
namespace Go.Proofs.YtjdapkelojdefaaGreatDoor
open Go Go.V Go.Lex Go.Parse Go.Print
theorem rgV2 {v : Vl} (h1 : okV v = true) (h2 : inR v.2.1) : inR' v.2.1 ∧ (v.1 = 0 ∨ (v.1 = 1 ∧ v.2.2 = []) ∨ v.1 = 2) := by
  unfold inR at h2
  unfold inR'
  rcases X1x h1 with rfl | ⟨q1, q2, q3⟩ | ⟨q1, q2, q3⟩
  · exact ⟨⟨by decide, by decide⟩, .inl rfl⟩
  · exact ⟨by omega, .inr (.inl ⟨q1, q2⟩)⟩
  · exact ⟨by omega, .inr (.inr q1)⟩
theorem dx_val (v : Vl) (hw : (Tr.val v).wf) (hg : (Tr.val v).rg) : Dx (.val v) := by
  intro hlen σ
  obtain ⟨q1, q2⟩ := rgV2 hw hg
  have hL := d_literal v q1 q2
  rw [Q8l]
  have e1 : (Tr.val v).tk = litT v := rfl
  have e2 : (Tr.val v).dp = 0 := rfl
  rw [e1, e2]
  unfold NewT at hL
  unfold NewD
  generalize v.1 = v1 at *
  generalize v.2.1 = v2 at *
  generalize v.2.2 = v3 at *
  (refine vfun (fun k => if k = 1 then .ro else .obj) Q0k Tryz.func56 (by kernel_rfl) ?_; simp only [Q0f, Tryz.f56, zw])
  (have zz := Bx.mk (j4 ui0 ui3 ui4 (j9 ui9 ui22 ui23 ui24 ui25 ui26 ui56 ui94 (j9 Q0q Q0r @Q1t @Q1u @Q1n @Q1o @Q1v @Q1w WLg))); (repeat' (first | exact zc | (with_reducible first | apply And.intro | apply Q0a | apply Q0b | refine Q0c (by decide +kernel) ?_ | intro _) | refine zaY zz.out ?_ | ((first | ((with_reducible refine VCalls.fr (hL _) ?_)) | (with_reducible refine uc (Q3v _ _) ?_) | (with_reducible refine uc (Q3m _ _) ?_) | (with_reducible refine uc (Q6x _ _) ?_) | (with_reducible refine uc (Q3k _ (by assumption) _ (by first | assumption | rfl) _) ?_) | (with_reducible refine uc (d_op _ (by assumption) (by assumption) _) ?_) | (refine Q0d (by exact zK) ?_) | (refine Q0e (by exact zK) ?_)); (try refine zsY zz.out ?_)) | refine zo ?_ | omega | refine ztY zz.out ?_ | fail)); try (all_goals clear zz))
  all_goals (refine ⟨_, ?_, _, ?_, tupT ?_ ?_, rfl⟩; rotate_left 2; (first | (with_unfolding_all rfl) | (simp only [tksA, br, List.map_append, List.map_cons, List.map_nil, zC, zF, zG, Bool.false_eq_true, ↓reduceIte]; first | rfl | (with_unfolding_all rfl))); (first | rfl | omega | (simp only [bd, ↓reduceIte, Bool.false_eq_true]; omega)); all_goals (first | ((first | exact Sg.sub.refl _ | ((repeat (first | exact Sg.sub.refl _ | refine Sg.sub.set_both ?_ | refine Sg.sub.set_fresh ?_ (by first | assumption | exact Sg.set_none (by assumption) (by first | assumption | (apply Go.Cert.ne_of2a; assumption; assumption))))); done) | (intro y p hy; simp only [Sg.set_apply, Sg.del_apply] at hy ⊢; grind))) | ((try simp only [Sg.set_apply, Sg.del_apply] at *); (try intro y p hy); (try simp only [Sg.set_apply, Sg.del_apply] at *); grind (splits := 40))))
theorem dx_col (t n : By) : Dx (.col t n) := by
  intro hlen σ
  have e2 : (Tr.col t n).dp = 0 := rfl
  rw [ex_col, e2]
  rw [Tr.tk]
  unfold NewD
  by_cases ht : t = []
  · rw [if_pos ht]
    subst ht
    (refine vfun (fun k => if k = 1 then .ro else .obj) Q0k Tryz.func56 (by kernel_rfl) ?_; simp only [Q0f, Tryz.f56, zw])
    (have zz := Bx.mk (j4 ui0 ui3 ui4 (j9 ui9 ui22 ui23 ui24 ui25 ui26 ui56 ui94 (j9 Q0q Q0r @Q1t @Q1u @Q1n @Q1o @Q1v @Q1w WLg))); (repeat' (first | exact zc | (with_reducible first | apply And.intro | apply Q0a | apply Q0b | refine Q0c (by decide +kernel) ?_ | intro _) | ((with_reducible first | refine .dms (fun x => False) [(0, false), (1, false), (2, false), (3, false), (4, true), (5, true), (6, false), (7, true), (8, true), (9, true)] (by decide) (by decide +kernel) ?_ | refine .dm (fun x => False) [(0, false), (1, false), (2, false), (3, false), (4, true), (5, true), (6, false), (7, true), (8, true), (9, true)] (by decide) (by decide +kernel) ?_); (refine zsR zz.out ?_)) | refine zaR zz.out ?_ | refine zkN zz.out ?_ | ((first | (refine Q0l (by intro β h; first | (rcases h with h | h <;> subst h <;> (simp (disch := first | assumption | (apply zP; assumption; assumption) | (apply zQ; assumption; assumption; (intro e; cases e; done)) | omega) only [zn, zp, zq, zr, zv])) | (subst h; (simp (disch := first | assumption | (apply zP; assumption; assumption) | (apply zQ; assumption; assumption; (intro e; cases e; done)) | omega) only [zn, zp, zq, zr, zv]))) ?_) | (with_reducible refine uc (Q3v _ _) ?_) | (with_reducible refine uc (Q3m _ _) ?_) | (with_reducible refine uc (Q6x _ _) ?_) | (with_reducible refine uc (Q3k _ (by assumption) _ (by first | assumption | rfl) _) ?_) | (with_reducible refine uc (d_op _ (by assumption) (by assumption) _) ?_) | (refine Q0d (by exact zK) ?_) | (refine Q0e (by exact zK) ?_)); (try refine zsR zz.out ?_)) | refine zmR zz.out ?_ | refine zo ?_ | omega | refine ztR zz.out ?_ | fail)); try (all_goals clear zz))
    all_goals first | (refine ⟨_, ?_, _, ?_, tupT ?_ ?_, rfl⟩; rotate_left 2; (first | (with_unfolding_all rfl) | (simp only [tksA, br, List.map_append, List.map_cons, List.map_nil, zC, zF, zG, Bool.false_eq_true, ↓reduceIte]; first | rfl | (with_unfolding_all rfl))); (first | rfl | omega | (simp only [bd, ↓reduceIte, Bool.false_eq_true]; omega)); all_goals (first | ((first | exact Sg.sub.refl _ | ((repeat (first | exact Sg.sub.refl _ | refine Sg.sub.set_both ?_ | refine Sg.sub.set_fresh ?_ (by first | assumption | exact Sg.set_none (by assumption) (by first | assumption | (apply Go.Cert.ne_of2a; assumption; assumption))))); done) | (intro y p hy; simp only [Sg.set_apply, Sg.del_apply] at hy ⊢; grind))) | ((try simp only [Sg.set_apply, Sg.del_apply] at *); (try intro y p hy); (try simp only [Sg.set_apply, Sg.del_apply] at *); grind (splits := 40)))) | (exfalso; simp_all; done)
  · rw [if_neg ht]
    (refine vfun (fun k => if k = 1 then .ro else .obj) Q0k Tryz.func56 (by kernel_rfl) ?_; simp only [Q0f, Tryz.f56, zw])
    (have zz := Bx.mk (j5 ui0 ui3 ui4 ui9 (j9 ui22 ui23 ui24 ui25 ui26 ui56 ui94 Q0q (j9 Q0r @Q1t @Q1u @Q1n @Q1o @Q1v @Q1w ht WLg))); (repeat' (first | exact zc | (with_reducible first | apply And.intro | apply Q0a | apply Q0b | refine Q0c (by decide +kernel) ?_ | intro _) | ((with_reducible first | refine .dms (fun x => False) [(0, false), (1, false), (2, false), (3, false), (4, true), (5, true), (6, false), (7, true), (8, true), (9, true)] (by decide) (by decide +kernel) ?_ | refine .dm (fun x => False) [(0, false), (1, false), (2, false), (3, false), (4, true), (5, true), (6, false), (7, true), (8, true), (9, true)] (by decide) (by decide +kernel) ?_); (refine zsR zz.out ?_)) | refine zaR zz.out ?_ | refine zkN zz.out ?_ | ((first | (refine Q0l (by intro β h; first | (rcases h with h | h <;> subst h <;> (simp (disch := first | assumption | (apply zP; assumption; assumption) | (apply zQ; assumption; assumption; (intro e; cases e; done)) | omega) only [zn, zp, zq, zr, zv])) | (subst h; (simp (disch := first | assumption | (apply zP; assumption; assumption) | (apply zQ; assumption; assumption; (intro e; cases e; done)) | omega) only [zn, zp, zq, zr, zv]))) ?_) | (with_reducible refine uc (Q3v _ _) ?_) | (with_reducible refine uc (Q3m _ _) ?_) | (with_reducible refine uc (Q6x _ _) ?_) | (with_reducible refine uc (Q3k _ (by assumption) _ (by first | assumption | rfl) _) ?_) | (with_reducible refine uc (d_op _ (by assumption) (by assumption) _) ?_) | (refine Q0d (by exact zK) ?_) | (refine Q0e (by exact zK) ?_)); (try refine zsR zz.out ?_)) | refine zmR zz.out ?_ | refine zo ?_ | omega | refine ztR zz.out ?_ | fail)); try (all_goals clear zz))
    all_goals first | (refine ⟨_, ?_, _, ?_, tupT ?_ ?_, rfl⟩; rotate_left 2; (first | (with_unfolding_all rfl) | (simp only [tksA, br, List.map_append, List.map_cons, List.map_nil, zC, zF, zG, Bool.false_eq_true, ↓reduceIte]; first | rfl | (with_unfolding_all rfl))); (first | rfl | omega | (simp only [bd, ↓reduceIte, Bool.false_eq_true]; omega)); all_goals (first | ((first | exact Sg.sub.refl _ | ((repeat (first | exact Sg.sub.refl _ | refine Sg.sub.set_both ?_ | refine Sg.sub.set_fresh ?_ (by first | assumption | exact Sg.set_none (by assumption) (by first | assumption | (apply Go.Cert.ne_of2a; assumption; assumption))))); done) | (intro y p hy; simp only [Sg.set_apply, Sg.del_apply] at hy ⊢; grind))) | ((try simp only [Sg.set_apply, Sg.del_apply] at *); (try intro y p hy); (try simp only [Sg.set_apply, Sg.del_apply] at *); grind (splits := 40)))) | (exfalso; simp_all; done)
theorem dx_null (e : Tr) (hw : e.wf) (hC : Dx e) : Dx (.null e) := by
  intro hlen σ
  rw [X1u] at hlen ⊢
  simp only [zx, zy, List.length_nil] at hlen
  have hA : ∀ σ, VCalls Tryz.prog 111 [.agg (exA e.ex), .i 5] σ _ := d_at e hw hC 5 (by decide) (by omega)
  have hxl := Q1a e.ex
  have hxt := Q1b e.ex
  rw [Tr.dp, X0h]
  unfold NewD at hA ⊢
  generalize br (lo e 5) e.tk = TT at *
  generalize bd (lo e 5) + e.dp = D at *
  generalize exA e.ex = X at *
  (refine vfun (fun k => if k = 1 then .ro else .obj) Q0k Tryz.func56 (by kernel_rfl) ?_; simp only [Q0f, Tryz.f56, zw])
  (have zz := Bx.mk (j6 ui0 ui3 ui4 ui9 ui22 (j9 ui23 ui24 ui25 ui26 ui56 ui94 Q0q Q0r (j9 @Q1t @Q1u @Q1n @Q1o @Q1v @Q1w hxl hxt WLg))); (repeat' (first | exact zc | (with_reducible first | apply And.intro | apply Q0a | apply Q0b | refine Q0c (by decide +kernel) ?_ | intro _) | refine zaY zz.out ?_ | ((first | ((with_reducible refine VCalls.fr (hA _) ?_)) | (with_reducible refine uc (Q3v _ _) ?_) | (with_reducible refine uc (Q3m _ _) ?_) | (with_reducible refine uc (Q6x _ _) ?_) | (with_reducible refine uc (Q3k _ (by assumption) _ (by first | assumption | rfl) _) ?_) | (with_reducible refine uc (d_op _ (by assumption) (by assumption) _) ?_) | (refine Q0d (by exact zK) ?_) | (refine Q0e (by exact zK) ?_)); (try refine zsY zz.out ?_)) | refine zo ?_ | omega | refine ztY zz.out ?_ | fail)); try (all_goals clear zz))
  all_goals (refine ⟨_, ?_, _, ?_, tupT ?_ ?_, rfl⟩; rotate_left 2; (first | (with_unfolding_all rfl) | (simp only [tksA, br, List.map_append, List.map_cons, List.map_nil, zC, zF, zG, Bool.false_eq_true, ↓reduceIte]; first | rfl | (with_unfolding_all rfl))); (first | rfl | omega | (simp only [bd, ↓reduceIte, Bool.false_eq_true]; omega)); all_goals (first | ((first | exact Sg.sub.refl _ | ((repeat (first | exact Sg.sub.refl _ | refine Sg.sub.set_both ?_ | refine Sg.sub.set_fresh ?_ (by first | assumption | exact Sg.set_none (by assumption) (by first | assumption | (apply Go.Cert.ne_of2a; assumption; assumption))))); done) | (intro y p hy; simp only [Sg.set_apply, Sg.del_apply] at hy ⊢; grind))) | ((try simp only [Sg.set_apply, Sg.del_apply] at *); (try intro y p hy); (try simp only [Sg.set_apply, Sg.del_apply] at *); grind (splits := 40))))
theorem X2v (e : Tr) (hw : e.wf) (hC : Dx e) (hx : ∀ x, e = .null x → Dx x) : Dx (.not e) := by
  intro hlen σ
  have hxl := Q1a e.ex
  have hxt := Q1b e.ex
  cases hn : e.isNull with
  | true =>
    obtain ⟨x, rfl⟩ : ∃ x, e = .null x := by
      cases e <;> first | exact ⟨_, rfl⟩ | (cases hn; done)
    rw [Q6a] at hlen ⊢
    rw [X0f]
    simp only [zx, zy, List.length_nil] at hlen
    have hA : ∀ σ, VCalls Tryz.prog 111 [.agg (exA x.ex), .i 5] σ _ := d_at x hw (hx x rfl) 5 (by decide) (by omega)
    have hyl := Q1a x.ex
    have hyt := Q1b x.ex
    rw [ex_not, X0h]
    unfold NewD at hA ⊢
    generalize br (lo x 5) x.tk = TT at *
    generalize bd (lo x 5) + x.dp = D at *
    generalize exA x.ex = X at *
    (refine vfun (fun k => if k = 1 then .ro else if k = 9 then .no else .obj) Q0k Tryz.func56 (by kernel_rfl) ?_; simp only [Q0f, Tryz.f56, zw])
    (have zz := Bx.mk (j6 ui0 ui3 ui4 ui9 ui22 (j9 ui23 ui24 ui25 ui26 ui56 ui94 Q0q Q0r (j9 @Q1t @Q1u @Q1n @Q1o @Q1v @Q1w hyl hyt WLg))); (repeat' (first | exact zc | (with_reducible first | apply And.intro | apply Q0a | apply Q0b | refine Q0c (by decide +kernel) ?_ | intro _) | refine zaY zz.out ?_ | ((first | ((with_reducible refine VCalls.fr (hA _) ?_)) | (with_reducible refine uc (Q3v _ _) ?_) | (with_reducible refine uc (Q3m _ _) ?_) | (with_reducible refine uc (Q6x _ _) ?_) | (with_reducible refine uc (Q3k _ (by assumption) _ (by first | assumption | rfl) _) ?_) | (with_reducible refine uc (d_op _ (by assumption) (by assumption) _) ?_) | (refine Q0d (by exact zK) ?_) | (refine Q0e (by exact zK) ?_)); (try refine zsY zz.out ?_)) | refine zo ?_ | omega | refine ztY zz.out ?_ | fail)); try (all_goals clear zz))
    all_goals (refine ⟨_, ?_, _, ?_, tupT ?_ ?_, rfl⟩; rotate_left 2; (first | (with_unfolding_all rfl) | (simp only [tksA, br, List.map_append, List.map_cons, List.map_nil, zC, zF, zG, Bool.false_eq_true, ↓reduceIte]; first | rfl | (with_unfolding_all rfl))); (first | rfl | omega | (simp only [bd, ↓reduceIte, Bool.false_eq_true]; omega)); all_goals (first | ((first | exact Sg.sub.refl _ | ((repeat (first | exact Sg.sub.refl _ | refine Sg.sub.set_both ?_ | refine Sg.sub.set_fresh ?_ (by first | assumption | exact Sg.set_none (by assumption) (by first | assumption | (apply Go.Cert.ne_of2a; assumption; assumption))))); done) | (intro y p hy; simp only [Sg.set_apply, Sg.del_apply] at hy ⊢; grind))) | ((try simp only [Sg.set_apply, Sg.del_apply] at *); (try intro y p hy); (try simp only [Sg.set_apply, Sg.del_apply] at *); grind (splits := 40))))
  | false =>
    rw [Q9i hn] at hlen ⊢
    rw [X1v hn]
    rw [zy] at hlen
    have hA : ∀ σ, VCalls Tryz.prog 111 [.agg (exA e.ex), .i 3] σ _ := d_at e hw hC 3 (by decide) (by omega)
    have hk : ¬ e.ex.kd = 6 := fun hh => by rw [(X3s e).1 hh] at hn; cases hn
    have hD := X0g (lo e 3) e.tk (Q8d e)
    obtain ⟨op, t, n, v, ll, hf⟩ := X0i e.ex
    rw [ex_not, hf]
    rw [hf] at hA
    unfold NewD at hA ⊢
    generalize br (lo e 3) e.tk = TT at *
    generalize bd (lo e 3) + e.dp = D at *
    (refine vfun (fun k => if k = 1 then .ro else if k = 9 then .no else .obj) Q0k Tryz.func56 (by kernel_rfl) ?_; simp only [Q0f, Tryz.f56, zw])
    (have zz := Bx.mk (j5 ui0 ui3 ui4 ui9 (j9 ui22 ui23 ui24 ui25 ui26 ui56 ui94 Q0q (j9 Q0r @Q1t @Q1u @Q1n @Q1o @Q1v @Q1w hk WLg))); (repeat' (first | exact zc | (with_reducible first | apply And.intro | apply Q0a | apply Q0b | refine Q0c (by decide +kernel) ?_ | intro _) | refine zaY zz.out ?_ | ((first | ((with_reducible refine VCalls.fr (hA _) ?_)) | (with_reducible refine uc (Q3v _ _) ?_) | (with_reducible refine uc (Q3m _ _) ?_) | (with_reducible refine uc (Q6x _ _) ?_) | (with_reducible refine uc (Q3k _ (by assumption) _ (by first | assumption | rfl) _) ?_) | (with_reducible refine uc (d_op _ (by assumption) (by assumption) _) ?_) | (refine Q0d (by exact zK) ?_) | (refine Q0e (by exact zK) ?_)); (try refine zsY zz.out ?_)) | refine zo ?_ | omega | refine ztY zz.out ?_ | fail)); try (all_goals clear zz))
    all_goals (refine ⟨_, ?_, _, ?_, tupT ?_ ?_, rfl⟩; rotate_left 2; (first | (with_unfolding_all rfl) | (simp only [tksA, br, List.map_append, List.map_cons, List.map_nil, zC, zF, zG, Bool.false_eq_true, ↓reduceIte]; first | rfl | (with_unfolding_all rfl))); (first | rfl | omega | (simp only [bd, ↓reduceIte, Bool.false_eq_true]; omega)); all_goals (first | ((first | exact Sg.sub.refl _ | ((repeat (first | exact Sg.sub.refl _ | refine Sg.sub.set_both ?_ | refine Sg.sub.set_fresh ?_ (by first | assumption | exact Sg.set_none (by assumption) (by first | assumption | (apply Go.Cert.ne_of2a; assumption; assumption))))); done) | (intro y p hy; simp only [Sg.set_apply, Sg.del_apply] at hy ⊢; grind))) | ((try simp only [Sg.set_apply, Sg.del_apply] at *); (try intro y p hy); (try simp only [Sg.set_apply, Sg.del_apply] at *); grind (splits := 40))))
theorem kd_val2 {e : Tr} (h : e.ex.kd = 1) : ∃ v, e = .val v := by
  cases e <;> first | exact ⟨_, rfl⟩ | (simp [Tr.ex, Ex.kd] at h; done)
theorem dx_neg (e : Tr) (hw : e.wf) (hC : Dx e) : Dx (.neg e) := by
  intro hlen σ
  rw [tk_neg] at hlen ⊢
  rw [Tr.dp]
  rw [zy] at hlen
  have hb1 := (Q7k e.pos (br (lo e 7) e.tk)).1
  have hA : ∀ σ, VCalls Tryz.prog 111 [.agg (exA e.ex), .i 7] σ _ := d_at e hw hC 7 (by decide) (by omega)
  have hD := X0g (lo e 7) e.tk (Q8d e)
  cases hp : e.pos with
  | true =>
    obtain ⟨v, rfl⟩ : ∃ v, e = .val v := by
      cases e <;> first | exact ⟨_, rfl⟩ | (cases hp; done)
    obtain ⟨q1, q2⟩ : v.1 = 1 ∧ 0 ≤ v.2.1 := of_decide_eq_true hp
    rw [hp] at hlen hb1
    have hb2 := (Q7k true (br (lo (.val v) 7) (Tr.val v).tk)).2
    rw [X2u, Q8l, q1]
    rw [Q8l, q1] at hA
    unfold NewD at hA ⊢
    generalize br (lo (Tr.val v) 7) (Tr.val v).tk = TT at *
    generalize bd (lo (Tr.val v) 7) + (Tr.val v).dp = D at *
    (refine vfun (fun k => if k = 1 then .ro else if k = 87 then .obj else if k = 96 then .obj else .no) Q0k Tryz.func56 (by kernel_rfl) ?_; simp only [Q0f, Tryz.f56, zw])
    (have zz := Bx.mk (j4 ui0 ui3 ui4 (j9 ui9 ui22 ui23 ui24 ui25 ui26 ui56 ui94 (j9 Q0q Q0r @Q1t @Q1u @Q1n @Q1o @Q1v @Q1w WLg))); (repeat' (first | exact zc | (with_reducible first | apply And.intro | apply Q0a | apply Q0b | refine Q0c (by decide +kernel) ?_ | intro _) | refine zaY zz.out ?_ | ((first | ((with_reducible refine VCalls.fr (hA _) ?_)) | (with_reducible refine uc (Q3v _ _) ?_) | (with_reducible refine uc (Q3m _ _) ?_) | (with_reducible refine uc (Q6x _ _) ?_) | (with_reducible refine uc (Q3k _ (by assumption) _ (by first | assumption | rfl) _) ?_) | (with_reducible refine uc (d_op _ (by assumption) (by assumption) _) ?_) | (refine Q0d (by exact zK) ?_) | (refine Q0e (by exact zK) ?_)); (try refine zsY zz.out ?_)) | refine zo ?_ | omega | refine ztY zz.out ?_ | fail)); try (all_goals clear zz))
    all_goals (refine ⟨_, ?_, _, ?_, tupT ?_ ?_, rfl⟩; rotate_left 2; (first | (with_unfolding_all rfl) | (simp only [tksA, br, List.map_append, List.map_cons, List.map_nil, zC, zF, zG, Bool.false_eq_true, ↓reduceIte]; first | rfl | (with_unfolding_all rfl))); (first | rfl | omega | (simp only [bd, ↓reduceIte, Bool.false_eq_true]; omega)); all_goals (first | ((first | exact Sg.sub.refl _ | ((repeat (first | exact Sg.sub.refl _ | refine Sg.sub.set_both ?_ | refine Sg.sub.set_fresh ?_ (by first | assumption | exact Sg.set_none (by assumption) (by first | assumption | (apply Go.Cert.ne_of2a; assumption; assumption))))); done) | (intro y p hy; simp only [Sg.set_apply, Sg.del_apply] at hy ⊢; grind))) | ((try simp only [Sg.set_apply, Sg.del_apply] at *); (try intro y p hy); (try simp only [Sg.set_apply, Sg.del_apply] at *); grind (splits := 40))))
  | false =>
    by_cases hk : e.ex.kd = 1
    · obtain ⟨v, rfl⟩ := kd_val2 hk
      have hv : ¬ (v.1 = 1 ∧ 0 ≤ v.2.1) := of_decide_eq_false hp
      rw [X2u, Q8l]
      rw [Q8l] at hA
      unfold NewD at hA ⊢
      generalize br (lo (Tr.val v) 7) (Tr.val v).tk = TT at *
      generalize bd (lo (Tr.val v) 7) + (Tr.val v).dp = D at *
      (refine vfun (fun k => if k = 1 then .ro else if k = 87 then .obj else if k = 96 then .obj else .no) Q0k Tryz.func56 (by kernel_rfl) ?_; simp only [Q0f, Tryz.f56, zw])
      (have zz := Bx.mk (j4 ui0 ui3 ui4 (j9 ui9 ui22 ui23 ui24 ui25 ui26 ui56 ui94 (j9 Q0q Q0r @Q1t @Q1u @Q1n @Q1o @Q1v @Q1w WLg))); (repeat' (first | exact zc | (with_reducible first | apply And.intro | apply Q0a | apply Q0b | refine Q0c (by decide +kernel) ?_ | intro _) | refine zaY zz.out ?_ | ((first | ((with_reducible refine VCalls.fr (hA _) ?_)) | (with_reducible refine uc (Q3v _ _) ?_) | (with_reducible refine uc (Q3m _ _) ?_) | (with_reducible refine uc (Q6x _ _) ?_) | (with_reducible refine uc (Q3k _ (by assumption) _ (by first | assumption | rfl) _) ?_) | (with_reducible refine uc (d_op _ (by assumption) (by assumption) _) ?_) | (refine Q0d (by exact zK) ?_) | (refine Q0e (by exact zK) ?_)); (try refine zsY zz.out ?_)) | refine zo ?_ | omega | refine ztY zz.out ?_ | fail)); try (all_goals clear zz))
      all_goals first | (exfalso; omega) | (refine ⟨_, ?_, _, ?_, tupT ?_ ?_, rfl⟩; rotate_left 2; (first | (with_unfolding_all rfl) | (simp only [tksA, br, List.map_append, List.map_cons, List.map_nil, zC, zF, zG, Bool.false_eq_true, ↓reduceIte]; first | rfl | (with_unfolding_all rfl))); (first | rfl | omega | (simp only [bd, ↓reduceIte, Bool.false_eq_true]; omega)); all_goals (first | ((first | exact Sg.sub.refl _ | ((repeat (first | exact Sg.sub.refl _ | refine Sg.sub.set_both ?_ | refine Sg.sub.set_fresh ?_ (by first | assumption | exact Sg.set_none (by assumption) (by first | assumption | (apply Go.Cert.ne_of2a; assumption; assumption))))); done) | (intro y p hy; simp only [Sg.set_apply, Sg.del_apply] at hy ⊢; grind))) | ((try simp only [Sg.set_apply, Sg.del_apply] at *); (try intro y p hy); (try simp only [Sg.set_apply, Sg.del_apply] at *); grind (splits := 40))))
    · obtain ⟨op, t, n, v, ll, hf⟩ := X0i e.ex
      rw [X2u, hf]
      rw [hf] at hA
      unfold NewD at hA ⊢
      generalize br (lo e 7) e.tk = TT at *
      generalize bd (lo e 7) + e.dp = D at *
      (refine vfun (fun k => if k = 1 then .ro else if k = 87 then .obj else if k = 96 then .obj else .no) Q0k Tryz.func56 (by kernel_rfl) ?_; simp only [Q0f, Tryz.f56, zw])
      (have zz := Bx.mk (j5 ui0 ui3 ui4 ui9 (j9 ui22 ui23 ui24 ui25 ui26 ui56 ui94 Q0q (j9 Q0r @Q1t @Q1u @Q1n @Q1o @Q1v @Q1w hk WLg))); (repeat' (first | exact zc | (with_reducible first | apply And.intro | apply Q0a | apply Q0b | refine Q0c (by decide +kernel) ?_ | intro _) | refine zaY zz.out ?_ | ((first | ((with_reducible refine VCalls.fr (hA _) ?_)) | (with_reducible refine uc (Q3v _ _) ?_) | (with_reducible refine uc (Q3m _ _) ?_) | (with_reducible refine uc (Q6x _ _) ?_) | (with_reducible refine uc (Q3k _ (by assumption) _ (by first | assumption | rfl) _) ?_) | (with_reducible refine uc (d_op _ (by assumption) (by assumption) _) ?_) | (refine Q0d (by exact zK) ?_) | (refine Q0e (by exact zK) ?_)); (try refine zsY zz.out ?_)) | refine zo ?_ | omega | refine ztY zz.out ?_ | fail)); try (all_goals clear zz))
      all_goals first | (exfalso; omega) | (refine ⟨_, ?_, _, ?_, tupT ?_ ?_, rfl⟩; rotate_left 2; (first | (with_unfolding_all rfl) | (simp only [tksA, br, List.map_append, List.map_cons, List.map_nil, zC, zF, zG, Bool.false_eq_true, ↓reduceIte]; first | rfl | (with_unfolding_all rfl))); (first | rfl | omega | (simp only [bd, ↓reduceIte, Bool.false_eq_true]; omega)); all_goals (first | ((first | exact Sg.sub.refl _ | ((repeat (first | exact Sg.sub.refl _ | refine Sg.sub.set_both ?_ | refine Sg.sub.set_fresh ?_ (by first | assumption | exact Sg.set_none (by assumption) (by first | assumption | (apply Go.Cert.ne_of2a; assumption; assumption))))); done) | (intro y p hy; simp only [Sg.set_apply, Sg.del_apply] at hy ⊢; grind))) | ((try simp only [Sg.set_apply, Sg.del_apply] at *); (try intro y p hy); (try simp only [Sg.set_apply, Sg.del_apply] at *); grind (splits := 40))))
theorem dx_op (k : Nat) (a b : Tr) (hw : (Tr.op k a b).wf) (ha : Dx a) (hb : Dx b) : Dx (.op k a b) := by
  intro hlen σ
  have hw' := hw
  obtain ⟨⟨hk1, hk2⟩, hwa, hwb⟩ := hw
  have hlk : 1 ≤ lvK k ∧ lvK k ≤ 6 := by
    have := lvK_le k hk1
    omega
  rw [tk_op] at hlen ⊢
  rw [Tr.dp]
  simp only [zx, zy] at hlen
  have hlf : lftK k ≤ 7 := by unfold lftK; split <;> omega
  have hA := d_at a hwa ha (lftK k) hlf (by omega)
  have hB : ∀ σ, VCalls Tryz.prog 111 [.agg (exA b.ex), .i ((lvK k : Nat) + 1)] σ _ := d_at b hwb hb (lvK k + 1) (by omega) (by omega)
  have hl : ∀ E, E = exA (Tr.op k a b).ex → ∀ σ, VCalls Tryz.prog 112 [.agg E] σ (fun x σ' => x = .i (lvK k : Nat) ∧ σ' = σ) := fun E hE σ => Q3k _ hw' E hE σ
  have hxl := Q1a a.ex
  have hxt := Q1b a.ex
  have hyl := Q1a b.ex
  have hyt := Q1b b.ex
  have hop := d_op k hk1 hk2
  have hf4 : lvK k = 4 → lftK k = 5 := fun h => if_pos h
  have hf5 : lvK k ≠ 4 → lftK k = lvK k := fun h => if_neg h
  rw [ex_op] at hl ⊢
  generalize wd (ops.getD k []) = W at *
  have htk : tkA W = [.i W.1, .s (bs W.2.1), .i W.2.2.1, .i W.2.2.2] := rfl
  rw [htk] at hop
  unfold NewD at hA hB ⊢
  generalize br (lo a (lftK k)) a.tk = TA at *
  generalize bd (lo a (lftK k)) + a.dp = DA at *
  generalize br (lo b (lvK k + 1)) b.tk = TB at *
  generalize bd (lo b (lvK k + 1)) + b.dp = DB at *
  generalize exA a.ex = X at *
  generalize exA b.ex = Y at *
  have hlv : lvK k = 4 ∨ lvK k ≠ 4 := by omega
  rcases hlv with hc | hc
  · rw [hf4 hc] at hA
    have hA : ∀ σ, VCalls Tryz.prog 111 [.agg X, .i 5] σ _ := hA
    rw [hc] at hl hB
    clear hf4 hf5
    (refine vfun (fun k => if k = 1 then .ro else .no) Q0k Tryz.func56 (by kernel_rfl) ?_; simp only [Q0f, Tryz.f56, zw])
    (have zz := Bx.mk (j8 ui0 ui3 ui4 ui9 ui22 ui23 ui24 (j9 ui25 ui26 ui56 ui94 Q0q Q0r @Q1t @Q1u (j9 @Q1n @Q1o @Q1v @Q1w hxl hxt hyl hyt WLg))); (repeat' (first | exact zc | (with_reducible first | apply And.intro | apply Q0a | apply Q0b | refine Q0c (by decide +kernel) ?_ | intro _) | refine zaY zz.out ?_ | ((first | (with_reducible refine uc (hl _ rfl _) ?_) | (with_reducible refine uc (hop _) ?_) | ((with_reducible refine VCalls.fr (hA _) ?_)) | ((with_reducible refine VCalls.fr (hB _) ?_)) | (with_reducible refine uc (Q3v _ _) ?_) | (with_reducible refine uc (Q3m _ _) ?_) | (with_reducible refine uc (Q6x _ _) ?_) | (with_reducible refine uc (Q3k _ (by assumption) _ (by first | assumption | rfl) _) ?_) | (with_reducible refine uc (d_op _ (by assumption) (by assumption) _) ?_) | (refine Q0d (by exact zK) ?_) | (refine Q0e (by exact zK) ?_)); (try refine zsY zz.out ?_)) | refine zo ?_ | omega | refine ztY zz.out ?_ | fail)); try (all_goals clear zz))
    all_goals first | (exfalso; omega) | (refine ⟨_, ?_, _, ?_, tupT ?_ ?_, rfl⟩; rotate_left 2; (first | (with_unfolding_all rfl) | (simp only [tksA, br, List.map_append, List.map_cons, List.map_nil, zC, zF, zG, Bool.false_eq_true, ↓reduceIte]; first | rfl | (with_unfolding_all rfl))); (first | rfl | omega | (simp only [bd, ↓reduceIte, Bool.false_eq_true]; omega)); all_goals (first | ((first | exact Sg.sub.refl _ | ((repeat (first | exact Sg.sub.refl _ | refine Sg.sub.set_both ?_ | refine Sg.sub.set_fresh ?_ (by first | assumption | exact Sg.set_none (by assumption) (by first | assumption | (apply Go.Cert.ne_of2a; assumption; assumption))))); done) | (intro y p hy; simp only [Sg.set_apply, Sg.del_apply] at hy ⊢; grind))) | ((try simp only [Sg.set_apply, Sg.del_apply] at *); (try intro y p hy); (try simp only [Sg.set_apply, Sg.del_apply] at *); grind (splits := 40))))
  · rw [hf5 hc] at hA
    clear hf4 hf5
    generalize lvK k = K at *
    (refine vfun (fun k => if k = 1 then .ro else .no) Q0k Tryz.func56 (by kernel_rfl) ?_; simp only [Q0f, Tryz.f56, zw])
    (have zz := Bx.mk (j8 ui0 ui3 ui4 ui9 ui22 ui23 ui24 (j9 ui25 ui26 ui56 ui94 Q0q Q0r @Q1t @Q1u (j9 @Q1n @Q1o @Q1v @Q1w hxl hxt hyl hyt WLg))); (repeat' (first | exact zc | (with_reducible first | apply And.intro | apply Q0a | apply Q0b | refine Q0c (by decide +kernel) ?_ | intro _) | refine zaY zz.out ?_ | ((first | (with_reducible refine uc (hl _ rfl _) ?_) | (with_reducible refine uc (hop _) ?_) | ((with_reducible refine VCalls.fr (hA _) ?_)) | ((with_reducible refine VCalls.fr (hB _) ?_)) | (with_reducible refine uc (Q3v _ _) ?_) | (with_reducible refine uc (Q3m _ _) ?_) | (with_reducible refine uc (Q6x _ _) ?_) | (with_reducible refine uc (Q3k _ (by assumption) _ (by first | assumption | rfl) _) ?_) | (with_reducible refine uc (d_op _ (by assumption) (by assumption) _) ?_) | (refine Q0d (by exact zK) ?_) | (refine Q0e (by exact zK) ?_)); (try refine zsY zz.out ?_)) | refine zo ?_ | omega | refine ztY zz.out ?_ | fail)); try (all_goals clear zz))
    all_goals first | (exfalso; omega) | (refine ⟨_, ?_, _, ?_, tupT ?_ ?_, rfl⟩; rotate_left 2; (first | (with_unfolding_all rfl) | (simp only [tksA, br, List.map_append, List.map_cons, List.map_nil, zC, zF, zG, Bool.false_eq_true, ↓reduceIte]; first | rfl | (with_unfolding_all rfl))); (first | rfl | omega | (simp only [bd, ↓reduceIte, Bool.false_eq_true]; omega)); all_goals (first | ((first | exact Sg.sub.refl _ | ((repeat (first | exact Sg.sub.refl _ | refine Sg.sub.set_both ?_ | refine Sg.sub.set_fresh ?_ (by first | assumption | exact Sg.set_none (by assumption) (by first | assumption | (apply Go.Cert.ne_of2a; assumption; assumption))))); done) | (intro y p hy; simp only [Sg.set_apply, Sg.del_apply] at hy ⊢; grind))) | ((try simp only [Sg.set_apply, Sg.del_apply] at *); (try intro y p hy); (try simp only [Sg.set_apply, Sg.del_apply] at *); grind (splits := 40))))
theorem Q6y : ∀ t : Tr, t.wf → t.rg → Dx t
  | .val v, hw, hg => dx_val v hw hg
  | .col t n, hw, hg => dx_col t n
  | .null e, hw, hg => dx_null e hw (Q6y e hw hg)
  | .neg e, hw, hg => dx_neg e hw (Q6y e hw hg)
  | .not (.null x), hw, hg => X2v (.null x) hw (dx_null x hw (Q6y x hw hg)) (fun y hy => by cases hy; exact Q6y x hw hg)
  | .not (.val v), hw, hg => X2v (.val v) hw (Q6y (.val v) hw hg) (fun y hy => by cases hy)
  | .not (.col t n), hw, hg => X2v (.col t n) hw (Q6y (.col t n) hw hg) (fun y hy => by cases hy)
  | .not (.not e), hw, hg => X2v (.not e) hw (Q6y (.not e) hw hg) (fun y hy => by cases hy)
  | .not (.neg e), hw, hg => X2v (.neg e) hw (Q6y (.neg e) hw hg) (fun y hy => by cases hy)
  | .not (.op k a b), hw, hg => X2v (.op k a b) hw (Q6y (.op k a b) hw hg) (fun y hy => by cases hy)
  | .op k a b, hw, hg => dx_op k a b hw (Q6y a hw.2.1 hg.1) (Q6y b hw.2.2 hg.2)
theorem lvl_le' (t : Tr) (h : t.wf) : 1 ≤ t.lvl ∧ t.lvl ≤ 7 := by
  cases t with
  | op k a b =>
    have : 1 ≤ lvK k ∧ lvK k ≤ 7 := by
      have := h.1
      unfold lvK
      repeat' split
      all_goals omega
    exact this
  | not e => cases e <;> exact ⟨Nat.le_of_ble_eq_true rfl, Nat.le_of_ble_eq_true rfl⟩
  | _ => exact ⟨Nat.le_of_ble_eq_true rfl, Nat.le_of_ble_eq_true rfl⟩
abbrev WS (B : Sg) (ω τ : Nat) (l : List Tk) (d m : Int) : Sg := WB 59 [.i d, .i m] B ω τ l
theorem Q2g {B : Sg} {ω τ : Nat} {l l' : List Tk} {d d' m m' : Int} (h1 : l = l') (h2 : d = d') (h3 : m = m') : WS B ω τ l d m = WS B ω τ l' d' m' := by rw [h1, h2, h3]
def Wr (f : FuncId) (E : List AV) (tk : List Tk) (dp : Nat) : Prop := ∀ (B : Sg) (ω τ : Nat) (l : List Tk) (d m : Int), okS B ω τ → 0 ≤ d → d ≤ m → m ≤ 2 ^ 41 → d + dp ≤ 2 ^ 40 → l.length + tk.length ≤ 2 ^ 36 →
  VCalls Tryz.prog f [.ref ω 0, .agg E] (WS B ω τ l d m) (fun x σ' => x = .tup [] ∧ ∃ τ', okS B ω τ' ∧ σ' = WS B ω τ' (l ++ tk) d (max m (d + dp)))
def Cx (t : Tr) : Prop := Wr 21 (exA t.ex) t.tk t.dp
theorem w_within (t : Tr) (hC : Cx t) : Wr 151 (exA t.ex) t.tk (1 + t.dp) := by
  intro B ω τ l d m h h0 h1 h2 h3 h4
  have hC : ∀ τ l d m, _ := fun τ l d m => hC B ω τ l d m
  (refine vfun (fun _ => .ro) Q0k Tryz.func151 (by kernel_rfl) ?_; simp only [Q0f, Tryz.f151, zw])
  (have zz := Bx.mk (j7 ui0 ui3 ui9 ui22 ui23 ui24 (j9 ui25 ui26 ui55 ui56 ui57 ui58 ui59 Q0q (j9 Q0r @Q1a @Q1b @Q2q @Q3r @Q1h @Q1j @Q1c WLg))); (repeat' (first | exact zc | (with_reducible first | apply And.intro | apply Q0a | apply Q0b | refine Q0c (by decide +kernel) ?_ | intro _) | ((with_reducible first | refine .dms (fun x => x = ω) [(0, false), (1, false), (2, false), (3, false), (4, false), (5, false), (6, false), (7, false), (8, false), (9, false), (10, true), (11, false), (12, true)] (by decide) (by decide +kernel) ?_ | refine .dm (fun x => x = ω) [(0, false), (1, false), (2, false), (3, false), (4, false), (5, false), (6, false), (7, false), (8, false), (9, false), (10, true), (11, false), (12, true)] (by decide) (by decide +kernel) ?_); (refine zsR zz.out ?_)) | refine zaR zz.out ?_ | refine zkK zz.out ?_ | ((first | (refine Q0l (by intro β h; first | (rcases h with h | h <;> subst h <;> (simp (disch := first | assumption | (apply zP; assumption; assumption) | (apply zQ; assumption; assumption; (intro e; cases e; done)) | omega) only [zn, zp, zq, zr, zv])) | (subst h; (simp (disch := first | assumption | (apply zP; assumption; assumption) | (apply zQ; assumption; assumption; (intro e; cases e; done)) | omega) only [zn, zp, zq, zr, zv]))) ?_) | ((with_reducible refine zS (hC _ _ _ _ (by exact zO) (by omega) (by omega) (by omega) (by omega) (by exact zN)) ?_); rintro _ S ⟨rfl, τ1, ⟨f1, n1⟩, rfl⟩; have n1s := n1.symm) | (refine Q0d (by exact zK) ?_) | (refine Q0e (by exact zK) ?_)); (try refine zsR zz.out ?_)) | refine zmR zz.out ?_ | refine zo ?_ | omega | refine ztR zz.out ?_ | fail)); try (all_goals clear zz))
  all_goals exact ⟨_, .refl _, τ1, ⟨f1, n1⟩, Q2g rfl (by omega) (by omega)⟩
theorem wdLP : wd [40] = sT [40] := rfl
theorem wdRP : wd [41] = sT [41] := rfl
theorem X2w (t : Tr) (hC : Cx t) : Wr 104 (exA t.ex) (br true t.tk) (1 + t.dp) := by
  intro B ω τ l d m h h0 h1 h2 h3 h4
  have hbl : (br true t.tk).length = t.tk.length + 2 := by simp [br]
  have hW := w_within t hC B ω
  (refine vfun (fun _ => .ro) Q0k Tryz.func104 (by kernel_rfl) ?_; simp only [Q0f, Tryz.f104, zw])
  (have zz := Bx.mk (j8 ui0 ui3 ui9 ui22 ui23 ui24 ui25 (j9 ui26 ui55 ui56 ui57 ui58 ui59 ui75 Q0q (j9 Q0r @Q1a @Q1b @Q2q @Q3r @Q1h @Q1j @Q1c WLg))); (repeat' (first | exact zc | (with_reducible first | apply And.intro | apply Q0a | apply Q0b | refine Q0c (by decide +kernel) ?_ | intro _) | refine zaR zz.out ?_ | refine zkN zz.out ?_ | ((first | (refine Q0l (by intro β h; first | (rcases h with h | h <;> subst h <;> (simp (disch := first | assumption | (apply zP; assumption; assumption) | (apply zQ; assumption; assumption; (intro e; cases e; done)) | omega) only [zn, zp, zq, zr, zv])) | (subst h; (simp (disch := first | assumption | (apply zP; assumption; assumption) | (apply zQ; assumption; assumption; (intro e; cases e; done)) | omega) only [zn, zp, zq, zr, zv]))) ?_) | ((with_reducible refine zS (hW _ _ _ _ (by exact zO) (by omega) (by omega) (by omega) (by omega) (by exact zN)) ?_); rintro _ S ⟨rfl, τ1, ⟨f1, n1⟩, rfl⟩; have n1s := n1.symm) | ((with_reducible refine zS (Q0n _ _ _ _ _ _ _ _ (by repeat (first | exact Q0j | refine Q0g ?_ (by simp))) (by exact zO) (by exact zN)) ?_); rintro _ S ⟨rfl, τ1, ⟨f1, n1⟩, rfl⟩; have n1s := n1.symm) | (refine Q0d (by exact zK) ?_) | (refine Q0e (by exact zK) ?_)); (try refine zsR zz.out ?_)) | refine zmR zz.out ?_ | refine zo ?_ | omega | refine ztR zz.out ?_ | fail)); try (all_goals clear zz))
  all_goals exact ⟨_, .refl _, τ1, ⟨f1, n1⟩, Q2g (by simp [br, wdLP, wdRP]) rfl (by omega)⟩
theorem w_at (t : Tr) (hw : t.wf) (hC : Cx t) (k : Nat) (hk : k ≤ 7) : ∀ (B : Sg) (ω τ : Nat) (l : List Tk) (d m : Int), okS B ω τ → 0 ≤ d → d ≤ m → m ≤ 2 ^ 41 → d + ((bd (lo t k) + t.dp : Nat) : Int) ≤ 2 ^ 40 → l.length + (br (lo t k) t.tk).length ≤ 2 ^ 36 →
    VCalls Tryz.prog 47 [.ref ω 0, .agg (exA t.ex), .i k] (WS B ω τ l d m) (fun x σ' => x = .tup [] ∧ ∃ τ', okS B ω τ' ∧ σ' = WS B ω τ' (l ++ br (lo t k) t.tk) d (max m (d + ((bd (lo t k) + t.dp : Nat) : Int)))) := by
  intro B ω τ l d m h h0 h1 h2 h3 h4
  have hl := Q4l t hw _ rfl
  have hl7 := (lvl_le' t hw).2
  unfold lo at h3 h4 ⊢
  by_cases hc : t.lvl < k
  · rw [decide_eq_true hc] at h3 h4 ⊢
    simp only [bd, if_true] at h3 ⊢
    have hW := X2w t hC B ω
    generalize t.lvl = L at *
    (refine vfun (fun _ => .ro) Q0k Tryz.func47 (by kernel_rfl) ?_; simp only [Q0f, Tryz.f47, zw])
    (have zz := Bx.mk (j8 ui0 ui3 ui4 ui9 ui22 ui23 ui24 (j9 ui25 ui26 ui55 ui56 ui57 ui58 ui59 Q0q (j9 Q0r @Q1a @Q1b @Q2q @Q3r @Q1h @Q1j @Q1c WLg))); (repeat' (first | exact zc | (with_reducible first | apply And.intro | apply Q0a | apply Q0b | refine Q0c (by decide +kernel) ?_ | intro _) | refine zaY zz.out ?_ | ((first | (with_reducible refine uc (hl _) ?_) | ((with_reducible refine zS (hW _ _ _ _ (by exact zO) (by omega) (by omega) (by omega) (by omega) (by exact zN)) ?_); rintro _ S ⟨rfl, τ1, ⟨f1, n1⟩, rfl⟩; have n1s := n1.symm) | (with_reducible refine uc (Q4l _ (by assumption) _ (by first | assumption | rfl) _) ?_) | (refine Q0d (by exact zK) ?_) | (refine Q0e (by exact zK) ?_)); (try refine zsY zz.out ?_)) | refine zo ?_ | omega | refine ztY zz.out ?_ | fail)); try (all_goals clear zz))
    all_goals exact ⟨_, .refl _, τ1, ⟨f1, n1⟩, rfl⟩
  · rw [decide_eq_false hc] at h3 h4 ⊢
    simp only [bd, Bool.false_eq_true, if_false, Nat.zero_add, br] at h3 h4 ⊢
    have hW := hC B ω
    generalize t.lvl = L at *
    (refine vfun (fun _ => .ro) Q0k Tryz.func47 (by kernel_rfl) ?_; simp only [Q0f, Tryz.f47, zw])
    (have zz := Bx.mk (j8 ui0 ui3 ui4 ui9 ui22 ui23 ui24 (j9 ui25 ui26 ui55 ui56 ui57 ui58 ui59 Q0q (j9 Q0r @Q1a @Q1b @Q2q @Q3r @Q1h @Q1j @Q1c WLg))); (repeat' (first | exact zc | (with_reducible first | apply And.intro | apply Q0a | apply Q0b | refine Q0c (by decide +kernel) ?_ | intro _) | refine zaY zz.out ?_ | ((first | (with_reducible refine uc (hl _) ?_) | ((with_reducible refine zS (hW _ _ _ _ (by exact zO) (by omega) (by omega) (by omega) (by omega) (by exact zN)) ?_); rintro _ S ⟨rfl, τ1, ⟨f1, n1⟩, rfl⟩; have n1s := n1.symm) | (with_reducible refine uc (Q4l _ (by assumption) _ (by first | assumption | rfl) _) ?_) | (refine Q0d (by exact zK) ?_) | (refine Q0e (by exact zK) ?_)); (try refine zsY zz.out ?_)) | refine zo ?_ | omega | refine ztY zz.out ?_ | fail)); try (all_goals clear zz))
    all_goals exact ⟨_, .refl _, τ1, ⟨f1, n1⟩, rfl⟩
end Go.Proofs.YtjdapkelojdefaaGreatDoor
