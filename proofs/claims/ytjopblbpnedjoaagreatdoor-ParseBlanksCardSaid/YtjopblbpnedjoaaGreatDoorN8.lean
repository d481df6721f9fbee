/- Part 8 of the proof: B20, B21, B22, B23, B24. -/
import Derived.Test.YtjopblbpnedjoaaGreatDoorN7

set_option linter.all false
set_option maxRecDepth 100000
set_option maxHeartbeats 400000
open Nat renaming reduceEqDiff → za, reduceAdd → zb, reduceLeDiff → zc, reduceMul → zd, reduceSub → ze
open Int renaming toNat_zero → zh, reduceToNat → zi, tdiv_eq_ediv_of_nonneg → zj
open Go.V.Sg renaming set_same → zk, set_ne → zl, set_ne' → zm, del_ne → zn, del_ne' → zo
open Option renaming getD_some → zp
open Go.Cert renaming ne_of2 → zq, ne_ob → zr, lk → zs
open Go.V.VCalls renaming mono → zt
open Go.Proofs.Tryz renaming underlying3 → Z3, underlying4 → Z4, underlying9 → Z9, underlying34 → Z34, underlying37 → Z37, underlying50 → Z50, underlying51 → Z51, underlying54 → Z54, underlying87 → Z87, underlying90 → Z90, underlying110 → Z110, underlying166 → Z166, underlying188 → Z188
set_option linter.unusedVariables false
namespace Go.Parse
open Go.V Go.Lex Go.Proofs.YtjopblbpnedjoaaGreatDoor
abbrev Co := By × Int × Bool × Bool
abbrev Se := By × Ex
abbrev It := Int × List Ex
structure Stm where
  k : Int
  t : By
  cols : List Co
  pk : By
  rows : List (List Vl)
  sets : List Se
  items : List It
  join : By
  on : List Ex
  wh : List Ex
  gr : List Ex
  or : List Ex
  desc : Bool
  lim : Int
abbrev stm0 : Stm := ⟨0, [], [], [], [], [], [], [], [], [], [], [], false, -1⟩
def manyL {β : Type} (one : Rd → β × Rd) (sep : By) : Nat → List β → Rd → List β × Rd
  | 0, acc, s => (acc ++ [(one (s.fail 2)).1], (one (s.fail 2)).2.pass [sep])
  | k + 1, acc, s => if (one s).2.has sep then manyL one sep k (acc ++ [(one s).1]) ((one s).2.pass [sep]) else (acc ++ [(one s).1], (one s).2.pass [sep])
abbrev many {β : Type} (one : Rd → β × Rd) (most : Nat) (s : Rd) : List β × Rd := manyL one [44] most [] s
def exp : Pr := (dp 11).ex
def maybeL (w : By) (s : Rd) : List Ex × Rd := if s.has w then ([(exp (s.pass [w])).1], (exp (s.pass [w])).2) else ([], s.pass [w])
def byL (w : By) (s : Rd) : List Ex × Rd := if s.has w then ([((s.pass [w]).must [[66, 89]]).column.1], ((s.pass [w]).must [[66, 89]]).column.2) else ([], s.pass [w])
abbrev wTypes : List By := [[73, 78, 84], [84, 69, 88, 84]]
def coKind (s : Rd) : Int × Rd := if s.is wTypes = -1 then (1, (s.pass wTypes).fail 4) else (if s.is wTypes = 1 then 2 else 1, s.pass wTypes)
def coNull (s : Rd) : Bool × Rd := if s.has [78, 79, 84] then (true, (s.pass [[78, 79, 84]]).must [[78, 85, 76, 76]]) else (false, s.pass [[78, 79, 84]])
def Rd.columnOf (s : Rd) : Co × Rd :=
  (((s.tok 1).2.1, (coKind (s.take 1)).1, (coNull (coKind (s.take 1)).2).1, (coNull (coKind (s.take 1)).2).2.has [85, 78, 73, 81, 85, 69]), (coNull (coKind (s.take 1)).2).2.pass [[85, 78, 73, 81, 85, 69]])
def litV (s : Rd) : Vl × Rd := (s.lit.1, if s.lit.2.1 then s.lit.2.2 else s.lit.2.2.fail 4)
def tupleL (s : Rd) : List Vl × Rd := ((many litV 8 (s.must [[40]])).1, (many litV 8 (s.must [[40]])).2.must [[41]])
def setL (s : Rd) : Se × Rd := (((s.tok 1).2.1, (exp ((s.take 1).must [[61]])).1), (exp ((s.take 1).must [[61]])).2)
abbrev wItems : List By := [[67, 79, 85, 78, 84], [83, 85, 77], [77, 73, 78], [77, 65, 88], [42]]
def itemB (k : Int) (s : Rd) : It × Rd :=
  if 0 < k then ((4 + k, [(exp s).1]), (exp s).2.must [[41]]) else
  if s.has [42] then ((3, []), (s.pass [[42]]).must [[41]]) else
  ((4 + k, [(exp (s.pass [[42]])).1]), (exp (s.pass [[42]])).2.must [[41]])
def itemL (s : Rd) : It × Rd :=
  if s.is wItems < 0 then ((2, [(exp (s.pass wItems)).1]), (exp (s.pass wItems)).2) else
  if s.is wItems = 4 then ((1, []), s.pass wItems) else
  itemB (s.is wItems) ((s.pass wItems).must [[40]])
def colsMore (acc : List Co) (s : Rd) : Bool := decide (s.c = 0) && (decide (acc = []) || !s.has [80, 82, 73, 77, 65, 82, 89])
def colsAt (acc : List Co) (s : Rd) : Rd := if s.c = 0 ∧ acc ≠ [] then s.pass [[80, 82, 73, 77, 65, 82, 89]] else s
def colsL : Nat → List Co → Rd → List Co × Rd
  | 0, acc, s => if colsMore acc s then (acc ++ [((colsAt acc s).fail 2).columnOf.1], ((colsAt acc s).fail 2).columnOf.2.must [[44]]) else (acc, colsAt acc s)
  | k + 1, acc, s => if colsMore acc s then colsL k (acc ++ [(colsAt acc s).columnOf.1]) ((colsAt acc s).columnOf.2.must [[44]]) else (acc, colsAt acc s)
def crA (s : Rd) : Rd := s.must [[84, 65, 66, 76, 69]]
def crB (s : Rd) : Rd := ((crA s).take 1).must [[40]]
def crC (s : Rd) : List Co × Rd := colsL 8 [] (crB s)
def crD (s : Rd) : Rd := (crC s).2.must [[75, 69, 89], [40]]
def createL (s : Rd) : Stm × Rd := ({ stm0 with k := 1, t := ((crA s).tok 1).2.1, cols := (crC s).1, pk := ((crD s).tok 1).2.1 }, ((crD s).take 1).must [[41], [41]])
def dropL (s : Rd) : Stm × Rd := ({ stm0 with k := 2, t := ((s.must [[84, 65, 66, 76, 69]]).tok 1).2.1 }, (s.must [[84, 65, 66, 76, 69]]).take 1)
def inA (s : Rd) : Rd := s.must [[73, 78, 84, 79]]
def inB (s : Rd) : List (List Vl) × Rd := many tupleL 16 (((inA s).take 1).must [[86, 65, 76, 85, 69, 83]])
def insertL (s : Rd) : Stm × Rd := ({ stm0 with k := 3, t := ((inA s).tok 1).2.1, rows := (inB s).1 }, (inB s).2)
def upA (s : Rd) : List Se × Rd := many setL 8 ((s.take 1).must [[83, 69, 84]])
def updateL (s : Rd) : Stm × Rd := ({ stm0 with k := 4, t := (s.tok 1).2.1, sets := (upA s).1, wh := (maybeL [87, 72, 69, 82, 69] (upA s).2).1 }, (maybeL [87, 72, 69, 82, 69] (upA s).2).2)
def removeL (s : Rd) : Stm × Rd := ({ stm0 with k := 5, t := ((s.must [[70, 82, 79, 77]]).tok 1).2.1, wh := (maybeL [87, 72, 69, 82, 69] ((s.must [[70, 82, 79, 77]]).take 1)).1 }, (maybeL [87, 72, 69, 82, 69] ((s.must [[70, 82, 79, 77]]).take 1)).2)
def joinB (s : Rd) : Rd := ((s.pass [[74, 79, 73, 78]]).take 1).must [[79, 78]]
def joinL (s : Rd) : By × List Ex × Rd := if s.has [74, 79, 73, 78] then (((s.pass [[74, 79, 73, 78]]).tok 1).2.1, [(exp (joinB s)).1], (exp (joinB s)).2) else ([], [], s.pass [[74, 79, 73, 78]])
def descL (o : List Ex) (s : Rd) : Bool × Rd := if o = [] then (false, s) else (s.has [68, 69, 83, 67], s.pass [[68, 69, 83, 67]])
def limL (s : Rd) : Int × Rd := if s.has [76, 73, 77, 73, 84] then ((((s.pass [[76, 73, 77, 73, 84]]).tok 3).2.2.1 : Nat), (s.pass [[76, 73, 77, 73, 84]]).take 3) else (-1, s.pass [[76, 73, 77, 73, 84]])
def seA (s : Rd) : List It × Rd := many itemL 8 s
def seB (s : Rd) : Rd := (seA s).2.must [[70, 82, 79, 77]]
def seC (s : Rd) : By × List Ex × Rd := joinL ((seB s).take 1)
def seD (s : Rd) : List Ex × Rd := maybeL [87, 72, 69, 82, 69] (seC s).2.2
def seE (s : Rd) : List Ex × Rd := byL [71, 82, 79, 85, 80] (seD s).2
def seF (s : Rd) : List Ex × Rd := byL [79, 82, 68, 69, 82] (seE s).2
def seG (s : Rd) : Bool × Rd := descL (seF s).1 (seF s).2
def seH (s : Rd) : Int × Rd := limL (seG s).2
def chooseL (s : Rd) : Stm × Rd := ({ stm0 with k := 6, t := ((seB s).tok 1).2.1, items := (seA s).1, join := (seC s).1, on := (seC s).2.1, wh := (seD s).1, gr := (seE s).1, or := (seF s).1, desc := (seG s).1, lim := (seH s).1 }, (seH s).2)
abbrev wKinds : List By := [[67, 82, 69, 65, 84, 69], [68, 82, 79, 80], [73, 78, 83, 69, 82, 84], [85, 80, 68, 65, 84, 69], [68, 69, 76, 69, 84, 69], [83, 69, 76, 69, 67, 84]]
def stateK (k : Int) (s : Rd) : Stm × Rd :=
  if k = -1 then (stm0, s.fail 4) else if k = 0 then createL s else if k = 1 then dropL s else if k = 2 then insertL s else if k = 3 then updateL s else if k = 4 then removeL s else if k = 5 then chooseL s else (stm0, s)
def stateL (s : Rd) : Stm × Rd := stateK (s.is wKinds) (s.pass wKinds)
def scriptT (l : List Tk) : List Stm × Rd := ((manyL stateL [59] 8 [] (rd0 l)).1, (manyL stateL [59] 8 [] (rd0 l)).2.fin)
def scriptR (l : List Tk) : List Stm × Int × Int := if (scriptT l).2.c = 0 then ((scriptT l).1, 0, 0) else ([], (scriptT l).2.c, (scriptT l).2.a)
def scriptAll (b : List UInt8) : List Stm × Int × Int :=
  match lexAll b with
  | .ok l => scriptR l
  | .error (e, a) => ([], (e : Int), a)
def NiceL {β : Type} (F : Rd → β × Rd) : Prop := ∀ s, WF s.l → Ok s (F s).2
theorem ok_many {β : Type} {one : Rd → β × Rd} (h : NiceL one) (sep : By) : ∀ (k : Nat) (acc : List β) (s : Rd), WF s.l → Ok s (manyL one sep k acc s).2
  | 0, acc, s, hw => by
    have o := ok_fail hw 2
    have o2 := o.trans (h _ o.wf)
    exact o2.trans (ok_pass o2.wf)
  | k + 1, acc, s, hw => by
    have o := h s hw
    have o2 := o.trans (ok_pass (ws := [sep]) o.wf)
    unfold manyL
    split
    · exact o2.trans (ok_many h sep k _ _ o2.wf)
    · exact o2
theorem nice_exp : NiceL exp := (dp_nice 11).ex
theorem nice_maybe (w : By) : NiceL (maybeL w) := fun s hw => by
  have o := ok_pass (ws := [w]) hw
  unfold maybeL
  split
  · exact o.trans (nice_exp _ o.wf)
  · exact o
theorem nice_by (w : By) : NiceL (byL w) := fun s hw => by
  have o := ok_pass (ws := [w]) hw
  unfold byL
  split
  · have o2 := o.trans (ok_must [[66, 89]] _ o.wf)
    exact o2.trans (nice_column _ o2.wf)
  · exact o
theorem nice_coKind : NiceL coKind := fun s hw => by
  have o := ok_pass (ws := wTypes) hw
  unfold coKind
  split
  · exact o.trans (ok_fail o.wf 4)
  · exact o
theorem nice_coNull : NiceL coNull := fun s hw => by
  have o := ok_pass (ws := [[78, 79, 84]]) hw
  unfold coNull
  split
  · exact o.trans (ok_must _ _ o.wf)
  · exact o
theorem nice_columnOf : NiceL Rd.columnOf := fun s hw => by
  have o1 := ok_take (k := 1) hw (by decide)
  have o2 := o1.trans (nice_coKind _ o1.wf)
  have o3 := o2.trans (nice_coNull _ o2.wf)
  exact o3.trans (ok_pass o3.wf)
theorem nice_litV : NiceL litV := fun s hw => by
  have o := ok_lit hw
  unfold litV
  split
  · exact o
  · exact o.trans (ok_fail o.wf 4)
theorem nice_tuple : NiceL tupleL := fun s hw => by
  have o := ok_must [[40]] s hw
  have o2 := o.trans (ok_many nice_litV [44] 8 [] _ o.wf)
  exact o2.trans (ok_must _ _ o2.wf)
theorem nice_set : NiceL setL := fun s hw => by
  have o := ok_take (k := 1) hw (by decide)
  have o2 := o.trans (ok_must [[61]] _ o.wf)
  exact o2.trans (nice_exp _ o2.wf)
theorem nice_itemB (k : Int) : NiceL (itemB k) := fun s hw => by
  unfold itemB
  split
  · have o := nice_exp s hw
    exact o.trans (ok_must _ _ o.wf)
  · have o := ok_pass (ws := [[42]]) hw
    split
    · exact o.trans (ok_must _ _ o.wf)
    · have o2 := o.trans (nice_exp _ o.wf)
      exact o2.trans (ok_must _ _ o2.wf)
theorem nice_item : NiceL itemL := fun s hw => by
  have o := ok_pass (ws := wItems) hw
  unfold itemL
  split
  · exact o.trans (nice_exp _ o.wf)
  · split
    · exact o
    · have o2 := o.trans (ok_must [[40]] _ o.wf)
      exact o2.trans (nice_itemB _ _ o2.wf)
theorem ok_colsAt {acc : List Co} {s : Rd} (hw : WF s.l) : Ok s (colsAt acc s) := by
  unfold colsAt
  split
  · exact ok_pass hw
  · exact .refl hw
theorem ok_cols : ∀ (k : Nat) (acc : List Co) (s : Rd), WF s.l → Ok s (colsL k acc s).2
  | 0, acc, s, hw => by
    have o := ok_colsAt (acc := acc) hw
    have o2 := o.trans (ok_fail o.wf 2)
    have o3 := o2.trans (nice_columnOf _ o2.wf)
    unfold colsL
    split
    · exact o3.trans (ok_must _ _ o3.wf)
    · exact o
  | k + 1, acc, s, hw => by
    have o := ok_colsAt (acc := acc) hw
    have o3 := o.trans (nice_columnOf _ o.wf)
    have o4 := o3.trans (ok_must [[44]] _ o3.wf)
    unfold colsL
    split
    · exact o4.trans (ok_cols k _ _ o4.wf)
    · exact o
theorem ok_crA {s : Rd} (hw : WF s.l) : Ok s (crA s) := ok_must _ _ hw
theorem ok_crB {s : Rd} (hw : WF s.l) : Ok s (crB s) := by
  have o := ok_crA hw
  have o2 := o.trans (ok_take (k := 1) o.wf (by decide))
  exact o2.trans (ok_must _ _ o2.wf)
theorem ok_crC {s : Rd} (hw : WF s.l) : Ok s (crC s).2 := (ok_crB hw).trans (ok_cols _ _ _ (ok_crB hw).wf)
theorem ok_crD {s : Rd} (hw : WF s.l) : Ok s (crD s) := (ok_crC hw).trans (ok_must _ _ (ok_crC hw).wf)
theorem nice_create : NiceL createL := fun s hw => by
  have o := ok_crD hw
  have o2 := o.trans (ok_take (k := 1) o.wf (by decide))
  exact o2.trans (ok_must _ _ o2.wf)
theorem nice_drop : NiceL dropL := fun s hw => by
  have o := ok_must [[84, 65, 66, 76, 69]] s hw
  exact o.trans (ok_take (k := 1) o.wf (by decide))
theorem ok_inB {s : Rd} (hw : WF s.l) : Ok s (inB s).2 := by
  have o := ok_must [[73, 78, 84, 79]] s hw
  have o2 := o.trans (ok_take (k := 1) o.wf (by decide))
  have o3 := o2.trans (ok_must [[86, 65, 76, 85, 69, 83]] _ o2.wf)
  exact o3.trans (ok_many nice_tuple _ _ _ _ o3.wf)
theorem nice_insert : NiceL insertL := fun s hw => ok_inB hw
theorem ok_upA {s : Rd} (hw : WF s.l) : Ok s (upA s).2 := by
  have o2 := ok_take (k := 1) hw (by decide)
  have o3 := o2.trans (ok_must [[83, 69, 84]] _ o2.wf)
  exact o3.trans (ok_many nice_set _ _ _ _ o3.wf)
theorem nice_update : NiceL updateL := fun s hw => (ok_upA hw).trans (nice_maybe _ _ (ok_upA hw).wf)
theorem nice_remove : NiceL removeL := fun s hw => by
  have o := ok_must [[70, 82, 79, 77]] s hw
  have o2 := o.trans (ok_take (k := 1) o.wf (by decide))
  exact o2.trans (nice_maybe _ _ o2.wf)
theorem ok_joinB {s : Rd} (hw : WF s.l) : Ok s (joinB s) := by
  have o := ok_pass (ws := [[74, 79, 73, 78]]) hw
  have o2 := o.trans (ok_take (k := 1) o.wf (by decide))
  exact o2.trans (ok_must _ _ o2.wf)
theorem ok_join {s : Rd} (hw : WF s.l) : Ok s (joinL s).2.2 := by
  unfold joinL
  split
  · exact (ok_joinB hw).trans (nice_exp _ (ok_joinB hw).wf)
  · exact ok_pass hw
theorem nice_desc (o : List Ex) : NiceL (descL o) := fun s hw => by
  unfold descL
  split
  · exact .refl hw
  · exact ok_pass hw
theorem nice_lim : NiceL limL := fun s hw => by
  have o := ok_pass (ws := [[76, 73, 77, 73, 84]]) hw
  unfold limL
  split
  · exact o.trans (ok_take o.wf (by decide))
  · exact o
theorem ok_seA {s : Rd} (hw : WF s.l) : Ok s (seA s).2 := ok_many nice_item _ _ _ _ hw
theorem ok_seB {s : Rd} (hw : WF s.l) : Ok s (seB s) := (ok_seA hw).trans (ok_must _ _ (ok_seA hw).wf)
theorem ok_seC {s : Rd} (hw : WF s.l) : Ok s (seC s).2.2 := by
  have o := (ok_seB hw).trans (ok_take (k := 1) (ok_seB hw).wf (by decide))
  exact o.trans (ok_join o.wf)
theorem ok_seD {s : Rd} (hw : WF s.l) : Ok s (seD s).2 := (ok_seC hw).trans (nice_maybe _ _ (ok_seC hw).wf)
theorem ok_seE {s : Rd} (hw : WF s.l) : Ok s (seE s).2 := (ok_seD hw).trans (nice_by _ _ (ok_seD hw).wf)
theorem ok_seF {s : Rd} (hw : WF s.l) : Ok s (seF s).2 := (ok_seE hw).trans (nice_by _ _ (ok_seE hw).wf)
theorem ok_seG {s : Rd} (hw : WF s.l) : Ok s (seG s).2 := (ok_seF hw).trans (nice_desc _ _ (ok_seF hw).wf)
theorem ok_seH {s : Rd} (hw : WF s.l) : Ok s (seH s).2 := (ok_seG hw).trans (nice_lim _ (ok_seG hw).wf)
theorem nice_choose : NiceL chooseL := fun s hw => ok_seH hw
theorem nice_stateK (k : Int) : NiceL (stateK k) := fun s hw => by
  unfold stateK
  repeat' split
  · exact ok_fail hw 4
  · exact nice_create s hw
  · exact nice_drop s hw
  · exact nice_insert s hw
  · exact nice_update s hw
  · exact nice_remove s hw
  · exact nice_choose s hw
  · exact .refl hw
theorem nice_state : NiceL stateL := fun s hw => by
  have o := ok_pass (ws := wKinds) hw
  exact o.trans (nice_stateK _ _ o.wf)
structure Gd (s : Rd) : Prop where
  wf : WF s.l
  d : s.d = 0
theorem Gd.ok {s s' : Rd} (h : Gd s) (o : Ok s s') : Gd s' := ⟨o.wf, o.d.trans h.d⟩
theorem gd_must {s : Rd} {ws : List By} (h : Gd s) : Gd (s.must ws) := h.ok (ok_must ws s h.wf)
theorem gd_fail {s : Rd} {e : Int} (h : Gd s) : Gd (s.fail e) := h.ok (ok_fail h.wf e)
theorem gd_pass {s : Rd} {ws : List By} (h : Gd s) : Gd (s.pass ws) := h.ok (ok_pass h.wf)
theorem gd_take {s : Rd} {k : Nat} (hk : k ≠ 6) (h : Gd s) : Gd (s.take k) := h.ok (ok_take h.wf hk)
theorem gd_exp {s : Rd} (h : Gd s) : Gd (exp s).2 := h.ok (nice_exp s h.wf)
theorem gd_column {s : Rd} (h : Gd s) : Gd s.column.2 := h.ok (nice_column s h.wf)
theorem gd_lit {s : Rd} (h : Gd s) : Gd s.lit.2.2 := h.ok (ok_lit h.wf)
theorem gd_of {β : Type} {F : Rd → β × Rd} (hF : NiceL F) {s : Rd} (h : Gd s) : Gd (F s).2 := h.ok (hF s h.wf)
theorem gd_many {β : Type} {F : Rd → β × Rd} (hF : NiceL F) {sep : By} {k : Nat} {acc : List β} {s : Rd} (h : Gd s) : Gd (manyL F sep k acc s).2 := h.ok (ok_many hF sep k acc s h.wf)
theorem has_pass {s : Rd} {w : By} (h : s.has w = false) : s.pass [w] = s := by rw [pass1, h]; rfl
end Go.Parse

set_option linter.unusedSimpArgs false
set_option linter.unusedVariables false
namespace Go.Proofs.YtjopblbpnedjoaaGreatDoor
open Go Go.V Go.Lex Go.Parse
variable (ρ : Nat) (s : Rd)
theorem c13 (w : By) (σ : Sg) (hρ : σ ρ = some (rdA s)) (hg : Gd s) : VCalls Tryz.prog 50 [.ref ρ 0, .s (bs w)] σ (fun x σ' => x = .b (s.has w) ∧ σ' = σ.set ρ (rdA (s.pass [w]))) := by
  rw [pass1]; exact p13 ρ s w σ hρ hg.wf.pos
theorem c14 (e : Int) (σ : Sg) (hρ : σ ρ = some (rdA s)) (hg : Gd s) : VCalls Tryz.prog 51 [.ref ρ 0, .i e] σ (fun x σ' => x = .tup [] ∧ σ' = σ.set ρ (rdA (s.fail e))) := p14 ρ s e σ hρ hg.wf.pos
theorem c20 (σ : Sg) (hρ : σ ρ = some (rdA s)) : VCalls Tryz.prog 112 [.ref ρ 0] σ (fun x σ' => x = .b (decide (s.c = 0)) ∧ σ' = σ) := p20 ρ s σ hρ
theorem c22 (o : Own) (ws : List By) (es : List (List AV)) (σ : Sg) (he : es = strs ws) (hρ : σ ρ = some (rdA s)) (hg : Gd s) (hw : ws.length < 2 ^ 60) : VCalls Tryz.prog 111 [.ref ρ 0, .sl o es] σ (fun x σ' => x = .i (s.is ws) ∧ σ' = σ.set ρ (rdA (s.pass ws))) := p22 ρ s o ws es σ he hρ hg.wf.pos hw
theorem c41 (o : Own) (ws : List By) (es : List (List AV)) (σ : Sg) (he : es = strs ws) (hρ : σ ρ = some (rdA s)) (hg : Gd s) (hw : ws.length < 2 ^ 60) : VCalls Tryz.prog 198 [.ref ρ 0, .sl o es] σ (fun x σ' => x = .tup [] ∧ σ' = σ.set ρ (rdA (s.must ws))) := p41 ρ s o ws es σ he hρ hg.wf hw
theorem c42 (σ : Sg) (hρ : σ ρ = some (rdA s)) (hg : Gd s) : VCalls Tryz.prog 199 [.ref ρ 0] σ (fun x σ' => x = .s (bs (s.tok 1).2.1) ∧ σ' = σ.set ρ (rdA (s.take 1))) := p42 ρ s σ hρ hg.wf.pos
theorem c52 (σ : Sg) (hρ : σ ρ = some (rdA s)) (hg : Gd s) : VCalls Tryz.prog 209 [.ref ρ 0, .i 3] σ (fun x σ' => x = .agg [.i (s.tok 3).1, .s (bs (s.tok 3).2.1), .i (s.tok 3).2.2.1, .i (s.tok 3).2.2.2] ∧ σ' = σ.set ρ (rdA (s.take 3))) := p52 ρ s 3 σ hρ hg.wf.pos
theorem c67 (σ : Sg) (hρ : σ ρ = some (rdA s)) (hg : Gd s) : VCalls Tryz.prog 266 [.ref ρ 0] σ (fun x σ' => x = .tup [.agg [.i s.lit.1.1, .i s.lit.1.2.1, .s (bs s.lit.1.2.2)], .b s.lit.2.1] ∧ σ' = σ.set ρ (rdA s.lit.2.2)) := p67 ρ s σ hρ hg.wf
theorem c68 (σ : Sg) (hρ : σ ρ = some (rdA s)) (hg : Gd s) : VCalls Tryz.prog 267 [.ref ρ 0] σ (fun x σ' => x = .agg (exA s.column.1) ∧ σ' = σ.set ρ (rdA s.column.2)) := p68 ρ s σ hρ hg.wf
theorem c10 (σ : Sg) (hρ : σ ρ = some (rdA s)) (hg : Gd s) : VCalls Tryz.prog 54 [.ref ρ 0] σ (fun x σ' => x = .agg (exA (exp s).1) ∧ σ' = σ.set ρ (rdA (exp s).2)) := (qRD 11 0 (by decide) (by decide) (by decide)).ex ρ s σ hρ hg.wf hg.d
def coA (c : Co) : List AV := [.s (bs c.1), .i c.2.1, .b c.2.2.1, .b c.2.2.2]
theorem zero75 : ∃ z, tInfo Tryz.prog 76 = some (some z, 4, 32) ∧ ofValue z = .agg [.s (bs []), .i 0, .b false, .b false] := ⟨_, info76, by rfl⟩
theorem c43 (σ : Sg) (hρ : σ ρ = some (rdA s)) (hg : Gd s) : VCalls Tryz.prog 200 [.ref ρ 0] σ (fun x σ' => x = .agg (coA s.columnOf.1) ∧ σ' = σ.set ρ (rdA s.columnOf.2)) := by
  obtain ⟨z75, h75, hz75⟩ := zero75
  (refine vfun (fun _ => .no) mixed Tryz.func200 (by kernel_rfl) ?_; simp only [bodyOf, Tryz.f200, zp])
  repeat' (first | with_reducible rfl | exact .inr trivial | (with_reducible first | apply And.intro | apply vqx_step | apply vqm_step | refine vkp_free (by decide +kernel) ?_ | intro _) | ((first | (with_reducible first | refine .rs ?_ | refine .ds (by kernel_rfl) ?_ | refine .dg (by kernel_rfl) ?_ | refine .rg ?_ | refine .ite ?_ | refine .ret ?_ | refine .skip ?_ | refine .exit ?_ | refine .scope ?_ | refine .seq (.label ?_) | refine .block ?_ | refine .seq ?_) | (simp (disch := first | assumption | (apply zq; assumption; assumption) | (apply zr; assumption; assumption; (intro e; cases e; done)) | omega) only [w64, w8, tg_eq, Go.V.n1, Go.V.n2, Go.V.nn, zj, zk, zl, zm, zn, zo]) | ((with_reducible refine zt (c42 _ _ _ (by first | assumption | ((simp (disch := first | assumption | (apply zq; assumption; assumption) | (apply zr; assumption; assumption; (intro e; cases e; done)) | omega) only [zk, zl, zm, zn, zo]); first | done | rfl | assumption)) (by repeat' (first | assumption | refine gd_must ?_ | refine gd_fail ?_ | refine gd_pass ?_ | refine gd_take (by decide) ?_ | refine gd_exp ?_ | refine gd_column ?_ | refine gd_lit ?_ | refine gd_of (by assumption) ?_ | refine gd_many (by assumption) ?_))) ?_); rintro _ S ⟨rfl, rfl⟩) | ((with_reducible refine zt (c22 _ _ _ [[73, 78, 84], [84, 69, 88, 84]] _ _ (by with_unfolding_all rfl) (by first | assumption | ((simp (disch := first | assumption | (apply zq; assumption; assumption) | (apply zr; assumption; assumption; (intro e; cases e; done)) | omega) only [zk, zl, zm, zn, zo]); first | done | rfl | assumption)) (by repeat' (first | assumption | refine gd_must ?_ | refine gd_fail ?_ | refine gd_pass ?_ | refine gd_take (by decide) ?_ | refine gd_exp ?_ | refine gd_column ?_ | refine gd_lit ?_ | refine gd_of (by assumption) ?_ | refine gd_many (by assumption) ?_)) (by decide)) ?_); rintro _ S ⟨rfl, rfl⟩) | ((with_reducible refine zt (c14 _ _ _ _ (by first | assumption | ((simp (disch := first | assumption | (apply zq; assumption; assumption) | (apply zr; assumption; assumption; (intro e; cases e; done)) | omega) only [zk, zl, zm, zn, zo]); first | done | rfl | assumption)) (by repeat' (first | assumption | refine gd_must ?_ | refine gd_fail ?_ | refine gd_pass ?_ | refine gd_take (by decide) ?_ | refine gd_exp ?_ | refine gd_column ?_ | refine gd_lit ?_ | refine gd_of (by assumption) ?_ | refine gd_many (by assumption) ?_))) ?_); rintro _ S ⟨rfl, rfl⟩) | ((with_reducible refine zt (c13 _ _ [78, 79, 84] _ (by first | assumption | ((simp (disch := first | assumption | (apply zq; assumption; assumption) | (apply zr; assumption; assumption; (intro e; cases e; done)) | omega) only [zk, zl, zm, zn, zo]); first | done | rfl | assumption)) (by repeat' (first | assumption | refine gd_must ?_ | refine gd_fail ?_ | refine gd_pass ?_ | refine gd_take (by decide) ?_ | refine gd_exp ?_ | refine gd_column ?_ | refine gd_lit ?_ | refine gd_of (by assumption) ?_ | refine gd_many (by assumption) ?_))) ?_); rintro _ S ⟨rfl, rfl⟩) | ((with_reducible refine zt (c13 _ _ [85, 78, 73, 81, 85, 69] _ (by first | assumption | ((simp (disch := first | assumption | (apply zq; assumption; assumption) | (apply zr; assumption; assumption; (intro e; cases e; done)) | omega) only [zk, zl, zm, zn, zo]); first | done | rfl | assumption)) (by repeat' (first | assumption | refine gd_must ?_ | refine gd_fail ?_ | refine gd_pass ?_ | refine gd_take (by decide) ?_ | refine gd_exp ?_ | refine gd_column ?_ | refine gd_lit ?_ | refine gd_of (by assumption) ?_ | refine gd_many (by assumption) ?_))) ?_); rintro _ S ⟨rfl, rfl⟩) | ((with_reducible refine zt (c41 _ _ _ [[78, 85, 76, 76]] _ _ (by with_unfolding_all rfl) (by first | assumption | ((simp (disch := first | assumption | (apply zq; assumption; assumption) | (apply zr; assumption; assumption; (intro e; cases e; done)) | omega) only [zk, zl, zm, zn, zo]); first | done | rfl | assumption)) (by repeat' (first | assumption | refine gd_must ?_ | refine gd_fail ?_ | refine gd_pass ?_ | refine gd_take (by decide) ?_ | refine gd_exp ?_ | refine gd_column ?_ | refine gd_lit ?_ | refine gd_of (by assumption) ?_ | refine gd_many (by assumption) ?_)) (by decide)) ?_); rintro _ S ⟨rfl, rfl⟩) | (refine vlo_app zs ?_) | (refine vst_app zs ?_)); (try simp only [vO, vQ, ↓vP, vE, vS, vB, vL, vF, vM, vN, vbs_full, za, zb, zc, ne_eq, not_false_eq_true, zd, ze, zh, zi, Z3, info3, Z4, info4, Z9, info9, Tryz.underlying76, h75, hz75, Z87, info87, vT])) | (with_reducible first | refine vfresh_set ?_ | refine vfresh_intro (fun _ _ => ?_) | refine vif_intro (fun _ => ?_) (fun _ => ?_)) | omega | ((with_reducible first | refine vop_at ?_ | refine vops_at ?_ | refine vquiet_at ?_ | refine vmix_at ?_ | refine Holds_at ?_); simp only [vO, vQ, ↓vP, vE, vS, vB, vL, vF, vM, vN, vbs_full, za, zb, zc, ne_eq, not_false_eq_true, zd, ze, zh, zi, Z3, info3, Z4, info4, Z9, info9, Tryz.underlying76, h75, hz75, Z87, info87, vT]))
  all_goals (try simp only [Rd.columnOf, coKind, coNull, coA, wTypes, *, ↓reduceIte, if_true, if_false, not_true_eq_false, not_false_eq_true, Bool.false_eq_true, Bool.not_eq_true, Bool.true_eq_false, true_and, Int.reduceEq, Int.reduceNeg, Int.reduceLT, Int.reduceLE, Int.reduceAdd])
  all_goals (first | ((first | refine ⟨_, ?_, rfl⟩ | refine ⟨_, ?_, rfl, rfl⟩ | refine ⟨_, ?_⟩); (first | exact Sg.sub.refl _ | ((repeat (first | exact Sg.sub.refl _ | refine Sg.sub.set_both ?_ | refine Sg.sub.set_fresh ?_ (by first | assumption | exact Sg.set_none (by assumption) (by first | assumption | (apply Go.Cert.ne_of2a; assumption; assumption))))); done) | (intro y p hy; simp only [Sg.set_apply, Sg.del_apply] at hy ⊢; grind))) | (exfalso; omega))
end Go.Proofs.YtjopblbpnedjoaaGreatDoor

set_option linter.unusedSimpArgs false
set_option linter.unusedVariables false
namespace Go.Proofs.YtjopblbpnedjoaaGreatDoor
open Go Go.V Go.Lex Go.Parse
theorem manyL_yes {β : Type} {one : Rd → β × Rd} {sep : By} {k : Nat} {acc : List β} {s : Rd} (h : (one s).2.has sep = true) : manyL one sep (k + 1) acc s = manyL one sep k (acc ++ [(one s).1]) ((one s).2.pass [sep]) := by
  rw [manyL, if_pos h]
theorem manyL_no {β : Type} {one : Rd → β × Rd} {sep : By} {k : Nat} {acc : List β} {s : Rd} (h : ¬ (one s).2.has sep = true) : manyL one sep (k + 1) acc s = (acc ++ [(one s).1], (one s).2.pass [sep]) := by
  rw [manyL, if_neg h]
theorem bad_has {s : Rd} {w : By} (h : s.c ≠ 0) : s.has w = false := by
  unfold Rd.has
  refine decide_eq_false (fun hk => h (is_pos hk).1)
structure Ones {β : Type} (f : FuncId) (cap : List AV) (one : Rd → β × Rd) (ρ : Nat) (store : Nat → List β → Rd → Sg) (good : Nat → List β → Prop) : Prop where
  nice : NiceL one
  at0 : ∀ τ acc s, good τ acc → store τ acc s ρ = some (rdA s)
  set : ∀ τ acc s s', good τ acc → (store τ acc s).set ρ (rdA s') = store τ acc s'
  one : ∀ τ acc s, good τ acc → Gd s → acc.length ≤ 16 → VCalls Tryz.prog f cap (store τ acc s) (fun x σ' => x = .tup [] ∧ ∃ τ', good τ' (acc ++ [(one s).1]) ∧ σ' = store τ' (acc ++ [(one s).1]) (one s).2)
theorem c44 {β : Type} {f : FuncId} {cap : List AV} {one : Rd → β × Rd} {ρ : Nat} {store : Nat → List β → Rd → Sg} {good : Nat → List β → Prop} (H : Ones f cap one ρ store good) (most : Nat) (hm : most ≤ 16) (τ0 : Nat) (s : Rd) (hg0 : good τ0 []) (hs : Gd s) :
    VCalls Tryz.prog 201 [.ref ρ 0, .i most, .fn f cap] (store τ0 [] s) (fun x σ' => x = .tup [] ∧ ∃ τ', good τ' (many one most s).1 ∧ σ' = store τ' (many one most s).1 (many one most s).2) := by
  have h14 := fun τ acc s (hg : good τ acc) (hs : Gd s) => c14 ρ s 2 (store τ acc s) (H.at0 τ acc s hg) hs
  have h13 := fun τ acc s (hg : good τ acc) (hs : Gd s) => c13 ρ s [44] (store τ acc s) (H.at0 τ acc s hg) hs
  (refine vfun (fun _ => .no) mixed Tryz.func201 (by kernel_rfl) ?_; simp only [bodyOf, Tryz.f201, zp])
  repeat' (first | with_reducible rfl | exact .inr trivial | (with_reducible first | apply And.intro | apply vqx_step | apply vqm_step | refine vkp_free (by decide +kernel) ?_ | intro _) | ((first | (with_reducible first | refine .rs ?_ | refine .ds (by kernel_rfl) ?_ | refine .dg (by kernel_rfl) ?_ | refine .rg ?_ | refine .ite ?_ | refine .ret ?_ | refine .skip ?_ | refine .exit ?_ | refine .scope ?_ | refine .seq (.label ?_) | refine .block ?_ | refine .seq ?_) | (simp (disch := first | assumption | (apply zq; assumption; assumption) | (apply zr; assumption; assumption; (intro e; cases e; done)) | omega) only [w64, w8, tg_eq, Go.V.n1, Go.V.n2, Go.V.nn, zj, zk, zl, zm, zn, zo])); (try simp only [vO, vQ, ↓vP, vE, vS, vB, vL, vF, vM, vN, vbs_full, za, zb, zc, ne_eq, not_false_eq_true, zd, ze, zh, zi, Z3, info3, Z9, info9, vT])) | (with_reducible first | refine vfresh_set ?_ | refine vfresh_intro (fun _ _ => ?_) | refine vif_intro (fun _ => ?_) (fun _ => ?_)) | omega | ((with_reducible first | refine vop_at ?_ | refine vops_at ?_ | refine vquiet_at ?_ | refine vmix_at ?_ | refine Holds_at ?_); simp only [vO, vQ, ↓vP, vE, vS, vB, vL, vF, vM, vN, vbs_full, za, zb, zc, ne_eq, not_false_eq_true, zd, ze, zh, zi, Z3, info3, Z9, info9, vT]))
  refine VW.loop3 ([] : List β) s τ0 (fun acc s' τ => acc.length ≤ most ∧ manyL one [44] (most - acc.length) acc s' = many one most s ∧ Gd s' ∧ good τ acc) (fun acc _ _ => [(0, .ref ρ 0), (1, .i most), (2, .fn f cap), (6, .i acc.length)]) (fun acc s' τ => store τ acc s') (fun acc _ _ => most - acc.length) ⟨by simp, by simp, hs, hg0⟩ (.refl _) ?_ ?_
  · simp only [vO, vQ, ↓vP, vE, vS, vB, vL, vF, vM, vN, vbs_full, za, zb, zc, ne_eq, not_false_eq_true, zd, ze, zh, zi, vT]
    all_goals rfl
  rintro acc s' τ ⟨h1, h2, h3, h4⟩
  have hN := H.nice
  by_cases hk : acc.length = most
  · have k14 := h14 τ acc s' h4 h3
    rw [H.set _ _ _ _ h4] at k14
    have g1 := gd_fail (e := 2) h3
    have k1 := H.one τ acc (s'.fail 2) h4 g1 (by omega)
    have g2 : Gd (one (s'.fail 2)).2 := gd_of hN g1
    have k13 := fun τ' hg' => h13 τ' (acc ++ [(one (s'.fail 2)).1]) (one (s'.fail 2)).2 hg' g2
    have hb : (one (s'.fail 2)).2.has [44] = false := by
      refine bad_has ?_
      have := fail_c (s := s') (e := 2) (by decide)
      rw [((hN _ g1.wf).c this).1]
      exact this
    simp only [hb] at k13
    have hr : many one most s = (acc ++ [(one (s'.fail 2)).1], (one (s'.fail 2)).2.pass [[44]]) := by
      rw [← h2, hk, Nat.sub_self]; rfl
    rw [hr]
    generalize acc ++ [(one (s'.fail 2)).1] = acc2 at *
    generalize (one (s'.fail 2)).2 = s2 at *
    generalize s2.pass [[44]] = s3 at *
    repeat' (first | with_reducible rfl | exact .inr trivial | (with_reducible first | apply And.intro | apply vqx_step | apply vqm_step | refine vkp_free (by decide +kernel) ?_ | intro _) | ((first | (with_reducible first | refine .rs ?_ | refine .ds (by kernel_rfl) ?_ | refine .dg (by kernel_rfl) ?_ | refine .rg ?_ | refine .ite ?_ | refine .ret ?_ | refine .skip ?_ | refine .exit ?_ | refine .scope ?_ | refine .seq (.label ?_) | refine .block ?_ | refine .seq ?_) | (simp (disch := first | assumption | (apply zq; assumption; assumption) | (apply zr; assumption; assumption; (intro e; cases e; done)) | omega) only [w64, w8, tg_eq, Go.V.n1, Go.V.n2, Go.V.nn, zj, zk, zl, zm, zn, zo]) | ((with_reducible refine zt k14 ?_); rintro _ S ⟨rfl, rfl⟩) | ((with_reducible refine zt k1 ?_); rintro _ S ⟨rfl, τ', hg', rfl⟩) | ((with_reducible refine zt (k13 _ (by assumption)) ?_); rintro _ S ⟨rfl, rfl⟩)); (try simp only [vO, vQ, ↓vP, vE, vS, vB, vL, vF, vM, vN, vbs_full, za, zb, zc, ne_eq, not_false_eq_true, zd, ze, zh, zi, Z3, info3, Z9, info9, hk, vT])) | (with_reducible first | refine vfresh_set ?_ | refine vfresh_intro (fun _ _ => ?_) | refine vif_intro (fun _ => ?_) (fun _ => ?_)) | omega | ((with_reducible first | refine vop_at ?_ | refine vops_at ?_ | refine vquiet_at ?_ | refine vmix_at ?_ | refine Holds_at ?_); simp only [vO, vQ, ↓vP, vE, vS, vB, vL, vF, vM, vN, vbs_full, za, zb, zc, ne_eq, not_false_eq_true, zd, ze, zh, zi, Z3, info3, Z9, info9, hk, vT]))
    rw [H.set _ _ _ _ hg']
    exact ⟨_, .refl _, τ', hg', rfl⟩

  · have k1 := H.one τ acc s' h4 h3 (by omega)
    have g2 : Gd (one s').2 := gd_of hN h3
    have k13 := fun τ' hg' => h13 τ' (acc ++ [(one s').1]) (one s').2 hg' g2
    obtain ⟨k, hk2⟩ : ∃ k, most - acc.length = k + 1 := ⟨most - acc.length - 1, by omega⟩
    rw [hk2] at h2
    have hl : (acc ++ [(one s').1]).length = acc.length + 1 := by simp
    by_cases hb : (one s').2.has [44] = true
    · rw [manyL_yes hb] at h2
      simp only [hb] at k13
      generalize acc ++ [(one s').1] = acc2 at *
      generalize (one s').2 = s2 at *
      repeat' (first | with_reducible rfl | exact .inr trivial | (with_reducible first | apply And.intro | apply vqx_step | apply vqm_step | refine vkp_free (by decide +kernel) ?_ | intro _) | ((first | (with_reducible first | refine .rs ?_ | refine .ds (by kernel_rfl) ?_ | refine .dg (by kernel_rfl) ?_ | refine .rg ?_ | refine .ite ?_ | refine .ret ?_ | refine .skip ?_ | refine .exit ?_ | refine .scope ?_ | refine .seq (.label ?_) | refine .block ?_ | refine .seq ?_) | (simp (disch := first | assumption | (apply zq; assumption; assumption) | (apply zr; assumption; assumption; (intro e; cases e; done)) | omega) only [w64, w8, tg_eq, Go.V.n1, Go.V.n2, Go.V.nn, zj, zk, zl, zm, zn, zo]) | ((with_reducible refine zt k1 ?_); rintro _ S ⟨rfl, τ', hg', rfl⟩) | ((with_reducible refine zt (k13 _ (by assumption)) ?_); rintro _ S ⟨rfl, rfl⟩)); (try simp only [vO, vQ, ↓vP, vE, vS, vB, vL, vF, vM, vN, vbs_full, za, zb, zc, ne_eq, not_false_eq_true, zd, ze, zh, zi, Z3, info3, Z9, info9, hk, vT])) | (with_reducible first | refine vfresh_set ?_ | refine vfresh_intro (fun _ _ => ?_) | refine vif_intro (fun _ => ?_) (fun _ => ?_)) | omega | ((with_reducible first | refine vop_at ?_ | refine vops_at ?_ | refine vquiet_at ?_ | refine vmix_at ?_ | refine Holds_at ?_); simp only [vO, vQ, ↓vP, vE, vS, vB, vL, vF, vM, vN, vbs_full, za, zb, zc, ne_eq, not_false_eq_true, zd, ze, zh, zi, Z3, info3, Z9, info9, hk, vT]))
      rw [H.set _ _ _ _ hg']
      exact ⟨acc2, s2.pass [[44]], τ', ⟨⟨by omega, by rw [show most - acc2.length = k by omega]; exact h2, gd_pass g2, hg'⟩, by omega⟩, .refl _, by rw [hl]; rfl⟩

    · rw [manyL_no hb] at h2
      rw [← h2]
      simp only [hb] at k13
      generalize acc ++ [(one s').1] = acc2 at *
      generalize (one s').2 = s2 at *
      repeat' (first | with_reducible rfl | exact .inr trivial | (with_reducible first | apply And.intro | apply vqx_step | apply vqm_step | refine vkp_free (by decide +kernel) ?_ | intro _) | ((first | (with_reducible first | refine .rs ?_ | refine .ds (by kernel_rfl) ?_ | refine .dg (by kernel_rfl) ?_ | refine .rg ?_ | refine .ite ?_ | refine .ret ?_ | refine .skip ?_ | refine .exit ?_ | refine .scope ?_ | refine .seq (.label ?_) | refine .block ?_ | refine .seq ?_) | (simp (disch := first | assumption | (apply zq; assumption; assumption) | (apply zr; assumption; assumption; (intro e; cases e; done)) | omega) only [w64, w8, tg_eq, Go.V.n1, Go.V.n2, Go.V.nn, zj, zk, zl, zm, zn, zo]) | ((with_reducible refine zt k1 ?_); rintro _ S ⟨rfl, τ', hg', rfl⟩) | ((with_reducible refine zt (k13 _ (by assumption)) ?_); rintro _ S ⟨rfl, rfl⟩)); (try simp only [vO, vQ, ↓vP, vE, vS, vB, vL, vF, vM, vN, vbs_full, za, zb, zc, ne_eq, not_false_eq_true, zd, ze, zh, zi, Z3, info3, Z9, info9, hk, vT])) | (with_reducible first | refine vfresh_set ?_ | refine vfresh_intro (fun _ _ => ?_) | refine vif_intro (fun _ => ?_) (fun _ => ?_)) | omega | ((with_reducible first | refine vop_at ?_ | refine vops_at ?_ | refine vquiet_at ?_ | refine vmix_at ?_ | refine Holds_at ?_); simp only [vO, vQ, ↓vP, vE, vS, vB, vL, vF, vM, vN, vbs_full, za, zb, zc, ne_eq, not_false_eq_true, zd, ze, zh, zi, Z3, info3, Z9, info9, hk, vT]))
      rw [H.set _ _ _ _ hg']
      exact ⟨_, .refl _, τ', hg', rfl⟩

end Go.Proofs.YtjopblbpnedjoaaGreatDoor

set_option linter.unusedSimpArgs false
set_option linter.unusedVariables false
namespace Go.Proofs.YtjopblbpnedjoaaGreatDoor
open Go Go.V Go.Lex Go.Parse
def valA (v : Vl) : List AV := [.i v.1, .i v.2.1, .s (bs v.2.2)]
def valsA (l : List Vl) : List (List AV) := l.map valA
def grow (τ sz n : Nat) : Own := if n = 0 then .nil else .tok τ sz
def tset (σ : Sg) (τ n : Nat) (t : TypeId) : Sg := if n = 0 then σ else σ.set τ (.tok (some t))
theorem grow1 {τ sz n : Nat} : grow τ sz (n + 1) = .tok τ sz := by unfold grow; rw [if_neg (by omega)]
theorem tset1 {σ : Sg} {τ n : Nat} {t : TypeId} : tset σ τ (n + 1) t = σ.set τ (.tok (some t)) := by unfold tset; rw [if_neg (by omega)]
theorem many_len {β : Type} {one : Rd → β × Rd} {sep : By} : ∀ (k : Nat) (acc : List β) (s : Rd), acc.length < (manyL one sep k acc s).1.length ∧ (manyL one sep k acc s).1.length ≤ acc.length + k + 1
  | 0, acc, s => by simp [manyL]
  | k + 1, acc, s => by
    unfold manyL
    split
    · have := many_len (one := one) (sep := sep) k (acc ++ [(one s).1]) ((one s).2.pass [sep])
      simp only [List.length_append, List.length_cons, List.length_nil] at this
      omega
    · simp only [List.length_append, List.length_cons, List.length_nil]
      omega
theorem many_ne {β : Type} {one : Rd → β × Rd} {sep : By} {k : Nat} {s : Rd} : (manyL one sep k [] s).1 ≠ [] := fun h => by
  have := (many_len (one := one) (sep := sep) k [] s).1
  rw [h] at this
  cases this
structure Gr (β : Type) where
  C : Own → List (List AV) → Ob
  A : β → List AV
  sz : Nat
  t : TypeId
variable {β : Type}
def stG (G : Gr β) (σ : Sg) (ρ ω : Nat) (τ : Nat) (acc : List β) (s : Rd) : Sg := tset ((σ.set ω (G.C (grow τ G.sz acc.length) (acc.map G.A))).set ρ (rdA s)) τ acc.length G.t
def okG (σ : Sg) (ρ ω : Nat) (τ : Nat) (acc : List β) : Prop := acc ≠ [] → σ τ = none ∧ τ ≠ ρ ∧ τ ≠ ω
theorem stG_nil {G : Gr β} {σ : Sg} {ρ ω τ : Nat} {s : Rd} : stG G σ ρ ω τ [] s = (σ.set ω (G.C .nil [])).set ρ (rdA s) := rfl
theorem stG_ne {G : Gr β} {σ : Sg} {ρ ω τ : Nat} {acc : List β} {s : Rd} (h : acc ≠ []) : stG G σ ρ ω τ acc s = ((σ.set ω (G.C (.tok τ G.sz) (acc.map G.A))).set ρ (rdA s)).set τ (.tok (some G.t)) := by
  cases acc with
  | nil => exact absurd rfl h
  | cons v r =>
    unfold stG
    rw [List.length_cons, grow1, tset1]
theorem stG_at {G : Gr β} {σ : Sg} {ρ ω τ : Nat} {acc : List β} {s : Rd} (h : okG σ ρ ω τ acc) : stG G σ ρ ω τ acc s ρ = some (rdA s) := by
  cases acc with
  | nil => exact zk _ _ _
  | cons v r =>
    rw [stG_ne (by simp), Sg.set_other _ _ (h (by simp)).2.1.symm, zk]
theorem stG_set {G : Gr β} {σ : Sg} {ρ ω τ : Nat} {acc : List β} {s s' : Rd} (h : okG σ ρ ω τ acc) : (stG G σ ρ ω τ acc s).set ρ (rdA s') = stG G σ ρ ω τ acc s' := by
  cases acc with
  | nil => exact Sg.set_set _ _ _ _
  | cons v r =>
    have h1 := (h (by simp)).2.1
    rw [stG_ne (by simp), stG_ne (by simp)]
    funext y
    simp only [Sg.set_apply]
    grind
theorem ones {G : Gr β} {f : FuncId} {cap : List AV} {one : Rd → β × Rd} {ρ ω : Nat} {σ : Sg} (hN : NiceL one)
    (h0 : ∀ s, Gd s → VCalls Tryz.prog f cap ((σ.set ω (G.C .nil [])).set ρ (rdA s)) (fun x σ' => x = .tup [] ∧ ∃ τ', (σ τ' = none ∧ τ' ≠ ρ ∧ τ' ≠ ω) ∧ σ' = ((σ.set ω (G.C (.tok τ' G.sz) [G.A (one s).1])).set ρ (rdA (one s).2)).set τ' (.tok (some G.t))))
    (h1 : ∀ τ V s, σ τ = none → τ ≠ ρ → τ ≠ ω → Gd s → V.length ≤ 16 → allLen V G.sz = True → VCalls Tryz.prog f cap (((σ.set ω (G.C (.tok τ G.sz) V)).set ρ (rdA s)).set τ (.tok (some G.t))) (fun x σ' => x = .tup [] ∧ ∃ τ', (σ τ' = none ∧ τ' ≠ ρ ∧ τ' ≠ ω) ∧ σ' = ((σ.set ω (G.C (.tok τ' G.sz) (V ++ [G.A (one s).1]))).set ρ (rdA (one s).2)).set τ' (.tok (some G.t))))
    (hA : ∀ v, (G.A v).length = G.sz) : Ones f cap one ρ (stG G σ ρ ω) (okG σ ρ ω) where
  nice := hN
  at0 := fun τ acc s h => stG_at h
  set := fun τ acc s s' h => stG_set h
  one := fun τ acc s h hs hl => by
    cases acc with
    | nil =>
      refine (h0 s hs).mono (fun x σ' hx => ?_)
      obtain ⟨rfl, τ', h2, rfl⟩ := hx
      exact ⟨rfl, τ', fun _ => h2, by rw [stG_ne (by simp)]; rfl⟩
    | cons v r =>
      obtain ⟨g1, g2, g3⟩ := h (by simp)
      rw [stG_ne (by simp)]
      refine (h1 τ ((v :: r).map G.A) s g1 g2 g3 hs (by rw [List.length_map]; exact hl) (eq_true (fun e he => by
        obtain ⟨w, _, rfl⟩ := List.mem_map.1 he
        exact hA w))).mono (fun x σ' hx => ?_)
      obtain ⟨rfl, τ', h2, rfl⟩ := hx
      exact ⟨rfl, τ', fun _ => h2, by rw [stG_ne (by simp), List.map_append]; rfl⟩
theorem c44G {G : Gr β} {f : FuncId} {cap : List AV} {one : Rd → β × Rd} {ρ ω : Nat} {σ : Sg} (H : Ones f cap one ρ (stG G σ ρ ω) (okG σ ρ ω)) (most : Nat) (hm : most ≤ 16) (s : Rd) (hs : Gd s) :
    VCalls Tryz.prog 201 [.ref ρ 0, .i most, .fn f cap] ((σ.set ω (G.C .nil [])).set ρ (rdA s)) (fun x σ' => x = .tup [] ∧ ∃ τ', (σ τ' = none ∧ τ' ≠ ρ ∧ τ' ≠ ω) ∧ σ' = ((σ.set ω (G.C (.tok τ' G.sz) ((many one most s).1.map G.A))).set ρ (rdA (many one most s).2)).set τ' (.tok (some G.t))) := by
  refine (c44 H most hm 0 s (fun h => absurd rfl h) hs).mono (fun x σ' hx => ?_)
  obtain ⟨rfl, τ', h2, rfl⟩ := hx
  exact ⟨rfl, τ', h2 many_ne, by rw [stG_ne many_ne]⟩
theorem lose_sl {P : Program} {f : FuncId} {args : List AV} {es : List (List AV)} {σ S : Sg} (h : VCalls P f args σ (fun x σ' => ∃ o, x = .sl o es ∧ S.sub σ')) : VCalls P f args σ (fun x σ' => x = .sl .any es ∧ σ' = S) :=
  h.lose fun x σ' hx => by
    obtain ⟨o, rfl, hs⟩ := hx
    exact ⟨_, S, AVw.any _ _, hs, rfl, rfl⟩
theorem own_if (c : Prop) [Decidable c] (e : TypeId) (s : Nat) (es : List (List AV)) (σ : Sg) (R : AV → Sg → Prop) : vown2 (if c then .ro else .no) e s es σ R = R (.sl .full es) σ := by split <;> rfl
def grT : Gr Vl := ⟨fun o V => .cells 188 [.sl o V], valA, 3, 34⟩
theorem c66 (ρ ω : Nat) (σ : Sg) (hω : ω ≠ ρ) : Ones 265 [.ro [.ref ρ 0], .ref ω 0] litV ρ (stG grT σ ρ ω) (okG σ ρ ω) := by
  obtain ⟨z24, h24, hz24⟩ := zero24
  have hρω : ρ ≠ ω := hω.symm
  refine ones nice_litV ?_ ?_ (fun v => rfl)
  · intro s hs
    simp only [grT]
    (refine vfun (fun _ => .no) mixed Tryz.func265 (by kernel_rfl) ?_; simp only [bodyOf, Tryz.f265, zp])
    repeat' (first | with_reducible rfl | exact .inr trivial | (with_reducible first | apply And.intro | apply vqx_step | apply vqm_step | refine vkp_free (by decide +kernel) ?_ | intro _) | ((first | (with_reducible first | refine .rs ?_ | refine .ds (by kernel_rfl) ?_ | refine .dg (by kernel_rfl) ?_ | refine .rg ?_ | refine .ite ?_ | refine .ret ?_ | refine .skip ?_ | refine .exit ?_ | refine .scope ?_ | refine .seq (.label ?_) | refine .block ?_ | refine .seq ?_) | (simp (disch := first | assumption | (apply zq; assumption; assumption) | (apply zr; assumption; assumption; (intro e; cases e; done)) | omega) only [w64, w8, tg_eq, Go.V.n1, Go.V.n2, Go.V.nn, zj, zk, zl, zm, zn, zo]) | ((with_reducible refine zt (c67 _ _ _ (by first | assumption | ((simp (disch := first | assumption | (apply zq; assumption; assumption) | (apply zr; assumption; assumption; (intro e; cases e; done)) | omega) only [zk, zl, zm, zn, zo]); first | done | rfl | assumption)) (by repeat' (first | assumption | refine gd_must ?_ | refine gd_fail ?_ | refine gd_pass ?_ | refine gd_take (by decide) ?_ | refine gd_exp ?_ | refine gd_column ?_ | refine gd_lit ?_ | refine gd_of (by assumption) ?_ | refine gd_many (by assumption) ?_))) ?_); rintro _ S ⟨rfl, rfl⟩) | ((with_reducible refine zt (c14 _ _ _ _ (by first | assumption | ((simp (disch := first | assumption | (apply zq; assumption; assumption) | (apply zr; assumption; assumption; (intro e; cases e; done)) | omega) only [zk, zl, zm, zn, zo]); first | done | rfl | assumption)) (by repeat' (first | assumption | refine gd_must ?_ | refine gd_fail ?_ | refine gd_pass ?_ | refine gd_take (by decide) ?_ | refine gd_exp ?_ | refine gd_column ?_ | refine gd_lit ?_ | refine gd_of (by assumption) ?_ | refine gd_many (by assumption) ?_))) ?_); rintro _ S ⟨rfl, rfl⟩) | (refine vlo_app zs ?_) | (refine vst_app zs ?_)); (try simp only [vO, vQ, ↓vP, vE, vS, vB, vL, vF, vM, vN, vbs_full, za, zb, zc, ne_eq, not_false_eq_true, zd, ze, zh, zi, Z3, info3, Z4, info4, Z9, info9, Z34, h24, hz24, Z90, info90, Z188, info188, vT])) | (with_reducible first | refine vfresh_set ?_ | refine vfresh_intro (fun _ _ => ?_) | refine vif_intro (fun _ => ?_) (fun _ => ?_)) | omega | ((with_reducible first | refine vop_at ?_ | refine vops_at ?_ | refine vquiet_at ?_ | refine vmix_at ?_ | refine Holds_at ?_); simp only [vO, vQ, ↓vP, vE, vS, vB, vL, vF, vM, vN, vbs_full, za, zb, zc, ne_eq, not_false_eq_true, zd, ze, zh, zi, Z3, info3, Z4, info4, Z9, info9, Z34, h24, hz24, Z90, info90, Z188, info188, vT]))
    all_goals (refine ⟨_, ?_, _, ⟨‹σ _ = none›, by assumption, by assumption⟩, rfl⟩; simp only [valA, litV, *, ↓reduceIte, Bool.false_eq_true]; (first | exact Sg.sub.refl _ | ((repeat (first | exact Sg.sub.refl _ | refine Sg.sub.set_both ?_ | refine Sg.sub.set_fresh ?_ (by first | assumption | exact Sg.set_none (by assumption) (by first | assumption | (apply Go.Cert.ne_of2a; assumption; assumption))))); done) | (intro y p hy; simp only [Sg.set_apply, Sg.del_apply] at hy ⊢; grind)))
  · intro τ V s g1 g2 g3 hs hl ha
    simp only [grT] at ha ⊢
    (refine vfun (fun _ => .no) mixed Tryz.func265 (by kernel_rfl) ?_; simp only [bodyOf, Tryz.f265, zp])
    repeat' (first | with_reducible rfl | exact .inr trivial | (with_reducible first | apply And.intro | apply vqx_step | apply vqm_step | refine vkp_free (by decide +kernel) ?_ | intro _) | ((first | (with_reducible first | refine .rs ?_ | refine .ds (by kernel_rfl) ?_ | refine .dg (by kernel_rfl) ?_ | refine .rg ?_ | refine .ite ?_ | refine .ret ?_ | refine .skip ?_ | refine .exit ?_ | refine .scope ?_ | refine .seq (.label ?_) | refine .block ?_ | refine .seq ?_) | (simp (disch := first | assumption | (apply zq; assumption; assumption) | (apply zr; assumption; assumption; (intro e; cases e; done)) | omega) only [w64, w8, tg_eq, Go.V.n1, Go.V.n2, Go.V.nn, zj, zk, zl, zm, zn, zo]) | ((with_reducible refine zt (c67 _ _ _ (by first | assumption | ((simp (disch := first | assumption | (apply zq; assumption; assumption) | (apply zr; assumption; assumption; (intro e; cases e; done)) | omega) only [zk, zl, zm, zn, zo]); first | done | rfl | assumption)) (by repeat' (first | assumption | refine gd_must ?_ | refine gd_fail ?_ | refine gd_pass ?_ | refine gd_take (by decide) ?_ | refine gd_exp ?_ | refine gd_column ?_ | refine gd_lit ?_ | refine gd_of (by assumption) ?_ | refine gd_many (by assumption) ?_))) ?_); rintro _ S ⟨rfl, rfl⟩) | ((with_reducible refine zt (c14 _ _ _ _ (by first | assumption | ((simp (disch := first | assumption | (apply zq; assumption; assumption) | (apply zr; assumption; assumption; (intro e; cases e; done)) | omega) only [zk, zl, zm, zn, zo]); first | done | rfl | assumption)) (by repeat' (first | assumption | refine gd_must ?_ | refine gd_fail ?_ | refine gd_pass ?_ | refine gd_take (by decide) ?_ | refine gd_exp ?_ | refine gd_column ?_ | refine gd_lit ?_ | refine gd_of (by assumption) ?_ | refine gd_many (by assumption) ?_))) ?_); rintro _ S ⟨rfl, rfl⟩) | (refine vlo_app zs ?_) | (refine vst_app zs ?_)); (try simp only [vO, vQ, ↓vP, vE, vS, vB, vL, vF, vM, vN, vbs_full, za, zb, zc, ne_eq, not_false_eq_true, zd, ze, zh, zi, Z3, info3, Z4, info4, Z9, info9, Z34, h24, hz24, Z90, info90, Z188, info188, ha, vT])) | (with_reducible first | refine vfresh_set ?_ | refine vfresh_intro (fun _ _ => ?_) | refine vif_intro (fun _ => ?_) (fun _ => ?_)) | omega | ((with_reducible first | refine vop_at ?_ | refine vops_at ?_ | refine vquiet_at ?_ | refine vmix_at ?_ | refine Holds_at ?_); simp only [vO, vQ, ↓vP, vE, vS, vB, vL, vF, vM, vN, vbs_full, za, zb, zc, ne_eq, not_false_eq_true, zd, ze, zh, zi, Z3, info3, Z4, info4, Z9, info9, Z34, h24, hz24, Z90, info90, Z188, info188, ha, vT]))
    all_goals (refine ⟨_, ?_, _, ⟨‹σ _ = none›, by assumption, by assumption⟩, rfl⟩; simp only [valA, litV, *, ↓reduceIte, Bool.false_eq_true]; (first | exact Sg.sub.refl _ | ((repeat (first | exact Sg.sub.refl _ | refine Sg.sub.set_both ?_ | refine Sg.sub.set_fresh ?_ (by first | assumption | exact Sg.set_none (by assumption) (by first | assumption | (apply Go.Cert.ne_of2a; assumption; assumption))))); done) | (intro y p hy; simp only [Sg.set_apply, Sg.del_apply] at hy ⊢; grind)))
theorem c46 (ρ : Nat) (s : Rd) (σ : Sg) (hρ : σ ρ = some (rdA s)) (hg : Gd s) : VCalls Tryz.prog 203 [.ref ρ 0] σ (fun x σ' => x = .sl .any (valsA (tupleL s).1) ∧ σ' = σ.set ρ (rdA (tupleL s).2)) := by
  refine lose_sl ?_
  have g1 : Gd (s.must [[40]]) := gd_must hg
  have h44 : ∀ ω, σ ω = none → VCalls Tryz.prog 201 [.ref ρ 0, .i 8, .fn 265 [.ro [.ref ρ 0], .ref ω 0]] ((σ.set ω (.cells 188 [.sl .nil []])).set ρ (rdA (s.must [[40]]))) (fun x σ' => x = .tup [] ∧ ∃ τ', (σ τ' = none ∧ τ' ≠ ρ ∧ τ' ≠ ω) ∧ σ' = ((σ.set ω (.cells 188 [.sl (.tok τ' 3) (valsA (tupleL s).1)])).set ρ (rdA (many litV 8 (s.must [[40]])).2)).set τ' (.tok (some 34))) := fun ω hω => c44G (c66 ρ ω σ (Go.Cert.ne_of2a hω hρ)) 8 (by decide) _ g1
  have g2 : Gd (many litV 8 (s.must [[40]])).2 := gd_many nice_litV g1
  have e2 : (tupleL s).2 = (many litV 8 (s.must [[40]])).2.must [[41]] := rfl
  rw [e2]
  generalize (many litV 8 (s.must [[40]])).2 = s2 at *
  generalize valsA (tupleL s).1 = V at *
  (refine vfun (fun k => if k = 1 then .ro else .no) mixed Tryz.func203 (by kernel_rfl) ?_; simp only [bodyOf, Tryz.f203, zp])
  repeat' (first | with_reducible rfl | exact .inr trivial | (with_reducible first | apply And.intro | apply vqx_step | apply vqm_step | refine vkp_free (by decide +kernel) ?_ | intro _) | ((first | (with_reducible first | refine .rs ?_ | refine .ds (by kernel_rfl) ?_ | refine .dg (by kernel_rfl) ?_ | refine .rg ?_ | refine .ite ?_ | refine .ret ?_ | refine .skip ?_ | refine .exit ?_ | refine .scope ?_ | refine .seq (.label ?_) | refine .block ?_ | refine .seq ?_) | (simp (disch := first | assumption | (apply zq; assumption; assumption) | (apply zr; assumption; assumption; (intro e; cases e; done)) | omega) only [w64, w8, tg_eq, Go.V.n1, Go.V.n2, Go.V.nn, zj, zk, zl, zm, zn, zo]) | ((with_reducible refine zt (c41 _ _ _ [[40]] _ _ (by with_unfolding_all rfl) (by first | assumption | ((simp (disch := first | assumption | (apply zq; assumption; assumption) | (apply zr; assumption; assumption; (intro e; cases e; done)) | omega) only [zk, zl, zm, zn, zo]); first | done | rfl | assumption)) (by repeat' (first | assumption | refine gd_must ?_ | refine gd_fail ?_ | refine gd_pass ?_ | refine gd_take (by decide) ?_ | refine gd_exp ?_ | refine gd_column ?_ | refine gd_lit ?_ | refine gd_of (by assumption) ?_ | refine gd_many (by assumption) ?_)) (by decide)) ?_); rintro _ S ⟨rfl, rfl⟩) | ((with_reducible refine zt (c41 _ _ _ [[41]] _ _ (by with_unfolding_all rfl) (by first | assumption | ((simp (disch := first | assumption | (apply zq; assumption; assumption) | (apply zr; assumption; assumption; (intro e; cases e; done)) | omega) only [zk, zl, zm, zn, zo]); first | done | rfl | assumption)) (by repeat' (first | assumption | refine gd_must ?_ | refine gd_fail ?_ | refine gd_pass ?_ | refine gd_take (by decide) ?_ | refine gd_exp ?_ | refine gd_column ?_ | refine gd_lit ?_ | refine gd_of (by assumption) ?_ | refine gd_many (by assumption) ?_)) (by decide)) ?_); rintro _ S ⟨rfl, rfl⟩) | ((with_reducible refine zt (h44 _ (by assumption)) ?_); rintro _ S ⟨rfl, τ', hτ1, hτ2, hτ3, rfl⟩) | (refine vlo_app zs ?_) | (refine vst_app zs ?_)); (try simp only [vO, vQ, ↓vP, vE, vS, vB, vL, vF, vM, vN, vbs_full, za, zb, zc, ne_eq, not_false_eq_true, zd, ze, zh, zi, Z3, info3, Z4, info4, Z9, info9, Z90, info90, Z188, info188, Z87, info87, own_if, vT])) | (with_reducible first | refine vfresh_set ?_ | refine vfresh_intro (fun _ _ => ?_) | refine vif_intro (fun _ => ?_) (fun _ => ?_)) | omega | ((with_reducible first | refine vop_at ?_ | refine vops_at ?_ | refine vquiet_at ?_ | refine vmix_at ?_ | refine Holds_at ?_); simp only [vO, vQ, ↓vP, vE, vS, vB, vL, vF, vM, vN, vbs_full, za, zb, zc, ne_eq, not_false_eq_true, zd, ze, zh, zi, Z3, info3, Z4, info4, Z9, info9, Z90, info90, Z188, info188, Z87, info87, own_if, vT]))
  all_goals (refine ⟨_, .refl _, _, rfl, ?_⟩; (first | exact Sg.sub.refl _ | ((repeat (first | exact Sg.sub.refl _ | refine Sg.sub.set_both ?_ | refine Sg.sub.set_fresh ?_ (by first | assumption | exact Sg.set_none (by assumption) (by first | assumption | (apply Go.Cert.ne_of2a; assumption; assumption))))); done) | (intro y p hy; simp only [Sg.set_apply, Sg.del_apply] at hy ⊢; grind)))
end Go.Proofs.YtjopblbpnedjoaaGreatDoor

set_option linter.unusedSimpArgs false
set_option linter.unusedVariables false
namespace Go.Proofs.YtjopblbpnedjoaaGreatDoor
open Go Go.V Go.Lex Go.Parse
def optA : List Ex → AV
  | [] => .sl .nil []
  | e :: r => .sl .any (exsA (e :: r))
def optK (o : Own) : List Ex → AV
  | [] => .sl .nil []
  | e :: r => .sl o (exsA (e :: r))
def rowA (r : List Vl) : List AV := [.sl .any (valsA r)]
def setA (x : Se) : List AV := .s (bs x.1) :: exA x.2
def itemA (x : It) : List AV := [.i x.1, .sl .any (exsA x.2)]
def stmC (oc or os oi oo : Own) (x : Stm) : List AV := [.i x.k, .s (bs x.t), .sl oc (x.cols.map coA), .s (bs x.pk), .sl or (x.rows.map rowA), .sl os (x.sets.map setA), .sl oi (x.items.map itemA), .s (bs x.join), optK oo x.on, optA x.wh, optA x.gr, optA x.or, .b x.desc, .i x.lim]
def stmK (oc or os oi oo : Own) (x : Stm) : Ob := .cells 54 (stmC oc or os oi oo x)
def stmZ (k : Int) : Ob := .cells 54 [.i k, .s (bs []), .sl .nil [], .s (bs []), .sl .nil [], .sl .nil [], .sl .nil [], .s (bs []), .sl .nil [], .sl .nil [], .sl .nil [], .sl .nil [], .b false, .i (-1)]
def Kind (f : FuncId) (F : Rd → Stm × Rd) (k : Int) : Prop := ∀ (ρ γ : Nat) (s : Rd) (σ : Sg), σ ρ = some (rdA s) → σ γ = some (stmZ k) → Gd s →
  VCalls Tryz.prog f [.ref ρ 0, .ref γ 0] σ (fun x σ' => x = .tup [] ∧ ∃ oc or os oi oo, σ' = (σ.set γ (stmK oc or os oi oo (F s).1)).set ρ (rdA (F s).2))
theorem lose_kind {f : FuncId} {args : List AV} {x : Stm} {s' : Rd} {ρ γ : Nat} {σ : Sg} (h : VCalls Tryz.prog f args σ (fun y σ' => y = .tup [] ∧ ∃ oc or os oi oo, ((σ.set γ (stmK oc or os oi oo x)).set ρ (rdA s')).sub σ')) :
    VCalls Tryz.prog f args σ (fun y σ' => y = .tup [] ∧ ∃ oc or os oi oo, σ' = (σ.set γ (stmK oc or os oi oo x)).set ρ (rdA s')) :=
  h.lose fun y σ' hx => by
    obtain ⟨rfl, oc, or, os, oi, oo, hs⟩ := hx
    exact ⟨_, _, AVw.refl _, hs, rfl, oc, or, os, oi, oo, rfl⟩
theorem rd_stm {ρ γ : Nat} {s : Rd} {k : Int} {σ : Sg} (h : σ ρ = some (rdA s)) (h2 : σ γ = some (stmZ k)) : γ ≠ ρ := fun e => by
  rw [e, h] at h2
  cases h2
def grR (t : By) : Gr (List Vl) := ⟨fun o V => .cells 54 [.i 3, .s (bs t), .sl .nil [], .s (bs []), .sl o V, .sl .nil [], .sl .nil [], .s (bs []), .sl .nil [], .sl .nil [], .sl .nil [], .sl .nil [], .b false, .i (-1)], rowA, 1, 188⟩
theorem c45 (ρ γ : Nat) (t : By) (σ : Sg) (hω : γ ≠ ρ) : Ones 202 [.ro [.ref γ 0], .ro [.ref ρ 0]] tupleL ρ (stG (grR t) σ ρ γ) (okG σ ρ γ) := by
  have hρω : ρ ≠ γ := hω.symm
  refine ones nice_tuple ?_ ?_ (fun v => rfl)
  · intro s hs
    simp only [grR]
    (refine vfun (fun _ => .no) mixed Tryz.func202 (by kernel_rfl) ?_; simp only [bodyOf, Tryz.f202, zp])
    repeat' (first | with_reducible rfl | exact .inr trivial | (with_reducible first | apply And.intro | apply vqx_step | apply vqm_step | refine vkp_free (by decide +kernel) ?_ | intro _) | ((with_reducible refine .dm (fun β => β = γ) [(0, false), (1, false), (2, false), (3, false), (4, false), (5, false), (6, true), (7, false), (8, true), (9, true), (10, false), (11, true)] (by decide) (by decide +kernel) ?_); (simp only [vO, vQ, ↓vP, vE, vS, vB, vL, vF, vM, vN, vbs_full, za, zb, zc, ne_eq, not_false_eq_true, zd, ze, zh, zi, Z3, info3, Z4, info4, Z9, info9, Z90, info90, Z50, info50, Z188, info188, Z54, info54, Z166, info166, vT])) | ((first | (with_reducible first | refine .rs ?_ | refine .ds (by kernel_rfl) ?_ | refine .dg (by kernel_rfl) ?_ | refine .rg ?_ | refine .ite ?_ | refine .ret ?_ | refine .skip ?_ | refine .exit ?_ | refine .scope ?_ | refine .seq (.label ?_) | refine .block ?_ | refine .seq ?_) | (simp (disch := first | assumption | (apply zq; assumption; assumption) | (apply zr; assumption; assumption; (intro e; cases e; done)) | omega) only [w64, w8, tg_eq, Go.V.n1, Go.V.n2, Go.V.nn, zj, zk, zl, zm, zn, zo]) | (refine vkp_keep (by intro β h; first | (rcases h with h | h <;> subst h <;> (simp (disch := first | assumption | (apply zq; assumption; assumption) | (apply zr; assumption; assumption; (intro e; cases e; done)) | omega) only [zk, zl, zm, zn, zo])) | (subst h; (simp (disch := first | assumption | (apply zq; assumption; assumption) | (apply zr; assumption; assumption; (intro e; cases e; done)) | omega) only [zk, zl, zm, zn, zo]))) ?_) | ((with_reducible refine zt (c46 _ _ _ (by first | assumption | ((simp (disch := first | assumption | (apply zq; assumption; assumption) | (apply zr; assumption; assumption; (intro e; cases e; done)) | omega) only [zk, zl, zm, zn, zo]); first | done | rfl | assumption)) (by repeat' (first | assumption | refine gd_must ?_ | refine gd_fail ?_ | refine gd_pass ?_ | refine gd_take (by decide) ?_ | refine gd_exp ?_ | refine gd_column ?_ | refine gd_lit ?_ | refine gd_of (by assumption) ?_ | refine gd_many (by assumption) ?_))) ?_); rintro _ S ⟨rfl, rfl⟩) | (refine vlo_app (o' := some (.cells 54 [.i 3, .s (bs t), .sl .nil [], .s (bs []), .sl .nil [], .sl .nil [], .sl .nil [], .s (bs []), .sl .nil [], .sl .nil [], .sl .nil [], .sl .nil [], .b false, .i (-1)])) (keepAt (by assumption) (by first | assumption | ((simp (disch := first | assumption | (apply zq; assumption; assumption) | (apply zr; assumption; assumption; (intro e; cases e; done)) | omega) only [zk, zl, zm, zn, zo]); first | done | rfl | assumption))) ?_) | (refine vlo_app zs ?_) | (refine vst_app zs ?_)); (try simp only [vO, vQ, ↓vP, vE, vS, vB, vL, vF, vM, vN, vbs_full, za, zb, zc, ne_eq, not_false_eq_true, zd, ze, zh, zi, Z3, info3, Z4, info4, Z9, info9, Z90, info90, Z50, info50, Z188, info188, Z54, info54, Z166, info166, vT])) | (with_reducible first | refine vfresh_set ?_ | refine vfresh_intro (fun _ _ => ?_) | refine vif_intro (fun _ => ?_) (fun _ => ?_)) | omega | ((with_reducible first | refine vop_at ?_ | refine vops_at ?_ | refine vquiet_at ?_ | refine vmix_at ?_ | refine Holds_at ?_); simp only [vO, vQ, ↓vP, vE, vS, vB, vL, vF, vM, vN, vbs_full, za, zb, zc, ne_eq, not_false_eq_true, zd, ze, zh, zi, Z3, info3, Z4, info4, Z9, info9, Z90, info90, Z50, info50, Z188, info188, Z54, info54, Z166, info166, vT]))
    all_goals (refine ⟨_, ?_, _, ⟨‹σ _ = none›, by assumption, by assumption⟩, rfl⟩; simp only [rowA]; (first | exact Sg.sub.refl _ | ((repeat (first | exact Sg.sub.refl _ | refine Sg.sub.set_both ?_ | refine Sg.sub.set_fresh ?_ (by first | assumption | exact Sg.set_none (by assumption) (by first | assumption | (apply Go.Cert.ne_of2a; assumption; assumption))))); done) | (intro y p hy; simp only [Sg.set_apply, Sg.del_apply] at hy ⊢; grind)))
  · intro τ V s g1 g2 g3 hs hl ha
    simp only [grR] at ha ⊢
    (refine vfun (fun _ => .no) mixed Tryz.func202 (by kernel_rfl) ?_; simp only [bodyOf, Tryz.f202, zp])
    repeat' (first | with_reducible rfl | exact .inr trivial | (with_reducible first | apply And.intro | apply vqx_step | apply vqm_step | refine vkp_free (by decide +kernel) ?_ | intro _) | ((with_reducible refine .dm (fun β => β = γ) [(0, false), (1, false), (2, false), (3, false), (4, false), (5, false), (6, true), (7, false), (8, true), (9, true), (10, false), (11, true)] (by decide) (by decide +kernel) ?_); (simp only [vO, vQ, ↓vP, vE, vS, vB, vL, vF, vM, vN, vbs_full, za, zb, zc, ne_eq, not_false_eq_true, zd, ze, zh, zi, Z3, info3, Z4, info4, Z9, info9, Z90, info90, Z50, info50, Z188, info188, Z54, info54, Z166, info166, ha, vT])) | ((first | (with_reducible first | refine .rs ?_ | refine .ds (by kernel_rfl) ?_ | refine .dg (by kernel_rfl) ?_ | refine .rg ?_ | refine .ite ?_ | refine .ret ?_ | refine .skip ?_ | refine .exit ?_ | refine .scope ?_ | refine .seq (.label ?_) | refine .block ?_ | refine .seq ?_) | (simp (disch := first | assumption | (apply zq; assumption; assumption) | (apply zr; assumption; assumption; (intro e; cases e; done)) | omega) only [w64, w8, tg_eq, Go.V.n1, Go.V.n2, Go.V.nn, zj, zk, zl, zm, zn, zo]) | (refine vkp_keep (by intro β h; first | (rcases h with h | h <;> subst h <;> (simp (disch := first | assumption | (apply zq; assumption; assumption) | (apply zr; assumption; assumption; (intro e; cases e; done)) | omega) only [zk, zl, zm, zn, zo])) | (subst h; (simp (disch := first | assumption | (apply zq; assumption; assumption) | (apply zr; assumption; assumption; (intro e; cases e; done)) | omega) only [zk, zl, zm, zn, zo]))) ?_) | ((with_reducible refine zt (c46 _ _ _ (by first | assumption | ((simp (disch := first | assumption | (apply zq; assumption; assumption) | (apply zr; assumption; assumption; (intro e; cases e; done)) | omega) only [zk, zl, zm, zn, zo]); first | done | rfl | assumption)) (by repeat' (first | assumption | refine gd_must ?_ | refine gd_fail ?_ | refine gd_pass ?_ | refine gd_take (by decide) ?_ | refine gd_exp ?_ | refine gd_column ?_ | refine gd_lit ?_ | refine gd_of (by assumption) ?_ | refine gd_many (by assumption) ?_))) ?_); rintro _ S ⟨rfl, rfl⟩) | (refine vlo_app (o' := some (.cells 54 [.i 3, .s (bs t), .sl .nil [], .s (bs []), .sl (.tok τ 1) V, .sl .nil [], .sl .nil [], .s (bs []), .sl .nil [], .sl .nil [], .sl .nil [], .sl .nil [], .b false, .i (-1)])) (keepAt (by assumption) (by first | assumption | ((simp (disch := first | assumption | (apply zq; assumption; assumption) | (apply zr; assumption; assumption; (intro e; cases e; done)) | omega) only [zk, zl, zm, zn, zo]); first | done | rfl | assumption))) ?_) | (refine vlo_app zs ?_) | (refine vst_app zs ?_)); (try simp only [vO, vQ, ↓vP, vE, vS, vB, vL, vF, vM, vN, vbs_full, za, zb, zc, ne_eq, not_false_eq_true, zd, ze, zh, zi, Z3, info3, Z4, info4, Z9, info9, Z90, info90, Z50, info50, Z188, info188, Z54, info54, Z166, info166, ha, vT])) | (with_reducible first | refine vfresh_set ?_ | refine vfresh_intro (fun _ _ => ?_) | refine vif_intro (fun _ => ?_) (fun _ => ?_)) | omega | ((with_reducible first | refine vop_at ?_ | refine vops_at ?_ | refine vquiet_at ?_ | refine vmix_at ?_ | refine Holds_at ?_); simp only [vO, vQ, ↓vP, vE, vS, vB, vL, vF, vM, vN, vbs_full, za, zb, zc, ne_eq, not_false_eq_true, zd, ze, zh, zi, Z3, info3, Z4, info4, Z9, info9, Z90, info90, Z50, info50, Z188, info188, Z54, info54, Z166, info166, ha, vT]))
    all_goals (refine ⟨_, ?_, _, ⟨‹σ _ = none›, by assumption, by assumption⟩, rfl⟩; simp only [rowA]; (first | exact Sg.sub.refl _ | ((repeat (first | exact Sg.sub.refl _ | refine Sg.sub.set_both ?_ | refine Sg.sub.set_fresh ?_ (by first | assumption | exact Sg.set_none (by assumption) (by first | assumption | (apply Go.Cert.ne_of2a; assumption; assumption))))); done) | (intro y p hy; simp only [Sg.set_apply, Sg.del_apply] at hy ⊢; grind)))
theorem c25 : Kind 116 insertL 3 := by
  intro ρ γ s σ hρ hγ hg
  have hne := rd_stm hρ hγ
  have hne' := hne.symm
  refine lose_kind ?_
  have g1 : Gd (s.must [[73, 78, 84, 79]]) := gd_must hg
  have g2 : Gd (((s.must [[73, 78, 84, 79]]).take 1).must [[86, 65, 76, 85, 69, 83]]) := gd_must (gd_take (by decide) g1)
  have h44 : ∀ σ, VCalls Tryz.prog 201 [.ref ρ 0, .i 16, .fn 202 [.ro [.ref γ 0], .ro [.ref ρ 0]]] _ _ := fun σ => c44G (c45 ρ γ ((s.must [[73, 78, 84, 79]]).tok 1).2.1 σ hne) 16 (by decide) _ g2
  have e2 : insertL s = ({ stm0 with k := 3, t := ((s.must [[73, 78, 84, 79]]).tok 1).2.1, rows := (many tupleL 16 (((s.must [[73, 78, 84, 79]]).take 1).must [[86, 65, 76, 85, 69, 83]])).1 }, (many tupleL 16 (((s.must [[73, 78, 84, 79]]).take 1).must [[86, 65, 76, 85, 69, 83]])).2) := rfl
  rw [e2]
  simp only [grR, stmK, stmC, List.map_nil, optA, optK] at h44 ⊢
  unfold stmZ at hγ
  generalize (many tupleL 16 (((s.must [[73, 78, 84, 79]]).take 1).must [[86, 65, 76, 85, 69, 83]])).2 = s2 at *
  generalize ((many tupleL 16 (((s.must [[73, 78, 84, 79]]).take 1).must [[86, 65, 76, 85, 69, 83]])).1).map rowA = V at *
  (refine vfun (fun k => if k = 2 ∨ k = 3 then .ro else .no) mixed Tryz.func116 (by kernel_rfl) ?_; simp only [bodyOf, Tryz.f116, zp])
  repeat' (first | with_reducible rfl | exact .inr trivial | (with_reducible first | apply And.intro | apply vqx_step | apply vqm_step | refine vkp_free (by decide +kernel) ?_ | intro _) | ((with_reducible refine .dms (fun _ => False) [(0, false), (1, false), (2, true), (3, true), (4, false), (5, true)] (by decide) (by decide +kernel) ?_); (simp only [vO, vQ, ↓vP, vE, vS, vB, vL, vF, vM, vN, vbs_full, za, zb, zc, ne_eq, not_false_eq_true, zd, ze, zh, zi, Z3, info3, Z4, info4, Z9, info9, Z90, info90, Z54, info54, Z166, info166, Z87, info87, own_if, true_or, or_true, or_self, or_false, false_or, vT])) | ((first | (with_reducible first | refine .rs ?_ | refine .ds (by kernel_rfl) ?_ | refine .dg (by kernel_rfl) ?_ | refine .rg ?_ | refine .ite ?_ | refine .ret ?_ | refine .skip ?_ | refine .exit ?_ | refine .scope ?_ | refine .seq (.label ?_) | refine .block ?_ | refine .seq ?_) | (simp (disch := first | assumption | (apply zq; assumption; assumption) | (apply zr; assumption; assumption; (intro e; cases e; done)) | omega) only [w64, w8, tg_eq, Go.V.n1, Go.V.n2, Go.V.nn, zj, zk, zl, zm, zn, zo]) | with_reducible refine vkp_keep (fun _ h => h.elim) ?_ | ((with_reducible refine zt (c41 _ _ _ [[73, 78, 84, 79]] _ _ (by with_unfolding_all rfl) (by first | assumption | ((simp (disch := first | assumption | (apply zq; assumption; assumption) | (apply zr; assumption; assumption; (intro e; cases e; done)) | omega) only [zk, zl, zm, zn, zo]); first | done | rfl | assumption)) (by repeat' (first | assumption | refine gd_must ?_ | refine gd_fail ?_ | refine gd_pass ?_ | refine gd_take (by decide) ?_ | refine gd_exp ?_ | refine gd_column ?_ | refine gd_lit ?_ | refine gd_of (by assumption) ?_ | refine gd_many (by assumption) ?_)) (by decide)) ?_); rintro _ S ⟨rfl, rfl⟩) | ((with_reducible refine zt (c41 _ _ _ [[86, 65, 76, 85, 69, 83]] _ _ (by with_unfolding_all rfl) (by first | assumption | ((simp (disch := first | assumption | (apply zq; assumption; assumption) | (apply zr; assumption; assumption; (intro e; cases e; done)) | omega) only [zk, zl, zm, zn, zo]); first | done | rfl | assumption)) (by repeat' (first | assumption | refine gd_must ?_ | refine gd_fail ?_ | refine gd_pass ?_ | refine gd_take (by decide) ?_ | refine gd_exp ?_ | refine gd_column ?_ | refine gd_lit ?_ | refine gd_of (by assumption) ?_ | refine gd_many (by assumption) ?_)) (by decide)) ?_); rintro _ S ⟨rfl, rfl⟩) | ((with_reducible refine zt (c42 _ _ _ (by first | assumption | ((simp (disch := first | assumption | (apply zq; assumption; assumption) | (apply zr; assumption; assumption; (intro e; cases e; done)) | omega) only [zk, zl, zm, zn, zo]); first | done | rfl | assumption)) (by repeat' (first | assumption | refine gd_must ?_ | refine gd_fail ?_ | refine gd_pass ?_ | refine gd_take (by decide) ?_ | refine gd_exp ?_ | refine gd_column ?_ | refine gd_lit ?_ | refine gd_of (by assumption) ?_ | refine gd_many (by assumption) ?_))) ?_); rintro _ S ⟨rfl, rfl⟩) | ((with_reducible refine zt (h44 _) ?_); rintro _ S ⟨rfl, τ', ⟨hτ1, hτ2, hτ3⟩, rfl⟩) | (refine vlo_app zs ?_) | (refine vst_app zs ?_)); (try simp only [vO, vQ, ↓vP, vE, vS, vB, vL, vF, vM, vN, vbs_full, za, zb, zc, ne_eq, not_false_eq_true, zd, ze, zh, zi, Z3, info3, Z4, info4, Z9, info9, Z90, info90, Z54, info54, Z166, info166, Z87, info87, own_if, true_or, or_true, or_self, or_false, false_or, vT])) | (with_reducible first | refine vfresh_set ?_ | refine vfresh_intro (fun _ _ => ?_) | refine vif_intro (fun _ => ?_) (fun _ => ?_)) | omega | ((with_reducible first | refine vop_at ?_ | refine vops_at ?_ | refine vquiet_at ?_ | refine vmix_at ?_ | refine Holds_at ?_); simp only [vO, vQ, ↓vP, vE, vS, vB, vL, vF, vM, vN, vbs_full, za, zb, zc, ne_eq, not_false_eq_true, zd, ze, zh, zi, Z3, info3, Z4, info4, Z9, info9, Z90, info90, Z54, info54, Z166, info166, Z87, info87, own_if, true_or, or_true, or_self, or_false, false_or, vT]))
  rw [Sg.set_other _ _ hτ2] at hτ1
  exact ⟨_, .refl _, .nil, .tok τ' 1, .nil, .nil, .nil, (by intro y p hy; simp only [Sg.set_apply, Sg.del_apply] at hy ⊢; grind)⟩
def grS (t : By) : Gr Se := ⟨fun o V => .cells 54 [.i 4, .s (bs t), .sl .nil [], .s (bs []), .sl .nil [], .sl o V, .sl .nil [], .s (bs []), .sl .nil [], .sl .nil [], .sl .nil [], .sl .nil [], .b false, .i (-1)], setA, 9, 110⟩
theorem zero81 : ∃ z, tInfo Tryz.prog 110 = some (some z, 9, 120) ∧ ofValue z = .agg [.s (bs []), .i 0, .i 0, .s (bs []), .s (bs []), .i 0, .i 0, .s (bs []), .sl .nil []] := ⟨_, info110, by rfl⟩
theorem c47 (ρ γ : Nat) (t : By) (σ : Sg) (hω : γ ≠ ρ) : Ones 204 [.ro [.ref ρ 0], .ro [.ref γ 0]] setL ρ (stG (grS t) σ ρ γ) (okG σ ρ γ) := by
  obtain ⟨z81, h81, hz81⟩ := zero81
  obtain ⟨z27, h27, hz27⟩ := zero27
  have hρω : ρ ≠ γ := hω.symm
  refine ones nice_set ?_ ?_ (fun v => by show (setA v).length = 9; unfold setA; rw [List.length_cons, exA_len])
  · intro s hs
    have g : Gd ((s.take 1).must [[61]]) := gd_must (gd_take (by decide) hs)
    have h10 := fun S hS => c10 ρ ((s.take 1).must [[61]]) S hS g
    have he : setL s = (((s.tok 1).2.1, (exp ((s.take 1).must [[61]])).1), (exp ((s.take 1).must [[61]])).2) := rfl
    rw [he]
    generalize (exp ((s.take 1).must [[61]])).2 = s2 at *
    generalize (exp ((s.take 1).must [[61]])).1 = e at *
    have hel := exA_len e
    have ho := exA_one e
    have ht := exA_take e
    have hd := exA_drop e
    generalize hE : exA e = E at *
    simp only [grS]
    (refine vfun (fun _ => .no) mixed Tryz.func204 (by kernel_rfl) ?_; simp only [bodyOf, Tryz.f204, zp])
    repeat' (first | with_reducible rfl | exact .inr trivial | (with_reducible first | apply And.intro | apply vqx_step | apply vqm_step | refine vkp_free (by decide +kernel) ?_ | intro _) | ((with_reducible refine .dm (fun β => β = γ) [(0, false), (1, false), (2, false), (3, false), (4, false), (5, false), (6, false), (7, true), (8, false), (9, false), (10, true), (11, true), (12, false), (13, true)] (by decide) (by decide +kernel) ?_); (simp only [vO, vQ, ↓vP, vE, vS, vB, vL, vF, vM, vN, vbs_full, za, zb, zc, ne_eq, not_false_eq_true, zd, ze, zh, zi, Z3, info3, Z4, info4, Z9, info9, Z90, info90, Z51, info51, Z110, h81, hz81, Z37, h27, hz27, Z54, info54, Z166, info166, Z87, info87, hel, ho, ht, hd, vT])) | ((first | (with_reducible first | refine .rs ?_ | refine .ds (by kernel_rfl) ?_ | refine .dg (by kernel_rfl) ?_ | refine .rg ?_ | refine .ite ?_ | refine .ret ?_ | refine .skip ?_ | refine .exit ?_ | refine .scope ?_ | refine .seq (.label ?_) | refine .block ?_ | refine .seq ?_) | (simp (disch := first | assumption | (apply zq; assumption; assumption) | (apply zr; assumption; assumption; (intro e; cases e; done)) | omega) only [w64, w8, tg_eq, Go.V.n1, Go.V.n2, Go.V.nn, zj, zk, zl, zm, zn, zo]) | (refine vkp_keep (by intro β h; first | (rcases h with h | h <;> subst h <;> (simp (disch := first | assumption | (apply zq; assumption; assumption) | (apply zr; assumption; assumption; (intro e; cases e; done)) | omega) only [zk, zl, zm, zn, zo])) | (subst h; (simp (disch := first | assumption | (apply zq; assumption; assumption) | (apply zr; assumption; assumption; (intro e; cases e; done)) | omega) only [zk, zl, zm, zn, zo]))) ?_) | ((with_reducible refine zt (c41 _ _ _ [[61]] _ _ (by with_unfolding_all rfl) (by first | assumption | ((simp (disch := first | assumption | (apply zq; assumption; assumption) | (apply zr; assumption; assumption; (intro e; cases e; done)) | omega) only [zk, zl, zm, zn, zo]); first | done | rfl | assumption)) (by repeat' (first | assumption | refine gd_must ?_ | refine gd_fail ?_ | refine gd_pass ?_ | refine gd_take (by decide) ?_ | refine gd_exp ?_ | refine gd_column ?_ | refine gd_lit ?_ | refine gd_of (by assumption) ?_ | refine gd_many (by assumption) ?_)) (by decide)) ?_); rintro _ S ⟨rfl, rfl⟩) | ((with_reducible refine zt (c42 _ _ _ (by first | assumption | ((simp (disch := first | assumption | (apply zq; assumption; assumption) | (apply zr; assumption; assumption; (intro e; cases e; done)) | omega) only [zk, zl, zm, zn, zo]); first | done | rfl | assumption)) (by repeat' (first | assumption | refine gd_must ?_ | refine gd_fail ?_ | refine gd_pass ?_ | refine gd_take (by decide) ?_ | refine gd_exp ?_ | refine gd_column ?_ | refine gd_lit ?_ | refine gd_of (by assumption) ?_ | refine gd_many (by assumption) ?_))) ?_); rintro _ S ⟨rfl, rfl⟩) | ((with_reducible refine zt (h10 _ (by first | assumption | ((simp (disch := first | assumption | (apply zq; assumption; assumption) | (apply zr; assumption; assumption; (intro e; cases e; done)) | omega) only [zk, zl, zm, zn, zo]); first | done | rfl | assumption))) ?_); rintro _ S ⟨rfl, rfl⟩) | (refine vlo_app (o' := some (.cells 54 [.i 4, .s (bs t), .sl .nil [], .s (bs []), .sl .nil [], .sl .nil [], .sl .nil [], .s (bs []), .sl .nil [], .sl .nil [], .sl .nil [], .sl .nil [], .b false, .i (-1)])) (keepAt (by assumption) (by first | assumption | ((simp (disch := first | assumption | (apply zq; assumption; assumption) | (apply zr; assumption; assumption; (intro e; cases e; done)) | omega) only [zk, zl, zm, zn, zo]); first | done | rfl | assumption))) ?_) | (refine vlo_app zs ?_) | (refine vst_app zs ?_)); (try simp only [vO, vQ, ↓vP, vE, vS, vB, vL, vF, vM, vN, vbs_full, za, zb, zc, ne_eq, not_false_eq_true, zd, ze, zh, zi, Z3, info3, Z4, info4, Z9, info9, Z90, info90, Z51, info51, Z110, h81, hz81, Z37, h27, hz27, Z54, info54, Z166, info166, Z87, info87, hel, ho, ht, hd, vT])) | (with_reducible first | refine vfresh_set ?_ | refine vfresh_intro (fun _ _ => ?_) | refine vif_intro (fun _ => ?_) (fun _ => ?_)) | omega | ((with_reducible first | refine vop_at ?_ | refine vops_at ?_ | refine vquiet_at ?_ | refine vmix_at ?_ | refine Holds_at ?_); simp only [vO, vQ, ↓vP, vE, vS, vB, vL, vF, vM, vN, vbs_full, za, zb, zc, ne_eq, not_false_eq_true, zd, ze, zh, zi, Z3, info3, Z4, info4, Z9, info9, Z90, info90, Z51, info51, Z110, h81, hz81, Z37, h27, hz27, Z54, info54, Z166, info166, Z87, info87, hel, ho, ht, hd, vT]))
    all_goals (refine ⟨_, ?_, _, ⟨‹σ _ = none›, by assumption, by assumption⟩, rfl⟩; simp only [setA, hE]; (first | exact Sg.sub.refl _ | ((repeat (first | exact Sg.sub.refl _ | refine Sg.sub.set_both ?_ | refine Sg.sub.set_fresh ?_ (by first | assumption | exact Sg.set_none (by assumption) (by first | assumption | (apply Go.Cert.ne_of2a; assumption; assumption))))); done) | (intro y p hy; simp only [Sg.set_apply, Sg.del_apply] at hy ⊢; grind)))
  · intro τ V s g1 g2 g3 hs hl ha
    have g : Gd ((s.take 1).must [[61]]) := gd_must (gd_take (by decide) hs)
    have h10 := fun S hS => c10 ρ ((s.take 1).must [[61]]) S hS g
    have he : setL s = (((s.tok 1).2.1, (exp ((s.take 1).must [[61]])).1), (exp ((s.take 1).must [[61]])).2) := rfl
    rw [he]
    generalize (exp ((s.take 1).must [[61]])).2 = s2 at *
    generalize (exp ((s.take 1).must [[61]])).1 = e at *
    have hel := exA_len e
    have ho := exA_one e
    have ht := exA_take e
    have hd := exA_drop e
    generalize hE : exA e = E at *
    simp only [grS] at ha ⊢
    (refine vfun (fun _ => .no) mixed Tryz.func204 (by kernel_rfl) ?_; simp only [bodyOf, Tryz.f204, zp])
    repeat' (first | with_reducible rfl | exact .inr trivial | (with_reducible first | apply And.intro | apply vqx_step | apply vqm_step | refine vkp_free (by decide +kernel) ?_ | intro _) | ((with_reducible refine .dm (fun β => β = γ) [(0, false), (1, false), (2, false), (3, false), (4, false), (5, false), (6, false), (7, true), (8, false), (9, false), (10, true), (11, true), (12, false), (13, true)] (by decide) (by decide +kernel) ?_); (simp only [vO, vQ, ↓vP, vE, vS, vB, vL, vF, vM, vN, vbs_full, za, zb, zc, ne_eq, not_false_eq_true, zd, ze, zh, zi, Z3, info3, Z4, info4, Z9, info9, Z90, info90, Z51, info51, Z110, h81, hz81, Z37, h27, hz27, Z54, info54, Z166, info166, Z87, info87, hel, ho, ht, hd, ha, vT])) | ((first | (with_reducible first | refine .rs ?_ | refine .ds (by kernel_rfl) ?_ | refine .dg (by kernel_rfl) ?_ | refine .rg ?_ | refine .ite ?_ | refine .ret ?_ | refine .skip ?_ | refine .exit ?_ | refine .scope ?_ | refine .seq (.label ?_) | refine .block ?_ | refine .seq ?_) | (simp (disch := first | assumption | (apply zq; assumption; assumption) | (apply zr; assumption; assumption; (intro e; cases e; done)) | omega) only [w64, w8, tg_eq, Go.V.n1, Go.V.n2, Go.V.nn, zj, zk, zl, zm, zn, zo]) | (refine vkp_keep (by intro β h; first | (rcases h with h | h <;> subst h <;> (simp (disch := first | assumption | (apply zq; assumption; assumption) | (apply zr; assumption; assumption; (intro e; cases e; done)) | omega) only [zk, zl, zm, zn, zo])) | (subst h; (simp (disch := first | assumption | (apply zq; assumption; assumption) | (apply zr; assumption; assumption; (intro e; cases e; done)) | omega) only [zk, zl, zm, zn, zo]))) ?_) | ((with_reducible refine zt (c41 _ _ _ [[61]] _ _ (by with_unfolding_all rfl) (by first | assumption | ((simp (disch := first | assumption | (apply zq; assumption; assumption) | (apply zr; assumption; assumption; (intro e; cases e; done)) | omega) only [zk, zl, zm, zn, zo]); first | done | rfl | assumption)) (by repeat' (first | assumption | refine gd_must ?_ | refine gd_fail ?_ | refine gd_pass ?_ | refine gd_take (by decide) ?_ | refine gd_exp ?_ | refine gd_column ?_ | refine gd_lit ?_ | refine gd_of (by assumption) ?_ | refine gd_many (by assumption) ?_)) (by decide)) ?_); rintro _ S ⟨rfl, rfl⟩) | ((with_reducible refine zt (c42 _ _ _ (by first | assumption | ((simp (disch := first | assumption | (apply zq; assumption; assumption) | (apply zr; assumption; assumption; (intro e; cases e; done)) | omega) only [zk, zl, zm, zn, zo]); first | done | rfl | assumption)) (by repeat' (first | assumption | refine gd_must ?_ | refine gd_fail ?_ | refine gd_pass ?_ | refine gd_take (by decide) ?_ | refine gd_exp ?_ | refine gd_column ?_ | refine gd_lit ?_ | refine gd_of (by assumption) ?_ | refine gd_many (by assumption) ?_))) ?_); rintro _ S ⟨rfl, rfl⟩) | ((with_reducible refine zt (h10 _ (by first | assumption | ((simp (disch := first | assumption | (apply zq; assumption; assumption) | (apply zr; assumption; assumption; (intro e; cases e; done)) | omega) only [zk, zl, zm, zn, zo]); first | done | rfl | assumption))) ?_); rintro _ S ⟨rfl, rfl⟩) | (refine vlo_app (o' := some (.cells 54 [.i 4, .s (bs t), .sl .nil [], .s (bs []), .sl .nil [], .sl (.tok τ 9) V, .sl .nil [], .s (bs []), .sl .nil [], .sl .nil [], .sl .nil [], .sl .nil [], .b false, .i (-1)])) (keepAt (by assumption) (by first | assumption | ((simp (disch := first | assumption | (apply zq; assumption; assumption) | (apply zr; assumption; assumption; (intro e; cases e; done)) | omega) only [zk, zl, zm, zn, zo]); first | done | rfl | assumption))) ?_) | (refine vlo_app zs ?_) | (refine vst_app zs ?_)); (try simp only [vO, vQ, ↓vP, vE, vS, vB, vL, vF, vM, vN, vbs_full, za, zb, zc, ne_eq, not_false_eq_true, zd, ze, zh, zi, Z3, info3, Z4, info4, Z9, info9, Z90, info90, Z51, info51, Z110, h81, hz81, Z37, h27, hz27, Z54, info54, Z166, info166, Z87, info87, hel, ho, ht, hd, ha, vT])) | (with_reducible first | refine vfresh_set ?_ | refine vfresh_intro (fun _ _ => ?_) | refine vif_intro (fun _ => ?_) (fun _ => ?_)) | omega | ((with_reducible first | refine vop_at ?_ | refine vops_at ?_ | refine vquiet_at ?_ | refine vmix_at ?_ | refine Holds_at ?_); simp only [vO, vQ, ↓vP, vE, vS, vB, vL, vF, vM, vN, vbs_full, za, zb, zc, ne_eq, not_false_eq_true, zd, ze, zh, zi, Z3, info3, Z4, info4, Z9, info9, Z90, info90, Z51, info51, Z110, h81, hz81, Z37, h27, hz27, Z54, info54, Z166, info166, Z87, info87, hel, ho, ht, hd, ha, vT]))
    all_goals (refine ⟨_, ?_, _, ⟨‹σ _ = none›, by assumption, by assumption⟩, rfl⟩; simp only [setA, hE]; (first | exact Sg.sub.refl _ | ((repeat (first | exact Sg.sub.refl _ | refine Sg.sub.set_both ?_ | refine Sg.sub.set_fresh ?_ (by first | assumption | exact Sg.set_none (by assumption) (by first | assumption | (apply Go.Cert.ne_of2a; assumption; assumption))))); done) | (intro y p hy; simp only [Sg.set_apply, Sg.del_apply] at hy ⊢; grind)))
end Go.Proofs.YtjopblbpnedjoaaGreatDoor
