/- What each operation does to abstract values and the abstract store. -/
import Derived.Test.YtkbfngepdgdecaaV1
namespace Go.V
open Go.RowKit

/-- Of every name that stands for nothing yet. -/
def vfresh (σ : Sg) (R : Nat → Prop) : Prop := ∀ τ, σ τ = none → R τ

def leafOf : Value → AV
  | .slice none 0 0 => .sl .nil []
  | v => .val v
def ofValue : Value → AV
  | .agg cs => .agg (cs.toList.map leafOf)
  | v => leafOf v

def ev (ρ : Nat → AV) : Operand → AV
  | .tmp t => ρ t
  | .const v => ofValue v
  | .global g => .val (.pointer (some ⟨g, 0, none⟩))
  | .func f => .fn f []

def upd (ρ : Nat → AV) (t : Nat) (x : AV) : Nat → AV := fun i => if i = t then x else ρ i
def updo (ρ : Nat → AV) (d : Option Tmp) (x : AV) : Nat → AV := match d with | some t => upd ρ t x | none => ρ

def tInfo (P : Program) (t : TypeId) : Option (Option Value × Nat × Nat) := (P.info? t).map fun i => (i.zero, i.size, i.bytes)
def isAggD : TypeDesc → Bool
  | .struct _ | .array _ _ => true
  | _ => false

def AV.one : AV → Bool
  | .junk | .agg _ | .tup _ => false
  | .val (.agg _) | .val (.tuple _) => false
  | _ => true

/-- The value of type t that stands at the head of some cells. -/
def vpart (P : Program) (t : TypeId) (cs : List AV) (R : AV → Prop) : Prop :=
  match tInfo P t, P.underlying t with
  | some (_, n, _), some d => if isAggD d then n ≤ cs.length ∧ R (.agg (cs.take n)) else match cs with | x :: _ => R x | [] => False
  | _, _ => False

def splice (cs : List AV) (off : Nat) (xs : List AV) : List AV := cs.take off ++ xs ++ cs.drop (off + xs.length)

/-- A row of n elements of sz cells, cut up. -/
def chunks (sz : Nat) : Nat → List AV → List (List AV)
  | 0, _ => []
  | n + 1, cs => cs.take sz :: chunks sz n (cs.drop sz)

def bytesAV (s : ByteArray) : List (List AV) := s.data.toList.map fun b => [AV.u8 b.toNat]

inductive Hint | no | ro | obj
  deriving DecidableEq

def sEq (a b : ByteArray) : Bool := decide (a = b)

def vbin (op : BinOp) : AV → AV → (AV → Prop) → Prop
  | .val (.int k a), .val (.int k' b), R =>
    match op with
    | .shl => 0 ≤ b ∧ R (.val (.int k (k.wrap (a * 2 ^ (min b.toNat k.bits)))))
    | .shr => 0 ≤ b ∧ R (.val (.int k (a.fdiv (2 ^ (min b.toNat k.bits)))))
    | .add => k = k' ∧ R (.val (.int k (k.wrap (a + b))))
    | .sub => k = k' ∧ R (.val (.int k (k.wrap (a - b))))
    | .mul => k = k' ∧ R (.val (.int k (k.wrap (a * b))))
    | .quo => k = k' ∧ b ≠ 0 ∧ R (.val (.int k (k.wrap (a.tdiv b))))
    | .rem => k = k' ∧ b ≠ 0 ∧ R (.val (.int k (a.tmod b)))
    | .and => k = k' ∧ R (.val (.int k (k.wrap ((BitVec.ofInt k.bits a &&& BitVec.ofInt k.bits b).toNat))))
    | .or => k = k' ∧ R (.val (.int k (k.wrap ((BitVec.ofInt k.bits a ||| BitVec.ofInt k.bits b).toNat))))
    | .xor => k = k' ∧ R (.val (.int k (k.wrap ((BitVec.ofInt k.bits a ^^^ BitVec.ofInt k.bits b).toNat))))
    | .andNot => k = k' ∧ R (.val (.int k (k.wrap ((BitVec.ofInt k.bits a &&& ~~~ BitVec.ofInt k.bits b).toNat))))
    | .eql => k = k' ∧ R (.b (decide (a = b)))
    | .neq => k = k' ∧ R (.b (!decide (a = b)))
    | .lss => k = k' ∧ R (.b (decide (a < b)))
    | .leq => k = k' ∧ R (.b (decide (a ≤ b)))
    | .gtr => k = k' ∧ R (.b (decide (b < a)))
    | .geq => k = k' ∧ R (.b (decide (b ≤ a)))
  | .val (.string a), .val (.string b), R =>
    match op with
    | .add => ((a.size + b.size : Nat) : Int) ≤ 9223372036854775807 ∧ R (.s (a ++ b))
    | .eql => R (.b (sEq a b))
    | .neq => R (.b (!sEq a b))
    | .lss => R (.b (Op.bytesLess a.toList b.toList))
    | .geq => R (.b (!Op.bytesLess a.toList b.toList))
    | _ => False
  | _, _, _ => False

/-- What does not hang on ints and strings: ==, != on bools and against nil. -/
def veq : TypeDesc → AV → AV → Option Bool
  | .bool, .val (.bool a), .val (.bool b) => some (a == b)
  | .slice _, .sl .nil _, .sl .nil _ => some true
  | .slice _, .sl .full _, .sl .nil _ | .slice _, .sl .view _, .sl .nil _ | .slice _, .sl (.tok _ _) (_ :: _), .sl .nil _ | .slice _, .sl .any (_ :: _), .sl .nil _ => some false
  | .slice _, .ms _ _ _ _, .sl .nil _ => some false
  | .pointer _, .ro _, .val (.pointer none) | .pointer _, .ref _ _, .val (.pointer none) => some false
  | .pointer _, .val (.pointer none), .val (.pointer none) => some true
  | _, _, _ => none

def partO (P : Program) (t : TypeId) (cs : List AV) : Option AV :=
  match tInfo P t, P.underlying t with
  | some (_, n, _), some d => if isAggD d then (if n ≤ cs.length then some (.agg (cs.take n)) else none) else cs.head?
  | _, _ => none
def veqFs (P : Program) (eq : TypeId → AV → AV → Option Bool) (xs ys : List AV) : List Field → Option Bool
  | [] => some true
  | f :: fs => if f.name = "_" then veqFs P eq xs ys fs else
    match partO P f.type (xs.drop f.offset), partO P f.type (ys.drop f.offset) with
    | some a, some b => match eq f.type a b, veqFs P eq xs ys fs with
      | some c, some r => some (c && r)
      | _, _ => none
    | _, _ => none
/-- Elements, one by one. -/
def veqIs (P : Program) (eq : AV → AV → Option Bool) (e : TypeId) (c : Nat) (xs ys : List AV) : List Nat → Option Bool
  | [] => some true
  | i :: is => match partO P e (xs.drop (i * c)), partO P e (ys.drop (i * c)) with
    | some a, some b => match eq a b, veqIs P eq e c xs ys is with
      | some q, some r => some (q && r)
      | _, _ => none
    | _, _ => none
/-- ==, in depth. -/
def veqIn (P : Program) : Nat → TypeId → AV → AV → Option Bool
  | 0, _, _, _ => none
  | d + 1, t, x, y =>
    match P.underlying t with
    | some (.struct fs) => match x, y with
      | .agg xs, .agg ys => if P.stoodInHeld t = true then none else veqFs P (veqIn P d) xs ys fs.toList
      | _, _ => none
    | some (.array n e) => match x, y with
      | .agg xs, .agg ys => if (tInfo P e).isSome = true then veqIs P (veqIn P d e) e (P.cellsOf e) xs ys (List.range n) else none
      | _, _ => none
    | some (.int _) => match x, y with
      | .val (.int k a), .val (.int k' b) => if k = k' then some (decide (a = b)) else none
      | _, _ => none
    | some .string => match x, y with
      | .val (.string a), .val (.string b) => some (sEq a b)
      | _, _ => none
    | some dd => veq dd x y
    | none => none
def veqT (P : Program) (t : TypeId) (d : TypeDesc) (x y : AV) : Option Bool :=
  match x, y with
  | .agg xs, .agg ys => if P.eqGuardType P.depth t = true then none else veqIn P 10000 t (.agg xs) (.agg ys)
  | .ref β o, .ref β' o' => match d with
    | .pointer e => match tInfo P e with
      | some (_, n, _) => if β = β' ∧ n ≠ 0 then some (decide (o = o')) else none
      | none => none
    | _ => none
  | x, y => veq d x y

def vun (op : UnOp) (x : AV) (R : AV → Prop) : Prop :=
  match op, x with
  | .not, .val (.bool b) => R (.b (!b))
  | .neg, .val (.int k n) => R (.val (.int k (k.wrap (0 - n))))
  | .xor, .val (.int k n) => R (.val (.int k (k.wrap ((BitVec.ofInt k.bits (if k.signed then -1 else k.max) ^^^ BitVec.ofInt k.bits n).toNat))))
  | _, _ => False

/-- What is known where a function is called. -/
def RelArgs (κ : K) (args : List AV) (vs : Array Value) : Prop := RelRow κ args vs
def Post (κ : K) (R : AV → Sg → Prop) (v : Value) (w' : World) : Prop :=
  ∃ κ' x σ', κ'.w = w' ∧ κ.le κ' ∧ St κ' σ' ∧ Rel κ' x v ∧ R x σ'
def PostE (κ : K) (R : AV → Sg → Prop) : Ending → World → Prop
  | .returned v, w' => Post κ R v w'
  | _, _ => False
def Done (P : Program) (κ : K) (R : AV → Sg → Prop) : Result Next → Prop
  | .ok (.value v) w' => Post κ R v w'
  | .ok .skip w' => Post κ R undef w'
  | .ok (.enter f args) w' => Calls P f args w' (PostE κ R)
  | .ok (.row row args) w' => Rows P row args w' (Post κ R)
  | _ => False

/-- A call of function f: from every state of memory that fits, it comes to a result and a store of which R holds. -/
structure VCalls (P : Program) (f : FuncId) (args : List AV) (σ : Sg) (R : AV → Sg → Prop) : Prop where
  go : ∀ (κ : K) (vs : Array Value), St κ σ → RelArgs κ args vs → Done P κ R ((callFunc f vs).run P κ.w)

def elems : AV → Option (List (List AV))
  | .sl _ es => some es
  | .val (.string s) => some (bytesAV s)
  | _ => none

def Own.cut (k : Own) (last : Bool) : Own :=
  match k with
  | .nil => .nil
  | .full => if last then .full else .view
  | .tok τ s => if last then .tok τ s else .any
  | .view => .view
  | .any => .any

def zeroCellsOf (z : Value) : List AV := (ofValue z).cells

def allLen (es : List (List AV)) (n : Nat) : Prop := ∀ e ∈ es, e.length = n
def allOne (es : List (List AV)) (n : Nat) : Prop := ∀ e ∈ es, e.length = n ∧ (e.all AV.one) = true

/-- append(x, ys..) -/
def vappend (P : Program) (e : TypeId) (x y : AV) (σ : Sg) (R : AV → Sg → Prop) : Prop :=
  match tInfo P e, x, elems y with
  | some (some z, sz, by_), .sl k es, some ys =>
    ((zeroCellsOf z).length = sz ∧ 2 * (es.length + ys.length) * by_ ≤ 2 ^ 48 ∧ es.length + ys.length < 2 ^ 62 ∧ allLen es sz ∧ allOne ys sz) ∧
    match k with
    | .nil => vfresh σ fun τ => R (.sl (.tok τ sz) (es ++ ys)) (σ.set τ (.tok (some e)))
    | .full => (ys = [] → R (.sl .full es) σ) ∧ (ys ≠ [] → vfresh σ fun τ => R (.sl (.tok τ sz) (es ++ ys)) (σ.set τ (.tok (some e))))
    | .tok t s => s = sz ∧ (match σ t with | some (.tok ot) => (ot = none ∨ ot = some e) ∧ vfresh σ fun τ => R (.sl (.tok τ sz) (es ++ ys)) ((σ.del t).set τ (.tok ot)) | _ => False)
    | _ => False
  | _, _, _ => False


/-- Parts laid into a row of cells. -/
def vfill (place : Nat → Option (Nat × Nat)) (cells : List AV) : List (Nat × AV) → Option (List AV)
  | [] => some cells
  | (i, v) :: rest =>
    match place i with
    | none => none
    | some (off, size) => if v.cells.length = size ∧ off + size ≤ cells.length then vfill place (splice cells off v.cells) rest else none

def fieldPlaces (P : Program) (fs : Array Field) : List (Option (Nat × Nat)) := fs.toList.map fun f => (tInfo P f.type).map fun i => (f.offset, i.2.1)

def optInt : Option AV → Int → Option Int
  | none, d => some d
  | some (.val (.int _ n)), _ => some n
  | _, _ => none

def vslice (P : Program) (t : TypeId) (x : AV) (lo hi mx : Option AV) (σ : Sg) (R : AV → Prop) : Prop :=
  match P.underlying t, x with
  | some .string, .val (.string s) =>
    match mx, optInt lo 0, optInt hi s.size with
    | none, some l, some h => (0 ≤ l ∧ l ≤ h ∧ h ≤ s.size) ∧ R (.s (s.extract l.toNat h.toNat))
    | _, _, _ => False
  | some (.slice e), .sl k es =>
    match optInt lo 0, optInt hi es.length, tInfo P e with
    | some l, some h, some (_, s, _) =>
      match mx with
      | none => (0 ≤ l ∧ l ≤ h ∧ h ≤ es.length ∧ allLen es s) ∧ R (.sl (k.cut (decide (h = es.length ∧ (l = 0 ∨ l < h)))) ((es.take h.toNat).drop l.toNat))
      | some (.val (.int _ m)) => (0 ≤ l ∧ l ≤ h ∧ h ≤ m ∧ m ≤ es.length ∧ h = m ∧ es ≠ [] ∧ hi.isSome = true ∧ allLen es s) ∧ R (.sl .full ((es.take h.toNat).drop l.toNat))
      | _ => False
    | _, _, _ => False
  | some (.slice e), .ms β off n sz =>
    match mx, optInt lo 0, optInt hi n, tInfo P e with
    | none, some l, some h, some (_, s, _) => (s = sz ∧ 0 ≤ l ∧ l ≤ h ∧ h ≤ n ∧ (l = 0 ∨ l < n)) ∧ R (.ms β (off + l.toNat * sz) (h - l).toNat sz)
    | _, _, _, _ => False
  | some (.array n e), .ro cs =>
    match mx, optInt lo 0, optInt hi n, tInfo P e with
    | none, some l, some h, some (_, s, _) => (n * s ≤ cs.length ∧ 0 ≤ l ∧ l ≤ h ∧ h ≤ n) ∧ R (.sl .view (((chunks s n cs).take h.toNat).drop l.toNat))
    | _, _, _, _ => False
  | some (.array n e), .ref β off =>
    match mx, optInt lo 0, optInt hi n, tInfo P e, σ β with
    | none, some l, some h, some (_, s, _), some (.cells _ cs) => (off + n * s ≤ cs.length ∧ 0 ≤ l ∧ l ≤ h ∧ h ≤ n ∧ (l = 0 ∨ l < n)) ∧ R (.ms β (off + l.toNat * s) (h - l).toNat s)
    | _, _, _, _, _ => False
  | _, _ => False

def vconv (P : Program) (s d : TypeId) (x : AV) (σ : Sg) (R : AV → Sg → Prop) : Prop :=
  match P.underlying s, P.underlying d, x with
  | some _, some (.int k), .val (.int _ n) => R (.val (.int k (k.wrap n))) σ
  | some (.string), some .string, .val (.string b) => R (.s b) σ
  | some (.string), some (.slice e), .val (.string b) =>
    match P.underlying e with
    | some (.int .u8) => vfresh σ fun τ => R (.sl (.tok τ 1) (bytesAV b)) (σ.set τ (.tok none))
    | _ => False
  | some (.slice e), some .string, .sl _ es =>
    match P.underlying e with
    | some (.int .u8) => ∃ b : ByteArray, es = bytesAV b ∧ R (.s b) σ
    | _ => False
  | some (.pointer e), some .unsafePointer, .ref β off => match tInfo P e, σ β with
    | some (_, n, _), some (.cells _ cs) => (n ≠ 0 ∧ off < cs.length) ∧ R (.ref β off) σ
    | _, _ => False
  | some .unsafePointer, some (.pointer u), .ref β off => match tInfo P u, σ β with
    | some _, some (.cells e cs) => liesAt P P.depth e (cs.length / P.cellsOf e) off u 1 = true ∧ R (.ref β off) σ
    | _, _ => False
  | some (.slice _), some (.slice e), .sl (.tok τ 1) (x :: r) =>
    match P.underlying e, σ τ with
    | some (.int .u8), some (.tok (some _)) => (s == d) = true ∧ R (.sl .any (x :: r)) (σ.del τ)
    | _, _ => False
  | _, _, _ => False

/-- Map keys: ints and strings; and structs of such. -/
def vkeyEq : Value → Value → Option Bool
  | .int _ a, .int _ b => some (decide (a = b))
  | .string a, .string b => some (sEq a b)
  | _, _ => none
def vfind (k : Value) : List (Value × AV) → Option (Option AV)
  | [] => some none
  | (k', x) :: r => match vkeyEq k k' with
    | some true => some (some x)
    | some false => vfind k r
    | none => none

def AV.solid : AV → Bool
  | .junk => false
  | .val (.agg _) => false
  | _ => true

def vpick (c a b : AV) (R : AV → Prop) : Prop :=
  match c, a, b with
  | .val (.bool t), .val (.bool x), .val (.bool y) => R (.b (bif t then x else y))
  | .val (.bool t), a, b => (t = true → R a) ∧ (t = false → R b)
  | _, _, _ => False

def vbox (e : TypeId) (H : Hint) (x : AV) (σ : Sg) (R : AV → Sg → Prop) : Prop :=
  match H with
  | .ro => R (.ro x.cells) σ
  | _ => vfresh σ fun β => R (.ref β 0) (σ.set β (.cells e x.cells))

def vload (P : Program) (t : TypeId) (a : AV) (σ : Sg) (R : AV → Prop) : Prop :=
  match a with
  | .ro cs => vpart P t cs R
  | .ref β off => match σ β with | some (.cells _ cs) => vpart P t (cs.drop off) R | _ => False
  | _ => False

def vstore (P : Program) (t : TypeId) (a x : AV) (σ : Sg) (R : Sg → Prop) : Prop :=
  match a, tInfo P t with
  | .ref β off, some (_, n, _) => match σ β with
    | some (.cells e cs) => (x.solid = true ∧ x.cells.length = n ∧ off + n ≤ cs.length ∧ (x.cells.all AV.one) = true) ∧ R (σ.set β (.cells e (splice cs off x.cells)))
    | _ => False
  | _, _ => False

def vbinop (P : Program) (op : BinOp) (t : TypeId) (x y : AV) (R : AV → Prop) : Prop :=
  match x, y with
  | .val (.int _ _), .val (.int _ _) => vbin op x y R
  | .val (.string _), .val (.string _) => vbin op x y R
  | _, _ => match P.underlying t, op with
    | some d, .eql => match veqT P t d x y with
      | some b => R (.b b)
      | none => False
    | some d, .neq => match veqT P t d x y with
      | some b => R (.b (!b))
      | none => False
    | _, _ => False

def vfieldAddr (P : Program) (s : TypeId) (x : AV) (f : Nat) (R : AV → Prop) : Prop :=
  match P.underlying s with
  | some (.struct fs) => match fs[f]? with
    | some fd => match tInfo P fd.type with
      | some (_, n, _) => n ≠ 0 ∧ match x with
        | .ro cs => R (.ro (cs.drop fd.offset))
        | .ref β off => R (.ref β (off + fd.offset))
        | _ => False
      | none => False
    | none => False
  | _ => False

def vfield (P : Program) (s : TypeId) (x : AV) (f : Nat) (R : AV → Prop) : Prop :=
  match P.underlying s, x with
  | some (.struct fs), .agg cs => match fs[f]? with
    | some fd => vpart P fd.type (cs.drop fd.offset) R
    | none => False
  | _, _ => False

/-- A byte of a text (0 behind its end). -/
def byteAt (s : ByteArray) (i : Nat) : UInt8 := (s.data[i]?).getD 0

def vindexAddr (P : Program) (t : TypeId) (x i : AV) (R : AV → Prop) : Prop :=
  match P.underlying t, x, i with
  | some (.slice e), .sl _ es, .val (.int _ i) => match tInfo P e with
    | some (_, s, _) => (0 ≤ i ∧ i.toNat < es.length ∧ (es.getD i.toNat []).length = s) ∧ R (.ro (es.getD i.toNat []))
    | none => False
  | some (.slice e), .ms β off n sz, .val (.int _ i) => (0 ≤ i ∧ i < n ∧ (∃ z b, tInfo P e = some (z, sz, b))) ∧ R (.ref β (off + i.toNat * sz))
  | some (.array n e), .ro cs, .val (.int _ i) => match tInfo P e with
    | some (_, s, _) => (0 ≤ i ∧ i < n ∧ n ≠ 0) ∧ R (.ro (cs.drop (i.toNat * s)))
    | none => False
  | some (.array n e), .ref β off, .val (.int _ i) => match tInfo P e with
    | some (_, s, _) => (0 ≤ i ∧ i < n ∧ n ≠ 0) ∧ R (.ref β (off + i.toNat * s))
    | none => False
  | _, _, _ => False

def vindex (P : Program) (t : TypeId) (x i : AV) (R : AV → Prop) : Prop :=
  match P.underlying t, x, i with
  | some .string, .val (.string s), .val (.int _ i) => (0 ≤ i ∧ i.toNat < s.size) ∧ R (.u8 (byteAt s i.toNat).toNat)
  | some (.array n e), .agg cs, .val (.int _ i) => match tInfo P e with
    | some (_, s, _) => (0 ≤ i ∧ i < n) ∧ vpart P e (cs.drop (i.toNat * s)) R
    | none => False
  | _, _, _ => False

def vbuild (P : Program) (t : TypeId) (parts : List (Nat × AV)) (R : AV → Prop) : Prop :=
  match tInfo P t, P.underlying t with
  | some (some z, _, _), some (.struct fs) =>
    (parts.all fun p => p.2.solid) = true ∧ match vfill (fun i => ((fieldPlaces P fs)[i]?).bind id) (zeroCellsOf z) parts with | some cs => (fieldPlaces P fs).all (·.isSome) = true ∧ R (.agg cs) | none => False
  | some (some z, _, _), some (.array _ e) => match tInfo P e with
    | some (_, s, _) => (parts.all fun p => p.2.solid) = true ∧ match vfill (fun i => some (i * s, s)) (zeroCellsOf z) parts with | some cs => R (.agg cs) | none => False
    | none => False
  | _, _ => False

def vbuildSlice (P : Program) (H : Hint) (t : TypeId) (len : Nat) (parts : List (Nat × AV)) (σ : Sg) (R : AV → Sg → Prop) : Prop :=
  match P.underlying t with
  | some (.slice e) => match tInfo P e with
    | some (some z, s, _) =>
      ((parts.all fun p => p.2.solid) = true ∧ len * s ≤ 2 ^ 24 ∧ (zeroCellsOf z).length = s ∧ 0 < s) ∧
      match vfill (fun i => some (i * s, s)) ((List.replicate len (zeroCellsOf z)).flatten) parts with | some cs => (match H with | .obj => vfresh σ fun τ => R (.sl (.tok τ s) (chunks s len cs)) (σ.set τ (.tok (some e))) | _ => R (.sl .full (chunks s len cs)) σ) | none => False
    | _ => False
  | _ => False

def vmakeSlice (P : Program) (H : Hint) (t : TypeId) (l c : AV) (σ : Sg) (R : AV → Sg → Prop) : Prop :=
  match P.underlying t, l, c with
  | some (.slice e), .val (.int _ l), .val (.int _ c) => match tInfo P e with
    | some (some z, s, b) =>
      (0 ≤ l ∧ l ≤ c ∧ c < 2 ^ 62 ∧ b * c ≤ 2 ^ 48 ∧ (zeroCellsOf z).length = s ∧ 0 < s) ∧
      match H with
      | .obj => l = c ∧ vfresh σ fun β => R (.ms β 0 l.toNat s) (σ.set β (.cells e ((List.replicate l.toNat (zeroCellsOf z)).flatten)))
      | _ => vfresh σ fun τ => R (.sl (.tok τ s) (List.replicate l.toNat (zeroCellsOf z))) (σ.set τ (.tok (some e)))
    | _ => False
  | _, _, _ => False

/-- The keys of a map are of one kind. -/
def KeysFit (key : Value) (es : List (Value × AV)) : Prop := ∀ k x, (k, x) ∈ es → ∀ q a q' b, key = .int q a → k = .int q' b → q = q'

/-- Keys that are structs of ints, strings, bools. -/
def allV : List AV → Option (List Value)
  | [] => some []
  | .val v :: r => (allV r).map (v :: ·)
  | _ => none
def ofKey : Value → AV
  | .agg cs => .agg (cs.toList.map .val)
  | v => .val v
def vkeyS (P : Program) (kt : TypeId) (key k : Value) : Option Bool := veqIn P 10000 kt (ofKey key) (ofKey k)
def vfindS (P : Program) (kt : TypeId) (key : Value) : List (Value × AV) → Option (Option AV)
  | [] => some none
  | (k, x) :: r => match vkeyS P kt key k with
    | some true => some (some x)
    | some false => vfindS P kt key r
    | none => none
def keyOK (P : Program) (kt : TypeId) (cs : List AV) : Bool :=
  match P.underlying kt with
  | some (.struct fs) => fs.toList.all fun f => (partO P f.type (cs.drop f.offset)).isSome && (match P.underlying f.type with | some (.int _) | some .string | some .bool => true | _ => false)
  | _ => false

def vlookup (P : Program) (t : TypeId) (m k : AV) (ok : Bool) (σ : Sg) (R : AV → Prop) : Prop :=
  match P.underlying t, m, k with
  | some (.map kt e), .map β, .val key => match P.underlying kt, key, σ β, tInfo P e with
    | some (.int _), .int _ _, some (.map es), some (some z, _, _) | some .string, .string _, some (.map es), some (some z, _, _) =>
      KeysFit key es ∧ match vfind key es with
      | some (some x) => R (if ok = true then .tup [x, .b true] else x)
      | some none => R (if ok = true then .tup [ofValue z, .b false] else ofValue z)
      | none => False
    | _, _, _, _ => False
  | some (.map kt e), .map β, .agg cs => match allV cs, σ β, tInfo P e with
    | some vs, some (.map es), some (some z, _, _) =>
      keyOK P kt cs = true ∧ match vfindS P kt (.agg vs.toArray) es with
      | some (some x) => R (if ok = true then .tup [x, .b true] else x)
      | some none => R (if ok = true then .tup [ofValue z, .b false] else ofValue z)
      | none => False
    | _, _, _ => False
  | _, _, _ => False

/-- The entries of a map, one written. -/
def vput (k : Value) (x : AV) : List (Value × AV) → List (Value × AV)
  | [] => [(k, x)]
  | (k', y) :: r => if vkeyEq k k' = some true then (k', x) :: r else (k', y) :: vput k x r

def vmapUpdate (P : Program) (t : TypeId) (m k x : AV) (σ : Sg) (R : Sg → Prop) : Prop :=
  match P.underlying t, m, k with
  | some (.map kt _), .map β, .val key => match P.underlying kt, key, σ β with
    | some (.int _), .int _ _, some (.map es) | some .string, .string _, some (.map es) => (KeysFit key es ∧ vfind key es ≠ none) ∧ R (σ.set β (.map (vput key x es)))
    | _, _, _ => False
  | some (.map kt _), .map β, .agg cs => match allV cs, σ β with
    | some vs, some (.map es) => (keyOK P kt cs = true ∧ vfindS P kt (.agg vs.toArray) es = some none) ∧ R (σ.set β (.map (es ++ [(.agg vs.toArray, x)])))
    | _, _ => False
  | _, _, _ => False

def vlen (x : AV) (σ : Sg) (R : AV → Prop) : Prop :=
  match x with
  | .val (.string s) => R (.i s.size)
  | .sl _ es => R (.i es.length)
  | .ms _ _ n _ => R (.i n)
  | .map β => match σ β with | some (.map es) => R (.i es.length) | _ => False
  | _ => False

def vlenOK : TypeDesc → AV → Bool
  | .string, .val (.string _) => true
  | .slice _, .sl _ _ | .slice _, .ms _ _ _ _ => true
  | .map _ _, .map _ => true
  | _, _ => false

def vcopy (P : Program) (t : TypeId) (d s : AV) (σ : Sg) (R : AV → Sg → Prop) : Prop :=
  match P.underlying t, d, elems s with
  | some (.slice e), .ms β off n sz, some ys => match tInfo P e, σ β with
    | some (_, s, _), some (.cells ty cs) =>
      (s = sz ∧ 0 < sz ∧ allLen ys sz ∧ off + n * sz ≤ cs.length ∧ (ys.all fun y => y.all AV.one) = true) ∧
      R (.i (Nat.min ys.length n)) (σ.set β (.cells ty (splice cs off ((ys.take n).flatten))))
    | _, _ => False
  | _, _, _ => False

def vmin (lt : Bool) (x y : AV) (R : AV → Prop) : Prop :=
  match x, y with
  | .val (.int k a), .val (.int k' b) => k = k' ∧ R (.val (.int k (if lt then (if b < a then b else a) else (if a < b then b else a))))
  | _, _ => False

def vbuiltin (P : Program) (b : Builtin) (vs : List AV) (ts : Array TypeId) (ty : TypeId) (σ : Sg) (R : AV → Sg → Prop) : Prop :=
  match b, vs with
  | .len, [x] => (match (ts[0]?).bind P.underlying with | some d => vlenOK d x = true ∧ vlen x σ (R · σ) | _ => False)
  | .append, [x, y] => (match (ts[0]?).bind P.underlying, (ts[1]?).bind P.underlying with
    | some (.slice e), some (.slice _) | some (.slice e), some .string => vappend P e x y σ R
    | _, _ => False)
  | .copy, [d, s] => (match ts[0]? with | some t => vcopy P t d s σ R | none => False)
  | .min, [x, y] => vmin true x y (R · σ)
  | .unsafeSliceData, [x] => (match P.underlying ty, x with
    | some (.pointer _), .sl (.tok τ s) es => match σ τ with
      | some (.tok _) => (s = 1 ∧ allLen es 1) ∧ R (.bp τ es) σ
      | _ => False
    | some (.pointer _), .sl .nil es => es = [] ∧ R (.bp 0 []) σ
    | _, _ => False)
  | .unsafeString, [.bp τ es, .val (.int .i64 n)] => (match (ts[0]?).bind P.underlying with
    | some (.pointer e) => match tInfo P e with
      | some (_, s, _) => ∃ b : ByteArray, (s = 1 ∧ es = bytesAV b ∧ n = b.size ∧ (b.size : Int) ≤ 9223372036854775807) ∧ (es = [] ∨ σ τ = some (.tok (some e))) ∧ R (.s b) σ
      | none => False
    | _ => False)
  | .max, [x, y] => vmin false x y (R · σ)
  | _, _ => False

def vcall (P : Program) (ρ : Nat → AV) (ty : TypeId) (c : Call) (σ : Sg) (R : AV → Sg → Prop) : Prop :=
  match c.callee with
  | .builtin b => vbuiltin P b (c.args.toList.map (ev ρ)) c.argTypes ty σ R
  | .value f => (match ev ρ f with
    | .fn g cap => VCalls P g (c.args.toList.map (ev ρ) ++ cap) σ R
    | _ => False)
  | _ => False

/-- One operation. -/
def vop (P : Program) (H : Hint) (ρ : Nat → AV) (ty : TypeId) (o : Op) (σ : Sg) (R : AV → Sg → Prop) : Prop :=
  match o with
  | .move x | .assign x => R (ev ρ x) σ
  | .pick c a b => vpick (ev ρ c) (ev ρ a) (ev ρ b) (R · σ)
  | .alloc e => (match tInfo P e with | some (some z, _, _) => vbox e H (ofValue z) σ R | _ => False)
  | .box e x => (ev ρ x).solid = true ∧ vbox e H (ev ρ x) σ R
  | .build t parts => vbuild P t (parts.toList.map fun p => (p.1, ev ρ p.2)) (R · σ)
  | .buildSlice t len parts => vbuildSlice P H t len (parts.toList.map fun p => (p.1, ev ρ p.2)) σ R
  | .load t a => vload P t (ev ρ a) σ (R · σ)
  | .store t a x => vstore P t (ev ρ a) (ev ρ x) σ (R (.val undef))
  | .nilCheck x => (match ev ρ x with
    | .ro cs => R (.ro cs) σ
    | .ref β off => R (.ref β off) σ
    | .fn f cap => R (.fn f cap) σ
    | _ => False)
  | .binOp op t x y _ => vbinop P op t (ev ρ x) (ev ρ y) (R · σ)
  | .unOp op _ x => vun op (ev ρ x) (R · σ)
  | .convert s d x => vconv P s d (ev ρ x) σ R
  | .makeFunc (.func f) first captured => first.toList = [] ∧ R (.fn f (captured.toList.map (ev ρ))) σ
  | .makeMap _ none => vfresh σ fun β => R (.map β) (σ.set β (.map []))
  | .makeSlice t l c => vmakeSlice P H t (ev ρ l) (ev ρ c) σ R
  | .slice t x lo hi mx => vslice P t (ev ρ x) (lo.map (ev ρ)) (hi.map (ev ρ)) (mx.map (ev ρ)) σ (R · σ)
  | .fieldAddr s x f => vfieldAddr P s (ev ρ x) f (R · σ)
  | .field s x f => vfield P s (ev ρ x) f (R · σ)
  | .indexAddr t x i => vindexAddr P t (ev ρ x) (ev ρ i) (R · σ)
  | .index t x i => vindex P t (ev ρ x) (ev ρ i) (R · σ)
  | .lookup t m k ok => vlookup P t (ev ρ m) (ev ρ k) ok σ (R · σ)
  | .mapUpdate t m k x => vmapUpdate P t (ev ρ m) (ev ρ k) (ev ρ x) σ (R (.val undef))
  | .extract x ix => (match ev ρ x with | .tup vs => (match vs[ix]? with | some v => R v σ | none => False) | _ => False)
  | .call c => vcall P ρ ty c σ R
  | _ => False

end Go.V
