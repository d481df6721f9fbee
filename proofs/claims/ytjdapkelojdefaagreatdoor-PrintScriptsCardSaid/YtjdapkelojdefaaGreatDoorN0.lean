/- Part 0 of the proof: V0, V1, V2, V3, V4, V5, V6. -/
import Derived.Below
import Derived.Orders
import Derived.Still
import Derived.Laws.Cells
import Derived.Laws.IdiomCopy
import Derived.KernelRfl
import Derived.Laws.Strings
import Derived.Laws.IdiomStrings
import Derived.Laws.BytesString
import Derived.Deep.AppendSrc
import Derived.Laws.Append
import Derived.Laws.StructEq
import Derived.ChangeKeysEq

set_option linter.all false
namespace Go.V
def pow10tab : List Value := [.int .u64 1, .int .u64 10, .int .u64 100, .int .u64 1000, .int .u64 10000, .int .u64 100000, .int .u64 1000000, .int .u64 10000000, .int .u64 100000000, .int .u64 1000000000, .int .u64 10000000000, .int .u64 100000000000, .int .u64 1000000000000, .int .u64 10000000000000, .int .u64 100000000000000, .int .u64 1000000000000000, .int .u64 10000000000000000, .int .u64 100000000000000000, .int .u64 1000000000000000000, .int .u64 10000000000000000000]
def gtab (g : Nat) : Option (List Value) := if g = 1 then some pow10tab else none
end Go.V
namespace Go.V
open Go.RowKit
inductive Own
  | nil            -- the nil slice
  | full           -- not nil; no room behind it
  | tok (τ sz : Nat)  -- the room behind it goes by this name; if it is empty, it may be nil
  | view           -- not nil; nothing known of the room
  | any            -- nothing known
inductive AV
  | junk
  | val (v : Value)
  | agg (cs : List AV)
  | tup (vs : List AV)
  | sl (k : Own) (es : List (List AV))
  | ro (cs : List AV)
  | ref (β : Nat) (off : Nat)
  | ms (β off n sz : Nat)
  | map (β : Nat)
  | fn (f : FuncId) (cap : List AV)
  | bp (τ : Nat) (es : List (List AV))
  | bm (f : FuncId) (first : List AV)   -- a method value: its receiver is bound
  | lsl (v : Value) (es : List (List AV))   -- a slice of which the cell behind its last element is known
  | mc (β n m sz : Nat)   -- the head of an object, n elements of room for m
  | nz (τ n sz : Nat)   -- n elements of which nothing is known, at the head of a block that goes by a name
instance : Inhabited AV := ⟨.junk⟩
abbrev AV.i (n : Int) : AV := .val (.int .i64 n)
abbrev AV.b (x : Bool) : AV := .val (.bool x)
abbrev AV.s (x : ByteArray) : AV := .val (.string x)
abbrev AV.u8 (n : Int) : AV := .val (.int .u8 n)
def AV.cells : AV → List AV
  | .agg cs => cs
  | v => [v]
structure K where
  w : World
  M : Nat → Nat → Prop
  μ : Nat → Option (Nat × Nat × Nat)
  base : Nat
def K.reads (κ : K) (b o : Nat) (v : Value) : Prop := κ.w.cell? ⟨b, o, none⟩ = some v ∧ ¬ κ.M b o
def Own.ok (κ : K) (a : Addr) (n c sz : Nat) : Own → Prop
  | .nil => False
  | .full => c = n
  | .tok τ s => s = sz ∧ κ.μ τ = some (a.block, a.off + n * sz, a.off + c * sz + 1)
  | _ => True
def Own.maybeNil : Own → Prop
  | .nil | .any | .tok _ _ => True
  | _ => False
inductive Rel (κ : K) : AV → Value → Prop
  | junk (v : Value) : Rel κ .junk v
  | val (v : Value) : Rel κ (.val v) v
  | agg (cs : List AV) (vs : Array Value) (hl : cs.length = vs.size) (h : ∀ (i : Nat) (x : AV) (v : Value), cs[i]? = some x → vs[i]? = some v → Rel κ x v) : Rel κ (.agg cs) (.agg vs)
  | tup (cs : List AV) (vs : Array Value) (hl : cs.length = vs.size) (h : ∀ (i : Nat) (x : AV) (v : Value), cs[i]? = some x → vs[i]? = some v → Rel κ x v) : Rel κ (.tup cs) (.tuple vs)
  | slnil (k : Own) (hk : k.maybeNil) : Rel κ (.sl k []) (.slice none 0 0)
  | slemp (k : Own) (hk : k = .view ∨ k = .any) (a : Addr) (c : Nat) : Rel κ (.sl k []) (.slice (some a) 0 c)
  | sl (k : Own) (es : List (List AV)) (a : Addr) (n c sz : Nat) (f : Nat → Nat → Value) (hk : k.ok κ a n c sz) (hn : n = es.length) (hc : n ≤ c) (hs : a.spot = none)
      (hz : ∀ (i : Nat) (e : List AV), es[i]? = some e → e.length = sz)
      (hr : ∀ i j, i < n → j < sz → κ.reads a.block (a.off + i * sz + j) (f i j))
      (h : ∀ (i j : Nat) (e : List AV) (x : AV), es[i]? = some e → e[j]? = some x → Rel κ x (f i j)) : Rel κ (.sl k es) (.slice (some a) n c)
  | ro (cs : List AV) (a : Addr) (f : Nat → Value) (hs : a.spot = none) (hr : ∀ j, j < cs.length → κ.reads a.block (a.off + j) (f j))
      (h : ∀ (j : Nat) (x : AV), cs[j]? = some x → Rel κ x (f j)) : Rel κ (.ro cs) (.pointer (some a))
  | ref (β off b hi : Nat) (h : κ.μ β = some (b, 0, hi)) : Rel κ (.ref β off) (.pointer (some ⟨b, off, none⟩))
  | ms (β off n sz b hi c : Nat) (h : κ.μ β = some (b, 0, hi)) (hn : n ≤ c) (hh : off + n * sz ≤ hi) : Rel κ (.ms β off n sz) (.slice (some ⟨b, off, none⟩) n c)
  | map (β b hi : Nat) (h : κ.μ β = some (b, 0, hi)) : Rel κ (.map β) (.map (some b))
  | fn (f : FuncId) (cs : List AV) (vs : Array Value) (hl : cs.length = vs.size) (h : ∀ (i : Nat) (x : AV) (v : Value), cs[i]? = some x → vs[i]? = some v → Rel κ x v) : Rel κ (.fn f cs) (.func (.func f) #[] vs)
  | bp0 (τ : Nat) (p : Option Addr) : Rel κ (.bp τ []) (.pointer p)
  | bp (τ : Nat) (es : List (List AV)) (a : Addr) (n hi : Nat) (f : Nat → Value) (hn : n = es.length) (hs : a.spot = none) (hμ : κ.μ τ = some (a.block, a.off + n, hi)) (hlt : a.off + n < hi)
      (hr : ∀ i, i < n → κ.reads a.block (a.off + i) (f i)) (h : ∀ (i : Nat) (x : AV), es[i]? = some [x] → Rel κ x (f i)) : Rel κ (.bp τ es) (.pointer (some a))
  | bm (f : FuncId) (cs : List AV) (vs : Array Value) (hl : cs.length = vs.size) (h : ∀ (i : Nat) (x : AV) (v : Value), cs[i]? = some x → vs[i]? = some v → Rel κ x v) : Rel κ (.bm f cs) (.func (.func f) vs #[])
  | lsl (u : Value) (es : List (List AV)) (a : Addr) (n c : Nat) (f : Nat → Nat → Value) (hn : n = es.length) (hc : n + 1 ≤ c) (hs : a.spot = none)
      (hz : ∀ (i : Nat) (e : List AV), es[i]? = some e → e.length = 1)
      (hr : ∀ i j, i < n → j < 1 → κ.reads a.block (a.off + i * 1 + j) (f i j)) (hu : κ.reads a.block (a.off + n) u)
      (h : ∀ (i j : Nat) (e : List AV) (x : AV), es[i]? = some e → e[j]? = some x → Rel κ x (f i j)) : Rel κ (.lsl u es) (.slice (some a) n c)
  | mc (β n m sz b hi : Nat) (h : κ.μ β = some (b, 0, hi)) (hn : n ≤ m) (hh : m * sz ≤ hi) : Rel κ (.mc β n m sz) (.slice (some ⟨b, 0, none⟩) n m)
  | nz (τ n sz b c : Nat) (h : κ.μ τ = some (b, 0, c * sz + 1)) (hn : n ≤ c) : Rel κ (.nz τ n sz) (.slice (some ⟨b, 0, none⟩) n c)
structure K.le (κ κ' : K) : Prop where
  os : κ'.w.os = κ.w.os
  tape : κ'.w.tape = κ.w.tape
  output : κ'.w.output = κ.w.output
  size : κ.w.heap.size ≤ κ'.w.heap.size
  cell : ∀ b o, b < κ.w.heap.size → ¬ κ.M b o → κ'.w.cell? ⟨b, o, none⟩ = κ.w.cell? ⟨b, o, none⟩ ∧ ¬ κ'.M b o
  base : κ'.base = κ.base
  block : ∀ b, b < κ.base → κ'.w.heap[b]? = κ.w.heap[b]?
  name : ∀ β l, κ.μ β = some l → κ'.μ β = some l
theorem K.le.refl (κ : K) : κ.le κ := ⟨rfl, rfl, rfl, Nat.le_refl _, fun _ _ _ h => ⟨rfl, h⟩, rfl, fun _ _ => rfl, fun _ _ h => h⟩
theorem K.le.trans {a b c : K} (h : a.le b) (k : b.le c) : a.le c where
  os := k.os.trans h.os
  tape := k.tape.trans h.tape
  output := k.output.trans h.output
  size := Nat.le_trans h.size k.size
  cell x o hx hm := by
    have h1 := h.cell x o hx hm
    have h2 := k.cell x o (Nat.lt_of_lt_of_le hx h.size) h1.2
    exact ⟨h2.1.trans h1.1, h2.2⟩
  base := k.base.trans h.base
  block x hx := (k.block x (by rw [h.base]; exact hx)).trans (h.block x hx)
  name β l hl := k.name β l (h.name β l hl)
theorem K.reads.lt {κ : K} {b o : Nat} {v : Value} (h : κ.reads b o v) : b < κ.w.heap.size := by
  have := World.block_lt_of_cell? κ.w _ h.1
  exact this
theorem K.reads.mono {κ κ' : K} (h : κ.le κ') {b o : Nat} {v : Value} (hr : κ.reads b o v) : κ'.reads b o v := by
  have h1 := h.cell b o hr.lt hr.2
  exact ⟨h1.1.trans hr.1, h1.2⟩
theorem Own.ok.mono {κ κ' : K} (h : κ.le κ') {a : Addr} {n c sz : Nat} {k : Own} (hk : k.ok κ a n c sz) : k.ok κ' a n c sz := by
  cases k <;> first | exact hk | exact ⟨hk.1, h.name _ _ hk.2⟩
theorem Rel.mono {κ κ' : K} (h : κ.le κ') {x : AV} {v : Value} (hr : Rel κ x v) : Rel κ' x v := by
  induction hr with
  | junk v => exact .junk v
  | val v => exact .val v
  | agg cs vs hl _ ih => exact .agg cs vs hl ih
  | tup cs vs hl _ ih => exact .tup cs vs hl ih
  | slnil k hk => exact .slnil k hk
  | slemp k hk a c => exact .slemp k hk a c
  | sl k es a n c sz f hk hn hc hs hz hr _ ih => exact .sl k es a n c sz f (hk.mono h) hn hc hs hz (fun i j hi hj => (hr i j hi hj).mono h) ih
  | ro cs a f hs hr _ ih => exact .ro cs a f hs (fun j hj => (hr j hj).mono h) ih
  | ref β off b hi hb => exact .ref β off b hi (h.name _ _ hb)
  | ms β off n sz b hi c hb hn hh => exact .ms β off n sz b hi c (h.name _ _ hb) hn hh
  | map β b hi hb => exact .map β b hi (h.name _ _ hb)
  | fn f cs vs hl _ ih => exact .fn f cs vs hl ih
  | bp0 τ p => exact .bp0 τ p
  | bp τ es a n hi f hn hs hμ hlt hr _ ih => exact .bp τ es a n hi f hn hs (h.name _ _ hμ) hlt (fun i hi => (hr i hi).mono h) ih
  | bm f cs vs hl _ ih => exact .bm f cs vs hl ih
  | lsl u es a n c f hn hc hs hz hr hu _ ih => exact .lsl u es a n c f hn hc hs hz (fun i j hi hj => (hr i j hi hj).mono h) (hu.mono h) ih
  | mc β n m sz b hi hb hn hh => exact .mc β n m sz b hi (h.name _ _ hb) hn hh
  | nz τ n sz b c hb hn => exact .nz τ n sz b c (h.name _ _ hb) hn
theorem Rel.unlent {κ : K} {u v : Value} {es : List (List AV)} (h : Rel κ (.lsl u es) v) : Rel κ (.sl .view es) v := by
  cases h with
  | lsl _ _ a n c f hn hc hs hz hr hu h => exact .sl .view es a n c 1 f trivial hn (by omega) hs hz hr h
inductive Ob
  | cells (t : TypeId) (cs : List AV)
  | tok (e : Option TypeId)   -- some t: in a block of type t, of which nothing is frozen but what stands ahead
  | map (es : List (Value × AV))
abbrev Sg := Nat → Option Ob
def Sg.set (σ : Sg) (β : Nat) (o : Ob) : Sg := fun x => if x = β then some o else σ x
def Sg.del (σ : Sg) (β : Nat) : Sg := fun x => if x = β then none else σ x
def RelRow (κ : K) (cs : List AV) (vs : Array Value) : Prop :=
  cs.length = vs.size ∧ ∀ (i : Nat) (x : AV) (v : Value), cs[i]? = some x → vs[i]? = some v → Rel κ x v
def Ob.ok (κ : K) (b lo hi : Nat) : Ob → Prop
  | .cells t cs => lo = 0 ∧ hi = cs.length ∧ ∃ c fz, κ.w.heap[b]? = some (.cells c t fz) ∧ (∀ i, i < c.size → κ.w.frozen? ⟨b, i, none⟩ = false) ∧ RelRow κ cs c
  | .tok e => lo < hi → ∃ c t fz, κ.w.heap[b]? = some (.cells c t fz) ∧ hi = c.size + 1 ∧ (∀ i, lo ≤ i → i < c.size → κ.w.frozen? ⟨b, i, none⟩ = false) ∧ ∀ t', e = some t' → t' = t ∧ (fz.1 = fz.2 ∨ fz.2 ≤ lo)
  | .map es => lo = 0 ∧ hi = 1 ∧ ∃ (arr : Array MapEntry) (clock : Nat), κ.w.heap[b]? = some (.map arr clock) ∧ es.length = arr.size ∧
      ∀ (i : Nat) (k : Value) (x : AV) (m : MapEntry), es[i]? = some (k, x) → arr[i]? = some m → m.key = k ∧ Rel κ x m.val
def Glob (κ : K) : Prop := ∀ g cs, gtab g = some cs → ∀ (i : Nat) (v : Value), cs[i]? = some v → κ.reads g i v
theorem Glob.mono {κ κ' : K} (h : κ.le κ') (hg : Glob κ) : Glob κ' := fun g cs h1 i v h2 => (hg g cs h1 i v h2).mono h
structure St (κ : K) (σ : Sg) : Prop where
  ob : ∀ β o, σ β = some o → ∃ b lo hi, κ.μ β = some (b, lo, hi) ∧ (∀ x, lo ≤ x → x < hi → κ.M b x) ∧ o.ok κ b lo hi
  apart : ∀ β β' o o' b lo hi lo' hi', β ≠ β' → σ β = some o → σ β' = some o' → κ.μ β = some (b, lo, hi) → κ.μ β' = some (b, lo', hi') → hi ≤ lo ∨ hi' ≤ lo'
  fin : ∃ N, ∀ β, N ≤ β → κ.μ β = none
  mlt : ∀ b x, κ.M b x → κ.base ≤ b ∧ b < κ.w.heap.size
  bas : κ.base ≤ κ.w.heap.size
  glob : Glob κ
def Sg.sub (σ σ' : Sg) : Prop := ∀ β o, σ β = some o → σ' β = some o
theorem Sg.sub.refl (σ : Sg) : σ.sub σ := fun _ _ h => h
theorem St.sub {κ : K} {σ σ' : Sg} (h : St κ σ') (hs : σ.sub σ') : St κ σ :=
  ⟨fun β o hb => h.ob β o (hs β o hb), fun β β' o o' b lo hi lo' hi' hne h1 h2 => h.apart β β' o o' b lo hi lo' hi' hne (hs _ _ h1) (hs _ _ h2), h.fin, h.mlt, h.bas, h.glob⟩
def Q1x (σ : Sg) (R : Nat → Prop) : Prop := ∀ τ, σ τ = none → R τ
def Q3t : Value → AV
  | .slice none 0 0 => .sl .nil []
  | v => .val v
def ofValue : Value → AV
  | .agg cs => .agg (cs.toList.map Q3t)
  | v => Q3t v
def ev (ρ : Nat → AV) : Operand → AV
  | .tmp t => ρ t
  | .const v => ofValue v
  | .global g => match gtab g with
    | some cs => .ro (cs.map .val)
    | none => .val (.pointer (some ⟨g, 0, none⟩))
  | .func f => .fn f []
def upd (ρ : Nat → AV) (t : Nat) (x : AV) : Nat → AV := fun i => if i = t then x else ρ i
def updo (ρ : Nat → AV) (d : Option Tmp) (x : AV) : Nat → AV := match d with | some t => upd ρ t x | none => ρ
def Q0m (P : Program) (t : TypeId) : Option (Option Value × Nat × Nat) := (P.info? t).map fun i => (i.zero, i.size, i.bytes)
def X0p : TypeDesc → Bool
  | .struct _ | .array _ _ => true
  | _ => false
def AV.one : AV → Bool
  | .junk | .agg _ | .tup _ => false
  | .val (.agg _) | .val (.tuple _) => false
  | _ => true
def Q4u (P : Program) (t : TypeId) (cs : List AV) (R : AV → Prop) : Prop :=
  match Q0m P t, P.underlying t with
  | some (_, n, _), some d => if X0p d then n ≤ cs.length ∧ R (.agg (cs.take n)) else match cs with | x :: _ => R x | [] => False
  | _, _ => False
def Q2o (cs : List AV) (off : Nat) (xs : List AV) : List AV := cs.take off ++ xs ++ cs.drop (off + xs.length)
def Q2f (sz : Nat) : Nat → List AV → List (List AV)
  | 0, _ => []
  | n + 1, cs => cs.take sz :: Q2f sz n (cs.drop sz)
def Q0z (s : ByteArray) : List (List AV) := s.data.toList.map fun b => [AV.u8 b.toNat]
inductive Hint | no | ro | obj | cap
  deriving DecidableEq
def sEq (a b : ByteArray) : Bool := decide (a = b)
def vbin (op : BinOp) : AV → AV → (AV → Prop) → Prop
  | .val (.int k a), .val (.int k' b), R =>
    match op with
    | .shl => 0 ≤ b ∧ R (.val (.int k (k.wrap (a * 2 ^ (min b.toNat k.bits)))))
    | .shr => 0 ≤ b ∧ R (.val (.int k (a.fdiv (2 ^ (min b.toNat k.bits)))))
    | .add => k = k' ∧ R (.val (.int k (k.wrap (a + b))))
    | .sub => k = k' ∧ R (.val (.int k (k.wrap (a - b))))
    | .mul => k = k' ∧ R (.val (.int k (k.wrap (a * b))))
    | .quo => k = k' ∧ b ≠ 0 ∧ R (.val (.int k (k.wrap (a.tdiv b))))
    | .rem => k = k' ∧ b ≠ 0 ∧ R (.val (.int k (a.tmod b)))
    | .and => k = k' ∧ R (.val (.int k (k.wrap ((BitVec.ofInt k.bits a &&& BitVec.ofInt k.bits b).toNat))))
    | .or => k = k' ∧ R (.val (.int k (k.wrap ((BitVec.ofInt k.bits a ||| BitVec.ofInt k.bits b).toNat))))
    | .xor => k = k' ∧ R (.val (.int k (k.wrap ((BitVec.ofInt k.bits a ^^^ BitVec.ofInt k.bits b).toNat))))
    | .andNot => k = k' ∧ R (.val (.int k (k.wrap ((BitVec.ofInt k.bits a &&& ~~~ BitVec.ofInt k.bits b).toNat))))
    | .eql => k = k' ∧ R (.b (decide (a = b)))
    | .neq => k = k' ∧ R (.b (!decide (a = b)))
    | .lss => k = k' ∧ R (.b (decide (a < b)))
    | .leq => k = k' ∧ R (.b (decide (a ≤ b)))
    | .gtr => k = k' ∧ R (.b (decide (b < a)))
    | .geq => k = k' ∧ R (.b (decide (b ≤ a)))
  | .val (.string a), .val (.string b), R =>
    match op with
    | .add => ((a.size + b.size : Nat) : Int) ≤ 9223372036854775807 ∧ R (.s (a ++ b))
    | .eql => R (.b (sEq a b))
    | .neq => R (.b (!sEq a b))
    | .lss => R (.b (Op.bytesLess a.toList b.toList))
    | .geq => R (.b (!Op.bytesLess a.toList b.toList))
    | _ => False
  | _, _, _ => False
def veq : TypeDesc → AV → AV → Option Bool
  | .bool, .val (.bool a), .val (.bool b) => some (a == b)
  | .slice _, .sl .nil _, .sl .nil _ => some true
  | .slice _, .sl .full _, .sl .nil _ | .slice _, .sl .view _, .sl .nil _ | .slice _, .sl (.tok _ _) (_ :: _), .sl .nil _ | .slice _, .sl .any (_ :: _), .sl .nil _ => some false
  | .slice _, .ms _ _ _ _, .sl .nil _ => some false
  | .pointer _, .ro _, .val (.pointer none) | .pointer _, .ref _ _, .val (.pointer none) => some false
  | .pointer _, .val (.pointer none), .val (.pointer none) => some true
  | _, _, _ => none
def X1h (P : Program) (t : TypeId) (cs : List AV) : Option AV :=
  match Q0m P t, P.underlying t with
  | some (_, n, _), some d => if X0p d then (if n ≤ cs.length then some (.agg (cs.take n)) else none) else cs.head?
  | _, _ => none
def X2l (P : Program) (eq : TypeId → AV → AV → Option Bool) (xs ys : List AV) : List Field → Option Bool
  | [] => some true
  | f :: fs => if f.name = "_" then X2l P eq xs ys fs else
    match X1h P f.type (xs.drop f.offset), X1h P f.type (ys.drop f.offset) with
    | some a, some b => match eq f.type a b, X2l P eq xs ys fs with
      | some c, some r => some (c && r)
      | _, _ => none
    | _, _ => none
def veqIs (P : Program) (eq : AV → AV → Option Bool) (e : TypeId) (c : Nat) (xs ys : List AV) : List Nat → Option Bool
  | [] => some true
  | i :: is => match X1h P e (xs.drop (i * c)), X1h P e (ys.drop (i * c)) with
    | some a, some b => match eq a b, veqIs P eq e c xs ys is with
      | some q, some r => some (q && r)
      | _, _ => none
    | _, _ => none
def Q8m (P : Program) : Nat → TypeId → AV → AV → Option Bool
  | 0, _, _, _ => none
  | d + 1, t, x, y =>
    match P.underlying t with
    | some (.struct fs) => match x, y with
      | .agg xs, .agg ys => if P.stoodInHeld t = true then none else X2l P (Q8m P d) xs ys fs.toList
      | _, _ => none
    | some (.array n e) => match x, y with
      | .agg xs, .agg ys => if (Q0m P e).isSome = true then veqIs P (Q8m P d e) e (P.cellsOf e) xs ys (List.range n) else none
      | _, _ => none
    | some (.int _) => match x, y with
      | .val (.int k a), .val (.int k' b) => if k = k' then some (decide (a = b)) else none
      | _, _ => none
    | some .string => match x, y with
      | .val (.string a), .val (.string b) => some (sEq a b)
      | _, _ => none
    | some dd => veq dd x y
    | none => none
def veqT (P : Program) (t : TypeId) (d : TypeDesc) (x y : AV) : Option Bool :=
  match x, y with
  | .agg xs, .agg ys => if P.eqGuardType P.depth t = true then none else Q8m P 10000 t (.agg xs) (.agg ys)
  | .ref β o, .ref β' o' => match d with
    | .pointer e => match Q0m P e with
      | some (_, n, _) => if β = β' ∧ n ≠ 0 then some (decide (o = o')) else none
      | none => none
    | _ => none
  | x, y => veq d x y
def vun (op : UnOp) (x : AV) (R : AV → Prop) : Prop :=
  match op, x with
  | .not, .val (.bool b) => R (.b (!b))
  | .neg, .val (.int k n) => R (.val (.int k (k.wrap (0 - n))))
  | .xor, .val (.int k n) => R (.val (.int k (k.wrap ((BitVec.ofInt k.bits (if k.signed then -1 else k.max) ^^^ BitVec.ofInt k.bits n).toNat))))
  | _, _ => False
def Q7b (κ : K) (args : List AV) (vs : Array Value) : Prop := RelRow κ args vs
def Post (κ : K) (R : AV → Sg → Prop) (v : Value) (w' : World) : Prop :=
  ∃ κ' x σ', κ'.w = w' ∧ κ.le κ' ∧ St κ' σ' ∧ Rel κ' x v ∧ R x σ'
def PostE (κ : K) (R : AV → Sg → Prop) : Ending → World → Prop
  | .returned v, w' => Post κ R v w'
  | _, _ => False
def Done (P : Program) (κ : K) (R : AV → Sg → Prop) : Result Next → Prop
  | .ok (.value v) w' => Post κ R v w'
  | .ok .skip w' => Post κ R undef w'
  | .ok (.enter f args) w' => Calls P f args w' (PostE κ R)
  | .ok (.row row args) w' => Rows P row args w' (Post κ R)
  | _ => False
structure VCalls (P : Program) (f : FuncId) (args : List AV) (σ : Sg) (R : AV → Sg → Prop) : Prop where
  go : ∀ (κ : K) (vs : Array Value), St κ σ → Q7b κ args vs → Done P κ R ((callFunc f vs).run P κ.w)
def elems : AV → Option (List (List AV))
  | .sl _ es => some es
  | .val (.string s) => some (Q0z s)
  | _ => none
def Own.cut (k : Own) (last : Bool) : Own :=
  match k with
  | .nil => .nil
  | .full => if last then .full else .view
  | .tok τ s => if last then .tok τ s else .any
  | .view => .view
  | .any => .any
def Q0o (z : Value) : List AV := (ofValue z).cells
def Q1i (es : List (List AV)) (n : Nat) : Prop := ∀ e ∈ es, e.length = n
def Q3l (es : List (List AV)) (n : Nat) : Prop := ∀ e ∈ es, e.length = n ∧ (e.all AV.one) = true
def Q8n (P : Program) (e : TypeId) (x y : AV) (σ : Sg) (R : AV → Sg → Prop) : Prop :=
  match Q0m P e, x, elems y with
  | some (some z, sz, by_), .sl k es, some ys =>
    ((Q0o z).length = sz ∧ 2 * (es.length + ys.length) * by_ ≤ 2 ^ 48 ∧ es.length + ys.length < 2 ^ 62 ∧ Q1i es sz ∧ Q3l ys sz) ∧
    match k with
    | .nil => Q1x σ fun τ => R (.sl (.tok τ sz) (es ++ ys)) (σ.set τ (.tok (some e)))
    | .full => (ys = [] → R (.sl .full es) σ) ∧ (ys ≠ [] → Q1x σ fun τ => R (.sl (.tok τ sz) (es ++ ys)) (σ.set τ (.tok (some e))))
    | .tok t s => s = sz ∧ (match σ t with | some (.tok ot) => (ot = none ∨ ot = some e) ∧ Q1x σ fun τ => R (.sl (.tok τ sz) (es ++ ys)) ((σ.del t).set τ (.tok ot)) | _ => False)
    | _ => False
  | _, _, _ => False
def Q4a (place : Nat → Option (Nat × Nat)) (cells : List AV) : List (Nat × AV) → Option (List AV)
  | [] => some cells
  | (i, v) :: rest =>
    match place i with
    | none => none
    | some (off, size) => if v.cells.length = size ∧ off + size ≤ cells.length then Q4a place (Q2o cells off v.cells) rest else none
def Q2u (P : Program) (fs : Array Field) : List (Option (Nat × Nat)) := fs.toList.map fun f => (Q0m P f.type).map fun i => (f.offset, i.2.1)
def Q1l : Option AV → Int → Option Int
  | none, d => some d
  | some (.val (.int _ n)), _ => some n
  | _, _ => none
def vslice (P : Program) (t : TypeId) (x : AV) (lo hi mx : Option AV) (σ : Sg) (R : AV → Prop) : Prop :=
  match P.underlying t, x with
  | some .string, .val (.string s) =>
    match mx, Q1l lo 0, Q1l hi s.size with
    | none, some l, some h => (0 ≤ l ∧ l ≤ h ∧ h ≤ s.size) ∧ R (.s (s.extract l.toNat h.toNat))
    | _, _, _ => False
  | some (.slice e), .sl k es =>
    match Q1l lo 0, Q1l hi es.length, Q0m P e with
    | some l, some h, some (_, s, _) =>
      match mx with
      | none => (0 ≤ l ∧ l ≤ h ∧ h ≤ es.length ∧ Q1i es s) ∧ R (.sl (k.cut (decide (h = es.length ∧ (l = 0 ∨ l < h)))) ((es.take h.toNat).drop l.toNat))
      | some (.val (.int _ m)) => (0 ≤ l ∧ l ≤ h ∧ h ≤ m ∧ m ≤ es.length ∧ h = m ∧ es ≠ [] ∧ hi.isSome = true ∧ Q1i es s) ∧ R (.sl .full ((es.take h.toNat).drop l.toNat))
      | _ => False
    | _, _, _ => False
  | some (.slice e), .ms β off n sz =>
    match mx, Q1l lo 0, Q1l hi n, Q0m P e with
    | none, some l, some h, some (_, s, _) => (s = sz ∧ 0 ≤ l ∧ l ≤ h ∧ h ≤ n ∧ (l = 0 ∨ l < n)) ∧ R (.ms β (off + l.toNat * sz) (h - l).toNat sz)
    | _, _, _, _ => False
  | some (.slice e), .mc β n m sz =>
    match mx, lo, Q1l hi n, Q0m P e with
    | none, none, some h, some (_, s, _) => (s = sz ∧ 0 ≤ h ∧ h ≤ m) ∧ R (.ms β 0 h.toNat sz)
    | _, _, _, _ => False
  | some (.slice e), .nz τ n sz =>
    match mx, lo, Q1l hi n, Q0m P e with
    | none, none, some h, some (_, s, _) => (s = sz ∧ h = 0) ∧ R (.sl (.tok τ sz) [])
    | _, _, _, _ => False
  | some (.slice e), .lsl v es =>
    match mx, lo, Q1l hi es.length, Q0m P e with
    | none, none, some h, some (_, s, _) => (s = 1 ∧ h = (es.length : Int) + 1) ∧ R (.sl .view (es ++ [[.val v]]))
    | _, _, _, _ => False
  | some (.array n e), .ro cs =>
    match mx, Q1l lo 0, Q1l hi n, Q0m P e with
    | none, some l, some h, some (_, s, _) => (n * s ≤ cs.length ∧ 0 ≤ l ∧ l ≤ h ∧ h ≤ n) ∧ R (.sl .view (((Q2f s n cs).take h.toNat).drop l.toNat))
    | _, _, _, _ => False
  | some (.array n e), .ref β off =>
    match mx, Q1l lo 0, Q1l hi n, Q0m P e, σ β with
    | none, some l, some h, some (_, s, _), some (.cells _ cs) => (off + n * s ≤ cs.length ∧ 0 ≤ l ∧ l ≤ h ∧ h ≤ n ∧ (l = 0 ∨ l < n)) ∧ R (.ms β (off + l.toNat * s) (h - l).toNat s)
    | _, _, _, _, _ => False
  | _, _ => False
def vconv (P : Program) (s d : TypeId) (x : AV) (σ : Sg) (R : AV → Sg → Prop) : Prop :=
  match P.underlying s, P.underlying d, x with
  | some _, some (.int k), .val (.int _ n) => R (.val (.int k (k.wrap n))) σ
  | some (.string), some .string, .val (.string b) => R (.s b) σ
  | some (.string), some (.slice e), .val (.string b) =>
    match P.underlying e with
    | some (.int .u8) => Q1x σ fun τ => R (.sl (.tok τ 1) (Q0z b)) (σ.set τ (.tok none))
    | _ => False
  | some (.slice e), some .string, .sl _ es =>
    match P.underlying e with
    | some (.int .u8) => ∃ b : ByteArray, es = Q0z b ∧ R (.s b) σ
    | _ => False
  | some (.slice e), some .string, .lsl _ es =>
    match P.underlying e with
    | some (.int .u8) => ∃ b : ByteArray, es = Q0z b ∧ R (.s b) σ
    | _ => False
  | some (.slice e), some .string, .ms β off n sz =>
    match P.underlying e, σ β with
    | some (.int .u8), some (.cells _ cs) => ∃ b : ByteArray, sz = 1 ∧ (cs.drop off).take n = (b.data.toList.map fun c => AV.u8 c.toNat) ∧ b.size = n ∧ R (.s b) σ
    | _, _ => False
  | some (.pointer e), some .unsafePointer, .ref β off => match Q0m P e, σ β with
    | some (_, n, _), some (.cells _ cs) => (n ≠ 0 ∧ off < cs.length) ∧ R (.ref β off) σ
    | _, _ => False
  | some .unsafePointer, some (.pointer u), .ref β off => match Q0m P u, σ β with
    | some _, some (.cells e cs) => liesAt P P.depth e (cs.length / P.cellsOf e) off u 1 = true ∧ R (.ref β off) σ
    | _, _ => False
  | some (.slice _), some (.slice e), .sl (.tok τ 1) (x :: r) =>
    match P.underlying e, σ τ with
    | some (.int .u8), some (.tok (some _)) => (s == d) = true ∧ R (.sl .any (x :: r)) (σ.del τ)
    | _, _ => False
  | _, _, _ => False
def Q3u : Value → Value → Option Bool
  | .int _ a, .int _ b => some (decide (a = b))
  | .string a, .string b => some (sEq a b)
  | _, _ => none
def Q8o (k : Value) : List (Value × AV) → Option (Option AV)
  | [] => some none
  | (k', x) :: r => match Q3u k k' with
    | some true => some (some x)
    | some false => Q8o k r
    | none => none
def AV.solid : AV → Bool
  | .junk => false
  | .val (.agg _) => false
  | _ => true
def Q8p (c a b : AV) (R : AV → Prop) : Prop :=
  match c, a, b with
  | .val (.bool t), .val (.bool x), .val (.bool y) => R (.b (bif t then x else y))
  | .val (.bool t), a, b => (t = true → R a) ∧ (t = false → R b)
  | _, _, _ => False
def vbox (e : TypeId) (H : Hint) (x : AV) (σ : Sg) (R : AV → Sg → Prop) : Prop :=
  match H with
  | .ro => R (.ro x.cells) σ
  | _ => Q1x σ fun β => R (.ref β 0) (σ.set β (.cells e x.cells))
def X1i (P : Program) (t : TypeId) (a : AV) (σ : Sg) (R : AV → Prop) : Prop :=
  match a with
  | .ro cs => Q4u P t cs R
  | .ref β off => match σ β with | some (.cells _ cs) => Q4u P t (cs.drop off) R | _ => False
  | _ => False
def X0q (P : Program) (t : TypeId) (a x : AV) (σ : Sg) (R : Sg → Prop) : Prop :=
  match a, Q0m P t with
  | .ref β off, some (_, n, _) => match σ β with
    | some (.cells e cs) => (x.solid = true ∧ x.cells.length = n ∧ off + n ≤ cs.length ∧ (x.cells.all AV.one) = true) ∧ R (σ.set β (.cells e (Q2o cs off x.cells)))
    | _ => False
  | _, _ => False
def Q0x (P : Program) (op : BinOp) (t : TypeId) (x y : AV) (R : AV → Prop) : Prop :=
  match x, y with
  | .val (.int _ _), .val (.int _ _) => vbin op x y R
  | .val (.string _), .val (.string _) => vbin op x y R
  | _, _ => match P.underlying t, op with
    | some d, .eql => match veqT P t d x y with
      | some b => R (.b b)
      | none => False
    | some d, .neq => match veqT P t d x y with
      | some b => R (.b (!b))
      | none => False
    | _, _ => False
def Q9t (P : Program) (s : TypeId) (x : AV) (f : Nat) (R : AV → Prop) : Prop :=
  match P.underlying s with
  | some (.struct fs) => match fs[f]? with
    | some fd => match Q0m P fd.type with
      | some (_, n, _) => n ≠ 0 ∧ match x with
        | .ro cs => R (.ro (cs.drop fd.offset))
        | .ref β off => R (.ref β (off + fd.offset))
        | _ => False
      | none => False
    | none => False
  | _ => False
def vfield (P : Program) (s : TypeId) (x : AV) (f : Nat) (R : AV → Prop) : Prop :=
  match P.underlying s, x with
  | some (.struct fs), .agg cs => match fs[f]? with
    | some fd => Q4u P fd.type (cs.drop fd.offset) R
    | none => False
  | _, _ => False
def X0r (s : ByteArray) (i : Nat) : UInt8 := (s.data[i]?).getD 0
def Q9u (P : Program) (t : TypeId) (x i : AV) (R : AV → Prop) : Prop :=
  match P.underlying t, x, i with
  | some (.slice e), .sl _ es, .val (.int _ i) => match Q0m P e with
    | some (_, s, _) => (0 ≤ i ∧ i.toNat < es.length ∧ (es.getD i.toNat []).length = s) ∧ R (.ro (es.getD i.toNat []))
    | none => False
  | some (.slice e), .ms β off n sz, .val (.int _ i) => (0 ≤ i ∧ i < n ∧ (∃ z b, Q0m P e = some (z, sz, b))) ∧ R (.ref β (off + i.toNat * sz))
  | some (.array n e), .ro cs, .val (.int _ i) => match Q0m P e with
    | some (_, s, _) => (0 ≤ i ∧ i < n ∧ n ≠ 0) ∧ R (.ro (cs.drop (i.toNat * s)))
    | none => False
  | some (.array n e), .ref β off, .val (.int _ i) => match Q0m P e with
    | some (_, s, _) => (0 ≤ i ∧ i < n ∧ n ≠ 0) ∧ R (.ref β (off + i.toNat * s))
    | none => False
  | _, _, _ => False
def vindex (P : Program) (t : TypeId) (x i : AV) (R : AV → Prop) : Prop :=
  match P.underlying t, x, i with
  | some .string, .val (.string s), .val (.int _ i) => (0 ≤ i ∧ i.toNat < s.size) ∧ R (.u8 (X0r s i.toNat).toNat)
  | some (.array n e), .agg cs, .val (.int _ i) => match Q0m P e with
    | some (_, s, _) => (0 ≤ i ∧ i < n) ∧ Q4u P e (cs.drop (i.toNat * s)) R
    | none => False
  | _, _, _ => False
def vbuild (P : Program) (t : TypeId) (parts : List (Nat × AV)) (R : AV → Prop) : Prop :=
  match Q0m P t, P.underlying t with
  | some (some z, _, _), some (.struct fs) =>
    (parts.all fun p => p.2.solid) = true ∧ match Q4a (fun i => ((Q2u P fs)[i]?).bind id) (Q0o z) parts with | some cs => (Q2u P fs).all (·.isSome) = true ∧ R (.agg cs) | none => False
  | some (some z, _, _), some (.array _ e) => match Q0m P e with
    | some (_, s, _) => (parts.all fun p => p.2.solid) = true ∧ match Q4a (fun i => some (i * s, s)) (Q0o z) parts with | some cs => R (.agg cs) | none => False
    | none => False
  | _, _ => False
def Q6i (P : Program) (H : Hint) (t : TypeId) (len : Nat) (parts : List (Nat × AV)) (σ : Sg) (R : AV → Sg → Prop) : Prop :=
  match P.underlying t with
  | some (.slice e) => match Q0m P e with
    | some (some z, s, _) =>
      ((parts.all fun p => p.2.solid) = true ∧ len * s ≤ 2 ^ 24 ∧ (Q0o z).length = s ∧ 0 < s) ∧
      match Q4a (fun i => some (i * s, s)) ((List.replicate len (Q0o z)).flatten) parts with | some cs => (match H with | .obj => Q1x σ fun τ => R (.sl (.tok τ s) (Q2f s len cs)) (σ.set τ (.tok (some e))) | _ => R (.sl .full (Q2f s len cs)) σ) | none => False
    | _ => False
  | _ => False
def Q4r (P : Program) (H : Hint) (t : TypeId) (l c : AV) (σ : Sg) (R : AV → Sg → Prop) : Prop :=
  match P.underlying t, l, c with
  | some (.slice e), .val (.int _ l), .val (.int _ c) => match Q0m P e with
    | some (some z, s, b) =>
      (0 ≤ l ∧ l ≤ c ∧ c < 2 ^ 62 ∧ b * c ≤ 2 ^ 48 ∧ (Q0o z).length = s ∧ 0 < s) ∧
      match H with
      | .obj => l = c ∧ Q1x σ fun β => R (.ms β 0 l.toNat s) (σ.set β (.cells e ((List.replicate l.toNat (Q0o z)).flatten)))
      | .cap => Q1x σ fun β => R (.mc β l.toNat c.toNat s) (σ.set β (.cells e ((List.replicate c.toNat (Q0o z)).flatten)))
      | _ => Q1x σ fun τ => R (.sl (.tok τ s) (List.replicate l.toNat (Q0o z))) (σ.set τ (.tok (some e)))
    | _ => False
  | _, _, _ => False
def Q9v (key : Value) (es : List (Value × AV)) : Prop := ∀ k x, (k, x) ∈ es → ∀ q a q' b, key = .int q a → k = .int q' b → q = q'
def allV : List AV → Option (List Value)
  | [] => some []
  | .val v :: r => (allV r).map (v :: ·)
  | _ => none
def ofKey : Value → AV
  | .agg cs => .agg (cs.toList.map .val)
  | v => .val v
def vkeyS (P : Program) (kt : TypeId) (key k : Value) : Option Bool := Q8m P 10000 kt (ofKey key) (ofKey k)
def Q7c (P : Program) (kt : TypeId) (key : Value) : List (Value × AV) → Option (Option AV)
  | [] => some none
  | (k, x) :: r => match vkeyS P kt key k with
    | some true => some (some x)
    | some false => Q7c P kt key r
    | none => none
def keyOK (P : Program) (kt : TypeId) (cs : List AV) : Bool :=
  match P.underlying kt with
  | some (.struct fs) => fs.toList.all fun f => (X1h P f.type (cs.drop f.offset)).isSome && (match P.underlying f.type with | some (.int _) | some .string | some .bool => true | _ => false)
  | _ => false
def Q9w (P : Program) (t : TypeId) (m k : AV) (ok : Bool) (σ : Sg) (R : AV → Prop) : Prop :=
  match P.underlying t, m, k with
  | some (.map kt e), .map β, .val key => match P.underlying kt, key, σ β, Q0m P e with
    | some (.int _), .int _ _, some (.map es), some (some z, _, _) | some .string, .string _, some (.map es), some (some z, _, _) =>
      Q9v key es ∧ match Q8o key es with
      | some (some x) => R (if ok = true then .tup [x, .b true] else x)
      | some none => R (if ok = true then .tup [ofValue z, .b false] else ofValue z)
      | none => False
    | _, _, _, _ => False
  | some (.map kt e), .map β, .agg cs => match allV cs, σ β, Q0m P e with
    | some vs, some (.map es), some (some z, _, _) =>
      keyOK P kt cs = true ∧ match Q7c P kt (.agg vs.toArray) es with
      | some (some x) => R (if ok = true then .tup [x, .b true] else x)
      | some none => R (if ok = true then .tup [ofValue z, .b false] else ofValue z)
      | none => False
    | _, _, _ => False
  | _, _, _ => False
def vput (k : Value) (x : AV) : List (Value × AV) → List (Value × AV)
  | [] => [(k, x)]
  | (k', y) :: r => if Q3u k k' = some true then (k', x) :: r else (k', y) :: vput k x r
def Q4s (P : Program) (t : TypeId) (m k x : AV) (σ : Sg) (R : Sg → Prop) : Prop :=
  match P.underlying t, m, k with
  | some (.map kt _), .map β, .val key => match P.underlying kt, key, σ β with
    | some (.int _), .int _ _, some (.map es) | some .string, .string _, some (.map es) => (Q9v key es ∧ Q8o key es ≠ none) ∧ R (σ.set β (.map (vput key x es)))
    | _, _, _ => False
  | some (.map kt _), .map β, .agg cs => match allV cs, σ β with
    | some vs, some (.map es) => (keyOK P kt cs = true ∧ Q7c P kt (.agg vs.toArray) es = some none) ∧ R (σ.set β (.map (es ++ [(.agg vs.toArray, x)])))
    | _, _ => False
  | _, _, _ => False
def vlen (x : AV) (σ : Sg) (R : AV → Prop) : Prop :=
  match x with
  | .val (.string s) => R (.i s.size)
  | .sl _ es => R (.i es.length)
  | .ms _ _ n _ => R (.i n)
  | .map β => match σ β with | some (.map es) => R (.i es.length) | _ => False
  | _ => False
def Q7d : TypeDesc → AV → Bool
  | .string, .val (.string _) => true
  | .slice _, .sl _ _ | .slice _, .ms _ _ _ _ => true
  | .map _ _, .map _ => true
  | _, _ => false
def X3d (P : Program) (t : TypeId) (d s : AV) (σ : Sg) (R : AV → Sg → Prop) : Prop :=
  match P.underlying t, d, elems s with
  | some (.slice e), .ms β off n sz, some ys => match Q0m P e, σ β with
    | some (_, s, _), some (.cells ty cs) =>
      (s = sz ∧ 0 < sz ∧ Q1i ys sz ∧ off + n * sz ≤ cs.length ∧ (ys.all fun y => y.all AV.one) = true) ∧
      R (.i (Nat.min ys.length n)) (σ.set β (.cells ty (Q2o cs off ((ys.take n).flatten))))
    | _, _ => False
  | some (.slice e), .mc β n m sz, some ys => match Q0m P e, σ β with
    | some (_, s, _), some (.cells ty cs) =>
      (s = sz ∧ 0 < sz ∧ Q1i ys sz ∧ n * sz ≤ cs.length ∧ (ys.all fun y => y.all AV.one) = true) ∧
      R (.i (Nat.min ys.length n)) (σ.set β (.cells ty (Q2o cs 0 ((ys.take n).flatten))))
    | _, _ => False
  | some (.slice e), .sl k [], some [] => (Q0m P e).isSome = true ∧ d = .sl k [] ∧ s = .sl .nil [] ∧ R (.i 0) σ
  | _, _, _ => False
def vmin (lt : Bool) (x y : AV) (R : AV → Prop) : Prop :=
  match x, y with
  | .val (.int k a), .val (.int k' b) => k = k' ∧ R (.val (.int k (if lt then (if b < a then b else a) else (if a < b then b else a))))
  | _, _ => False
def Q1s (P : Program) (b : Builtin) (vs : List AV) (ts : Array TypeId) (ty : TypeId) (σ : Sg) (R : AV → Sg → Prop) : Prop :=
  match b, vs with
  | .len, [x] => (match (ts[0]?).bind P.underlying with | some d => Q7d d x = true ∧ vlen x σ (R · σ) | _ => False)
  | .append, [x, y] => (match (ts[0]?).bind P.underlying, (ts[1]?).bind P.underlying with
    | some (.slice e), some (.slice _) | some (.slice e), some .string => Q8n P e x y σ R
    | _, _ => False)
  | .copy, [d, s] => (match ts[0]? with | some t => X3d P t d s σ R | none => False)
  | .min, [x, y] => vmin true x y (R · σ)
  | .unsafeSliceData, [x] => (match P.underlying ty, x with
    | some (.pointer _), .sl (.tok τ s) es => match σ τ with
      | some (.tok _) => (s = 1 ∧ Q1i es 1) ∧ R (.bp τ es) σ
      | _ => False
    | some (.pointer _), .sl .nil es => es = [] ∧ R (.bp 0 []) σ
    | _, _ => False)
  | .unsafeString, [.bp τ es, .val (.int .i64 n)] => (match (ts[0]?).bind P.underlying with
    | some (.pointer e) => match Q0m P e with
      | some (_, s, _) => ∃ b : ByteArray, (s = 1 ∧ es = Q0z b ∧ n = b.size ∧ (b.size : Int) ≤ 9223372036854775807) ∧ (es = [] ∨ σ τ = some (.tok (some e))) ∧ R (.s b) σ
      | none => False
    | _ => False)
  | .max, [x, y] => vmin false x y (R · σ)
  | .cap, [x] => x = .sl .nil [] ∧ (∃ e, (ts[0]?).bind P.underlying = some (.slice e)) ∧ R (.i 0) σ
  | _, _ => False
def vcall (P : Program) (ρ : Nat → AV) (ty : TypeId) (c : Call) (σ : Sg) (R : AV → Sg → Prop) : Prop :=
  match c.callee with
  | .builtin b => Q1s P b (c.args.toList.map (ev ρ)) c.argTypes ty σ R
  | .value f => (match ev ρ f with
    | .fn g cap => VCalls P g (c.args.toList.map (ev ρ) ++ cap) σ R
    | .bm g fs => VCalls P g (fs ++ c.args.toList.map (ev ρ)) σ R
    | _ => False)
  | _ => False
def vop (P : Program) (H : Hint) (ρ : Nat → AV) (ty : TypeId) (o : Op) (σ : Sg) (R : AV → Sg → Prop) : Prop :=
  match o with
  | .move x | .assign x => R (ev ρ x) σ
  | .pick c a b => Q8p (ev ρ c) (ev ρ a) (ev ρ b) (R · σ)
  | .alloc e => (match Q0m P e with | some (some z, _, _) => vbox e H (ofValue z) σ R | _ => False)
  | .box e x => (ev ρ x).solid = true ∧ vbox e H (ev ρ x) σ R
  | .build t parts => vbuild P t (parts.toList.map fun p => (p.1, ev ρ p.2)) (R · σ)
  | .buildSlice t len parts => Q6i P H t len (parts.toList.map fun p => (p.1, ev ρ p.2)) σ R
  | .load t a => X1i P t (ev ρ a) σ (R · σ)
  | .store t a x => X0q P t (ev ρ a) (ev ρ x) σ (R (.val undef))
  | .nilCheck x => (match ev ρ x with
    | .ro cs => R (.ro cs) σ
    | .ref β off => R (.ref β off) σ
    | .fn f cap => R (.fn f cap) σ
    | .bm f cap => R (.bm f cap) σ
    | _ => False)
  | .binOp op t x y _ => Q0x P op t (ev ρ x) (ev ρ y) (R · σ)
  | .unOp op _ x => vun op (ev ρ x) (R · σ)
  | .convert s d x => vconv P s d (ev ρ x) σ R
  | .makeFunc (.func f) first captured => (match first.toList.map (ev ρ), captured.toList.map (ev ρ) with
    | [], c => R (.fn f c) σ
    | x :: fs, [] => R (.bm f (x :: fs)) σ
    | _, _ => False)
  | .makeMap _ none => Q1x σ fun β => R (.map β) (σ.set β (.map []))
  | .makeSlice t l c => Q4r P H t (ev ρ l) (ev ρ c) σ R
  | .slice t x lo hi mx => vslice P t (ev ρ x) (lo.map (ev ρ)) (hi.map (ev ρ)) (mx.map (ev ρ)) σ (R · σ)
  | .fieldAddr s x f => Q9t P s (ev ρ x) f (R · σ)
  | .field s x f => vfield P s (ev ρ x) f (R · σ)
  | .indexAddr t x i => Q9u P t (ev ρ x) (ev ρ i) (R · σ)
  | .index t x i => vindex P t (ev ρ x) (ev ρ i) (R · σ)
  | .lookup t m k ok => Q9w P t (ev ρ m) (ev ρ k) ok σ (R · σ)
  | .mapUpdate t m k x => Q4s P t (ev ρ m) (ev ρ k) (ev ρ x) σ (R (.val undef))
  | .extract x ix => (match ev ρ x with | .tup vs => (match vs[ix]? with | some v => R v σ | none => False) | _ => False)
  | .call c => vcall P ρ ty c σ R
  | _ => False
variable {κ : K} {σ : Sg}
def K.alloc (κ : K) (o : Obj) (m : Nat → Prop) : K := { κ with w := κ.w.alloc o, M := fun b x => κ.M b x ∨ (b = κ.w.heap.size ∧ m x) }
def K.named (κ : K) (β : Nat) (l : Nat × Nat × Nat) : K := { κ with μ := fun x => if x = β then some l else κ.μ x }
theorem K.le_alloc (h : κ.base ≤ κ.w.heap.size) (o : Obj) (m : Nat → Prop) : κ.le (κ.alloc o m) where
  os := rfl
  tape := rfl
  output := rfl
  size := by simp [K.alloc]
  cell b x hb hm := ⟨World.cell?_alloc_lt _ _ _ hb, by
    intro h
    rcases h with h | ⟨h, _⟩
    · exact hm h
    · omega⟩
  base := rfl
  block b hb := Below.heap_alloc _ _ _ (by omega)
  name _ _ h := h
theorem K.le_named {β : Nat} (h : κ.μ β = none) (l : Nat × Nat × Nat) : κ.le (κ.named β l) where
  os := rfl
  tape := rfl
  output := rfl
  size := Nat.le_refl _
  cell _ _ _ hm := ⟨rfl, hm⟩
  base := rfl
  block _ _ := rfl
  name β' l' h' := by
    show (if β' = β then some l else κ.μ β') = some l'
    rw [if_neg (fun e => by rw [e, h] at h'; cases h')]
    exact h'
theorem RelRow.mono {κ κ' : K} (h : κ.le κ') {cs : List AV} {vs : Array Value} (hr : RelRow κ cs vs) : RelRow κ' cs vs :=
  ⟨hr.1, fun i x v h1 h2 => (hr.2 i x v h1 h2).mono h⟩
theorem X1j {w : World} {b : Nat} {o : Obj} (h : w.heap[b]? = some o) : b < w.heap.size := by
  rcases Nat.lt_or_ge b w.heap.size with h' | h'
  · exact h'
  · simp [Array.getElem?_eq_none h'] at h
theorem Ob.ok.keep {κ κ' : K} (hle : κ.le κ') {b lo hi : Nat} {o : Ob} (ho : o.ok κ b lo hi) (hb : κ'.w.heap[b]? = κ.w.heap[b]?) : o.ok κ' b lo hi := by
  cases o with
  | cells t cs =>
    obtain ⟨h1, h2, c, fz, h3, h4, h5⟩ := ho
    exact ⟨h1, h2, c, fz, hb.trans h3, fun i hi => by rw [← h4 i hi]; exact World.frozen?_of_block hb, h5.mono hle⟩
  | tok e =>
    intro hlt
    obtain ⟨c, t, fz, h3, h4, h5, h6⟩ := ho hlt
    exact ⟨c, t, fz, hb.trans h3, h4, fun i h1 h2 => by rw [← h5 i h1 h2]; exact World.frozen?_of_block hb, h6⟩
  | map es =>
    obtain ⟨h1, h2, arr, clock, h3, h4, h5⟩ := ho
    exact ⟨h1, h2, arr, clock, hb.trans h3, h4, fun i k x m h6 h7 => ⟨(h5 i k x m h6 h7).1, (h5 i k x m h6 h7).2.mono hle⟩⟩
theorem Ob.ok.lt {b lo hi : Nat} {o : Ob} (ho : o.ok κ b lo hi) (h : lo < hi) : b < κ.w.heap.size := by
  cases o with
  | cells t cs => obtain ⟨_, _, c, fz, h3, _⟩ := ho; exact X1j h3
  | tok e => obtain ⟨c, t, fz, h3, _⟩ := ho h; exact X1j h3
  | map es => obtain ⟨_, _, arr, clock, h3, _⟩ := ho; exact X1j h3
theorem Ob.ok.keep_alloc {b lo hi : Nat} {o : Ob} (hbas : κ.base ≤ κ.w.heap.size) (ho : o.ok κ b lo hi) (ob : Obj) (m : Nat → Prop) : o.ok (κ.alloc ob m) b lo hi := by
  have hle := K.le_alloc hbas ob m
  have key : ∀ {x : Obj}, κ.w.heap[b]? = some x → (κ.alloc ob m).w.heap[b]? = κ.w.heap[b]? := fun h => Below.heap_alloc _ _ _ (X1j h)
  cases o with
  | cells t cs => obtain ⟨_, _, c, fz, h3, _⟩ := id ho; exact ho.keep hle (key h3)
  | tok e =>
    intro hlt
    obtain ⟨c, t, fz, h3, _⟩ := ho hlt
    exact (ho.keep hle (key h3)) hlt
  | map es => obtain ⟨_, _, arr, clock, h3, _⟩ := id ho; exact ho.keep hle (key h3)
theorem St.alloc (h : St κ σ) (o : Obj) (m : Nat → Prop) : St (κ.alloc o m) σ where
  ob β ob hb := by
    obtain ⟨b, lo, hi, h1, h2, h3⟩ := h.ob β ob hb
    exact ⟨b, lo, hi, h1, fun x hx hx' => .inl (h2 x hx hx'), h3.keep_alloc h.bas o m⟩
  apart := h.apart
  fin := h.fin
  mlt b x hm := by
    have hb := h.bas
    rcases hm with hm | ⟨rfl, _⟩
    · have := h.mlt b x hm; simp [K.alloc]; omega
    · simp [K.alloc]; omega
  bas := by have := h.bas; simp [K.alloc]; omega
  glob := h.glob.mono (K.le_alloc h.bas o m)
theorem St.fresh (h : St κ σ) : ∃ β, κ.μ β = none ∧ ∀ σ' : Sg, σ'.sub σ → σ' β = none := by
  obtain ⟨N, hN⟩ := h.fin
  refine ⟨N, hN N (Nat.le_refl _), fun σ' hs => ?_⟩
  cases hb : σ' N with
  | none => rfl
  | some o =>
    obtain ⟨b, lo, hi, h1, _⟩ := h.ob N o (hs _ _ hb)
    rw [hN N (Nat.le_refl _)] at h1
    cases h1
theorem Sg.del_sub (σ : Sg) (β : Nat) : (σ.del β).sub σ := by
  intro x o h
  unfold Sg.del at h
  split at h
  · cases h
  · exact h
theorem Sg.sub_set {σ : Sg} {β : Nat} (h : σ β = none) (o : Ob) : σ.sub (σ.set β o) := by
  intro x o' h'
  unfold Sg.set
  rw [if_neg (fun e => by rw [e, h] at h'; cases h')]
  exact h'
theorem Sg.set_set (σ : Sg) (β : Nat) (o o' : Ob) : (σ.set β o).set β o' = σ.set β o' := by
  funext x
  unfold Sg.set
  split <;> rfl
theorem Sg.set_same (σ : Sg) (β : Nat) (o : Ob) : (σ.set β o) β = some o := if_pos rfl
theorem Sg.set_other (σ : Sg) {β β' : Nat} (o : Ob) (h : β' ≠ β) : (σ.set β o) β' = σ β' := if_neg h
theorem Sg.set_comm (σ : Sg) {β β' : Nat} (o o' : Ob) (h : β ≠ β') : (σ.set β o).set β' o' = (σ.set β' o').set β o := by
  funext x
  unfold Sg.set
  split
  · rename_i e
    rw [if_neg (fun e' => h (e'.symm.trans e))]
  · rfl
theorem Sg.set_id {σ : Sg} {β : Nat} {o : Ob} (h : σ β = some o) : σ.set β o = σ := by
  funext x
  unfold Sg.set
  split
  · rename_i e; rw [e, h]
  · rfl
theorem St.named (h : St κ σ) {β b lo hi : Nat} {o : Ob} (hf : κ.μ β = none) (hok : o.ok (κ.named β (b, lo, hi)) b lo hi) (hM : ∀ x, lo ≤ x → x < hi → κ.M b x)
    (hap : ∀ β' o' lo' hi', σ β' = some o' → κ.μ β' = some (b, lo', hi') → hi ≤ lo ∨ hi' ≤ lo') : St (κ.named β (b, lo, hi)) (σ.set β o) where
  ob β' ob hb := by
    by_cases e : β' = β
    · subst e
      rw [Sg.set_same] at hb
      cases hb
      exact ⟨b, lo, hi, by simp [K.named], hM, hok⟩
    · rw [Sg.set_other _ _ e] at hb
      obtain ⟨b', lo', hi', h1, h2, h3⟩ := h.ob β' ob hb
      exact ⟨b', lo', hi', by simp only [K.named, if_neg e]; exact h1, h2, h3.keep (K.le_named hf _) rfl⟩
  apart β1 β2 o1 o2 b' lo1 hi1 lo2 hi2 hne h1 h2 h3 h4 := by
    by_cases e1 : β1 = β
    · have e2 : β2 ≠ β := fun e => hne (e1.trans e.symm)
      rw [Sg.set_other _ _ e2] at h2
      simp only [K.named, if_pos e1] at h3
      simp only [K.named, if_neg e2] at h4
      cases h3
      rcases hap β2 o2 lo2 hi2 h2 h4 with h | h <;> omega
    · rw [Sg.set_other _ _ e1] at h1
      simp only [K.named, if_neg e1] at h3
      by_cases e2 : β2 = β
      · simp only [K.named, if_pos e2] at h4
        cases h4
        rcases hap β1 o1 lo1 hi1 h1 h3 with h | h <;> omega
      · rw [Sg.set_other _ _ e2] at h2
        simp only [K.named, if_neg e2] at h4
        exact h.apart β1 β2 o1 o2 b' lo1 hi1 lo2 hi2 hne h1 h2 h3 h4
  fin := by
    obtain ⟨N, hN⟩ := h.fin
    refine ⟨max N (β + 1), fun x hx => ?_⟩
    simp only [K.named]
    rw [if_neg (by omega)]
    exact hN x (by omega)
  mlt := h.mlt
  bas := h.bas
  glob := h.glob.mono (K.le_named hf _)
theorem Q5w (h : St κ σ) {c : Array Value} {e : TypeId} {fz : Nat × Nat} {m : Nat → Prop} {j : Nat} {v : Value} (hv : c[j]? = some v) (hm : ¬ m j) : (κ.alloc (.cells c e fz) m).reads κ.w.heap.size j v := by
  refine ⟨?_, ?_⟩
  · show (κ.w.alloc (.cells c e fz)).cell? _ = _
    simp only [World.cell?, World.alloc, Array.getElem?_push, if_true, Option.isSome_none, Bool.false_eq_true, if_false, hv]
  · intro hh
    rcases hh with hh | ⟨_, hh⟩
    · have := (h.mlt _ _ hh).2; omega
    · exact hm hh
theorem St.newObj (h : St κ σ) {β n : Nat} {o : Ob} {x : Obj} (hf : κ.μ β = none)
    (hok : o.ok ((κ.alloc x (· < n)).named β (κ.w.heap.size, 0, n)) κ.w.heap.size 0 n) : St ((κ.alloc x (· < n)).named β (κ.w.heap.size, 0, n)) (σ.set β o) := by
  refine (h.alloc x (· < n)).named hf hok (fun y _ hy => .inr ⟨rfl, hy⟩) (fun β' o' lo' hi' hb hμ => ?_)
  obtain ⟨b', l, u, h1, h2, h3⟩ := h.ob β' o' hb
  rw [show (κ.alloc x (· < n)).μ β' = κ.μ β' from rfl, h1] at hμ
  cases hμ
  by_cases hlt : lo' < hi'
  · have := h3.lt hlt; omega
  · omega
def K.wrote (κ : K) (b o : Nat) (vs : List Value) (gone : Nat → Prop) : K := { κ with w := κ.w.setCells b o vs, M := fun b' x => κ.M b' x ∧ ¬ (b' = b ∧ gone x) }
theorem Q3f (b : Nat) : ∀ (vs : List Value) (o : Nat) (w : World) (b' : Nat), b' ≠ b → (w.setCells b o vs).heap[b']? = w.heap[b']?
  | [], _, _, _, _ => rfl
  | v :: r, o, w, b', h => by rw [World.setCells, Q3f b r (o + 1) _ b' h, Below.heap_setCell _ _ _ _ h]
theorem Q4o (b : Nat) : ∀ (vs : List Value) (o : Nat) (w : World), (w.setCells b o vs).heap.size = w.heap.size
  | [], _, _ => rfl
  | v :: r, o, w => by rw [World.setCells, Q4o b r, World.size_setCell]
theorem Q6j (b : Nat) : ∀ (vs : List Value) (o : Nat) (w : World), (w.setCells b o vs).os = w.os ∧ (w.setCells b o vs).tape = w.tape ∧ (w.setCells b o vs).output = w.output
  | [], _, _ => ⟨rfl, rfl, rfl⟩
  | v :: r, o, w => by rw [World.setCells]; exact Q6j b r (o + 1) _
theorem Q6k (b : Nat) : ∀ (vs : List Value) (o : Nat) (w : World) (c : Array Value) (e : TypeId) (fz : Nat × Nat), w.heap[b]? = some (.cells c e fz) →
    ∃ c', (w.setCells b o vs).heap[b]? = some (.cells c' e fz) ∧ c'.size = c.size
  | [], _, w, c, e, fz, h => ⟨c, h, rfl⟩
  | v :: r, o, w, c, e, fz, h => by
    have h1 : (w.setCell ⟨b, o, none⟩ v).heap[b]? = some (.cells (c.setIfInBounds o v) e fz) := by
      simp [World.setCell, Array.getElem?_modify, h]
    obtain ⟨c', h2, h3⟩ := Q6k b r (o + 1) _ _ _ _ h1
    exact ⟨c', by rw [World.setCells]; exact h2, by rw [h3]; simp⟩
theorem K.le_wrote (h : St κ σ) {b o : Nat} {vs : List Value} {gone : Nat → Prop} (hM : ∀ x, o ≤ x → x < o + vs.length → κ.M b x) : κ.le (κ.wrote b o vs gone) where
  os := (Q6j b vs o κ.w).1
  tape := (Q6j b vs o κ.w).2.1
  output := (Q6j b vs o κ.w).2.2
  size := by simp [K.wrote, Q4o]
  cell b' x hb hm := by
    refine ⟨?_, fun hh => hm hh.1⟩
    refine World.cell?_setCells_out b vs o κ.w _ (fun e _ => ?_)
    simp only at e ⊢
    subst e
    rcases Nat.lt_or_ge x o with hx | hx
    · exact .inl hx
    · rcases Nat.lt_or_ge x (o + vs.length) with hx' | hx'
      · exact absurd (hM x hx hx') hm
      · exact .inr hx'
  base := rfl
  block b' hb := by
    cases vs with
    | nil => rfl
    | cons v r =>
      have := (h.mlt _ _ (hM o (Nat.le_refl _) (by simp))).1
      exact Q3f b (v :: r) o κ.w b' (by omega)
  name _ _ h := h
theorem St.mlt_wrote (h : St κ σ) {b o : Nat} {vs : List Value} {gone : Nat → Prop} : ∀ b' x, (κ.wrote b o vs gone).M b' x → (κ.wrote b o vs gone).base ≤ b' ∧ b' < (κ.wrote b o vs gone).w.heap.size := by
  intro b' x hm
  have := h.mlt b' x hm.1
  simpa [K.wrote, Q4o] using this
theorem St.bas_wrote (h : St κ σ) {b o : Nat} {vs : List Value} {gone : Nat → Prop} : (κ.wrote b o vs gone).base ≤ (κ.wrote b o vs gone).w.heap.size := by
  have := h.bas
  simpa [K.wrote, Q4o] using this
theorem St.other_wrote (h : St κ σ) {β β' b lo hi o : Nat} {ob ob' : Ob} {vs : List Value} {gone : Nat → Prop} (hne : β ≠ β') (h1 : σ β = some ob) (h2 : σ β' = some ob') (hμ : κ.μ β = some (b, lo, hi)) (hlt : lo < hi)
    (hM : ∀ x, o ≤ x → x < o + vs.length → κ.M b x) (hfit : ∀ c t fz, κ.w.heap[b]? = some (.cells c t fz) → o + vs.length ≤ c.size) (hcell : ∃ c t fz, κ.w.heap[b]? = some (.cells c t fz)) :
    ∃ b1 lo1 hi1, κ.μ β' = some (b1, lo1, hi1) ∧ (∀ x, lo1 ≤ x → x < hi1 → κ.M b1 x ∧ (b1 = b → False)) ∧ ob'.ok (κ.wrote b o vs gone) b1 lo1 hi1 := by
  obtain ⟨b1, lo1, hi1, g1, g2, g3⟩ := h.ob β' ob' h2
  have hle := K.le_wrote h (gone := gone) hM
  refine ⟨b1, lo1, hi1, g1, fun x hx hx' => ⟨g2 x hx hx', fun e => ?_⟩, ?_⟩
  · subst e
    have := h.apart β β' _ _ b1 lo hi lo1 hi1 hne h1 h2 hμ g1
    omega
  · by_cases e : b1 = b
    · subst e
      have hemp := h.apart β β' _ _ b1 lo hi lo1 hi1 hne h1 h2 hμ g1
      obtain ⟨c0, t0, fz0, hc0⟩ := hcell
      cases ob' with
      | cells t cs =>
        obtain ⟨k1, k2, c, fz, k3, k4, k5⟩ := g3
        have hz : c.size = 0 := by rw [← k5.1]; omega
        have hvs : vs = [] := by
          have := hfit _ _ _ k3
          exact List.eq_nil_of_length_eq_zero (by omega)
        subst hvs
        exact Ob.ok.keep (o := .cells t cs) hle ⟨k1, k2, c, fz, k3, k4, k5⟩ rfl
      | tok e' => exact fun hl => absurd hl (by omega)
      | map es =>
        obtain ⟨k1, k2, arr, clock, k3, _⟩ := g3
        rw [hc0] at k3
        cases k3
    · exact g3.keep hle (Q3f b vs o κ.w b1 e)
theorem St.store (h : St κ σ) {β b hi off : Nat} {t : TypeId} {cs xs : List AV} {vs : List Value} (hβ : σ β = some (.cells t cs)) (hμ : κ.μ β = some (b, 0, hi)) (hfit : off + xs.length ≤ cs.length)
    (hl : xs.length = vs.length) (hr : ∀ (i : Nat) (x : AV) (v : Value), xs[i]? = some x → vs[i]? = some v → Rel κ x v) :
    κ.le (κ.wrote b off vs fun _ => False) ∧ St (κ.wrote b off vs fun _ => False) (σ.set β (.cells t (Q2o cs off xs))) ∧
    (∀ j, j < vs.length → (κ.w.cell? ⟨b, off + j, none⟩).isSome = true ∧ κ.w.frozen? ⟨b, off + j, none⟩ = false) := by
  obtain ⟨b', lo, hi', h1, h2, h3, h4, c, fz, h5, h6, h7⟩ := h.ob β _ hβ
  rw [hμ] at h1
  cases h1
  have hsz : c.size = cs.length := h7.1.symm
  have hM : ∀ x, off ≤ x → x < off + vs.length → κ.M b x := fun x _ hx => h2 x (by omega) (by omega)
  have hle := K.le_wrote h (gone := fun _ => False) hM
  have hcell : ∀ j, j < c.size → κ.w.cell? ⟨b, j, none⟩ = c[j]? := fun j hj => by simp [World.cell?, h5]
  refine ⟨hle, ⟨fun β' ob hb => ?_, fun β1 β2 o1 o2 b' lo1 hi1 lo2 hi2 hne g1 g2 g3 g4 => ?_, h.fin, h.mlt_wrote, h.bas_wrote, h.glob.mono hle⟩, fun j hj => ⟨?_, h6 _ (by omega)⟩⟩
  · by_cases e' : β' = β
    · subst e'
      rw [Sg.set_same] at hb
      cases hb
      obtain ⟨c', g1, g2⟩ := Q6k b vs off κ.w c t fz h5
      refine ⟨b, 0, hi, hμ, fun x hx hx' => ⟨h2 x hx hx', fun hh => hh.2⟩, rfl, ?_, c', fz, g1, fun i _ => ?_, ?_, fun i x v g3 g4 => ?_⟩
      · rw [h4]; simp [Q2o]; omega
      · have : i < c.size := by omega
        rw [← h6 i this]; exact World.frozen?_setCells b vs off κ.w _
      · rw [g2, hsz]; simp [Q2o]; omega
      · have hc' : (κ.w.setCells b off vs).cell? ⟨b, i, none⟩ = some v := by simp [World.cell?, g1, g4]
        have hi' : i < cs.length := by
          have : i < c'.size := by
            rcases Nat.lt_or_ge i c'.size with h' | h'
            · exact h'
            · simp [Array.getElem?_eq_none h'] at g4
          omega
        by_cases hin : off ≤ i ∧ i < off + vs.length
        · have g5 := World.cell?_setCells_in b vs off κ.w (fun j hj => by rw [hcell _ (by omega)]; simp [show off + j < c.size by omega]) (i - off) (by omega)
          rw [show off + (i - off) = i by omega, hc'] at g5
          have g6 : xs[i - off]? = some x := by
            unfold Q2o at g3
            rw [List.append_assoc, List.getElem?_append_right (by simp; omega), List.getElem?_append_left (by simp; omega)] at g3
            rw [show i - (List.take off cs).length = i - off by simp; omega] at g3
            exact g3
          refine (hr (i - off) x v g6 ?_).mono hle
          rw [List.getElem?_eq_getElem (by omega)]
          exact g5.symm
        · have g5 := World.cell?_setCells_out b vs off κ.w ⟨b, i, none⟩ (fun _ _ => by simp only; omega)
          rw [hc', hcell i (by omega)] at g5
          refine (h7.2 i x v ?_ g5.symm).mono hle
          unfold Q2o at g3
          rcases Nat.lt_or_ge i off with hx | hx
          · rw [List.append_assoc, List.getElem?_append_left (by simp; omega)] at g3
            simpa [List.getElem?_take, hx] using g3
          · rw [List.getElem?_append_right (by simp; omega)] at g3
            rw [← g3, List.getElem?_drop]
            congr 1
            simp
            omega
    · rw [Sg.set_other _ _ e'] at hb
      by_cases hz : 0 < hi
      · obtain ⟨b1, lo1, hi1, g1, g2, g3⟩ := h.other_wrote (gone := fun _ => False) (Ne.symm e') hβ hb hμ hz hM (fun c1 t1 fz1 hc1 => by rw [h5] at hc1; cases hc1; omega) ⟨c, t, fz, h5⟩
        exact ⟨b1, lo1, hi1, g1, fun x hx hx' => ⟨(g2 x hx hx').1, fun hh => hh.2⟩, g3⟩
      · have hvs : vs = [] := List.eq_nil_of_length_eq_zero (by omega)
        subst hvs
        obtain ⟨b1, lo1, hi1, g1, g2, g3⟩ := h.ob β' ob hb
        exact ⟨b1, lo1, hi1, g1, fun x hx hx' => ⟨g2 x hx hx', fun hh => hh.2⟩, g3.keep hle rfl⟩
  · have t' : ∀ {β' o'}, (σ.set β (.cells t (Q2o cs off xs))) β' = some o' → ∃ o'', σ β' = some o'' := fun {β' o'} g => by
      by_cases e' : β' = β
      · exact ⟨_, e' ▸ hβ⟩
      · rw [Sg.set_other _ _ e'] at g; exact ⟨_, g⟩
    obtain ⟨o1', t1⟩ := t' g1
    obtain ⟨o2', t2⟩ := t' g2
    exact h.apart β1 β2 o1' o2' b' lo1 hi1 lo2 hi2 hne t1 t2 g3 g4
  · rw [hcell _ (by omega)]
    simp [show off + j < c.size by omega]
theorem St.appendIn (h : St κ σ) {t τ b lo hi : Nat} {e : Option TypeId} {vs : List Value} (ht : σ t = some (.tok e)) (hμ : κ.μ t = some (b, lo, hi)) (hfit : lo + vs.length < hi) (hf : κ.μ τ = none) :
    κ.le ((κ.wrote b lo vs fun x => lo ≤ x ∧ x < lo + vs.length).named τ (b, lo + vs.length, hi)) ∧
    St ((κ.wrote b lo vs fun x => lo ≤ x ∧ x < lo + vs.length).named τ (b, lo + vs.length, hi)) ((σ.del t).set τ (.tok e)) ∧
    (∀ j, j < vs.length → (κ.w.cell? ⟨b, lo + j, none⟩).isSome = true ∧ κ.w.frozen? ⟨b, lo + j, none⟩ = false) ∧
    (∀ j (hj : j < vs.length), (κ.wrote b lo vs fun x => lo ≤ x ∧ x < lo + vs.length).reads b (lo + j) vs[j]) := by
  obtain ⟨b', lo', hi', h1, h2, h3⟩ := h.ob t _ ht
  rw [hμ] at h1
  cases h1
  obtain ⟨c, ty, fz, k1, k2, k3, k4⟩ := h3 (by omega)
  have hM : ∀ x, lo ≤ x → x < lo + vs.length → κ.M b x := fun x hx hx' => h2 x hx (by omega)
  have hle := K.le_wrote h (gone := fun x => lo ≤ x ∧ x < lo + vs.length) hM
  have hcells : ∀ j, j < vs.length → (κ.w.cell? ⟨b, lo + j, none⟩).isSome = true ∧ κ.w.frozen? ⟨b, lo + j, none⟩ = false := fun j hj => by
    refine ⟨?_, k3 _ (by omega) (by omega)⟩
    simp [World.cell?, k1, show lo + j < c.size by omega]
  have hst : St (κ.wrote b lo vs fun x => lo ≤ x ∧ x < lo + vs.length) (σ.del t) := by
    refine ⟨fun β' ob hb => ?_, fun β1 β2 o1 o2 b' lo1 hi1 lo2 hi2 hne g1 g2 g3 g4 => h.apart β1 β2 o1 o2 b' lo1 hi1 lo2 hi2 hne (Sg.del_sub _ _ _ _ g1) (Sg.del_sub _ _ _ _ g2) g3 g4, h.fin, h.mlt_wrote, h.bas_wrote, h.glob.mono hle⟩
    have hne : β' ≠ t := fun e => by subst e; simp [Sg.del] at hb
    have hb' := Sg.del_sub _ _ _ _ hb
    obtain ⟨b1, lo1, hi1, g1, g2, g3⟩ := h.other_wrote (gone := fun x => lo ≤ x ∧ x < lo + vs.length) (Ne.symm hne) ht hb' hμ (by omega) hM (fun c1 t1 fz1 hc1 => by rw [k1] at hc1; cases hc1; omega) ⟨c, ty, fz, k1⟩
    exact ⟨b1, lo1, hi1, g1, fun x hx hx' => ⟨(g2 x hx hx').1, fun hh => (g2 x hx hx').2 hh.1⟩, g3⟩
  refine ⟨hle.trans (K.le_named (κ := κ.wrote b lo vs _) hf _), ?_, hcells, fun j hj => ⟨?_, fun hh => hh.2 ⟨rfl, by omega, by omega⟩⟩⟩
  · refine hst.named hf ?_ (fun x hx hx' => ⟨h2 x (by omega) hx', fun hh => by have := hh.2; omega⟩) (fun β' o' lo' hi' hb hμ' => ?_)
    · intro hlt
      obtain ⟨c', g4, g5⟩ := Q6k b vs lo κ.w c ty fz k1
      exact ⟨c', ty, fz, g4, by omega, fun i k1 k2 => by rw [← k3 i (by omega) (by omega)]; exact World.frozen?_setCells b vs lo κ.w _, fun t' ht' => ⟨(k4 t' ht').1, by have := (k4 t' ht').2; omega⟩⟩
    · have hne : β' ≠ t := fun e => by subst e; simp [Sg.del] at hb
      rcases h.apart t β' _ _ b lo hi lo' hi' (Ne.symm hne) ht (Sg.del_sub _ _ _ _ hb) hμ hμ' with g | g <;> omega
  · exact World.cell?_setCells_in b vs lo κ.w (fun j hj => (hcells j hj).1) j hj
theorem St.newTok (h : St κ σ) {τ lo : Nat} {c : Array Value} {t : TypeId} {fz : Nat × Nat} {e : Option TypeId} (hc : lo ≤ c.size) (hfz : ∀ i, i < c.size → ¬ (fz.1 ≤ i ∧ i < fz.2)) (he : ∀ t', e = some t' → t' = t ∧ fz.1 = fz.2) (hf : κ.μ τ = none) :
    κ.le ((κ.alloc (.cells c t fz) (fun x => lo ≤ x ∧ x < c.size + 1)).named τ (κ.w.heap.size, lo, c.size + 1)) ∧ St ((κ.alloc (.cells c t fz) (fun x => lo ≤ x ∧ x < c.size + 1)).named τ (κ.w.heap.size, lo, c.size + 1)) (σ.set τ (.tok e)) := by
  have hle := K.le_alloc h.bas (.cells c t fz) (fun x => lo ≤ x ∧ x < c.size + 1)
  refine ⟨hle.trans (K.le_named (κ := κ.alloc _ _) hf _), (h.alloc _ _).named hf ?_ (fun x hx hx' => .inr ⟨rfl, hx, hx'⟩) (fun β' o' lo' hi' hb hμ => ?_)⟩
  · intro hlt
    refine ⟨c, t, fz, ?_, rfl, fun i h1 h2 => ?_, fun t' ht' => ⟨(he t' ht').1, .inl (he t' ht').2⟩⟩
    · show (κ.w.heap.push _)[κ.w.heap.size]? = _
      simp
    · have := hfz i h2
      show (κ.w.alloc _).frozen? _ = _
      obtain ⟨f1, f2⟩ := fz
      simp only [World.frozen?, World.alloc, Array.getElem?_push, if_true]
      simp only at this
      simp
      omega
  · obtain ⟨b', l, u, h1, h2, h3⟩ := h.ob β' o' hb
    rw [show (κ.alloc (.cells c t fz) (fun x => lo ≤ x ∧ x < c.size + 1)).μ β' = κ.μ β' from rfl, h1] at hμ
    cases hμ
    by_cases hlt : lo' < hi'
    · have := h3.lt hlt; omega
    · omega
theorem St.setMap (h : St κ σ) {β b hi : Nat} {es es' : List (Value × AV)} {arr : Array MapEntry} {clock : Nat} (hβ : σ β = some (.map es)) (hμ : κ.μ β = some (b, 0, hi))
    (hl : es'.length = arr.size) (hr : ∀ (i : Nat) (k : Value) (x : AV) (m : MapEntry), es'[i]? = some (k, x) → arr[i]? = some m → m.key = k ∧ Rel κ x m.val) :
    κ.le { κ with w := { κ.w with heap := κ.w.heap.setIfInBounds b (.map arr clock) } } ∧ St { κ with w := { κ.w with heap := κ.w.heap.setIfInBounds b (.map arr clock) } } (σ.set β (.map es')) := by
  obtain ⟨b', lo, hi', h1, h2, h3, h4, arr0, clock0, h5, h6⟩ := h.ob β _ hβ
  rw [hμ] at h1
  cases h1
  subst h4
  have hM : κ.M b 0 := h2 0 (by omega) (by omega)
  have hother : ∀ b', b' ≠ b → (κ.w.heap.setIfInBounds b (.map arr clock))[b']? = κ.w.heap[b']? := fun b' hb => by
    rw [Array.getElem?_setIfInBounds_ne (Ne.symm hb)]
  have hb := X1j h5
  have hself : (κ.w.heap.setIfInBounds b (.map arr clock))[b]? = some (.map arr clock) := by simp [hb]
  have hle : κ.le { κ with w := { κ.w with heap := κ.w.heap.setIfInBounds b (.map arr clock) } } := by
    refine ⟨rfl, rfl, rfl, by simp, fun b' x hb' hm => ⟨?_, hm⟩, rfl, fun b' hb' => hother b' (fun e => ?_), fun _ _ g => g⟩
    · by_cases e : b' = b
      · subst e
        simp [World.cell?, hself, h5]
      · exact World.cell?_of_block (w := κ.w) (hother b' e)
    · have := (h.mlt _ _ hM).1
      omega
  refine ⟨hle, ⟨fun β' ob hob => ?_, fun β1 β2 o1 o2 b' lo1 hi1 lo2 hi2 hne g1 g2 g3 g4 => ?_, h.fin, fun b' x hm => by have := h.mlt b' x hm; simpa using this, by have := h.bas; simpa using this, h.glob.mono hle⟩⟩
  · by_cases e : β' = β
    · subst e
      rw [Sg.set_same] at hob
      cases hob
      exact ⟨b, 0, 1, hμ, h2, rfl, rfl, arr, clock, hself, hl, fun i k x m g1 g2 => ⟨(hr i k x m g1 g2).1, (hr i k x m g1 g2).2.mono hle⟩⟩
    · rw [Sg.set_other _ _ e] at hob
      obtain ⟨b1, lo1, hi1, g1, g2, g3⟩ := h.ob β' ob hob
      refine ⟨b1, lo1, hi1, g1, g2, ?_⟩
      by_cases eb : b1 = b
      · subst eb
        cases ob with
        | cells t cs => obtain ⟨_, _, c, fz, k, _⟩ := g3; rw [h5] at k; cases k
        | tok e2 =>
          intro hlt
          obtain ⟨c, e', fz, k, _⟩ := g3 hlt
          rw [h5] at k
          cases k
        | map es2 =>
          obtain ⟨k1, k2, _⟩ := g3
          have := h.apart β β' _ _ b1 0 1 lo1 hi1 (Ne.symm e) hβ hob hμ g1
          omega
      · exact g3.keep hle (hother b1 eb)
  · have t : ∀ {β' o'}, (σ.set β (.map es')) β' = some o' → ∃ o'', σ β' = some o'' := fun {β' o'} g => by
      by_cases e' : β' = β
      · exact ⟨_, e' ▸ hβ⟩
      · rw [Sg.set_other _ _ e'] at g; exact ⟨_, g⟩
    obtain ⟨o1', t1⟩ := t g1
    obtain ⟨o2', t2⟩ := t g2
    exact h.apart β1 β2 o1' o2' b' lo1 hi1 lo2 hi2 hne t1 t2 g3 g4
def K.drew (κ : K) : K := { κ with w := κ.w.drew }
theorem K.le_drew (κ : K) : κ.le κ.drew := ⟨rfl, rfl, rfl, Nat.le_refl _, fun _ _ _ hm => ⟨rfl, hm⟩, rfl, fun _ _ => rfl, fun _ _ h => h⟩
theorem St.drew (h : St κ σ) : St κ.drew σ :=
  ⟨fun β o hb => by obtain ⟨b, lo, hi, h1, h2, h3⟩ := h.ob β o hb; exact ⟨b, lo, hi, h1, h2, h3.keep κ.le_drew rfl⟩, h.apart, h.fin, h.mlt, h.bas, h.glob.mono κ.le_drew⟩
theorem St.noRoom (h : St κ σ) {τ : Nat} (e : Option TypeId) (hf : κ.μ τ = none) : κ.le (κ.named τ (0, 0, 0)) ∧ St (κ.named τ (0, 0, 0)) (σ.set τ (.tok e)) :=
  ⟨K.le_named hf _, h.named hf (fun hlt => absurd hlt (by omega)) (fun x hx hx' => absurd hx' (by omega)) (fun _ _ _ _ _ _ => by omega)⟩
end Go.V
namespace Go.V
open Go.RowKit
variable {P : Program} {κ : K} {σ : Sg} {ρ : Nat → AV} {a : Act} {R : AV → Sg → Prop}
def RelEnv (κ : K) (ρ : Nat → AV) (tmps : Array Value) : Prop := ∀ t, Rel κ (ρ t) (tmps.getD t undef)
theorem RelEnv.mono {κ κ' : K} (h : κ.le κ') {tmps : Array Value} (hr : RelEnv κ ρ tmps) : RelEnv κ' ρ tmps := fun t => (hr t).mono h
theorem Q7r (κ : K) (v : Value) : Rel κ (Q3t v) v := by
  unfold Q3t
  split
  · exact .slnil _ trivial
  · exact .val _
theorem Q4p (κ : K) (cs : Array Value) : RelRow κ (cs.toList.map Q3t) cs := by
  refine ⟨by simp, fun i x v h1 h2 => ?_⟩
  rw [List.getElem?_map] at h1
  rw [← Array.getElem?_toList] at h2
  rw [h2] at h1
  cases h1
  exact Q7r κ v
theorem Q8q (κ : K) (v : Value) : Rel κ (ofValue v) v := by
  unfold ofValue
  split
  · exact .agg _ _ (Q4p κ _).1 (Q4p κ _).2
  · exact Q7r κ v
theorem X1k {x : AV} {v : Value} (h : Rel κ x v) (hs : x.solid = true) : RelRow κ x.cells v.cells := by
  have one : ∀ {x : AV} {v : Value}, Rel κ x v → x.cells = [x] → v.cells = #[v] → RelRow κ x.cells v.cells := fun {x v} h h1 h2 => by
    rw [h1, h2]
    refine ⟨rfl, fun i y u h3 h4 => ?_⟩
    cases i with
    | zero => simp at h3 h4; subst h3; subst h4; exact h
    | succ i => simp at h3
  cases h with
  | junk => simp [AV.solid] at hs
  | val v =>
    cases v <;> first | exact one (.val _) rfl rfl | simp [AV.solid] at hs
  | agg cs vs hl h => exact ⟨hl, h⟩
  | tup cs vs hl h => exact one (.tup cs vs hl h) rfl rfl
  | slnil k hk => exact one (.slnil k hk) rfl rfl
  | slemp k hk a c => exact one (.slemp k hk a c) rfl rfl
  | sl k es a n c sz f hk hn hc hs' hz hr h => exact one (.sl k es a n c sz f hk hn hc hs' hz hr h) rfl rfl
  | ro cs a f hs' hr h => exact one (.ro cs a f hs' hr h) rfl rfl
  | ref β off b hi h => exact one (.ref β off b hi h) rfl rfl
  | ms β off n sz b hi c h hn hh => exact one (.ms β off n sz b hi c h hn hh) rfl rfl
  | map β b hi h => exact one (.map β b hi h) rfl rfl
  | fn f cs vs hl h => exact one (.fn f cs vs hl h) rfl rfl
  | bp0 τ p => exact one (.bp0 τ p) rfl rfl
  | bp τ es a n hi f hn hs' hμ hlt hr h => exact one (.bp τ es a n hi f hn hs' hμ hlt hr h) rfl rfl
  | bm f cs vs hl h => exact one (.bm f cs vs hl h) rfl rfl
  | lsl u es a n c f hn hc hs' hz hr hu h => exact one (.lsl u es a n c f hn hc hs' hz hr hu h) rfl rfl
  | mc β n m sz b hi h hn hh => exact one (.mc β n m sz b hi h hn hh) rfl rfl
  | nz τ n sz b c h hn => exact one (.nz τ n sz b c h hn) rfl rfl
theorem X3e {x : AV} {v : Value} (h : Rel κ x v) (hs : x.one = true) : v.oneCell' = true := by
  cases h with
  | val v => cases v <;> first | rfl | simp [AV.one] at hs
  | junk => simp [AV.one] at hs
  | agg => simp [AV.one] at hs
  | tup => simp [AV.one] at hs
  | _ => rfl
theorem cells_one {x : AV} {v : Value} (h : RelRow κ x.cells v.cells) (hs : (x.cells.all AV.one) = true) : ∀ u ∈ v.cells.toList, u.oneCell' = true := by
  intro u hu
  obtain ⟨i, hi, rfl⟩ := List.getElem_of_mem hu
  have hi' : i < x.cells.length := by have := h.1; simp at hi; omega
  refine X3e (h.2 i x.cells[i] _ (List.getElem?_eq_getElem hi') (by rw [← Array.getElem?_toList]; exact List.getElem?_eq_getElem hi)) ?_
  exact List.all_eq_true.1 hs _ (List.getElem_mem hi')
theorem Q0y {σ : Sg} (h : St κ σ) (hρ : RelEnv κ ρ a.tmps) (x : Operand) : Rel κ (ev ρ x) (a.eval x) := by
  cases x with
  | tmp t => exact hρ t
  | const v => exact Q8q κ v
  | global g =>
    show Rel κ (match gtab g with | some cs => .ro (cs.map .val) | none => .val (.pointer (some ⟨g, 0, none⟩))) (.pointer (some ⟨g, 0, none⟩))
    cases hg : gtab g with
    | none => exact .val _
    | some cs =>
      refine .ro _ ⟨g, 0, none⟩ (fun j => (cs[j]?).getD undef) rfl (fun j hj => ?_) (fun j x hx => ?_)
      · have hj' : j < cs.length := by simpa using hj
        have := h.glob g cs hg j cs[j] (List.getElem?_eq_getElem hj')
        simpa [List.getElem?_eq_getElem hj'] using this
      · rw [List.getElem?_map] at hx
        cases h2 : cs[j]? with
        | none => rw [h2] at hx; cases hx
        | some v => rw [h2] at hx; cases hx; exact .val _
  | func f => exact .fn f [] #[] rfl (fun i x v h => by simp at h)
theorem Q4b {σ : Sg} (h : St κ σ) (hρ : RelEnv κ ρ a.tmps) (xs : Array Operand) : RelRow κ (xs.toList.map (ev ρ)) (xs.map a.eval) := by
  refine ⟨by simp, fun i x v h1 h2 => ?_⟩
  rw [List.getElem?_map] at h1
  rw [Array.getElem?_map] at h2
  rw [← Array.getElem?_toList] at h2
  cases h3 : xs.toList[i]? with
  | none => rw [h3] at h1; cases h1
  | some o =>
    rw [h3] at h1 h2
    cases h1
    cases h2
    exact Q0y h hρ o
theorem RelRow.append {xs ys : List AV} {us vs : Array Value} (h : RelRow κ xs us) (h' : RelRow κ ys vs) : RelRow κ (xs ++ ys) (us ++ vs) := by
  refine ⟨by simp [h.1, h'.1], fun i x v h1 h2 => ?_⟩
  rcases Nat.lt_or_ge i xs.length with hi | hi
  · rw [List.getElem?_append_left hi] at h1
    rw [Array.getElem?_append_left (by rw [← h.1]; exact hi)] at h2
    exact h.2 i x v h1 h2
  · rw [List.getElem?_append_right hi] at h1
    rw [Array.getElem?_append_right (by rw [← h.1]; exact hi), ← h.1] at h2
    exact h'.2 _ x v h1 h2
theorem Q0h {x : AV} {v : Value} (h : St κ σ) (hx : Rel κ x v) (hR : R x σ) : Post κ R v κ.w := ⟨κ, x, σ, rfl, .refl κ, h, hx, hR⟩
theorem Q0p {t : TypeId} {d : TypeDesc} (h : P.underlying t = some d) (w : World) : (underlying t).run P w = .ok d w := by
  simp [underlying, program, Sem.run, h, Bind.bind, Sem.bind]
theorem Q9c {t : TypeId} {z : Option Value} {n b : Nat} (h : Q0m P t = some (z, n, b)) (w : World) : ∃ i : TypeInfo, (typeInfo t).run P w = .ok i w ∧ i.zero = z ∧ i.size = n ∧ i.bytes = b := by
  unfold Q0m at h
  cases hi : P.info? t with
  | none => rw [hi] at h; cases h
  | some i =>
    rw [hi] at h
    cases h
    refine ⟨i, ?_, rfl, rfl, rfl⟩
    simp [typeInfo, program, Sem.run, hi, Bind.bind, Sem.bind]
theorem Q1g {t : TypeId} {z : Option Value} {n b : Nat} (h : Q0m P t = some (z, n, b)) (w : World) : (sizeOf t).run P w = .ok n w := by
  obtain ⟨i, h1, h2, h3, h4⟩ := Q9c h w
  simp [sizeOf, h1, h3]
theorem Q6l {t : TypeId} {z : Value} {n b : Nat} (h : Q0m P t = some (some z, n, b)) (w : World) : (zeroValue t).run P w = .ok z w := by
  obtain ⟨i, h1, h2, h3, h4⟩ := Q9c h w
  simp [zeroValue, h1, h2]
theorem run_isAgg {t : TypeId} {d : TypeDesc} (h : P.underlying t = some d) (w : World) : (isAgg t).run P w = .ok (X0p d) w := by
  simp only [isAgg, Sem.run_bind, Q0p h, Result.andThen]
  cases d <;> rfl
theorem Q1m {b : Addr} (h : b.spot = none) (n : Nat) : b.add n = ⟨b.block, b.off + n, none⟩ := by
  unfold Addr.add
  split
  · rename_i e; subst e; cases b; simp at h; subst h; rfl
  · rfl
theorem X1l {t : TypeId} {cs : List AV} {f : Nat → Value} {b : Addr} {n : Nat} {z : Option Value} {by_ : Nat} {d : TypeDesc} (w : World) (ht : Q0m P t = some (z, n, by_)) (hd : P.underlying t = some d)
    (hs : b.spot = none) (hr : ∀ j, j < cs.length → w.cell? ⟨b.block, b.off + j, none⟩ = some (f j)) (h : ∀ (j : Nat) (x : AV), cs[j]? = some x → Rel κ x (f j)) {R' : AV → Prop} (hv : Q4u P t cs R') :
    ∃ v x, (loadVar t b).run P w = .ok v w ∧ Rel κ x v ∧ R' x := by
  unfold Q4u at hv
  rw [ht, hd] at hv
  simp only at hv
  simp only [loadVar, Sem.run_bind, run_isAgg hd, Result.andThen]
  by_cases hg : X0p d = true
  · rw [if_pos hg] at hv
    obtain ⟨hn, hv⟩ := hv
    refine ⟨.agg (((List.range n).map f).toArray), .agg (cs.take n), ?_, ?_, hv⟩
    · rw [if_pos hg]
      simp only [Sem.run_bind, Q1g ht, Result.andThen]
      rw [run_loadCells w b n f (fun j hj => by rw [Q1m hs]; exact hr j (by omega))]
      rfl
    · refine .agg _ _ (by simp; omega) (fun i x v h1 h2 => ?_)
      have hi : i < n := by
        rcases Nat.lt_or_ge i n with h' | h'
        · exact h'
        · simp [List.getElem?_take, Nat.not_lt.2 h'] at h1
      rw [List.getElem?_take, if_pos hi] at h1
      simp [hi] at h2
      rw [← h2]
      exact h i x h1
  · rw [if_neg hg] at hv
    rw [if_neg hg]
    cases cs with
    | nil => exact hv.elim
    | cons x r =>
      refine ⟨f 0, x, ?_, h 0 x rfl, hv⟩
      have := hr 0 (by simp)
      rw [run_load]
      cases b
      simp at hs this
      subst hs
      simp [this]
theorem X0s {w : World} {b : Nat} {c : Array Value} {e : TypeId} {fz : Nat × Nat} (h : w.heap[b]? = some (.cells c e fz)) (i : Nat) : w.cell? ⟨b, i, none⟩ = c[i]? := by simp [World.cell?, h]
theorem load_rel {t : TypeId} {x : AV} {v : Value} {R' : AV → Prop} (h : St κ σ) (hx : Rel κ x v) (hv : X1i P t x σ R') : ∃ ad u y, v = .pointer (some ad) ∧ (loadVar t ad).run P κ.w = .ok u κ.w ∧ Rel κ y u ∧ R' y := by
  have info : ∀ {cs : List AV} {R' : AV → Prop}, Q4u P t cs R' → ∃ z n b d, Q0m P t = some (z, n, b) ∧ P.underlying t = some d := fun {cs R'} hv => by
    unfold Q4u at hv
    split at hv
    · rename_i z n b d h1 h2; exact ⟨z, n, b, d, h1, h2⟩
    · exact hv.elim
  cases hx <;> simp only [X1i] at hv
  case ro cs b f hs hr hrel =>
    obtain ⟨z, n, by_, d, h1, h2⟩ := info hv
    obtain ⟨u, x, h3, h4, h5⟩ := X1l (κ := κ) κ.w h1 h2 hs (fun j hj => (hr j hj).1) hrel hv
    exact ⟨_, u, x, rfl, h3, h4, h5⟩
  case ref β off b hi hμ =>
    cases hσ : σ β with
    | none => simp [hσ] at hv
    | some o =>
      cases o <;> simp only [hσ] at hv
      case cells ty cs =>
        obtain ⟨z, n, by_, d, h1, h2⟩ := info hv
        obtain ⟨b', lo, hi', g1, g2, g3, g4, c, fz, g5, g6, g7⟩ := h.ob β _ hσ
        rw [hμ] at g1
        cases g1
        have hsz := g7.1
        obtain ⟨u, x, h3, h4, h5⟩ := X1l (κ := κ) (cs := cs.drop off) (b := ⟨b, off, none⟩) (f := fun j => c.getD (off + j) undef) κ.w h1 h2 rfl (fun j hj => by
            simp at hj
            rw [X0s g5]
            simp [show off + j < c.size by omega]) (fun j x hj => by
            rw [List.getElem?_drop] at hj
            have hj' : off + j < c.size := by
              rcases Nat.lt_or_ge (off + j) cs.length with h' | h'
              · omega
              · simp [List.getElem?_eq_none h'] at hj
            exact g7.2 (off + j) x _ hj (by simp [hj'])) hv
        exact ⟨_, u, x, rfl, h3, h4, h5⟩
      all_goals exact hv.elim
  all_goals exact hv.elim
theorem snd_load {t : TypeId} {x : AV} {v : Value} (h : St κ σ) (hx : Rel κ x v) (hv : X1i P t x σ (R · σ)) : ∃ u, (Instr.loadAt t v).run P κ.w = .ok u κ.w ∧ Post κ R u κ.w := by
  obtain ⟨ad, u, y, rfl, h1, h2, h3⟩ := load_rel h hx hv
  exact ⟨u, by simp [Instr.loadAt, Instr.sureAddr, h1], Q0h h h2 h3⟩
end Go.V
namespace Go.V
open Go.RowKit
variable {P : Program} {κ : K} {σ : Sg} {ρ : Nat → AV} {a : Act} {R : AV → Sg → Prop}
theorem snd_store {t : TypeId} {x y : AV} {u v : Value} (h : St κ σ) (hx : Rel κ x u) (hy : Rel κ y v) {R' : Sg → Prop} (hv : X0q P t x y σ R') :
    ∃ κ' σ', (Instr.storeAt t u v).run P κ.w = .ok () κ'.w ∧ κ.le κ' ∧ St κ' σ' ∧ R' σ' := by
  cases hx <;> simp only [X0q] at hv
  case ref β off b hi hμ =>
    cases ht : Q0m P t with
    | none => simp [ht] at hv
    | some i =>
      obtain ⟨z, n, by_⟩ := i
      simp only [ht] at hv
      cases hσ : σ β with
      | none => simp [hσ] at hv
      | some o =>
        cases o <;> simp only [hσ] at hv
        case cells ty cs =>
          obtain ⟨⟨h1, h2, h3, h4⟩, hR⟩ := hv
          have hc := X1k hy h1
          obtain ⟨g1, g2, g3⟩ := h.store (xs := y.cells) (vs := v.cells.toList) hσ hμ (off := off) (by omega) (by simpa using hc.1) (fun i x u k1 k2 => hc.2 i x u k1 (by rw [← Array.getElem?_toList]; exact k2))
          refine ⟨_, _, ?_, g1, g2, hR⟩
          simp only [Instr.storeAt, Instr.sureAddr, storeVar, Sem.run_bind, Sem.run_pure, Result.andThen, Q1g ht]
          have : v.cells.size = n := by rw [← hc.1]; exact h2
          simp only [this, ne_eq, not_true_eq_false, if_false]
          rw [run_storeCells_cells b off v.cells.toList 0 κ.w (fun j hj => (g3 j hj).1) (fun j hj => (g3 j hj).2) (fun u hu => cells_one hc h4 u hu)]
          simp [K.wrote]
        all_goals exact hv.elim
  all_goals exact hv.elim
theorem snd_box {e : TypeId} {H : Hint} {x : AV} {v : Value} (h : St κ σ) (hc : RelRow κ x.cells v.cells) (hv : vbox e H x σ R) :
    ∃ u w', (Instr.box e v).run P κ.w = .ok u w' ∧ Post κ R u w' := by
  refine ⟨.pointer (some ⟨κ.w.heap.size, 0, none⟩), κ.w.alloc (.cells v.cells e), by simp [Instr.box, newVar, newRow, newObj, Sem.run], ?_⟩
  have obj : (∀ β, σ β = none → R (.ref β 0) (σ.set β (.cells e x.cells))) → Post κ R (.pointer (some ⟨κ.w.heap.size, 0, none⟩)) (κ.w.alloc (.cells v.cells e)) := fun hv => by
    obtain ⟨β, hβ, hβ'⟩ := h.fresh
    have hle := (K.le_alloc h.bas (.cells v.cells e) (· < x.cells.length)).trans (K.le_named (κ := κ.alloc _ _) (β := β) hβ (κ.w.heap.size, 0, x.cells.length))
    refine ⟨_, _, _, ?_, hle, h.newObj (x := .cells v.cells e) hβ ?_, ?_, hv β (hβ' σ (.refl σ))⟩
    · rfl
    · refine ⟨rfl, rfl, v.cells, (0, 0), ?_, fun i _ => ?_, hc.mono hle⟩
      · show (κ.w.heap.push _)[κ.w.heap.size]? = _
        simp
      · show (κ.w.alloc _).frozen? _ = _
        simp
    · refine .ref β 0 _ x.cells.length ?_
      simp [K.named]
  have roc : R (.ro x.cells) σ → Post κ R (.pointer (some ⟨κ.w.heap.size, 0, none⟩)) (κ.w.alloc (.cells v.cells e)) := fun hv => by
    have hle := K.le_alloc h.bas (.cells v.cells e) (fun _ => False)
    refine ⟨κ.alloc (.cells v.cells e) (fun _ => False), _, σ, rfl, hle, h.alloc _ _, ?_, hv⟩
    refine .ro _ _ (fun j => v.cells.getD j undef) rfl (fun j hj => ?_) (fun j y hj => ?_)
    · have hj' : j < v.cells.size := by rw [← hc.1]; exact hj
      have := Q5w h (e := e) (fz := (0, 0)) (m := fun _ => False) (c := v.cells) (j := j) (v := v.cells.getD j undef) (by simp [hj']) (fun f => f)
      simpa using this
    · have hj' : j < v.cells.size := by
        rw [← hc.1]
        rcases Nat.lt_or_ge j x.cells.length with h' | h'
        · exact h'
        · simp [List.getElem?_eq_none h'] at hj
      exact (hc.2 j y _ hj (by simp [hj'])).mono hle
  cases H
  · exact obj hv
  · exact roc hv
  · exact obj hv
  · exact obj hv
theorem snd_alloc {e : TypeId} {H : Hint} {z : Value} {n b : Nat} (ht : Q0m P e = some (some z, n, b)) (h : St κ σ) (hv : vbox e H (ofValue z) σ R) :
    ∃ u w', (Instr.alloc e true (.tuple #[])).run P κ.w = .ok u w' ∧ Post κ R u w' := by
  have hc : RelRow κ (ofValue z).cells z.cells := by
    cases z <;> first
      | exact Q4p κ _
      | (refine ⟨?_, fun i x v h1 h2 => ?_⟩
         · simp only [ofValue, Q3t]; (try split) <;> rfl
         · have hcells : ∀ (y : AV), (∀ cs, y ≠ .agg cs) → y.cells = [y] := fun y hy => by cases y <;> first | rfl | exact absurd rfl (hy _)
           cases i with
           | zero =>
             simp only [Value.cells] at h2
             simp only [ofValue] at h1
             rw [hcells _ (fun cs => by unfold Q3t; split <;> simp)] at h1
             cases h1
             cases h2
             exact Q7r κ _
           | succ i => simp [Value.cells] at h2)
  obtain ⟨u, w', h1, h2⟩ := snd_box (P := P) (e := e) h hc hv
  refine ⟨u, w', ?_, h2⟩
  rw [← h1]
  simp only [Instr.alloc, Instr.box, Sem.run_bind, Q6l ht, Result.andThen]
theorem Q8e {b : Addr} {fd : Field} {z : Option Value} {n by_ : Nat} (hs : b.spot = none) (ht : Q0m P fd.type = some (z, n, by_)) (hn : n ≠ 0) (w : World) :
    (fieldPlace b fd).run P w = .ok ⟨b.block, b.off + fd.offset, none⟩ w := by
  simp [fieldPlace, Q1g ht, hn, Q1m hs]
theorem X3f {s : TypeId} {x : AV} {v : Value} {f : Nat} (h : St κ σ) (hx : Rel κ x v) (hv : Q9t P s x f (R · σ)) : ∃ u, (Instr.fieldAt s v f).run P κ.w = .ok u κ.w ∧ Post κ R u κ.w := by
  unfold Q9t at hv
  split at hv
  · rename_i fs hd
    split at hv
    · rename_i fd hf
      split at hv
      · rename_i z n by_ ht
        obtain ⟨hn, hv⟩ := hv
        cases hx <;> simp only at hv
        case ro cs b g hs hr hrel =>
          refine ⟨.pointer (some ⟨b.block, b.off + fd.offset, none⟩), ?_, Q0h h (.ro _ _ (fun j => g (fd.offset + j)) rfl (fun j hj => ?_) (fun j y hj => ?_)) hv⟩
          · simp only [Instr.fieldAt, Sem.run_bind, Q0p hd, Result.andThen, hf, Instr.sureAddr, Sem.run_pure, Q8e hs ht hn]
          · simp at hj
            have := hr (fd.offset + j) (by omega)
            rw [← Nat.add_assoc] at this
            exact this
          · rw [List.getElem?_drop] at hj
            exact hrel _ _ hj
        case ref β off b hi hμ =>
          refine ⟨.pointer (some ⟨b, off + fd.offset, none⟩), ?_, Q0h h (.ref β _ b hi hμ) hv⟩
          simp only [Instr.fieldAt, Sem.run_bind, Q0p hd, Result.andThen, hf, Instr.sureAddr, Sem.run_pure]
          rw [Q8e (b := ⟨b, off, none⟩) rfl ht hn]
        all_goals exact hv.elim
      · exact hv.elim
    · exact hv.elim
  · exact hv.elim
theorem X3g {t : TypeId} {cs : List AV} {vs : Array Value} {off : Nat} (hc : RelRow κ cs vs) (w : World) {R' : AV → Prop} (hv : Q4u P t (cs.drop off) R') :
    ∃ v x, (part t vs off).run P w = .ok v w ∧ Rel κ x v ∧ R' x := by
  unfold Q4u at hv
  split at hv
  · rename_i z n b d ht hd
    simp only [part, Sem.run_bind, run_isAgg hd, Result.andThen]
    by_cases hg : X0p d = true
    · rw [if_pos hg] at hv
      obtain ⟨hn, hv⟩ := hv
      refine ⟨.agg (vs.extract off (off + n)), .agg ((cs.drop off).take n), by simp [hg, Q1g ht], ?_, hv⟩
      have hl := hc.1
      simp at hn
      refine .agg _ _ (by simp; omega) (fun i x v h1 h2 => ?_)
      have hi : i < n := by
        rcases Nat.lt_or_ge i n with h' | h'
        · exact h'
        · simp [List.getElem?_take, Nat.not_lt.2 h'] at h1
      rw [List.getElem?_take, if_pos hi, List.getElem?_drop] at h1
      refine hc.2 (off + i) x v h1 ?_
      rw [Array.getElem?_extract] at h2
      split at h2
      · exact h2
      · cases h2
    · rw [if_neg hg] at hv
      cases hcs : cs.drop off with
      | nil => rw [hcs] at hv; exact hv.elim
      | cons x r =>
        rw [hcs] at hv
        have h1 : cs[off]? = some x := by
          have := congrArg (·[0]?) hcs
          simpa [List.getElem?_drop] using this
        have ho : off < vs.size := by
          rw [← hc.1]
          rcases Nat.lt_or_ge off cs.length with h' | h'
          · exact h'
          · simp [List.getElem?_eq_none h'] at h1
        refine ⟨vs[off], x, by simp [hg, ho], hc.2 off x _ h1 (by simp [ho]), hv⟩
  · exact hv.elim
theorem snd_field {s : TypeId} {x : AV} {v : Value} {f : Nat} (h : St κ σ) (hx : Rel κ x v) (hv : vfield P s x f (R · σ)) : ∃ u, (Instr.field s v f).run P κ.w = .ok u κ.w ∧ Post κ R u κ.w := by
  unfold vfield at hv
  split at hv
  · rename_i fs cs hd
    split at hv
    · rename_i fd hf
      cases hx with
      | agg cs vs hl hrel =>
        obtain ⟨u, y, h1, h2, h3⟩ := X3g (κ := κ) (vs := vs) ⟨hl, hrel⟩ κ.w hv
        refine ⟨u, ?_, Q0h h h2 h3⟩
        simp only [Instr.field, Sem.run_bind, Q0p hd, Result.andThen, hf, asAgg, Sem.run_pure, h1]
    · exact hv.elim
  · exact hv.elim
theorem X3h {t : TypeId} {x i : AV} {v j : Value} (h : St κ σ) (hx : Rel κ x v) (hi : Rel κ i j) (hv : Q9u P t x i (R · σ)) : ∃ u, (Instr.indexAt t v j).run P κ.w = .ok u κ.w ∧ Post κ R u κ.w := by
  unfold Q9u at hv
  split at hv
  · rename_i e k es kk n hd
    split at hv
    · rename_i z s by_ ht
      obtain ⟨⟨h0, hlt, hlen⟩, hv⟩ := hv
      have hgd : es.getD n.toNat [] = es[n.toNat] := by simp [List.getD_eq_getElem?_getD, List.getElem?_eq_getElem hlt]
      rw [hgd] at hlen hv
      cases hi
      cases hx with
      | slnil => simp at hlt
      | slemp => simp at hlt
      | sl _ _ b m c sz f hk hn hc hs hz hr hrel =>
        have hsz : s = sz := by rw [← hlen]; exact hz _ _ (List.getElem?_eq_getElem hlt)
        subst hsz
        refine ⟨.pointer (some ⟨b.block, b.off + n.toNat * s, none⟩), ?_, Q0h h (.ro _ _ (f n.toNat) rfl (fun j hj => ?_) (fun j y hj => ?_)) hv⟩
        · have hlt' : n < (m : Int) := by omega
          simp only [Instr.indexAt, asIntOf, Sem.run_bind, Sem.run_pure, Result.andThen, Q0p hd]
          simp [Q1g ht, h0, hlt', Q1m hs]
        · exact hr _ _ (by omega) (by omega)
        · exact hrel _ _ _ _ (List.getElem?_eq_getElem hlt) hj
    · exact hv.elim
  · rename_i e β off k sz kk n hd
    obtain ⟨⟨h0, hlt, z, b_, ht⟩, hv⟩ := hv
    cases hi
    cases hx with
    | ms _ _ _ _ b hi c hμ hn hh =>
      refine ⟨.pointer (some ⟨b, off + n.toNat * sz, none⟩), ?_, Q0h h (.ref β _ b hi hμ) hv⟩
      simp only [Instr.indexAt, asIntOf, Sem.run_bind, Sem.run_pure, Result.andThen, Q0p hd]
      simp [Q1g ht, h0, hlt, Q1m (b := ⟨b, off, none⟩) rfl]
  · rename_i n e cs kk m hd
    split at hv
    · rename_i z s by_ ht
      obtain ⟨⟨h0, hlt, hn⟩, hv⟩ := hv
      cases hi
      cases hx with
      | ro _ b f hs hr hrel =>
        refine ⟨.pointer (some ⟨b.block, b.off + m.toNat * s, none⟩), ?_, Q0h h (.ro _ _ (fun j => f (m.toNat * s + j)) rfl (fun j hj => ?_) (fun j y hj => ?_)) hv⟩
        · simp only [Instr.indexAt, asIntOf, Sem.run_bind, Sem.run_pure, Result.andThen, Q0p hd, Instr.sureAddr]
          simp [Q1g ht, h0, hlt, Q1m hs]
        · simp at hj
          have := hr (m.toNat * s + j) (by omega)
          rw [← Nat.add_assoc] at this
          exact this
        · rw [List.getElem?_drop] at hj
          exact hrel _ _ hj
    · exact hv.elim
  · rename_i n e β off kk m hd
    split at hv
    · rename_i z s by_ ht
      obtain ⟨⟨h0, hlt, hn⟩, hv⟩ := hv
      cases hi
      cases hx with
      | ref _ _ b hi hμ =>
        refine ⟨.pointer (some ⟨b, off + m.toNat * s, none⟩), ?_, Q0h h (.ref β _ b hi hμ) hv⟩
        simp only [Instr.indexAt, asIntOf, Sem.run_bind, Sem.run_pure, Result.andThen, Q0p hd, Instr.sureAddr]
        simp [Q1g ht, h0, hlt, Q1m (b := ⟨b, off, none⟩) rfl]
    · exact hv.elim
  · exact hv.elim
theorem snd_index {t : TypeId} {x i : AV} {v j : Value} (h : St κ σ) (hx : Rel κ x v) (hi : Rel κ i j) (hv : vindex P t x i (R · σ)) : ∃ u, (Instr.index t v j).run P κ.w = .ok u κ.w ∧ Post κ R u κ.w := by
  unfold vindex at hv
  split at hv
  · rename_i s k n hd
    obtain ⟨⟨h0, hlt⟩, hv⟩ := hv
    cases hi
    cases hx
    have hgd : X0r s n.toNat = s[n.toNat]'hlt := by
      unfold X0r
      rw [Array.getElem?_eq_getElem (show n.toNat < s.data.size from hlt)]
      rfl
    rw [hgd] at hv
    refine ⟨.int .u8 (s[n.toNat]'hlt).toNat, ?_, Q0h h (.val _) hv⟩
    simp only [Instr.index, asIntOf, Sem.run_bind, Sem.run_pure, Result.andThen, Q0p hd]
    have : s[n.toNat]? = some (s[n.toNat]'hlt) := by simp [hlt]
    simp [h0, hlt]
  · rename_i n e cs k m hd
    split at hv
    · rename_i z s by_ ht
      obtain ⟨⟨h0, hlt⟩, hv⟩ := hv
      cases hi
      cases hx with
      | agg _ vs hl hrel =>
        obtain ⟨u, y, h1, h2, h3⟩ := X3g (κ := κ) (vs := vs) ⟨hl, hrel⟩ κ.w hv
        refine ⟨u, ?_, Q0h h h2 h3⟩
        simp only [Instr.index, asIntOf, Sem.run_bind, Sem.run_pure, Result.andThen, Q0p hd]
        simp [h0, hlt, Q1g ht, h1]
    · exact hv.elim
  · exact hv.elim
end Go.V
namespace Go.V
open Go.RowKit
variable {P : Program} {κ : K} {σ : Sg} {ρ : Nat → AV} {a : Act} {R : AV → Sg → Prop}
theorem Q5o {op : BinOp} {t : TypeId} {x y : Operand} {u v : Value} (h1 : u ≠ .nilIface ∨ v ≠ .nilIface) (h2 : (∀ c, u ≠ .agg c) ∨ ∀ c, v ≠ .agg c) (w : World) : (eqGuard op t x y u v).run P w = .ok () w := by
  have : eqGuard op t x y u v = pure () := by
    unfold eqGuard
    cases op <;> first
      | rfl
      | (simp only [Bool.not_true, Bool.false_eq_true, if_false]
         split
         · simp at h1
         · rcases h2 with h | h <;> exact absurd rfl (h _)
         · rfl)
  rw [this]
  rfl
theorem sEq_eq (a b : ByteArray) : (a.toList == b.toList) = sEq a b := by
  unfold sEq
  rw [ByteArray.toList_eq, ByteArray.toList_eq]
  by_cases h : a = b
  · subst h; simp
  · rw [decide_eq_false h]
    simp
    intro h'
    exact h (ByteArray.ext h')
def EqFacts (P : Program) (t : TypeId) (u v : Value) (b : Bool) : Prop :=
  (u ≠ .nilIface ∨ v ≠ .nilIface) ∧ ((∀ c, u ≠ .agg c) ∨ ∀ c, v ≠ .agg c) ∧ (binOp .eql t u v = (do pure (.bool (← Op.equal t u v)))) ∧ (binOp .neq t u v = (do pure (.bool (!(← Op.equal t u v))))) ∧ (∀ dd w, (Op.equalIn (dd + 1) t u v).run P w = .ok b w)
theorem veq_facts {t : TypeId} {x y : AV} {u v : Value} {d : TypeDesc} {b : Bool} (hx : Rel κ x u) (hy : Rel κ y v) (hd : P.underlying t = some d) (hb : veq d x y = some b) : EqFacts P t u v b := by
  have fin : ∀ {u v : Value}, (u ≠ .nilIface ∨ v ≠ .nilIface) → ((∀ c, u ≠ .agg c) ∨ ∀ c, v ≠ .agg c) → (binOp .eql t u v = (do pure (.bool (← Op.equal t u v)))) → (binOp .neq t u v = (do pure (.bool (!(← Op.equal t u v))))) → (∀ dd w, (Op.equalIn (dd + 1) t u v).run P w = .ok b w) → EqFacts P t u v b :=
    fun h1 h2 h3 h4 h5 => ⟨h1, h2, h3, h4, h5⟩
  unfold veq at hb
  split at hb <;> cases hb
  · cases hx; cases hy
    refine fin (.inl (by simp)) (.inl (by simp)) rfl rfl (fun dd w => ?_)
    simp only [Op.equalIn, Sem.run_bind, Q0p hd, Result.andThen, Sem.run_pure]
  · cases hx with
    | sl _ _ _ _ _ _ _ hk => exact hk.elim
    | slemp _ hk => rcases hk with h | h <;> cases h
    | slnil => cases hy with
      | sl _ _ _ _ _ _ _ hk => exact hk.elim
      | slemp _ hk => rcases hk with h | h <;> cases h
      | slnil =>
        refine fin (.inl (by simp)) (.inl (by simp)) rfl rfl (fun dd w => ?_)
        simp only [Op.equalIn, Sem.run_bind, Q0p hd, Result.andThen, Sem.run_pure]; rfl
  all_goals first
    | (cases hx with
       | slnil _ hk => exact hk.elim
       | slemp _ hk => first
         | (rcases hk with h | h <;> cases h; done)
         | (cases hy with
            | sl _ _ _ _ _ _ _ hk => exact hk.elim
            | slemp _ hk => rcases hk with h | h <;> cases h
            | slnil =>
              refine fin (.inl (by simp)) (.inl (by simp)) rfl rfl (fun dd w => ?_)
              simp only [Op.equalIn, Sem.run_bind, Q0p hd, Result.andThen, Sem.run_pure])
       | sl => cases hy with
         | sl _ _ _ _ _ _ _ hk => exact hk.elim
         | slemp _ hk => rcases hk with h | h <;> cases h
         | slnil =>
           refine fin (.inl (by simp)) (.inl (by simp)) rfl rfl (fun dd w => ?_)
           simp only [Op.equalIn, Sem.run_bind, Q0p hd, Result.andThen, Sem.run_pure])
    | (cases hx with
       | sl => cases hy with
         | sl _ _ _ _ _ _ _ hk => exact hk.elim
         | slemp _ hk => rcases hk with h | h <;> cases h
         | slnil =>
           refine fin (.inl (by simp)) (.inl (by simp)) rfl rfl (fun dd w => ?_)
           simp only [Op.equalIn, Sem.run_bind, Q0p hd, Result.andThen, Sem.run_pure])
    | (cases hx with
       | ms => cases hy with
         | sl _ _ _ _ _ _ _ hk => exact hk.elim
         | slemp _ hk => rcases hk with h | h <;> cases h
         | slnil =>
           refine fin (.inl (by simp)) (.inl (by simp)) rfl rfl (fun dd w => ?_)
           simp only [Op.equalIn, Sem.run_bind, Q0p hd, Result.andThen, Sem.run_pure])
    | (cases hx; cases hy
       refine fin (.inl (by simp)) (.inl (by simp)) rfl rfl (fun dd w => ?_)
       simp only [Op.equalIn, Sem.run_bind, Q0p hd, Result.andThen, Sem.run_pure]; done)
    | (cases hx; cases hy
       refine fin (.inl (by simp)) (.inl (by simp)) rfl rfl (fun dd w => ?_)
       simp only [Op.equalIn, Sem.run_bind, Q0p hd, Result.andThen, Sem.run_pure]; rfl)
theorem Q7e {t : TypeId} {cs : List AV} {vs : Array Value} {off : Nat} {x : AV} (hc : RelRow κ cs vs) (w : World) (hv : X1h P t (cs.drop off) = some x) :
    ∃ v, (part t vs off).run P w = .ok v w ∧ Rel κ x v := by
  have h : Q4u P t (cs.drop off) (fun y => y = x) := by
    unfold X1h at hv
    unfold Q4u
    split at hv
    · rename_i z n b d ht hd
      simp only
      by_cases hg : X0p d = true
      · rw [if_pos hg] at hv ⊢
        split at hv
        · rename_i hn; cases hv; exact ⟨hn, rfl⟩
        · cases hv
      · rw [if_neg hg] at hv ⊢
        cases hcs : cs.drop off with
        | nil => rw [hcs] at hv; cases hv
        | cons y r => rw [hcs] at hv; cases hv; rfl
    · cases hv
  obtain ⟨v, y, h1, h2, rfl⟩ := X3g hc w h
  exact ⟨v, h1, h2⟩
theorem Q8r {d : Nat} {eq : TypeId → AV → AV → Option Bool} (heq : ∀ t x y u v b w, eq t x y = some b → Rel κ x u → Rel κ y v → (Op.equalIn d t u v).run P w = .ok b w) {xs ys : List AV} {us vs : Array Value} (hx : RelRow κ xs us) (hy : RelRow κ ys vs) (w : World) :
    ∀ (fs : List Field) (b : Bool), X2l P eq xs ys fs = some b → (Op.eqFields d us vs fs).run P w = .ok b w
  | [], b, h => by
    simp only [X2l] at h
    cases h
    rfl
  | f :: fs, b, h => by
    simp only [X2l] at h
    simp only [Op.eqFields]
    by_cases hn : f.name = "_"
    · rw [if_pos hn] at h
      rw [if_neg (by simp [hn])]
      exact Q8r heq hx hy w fs b h
    · rw [if_neg hn] at h
      rw [if_pos hn]
      split at h
      · rename_i a c ha hc
        split at h
        · rename_i e r he hr
          obtain ⟨v1, g1, g2⟩ := Q7e hx w ha
          obtain ⟨v2, g3, g4⟩ := Q7e hy w hc
          simp only [Sem.run_bind, g1, g3, heq _ _ _ _ _ _ w he g2 g4, Result.andThen]
          cases h
          cases e with
          | false => simp
          | true => simp [Q8r heq hx hy w fs r hr]
        · cases h
      · cases h
theorem X1m {d : Nat} {e : TypeId} {c : Nat} {eq : AV → AV → Option Bool} (heq : ∀ x y u v b w, eq x y = some b → Rel κ x u → Rel κ y v → (Op.equalIn d e u v).run P w = .ok b w) {xs ys : List AV} {us vs : Array Value} (hx : RelRow κ xs us) (hy : RelRow κ ys vs) (w : World) :
    ∀ (is : List Nat) (b : Bool), veqIs P eq e c xs ys is = some b → (Op.eqItems d e c us vs is).run P w = .ok b w
  | [], b, h => by
    simp only [veqIs] at h
    cases h
    rfl
  | i :: is, b, h => by
    simp only [veqIs] at h
    simp only [Op.eqItems]
    split at h
    · rename_i a q ha hc
      split at h
      · rename_i o r he hr
        obtain ⟨v1, g1, g2⟩ := Q7e hx w ha
        obtain ⟨v2, g3, g4⟩ := Q7e hy w hc
        simp only [Sem.run_bind, g1, g3, heq _ _ _ _ _ w he g2 g4, Result.andThen]
        cases h
        cases o with
        | false => simp
        | true => simp [X1m heq hx hy w is r hr]
      · cases h
    · cases h
theorem Q6m : ∀ (d : Nat) (t : TypeId) (x y : AV) (u v : Value) (b : Bool) (w : World), Q8m P d t x y = some b → Rel κ x u → Rel κ y v → (Op.equalIn d t u v).run P w = .ok b w
  | 0, _, _, _, _, _, _, _, h, _, _ => by simp [Q8m] at h
  | d + 1, t, x, y, u, v, b, w, h, hx, hy => by
    simp only [Q8m] at h
    split at h
    · rename_i fs hd
      split at h
      · rename_i xs ys
        split at h
        · cases h
        · rename_i hst
          cases hx with
          | agg _ us hl hr => cases hy with
            | agg _ vs hl' hr' =>
              have hfs : P.fieldsOf t = fs := by simp [Program.fieldsOf, hd]
              rw [run_equalIn_struct w d t us vs (by rw [hfs]; exact hd) (by simpa using hst), hfs]
              exact Q8r (fun t x y u v b w => Q6m d t x y u v b w) ⟨hl, hr⟩ ⟨hl', hr'⟩ w _ _ h
      · cases h
    · rename_i n e hd
      split at h
      · rename_i xs ys
        split at h
        · rename_i hi
          cases hx with
          | agg _ us hl hr => cases hy with
            | agg _ vs hl' hr' =>
              obtain ⟨ti, hti⟩ : ∃ ti, P.info? e = some ti := by
                unfold Q0m at hi
                cases hh : P.info? e with
                | none => rw [hh] at hi; cases hi
                | some ti => exact ⟨ti, rfl⟩
              rw [run_equalIn_array w d us vs hd hti]
              exact X1m (fun x y u v b w => Q6m d e x y u v b w) ⟨hl, hr⟩ ⟨hl', hr'⟩ w _ _ h
        · cases h
      · cases h
    · rename_i k0 hd
      split at h
      · rename_i k a k' b'
        split at h
        · rename_i hk
          cases h; cases hx; cases hy
          subst hk
          simp only [Op.equalIn, Sem.run_bind, Q0p hd, Result.andThen, if_true, Sem.run_pure]
          rfl
        · cases h
      · cases h
    · rename_i hd
      split at h
      · rename_i s s'
        cases h; cases hx; cases hy
        simp only [Op.equalIn, Sem.run_bind, Q0p hd, Result.andThen, Sem.run_pure]
        rw [beq_toListBytes, sEq_eq]
      · cases h
    · rename_i dd _ _ _ hd
      exact (veq_facts hx hy hd h).2.2.2.2 d w
    · cases h
theorem eq_main {t : TypeId} {x y : AV} {xo yo : Operand} {u v : Value} {d : TypeDesc} {b : Bool} {w : World} (hx : Rel κ x u) (hy : Rel κ y v) (hd : P.underlying t = some d) (hb : veqT P t d x y = some b) :
    (do eqGuard .eql t xo yo u v; binOp .eql t u v : Sem Value).run P w = .ok (.bool b) w ∧ (do eqGuard .neq t xo yo u v; binOp .neq t u v : Sem Value).run P w = .ok (.bool (!b)) w := by
  have fin : EqFacts P t u v b → (do eqGuard .eql t xo yo u v; binOp .eql t u v : Sem Value).run P w = .ok (.bool b) w ∧ (do eqGuard .neq t xo yo u v; binOp .neq t u v : Sem Value).run P w = .ok (.bool (!b)) w := by
    intro ⟨h1, h2, h3, h4, h5⟩
    have h6 : (Op.equal t u v).run P w = .ok b w := h5 9999 w
    simp only [Sem.run_bind, Q5o h1 h2, Result.andThen, h3, h4, h6, Sem.run_pure, and_self]
  unfold veqT at hb
  split at hb
  · rename_i xs ys
    split at hb
    · cases hb
    · rename_i hg
      have h5 := Q6m 10000 t _ _ _ _ b w hb hx hy
      cases hx with
      | agg _ us hl hr => cases hy with
        | agg _ vs hl' hr' =>
          have hg' : P.eqGuardType P.depth t = false := by simpa using hg
          simp only [Sem.run_bind, run_eqGuard_agg w _ t xo yo us vs hg', Result.andThen, run_eql_struct, run_neq_struct, h5, and_self]
  · rename_i β o β' o'
    split at hb
    · rename_i e
      split at hb
      · rename_i z n by_ ht
        split at hb
        · rename_i hc
          obtain ⟨rfl, hn⟩ := hc
          cases hb
          cases hx with
          | ref _ _ b hi hμ => cases hy with
            | ref _ _ b' hi' hμ' =>
              rw [hμ] at hμ'
              cases hμ'
              refine fin ⟨.inl (by simp), .inl (by simp), rfl, rfl, fun dd w => ?_⟩
              simp only [Op.equalIn, Sem.run_bind, Q0p hd, Result.andThen, Q1g ht, ne_eq, hn, not_false_eq_true, if_true, sameAddr, beq_self_eq_true, Sem.run_pure]
              congr 1
              by_cases e : o = o'
              · subst e; simp
              · rw [decide_eq_false e]
                exact beq_false_of_ne (fun h => e (by cases h; rfl))
        · cases hb
      · cases hb
    · cases hb
  · exact fin (veq_facts hx hy hd hb)
theorem snd_binop {op : BinOp} {t : TypeId} {x y : AV} {xo yo : Operand} {u v : Value} (h : St κ σ) (hx : Rel κ x u) (hy : Rel κ y v) (hv : Q0x P op t x y (R · σ)) :
    ∃ r, (do eqGuard op t xo yo u v; binOp op t u v : Sem Value).run P κ.w = .ok r κ.w ∧ Post κ R r κ.w := by
  unfold Q0x at hv
  split at hv
  · rename_i k a k' b
    cases hx
    cases hy
    simp only [Sem.run_bind, Q5o (op := op) (t := t) (x := xo) (y := yo) (u := .int k a) (v := .int k' b) (.inl (by simp)) (.inl (by simp)), Result.andThen]
    unfold vbin at hv
    cases op <;> simp only at hv
    case shl => exact ⟨_, by simp [binOp, Op.shift, Int.not_lt.2 hv.1], Q0h h (.val _) hv.2⟩
    case shr => exact ⟨_, by simp [binOp, Op.shift, Int.not_lt.2 hv.1], Q0h h (.val _) hv.2⟩
    case quo => obtain ⟨rfl, hb, hv⟩ := hv; exact ⟨_, by simp [binOp, Op.intDiv, hb], Q0h h (.val _) hv⟩
    case rem => obtain ⟨rfl, hb, hv⟩ := hv; exact ⟨_, by simp [binOp, Op.intDiv, hb], Q0h h (.val _) hv⟩
    all_goals
      obtain ⟨rfl, hv⟩ := hv
      refine ⟨_, ?_, Q0h h (.val _) hv⟩
      simp [binOp, Op.intArith, Op.intBits, Op.intCmp] <;> rfl
  · rename_i a b
    cases hx
    cases hy
    simp only [Sem.run_bind, Q5o (op := op) (t := t) (x := xo) (y := yo) (u := .string a) (v := .string b) (.inl (by simp)) (.inl (by simp)), Result.andThen]
    unfold vbin at hv
    cases op <;> simp only at hv
    case add =>
      obtain ⟨hs, hv⟩ := hv
      refine ⟨_, ?_, Q0h h (.val _) hv⟩
      have : ¬ (((a.size + b.size : Nat) : Int) > IntKind.i64.max) := by
        have : IntKind.i64.max = 9223372036854775807 := by decide
        omega
      simp only [binOp, Op.stringOp, if_neg this]
      rfl
    case eql => exact ⟨_, by simp only [binOp, Op.stringOp, sEq_eq]; rfl, Q0h h (.val _) hv⟩
    case neq => exact ⟨_, by simp only [binOp, Op.stringOp, sEq_eq]; rfl, Q0h h (.val _) hv⟩
    case lss => exact ⟨_, by simp only [binOp, Op.stringOp]; rfl, Q0h h (.val _) hv⟩
    case geq => exact ⟨_, by simp only [binOp, Op.stringOp]; rfl, Q0h h (.val _) hv⟩
    all_goals exact hv.elim
  · rename_i n1 n2
    split at hv
    · rename_i d hd
      split at hv
      · rename_i b hb
        obtain ⟨h1, h2⟩ := eq_main (t := t) (xo := xo) (yo := yo) (w := κ.w) hx hy hd hb
        exact ⟨_, h1, Q0h h (.val _) hv⟩
      · exact hv.elim
    · rename_i d hd
      split at hv
      · rename_i b hb
        obtain ⟨h1, h2⟩ := eq_main (t := t) (xo := xo) (yo := yo) (w := κ.w) hx hy hd hb
        exact ⟨_, h2, Q0h h (.val _) hv⟩
      · exact hv.elim
    · exact hv.elim
end Go.V
