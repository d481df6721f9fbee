/- Abstract values, the ghost state that ties them to the model's memory, and what stays true as memory grows. -/
import Derived.Below
import Derived.Orders
import Derived.Still
import Derived.Laws.Cells
import Derived.Laws.IdiomCopy
import Derived.KernelRfl
namespace Go.V
open Go.RowKit

/-- What is known of the room behind a slice. -/
inductive Own
  | nil            -- the nil slice
  | full           -- not nil; no room behind it
  | tok (τ sz : Nat)  -- the room behind it goes by this name; if it is empty, it may be nil
  | view           -- not nil; nothing known of the room
  | any            -- nothing known

/-- Abstract values. -/
inductive AV
  | junk
  | val (v : Value)
  | agg (cs : List AV)
  | tup (vs : List AV)
  | sl (k : Own) (es : List (List AV))
  | ro (cs : List AV)
  | ref (β : Nat) (off : Nat)
  | ms (β off n sz : Nat)
  | map (β : Nat)
  | fn (f : FuncId) (cap : List AV)
  | bp (τ : Nat) (es : List (List AV))
instance : Inhabited AV := ⟨.junk⟩

abbrev AV.i (n : Int) : AV := .val (.int .i64 n)
abbrev AV.b (x : Bool) : AV := .val (.bool x)
abbrev AV.s (x : ByteArray) : AV := .val (.string x)
abbrev AV.u8 (n : Int) : AV := .val (.int .u8 n)

def AV.cells : AV → List AV
  | .agg cs => cs
  | v => [v]

/-- The ghost state. -/
structure K where
  w : World
  M : Nat → Nat → Prop
  μ : Nat → Option (Nat × Nat × Nat)
  base : Nat

def K.reads (κ : K) (b o : Nat) (v : Value) : Prop := κ.w.cell? ⟨b, o, none⟩ = some v ∧ ¬ κ.M b o

/-- What the kind of a slice says of address, offset behind the last element, offset behind the room. -/
def Own.ok (κ : K) (a : Addr) (n c sz : Nat) : Own → Prop
  | .nil => False
  | .full => c = n
  | .tok τ s => s = sz ∧ κ.μ τ = some (a.block, a.off + n * sz, a.off + c * sz + 1)
  | _ => True

def Own.maybeNil : Own → Prop
  | .nil | .any | .tok _ _ => True
  | _ => False

inductive Rel (κ : K) : AV → Value → Prop
  | junk (v : Value) : Rel κ .junk v
  | val (v : Value) : Rel κ (.val v) v
  | agg (cs : List AV) (vs : Array Value) (hl : cs.length = vs.size) (h : ∀ (i : Nat) (x : AV) (v : Value), cs[i]? = some x → vs[i]? = some v → Rel κ x v) : Rel κ (.agg cs) (.agg vs)
  | tup (cs : List AV) (vs : Array Value) (hl : cs.length = vs.size) (h : ∀ (i : Nat) (x : AV) (v : Value), cs[i]? = some x → vs[i]? = some v → Rel κ x v) : Rel κ (.tup cs) (.tuple vs)
  | slnil (k : Own) (hk : k.maybeNil) : Rel κ (.sl k []) (.slice none 0 0)
  | slemp (k : Own) (hk : k = .view ∨ k = .any) (a : Addr) (c : Nat) : Rel κ (.sl k []) (.slice (some a) 0 c)
  | sl (k : Own) (es : List (List AV)) (a : Addr) (n c sz : Nat) (f : Nat → Nat → Value) (hk : k.ok κ a n c sz) (hn : n = es.length) (hc : n ≤ c) (hs : a.spot = none)
      (hz : ∀ (i : Nat) (e : List AV), es[i]? = some e → e.length = sz)
      (hr : ∀ i j, i < n → j < sz → κ.reads a.block (a.off + i * sz + j) (f i j))
      (h : ∀ (i j : Nat) (e : List AV) (x : AV), es[i]? = some e → e[j]? = some x → Rel κ x (f i j)) : Rel κ (.sl k es) (.slice (some a) n c)
  | ro (cs : List AV) (a : Addr) (f : Nat → Value) (hs : a.spot = none) (hr : ∀ j, j < cs.length → κ.reads a.block (a.off + j) (f j))
      (h : ∀ (j : Nat) (x : AV), cs[j]? = some x → Rel κ x (f j)) : Rel κ (.ro cs) (.pointer (some a))
  | ref (β off b hi : Nat) (h : κ.μ β = some (b, 0, hi)) : Rel κ (.ref β off) (.pointer (some ⟨b, off, none⟩))
  | ms (β off n sz b hi c : Nat) (h : κ.μ β = some (b, 0, hi)) (hn : n ≤ c) (hh : off + n * sz ≤ hi) : Rel κ (.ms β off n sz) (.slice (some ⟨b, off, none⟩) n c)
  | map (β b hi : Nat) (h : κ.μ β = some (b, 0, hi)) : Rel κ (.map β) (.map (some b))
  | fn (f : FuncId) (cs : List AV) (vs : Array Value) (hl : cs.length = vs.size) (h : ∀ (i : Nat) (x : AV) (v : Value), cs[i]? = some x → vs[i]? = some v → Rel κ x v) : Rel κ (.fn f cs) (.func (.func f) #[] vs)
  | bp0 (τ : Nat) (p : Option Addr) : Rel κ (.bp τ []) (.pointer p)
  | bp (τ : Nat) (es : List (List AV)) (a : Addr) (n hi : Nat) (f : Nat → Value) (hn : n = es.length) (hs : a.spot = none) (hμ : κ.μ τ = some (a.block, a.off + n, hi)) (hlt : a.off + n < hi)
      (hr : ∀ i, i < n → κ.reads a.block (a.off + i) (f i)) (h : ∀ (i : Nat) (x : AV), es[i]? = some [x] → Rel κ x (f i)) : Rel κ (.bp τ es) (.pointer (some a))

/-- The later ghost state: what was not to be written reads as it did and is not to be written; names keep their places. -/
structure K.le (κ κ' : K) : Prop where
  os : κ'.w.os = κ.w.os
  tape : κ'.w.tape = κ.w.tape
  output : κ'.w.output = κ.w.output
  size : κ.w.heap.size ≤ κ'.w.heap.size
  cell : ∀ b o, b < κ.w.heap.size → ¬ κ.M b o → κ'.w.cell? ⟨b, o, none⟩ = κ.w.cell? ⟨b, o, none⟩ ∧ ¬ κ'.M b o
  base : κ'.base = κ.base
  block : ∀ b, b < κ.base → κ'.w.heap[b]? = κ.w.heap[b]?
  name : ∀ β l, κ.μ β = some l → κ'.μ β = some l

theorem K.le.refl (κ : K) : κ.le κ := ⟨rfl, rfl, rfl, Nat.le_refl _, fun _ _ _ h => ⟨rfl, h⟩, rfl, fun _ _ => rfl, fun _ _ h => h⟩
theorem K.le.trans {a b c : K} (h : a.le b) (k : b.le c) : a.le c where
  os := k.os.trans h.os
  tape := k.tape.trans h.tape
  output := k.output.trans h.output
  size := Nat.le_trans h.size k.size
  cell x o hx hm := by
    have h1 := h.cell x o hx hm
    have h2 := k.cell x o (Nat.lt_of_lt_of_le hx h.size) h1.2
    exact ⟨h2.1.trans h1.1, h2.2⟩
  base := k.base.trans h.base
  block x hx := (k.block x (by rw [h.base]; exact hx)).trans (h.block x hx)
  name β l hl := k.name β l (h.name β l hl)

theorem K.reads.lt {κ : K} {b o : Nat} {v : Value} (h : κ.reads b o v) : b < κ.w.heap.size := by
  have := World.block_lt_of_cell? κ.w _ h.1
  exact this
theorem K.reads.mono {κ κ' : K} (h : κ.le κ') {b o : Nat} {v : Value} (hr : κ.reads b o v) : κ'.reads b o v := by
  have h1 := h.cell b o hr.lt hr.2
  exact ⟨h1.1.trans hr.1, h1.2⟩
theorem Own.ok.mono {κ κ' : K} (h : κ.le κ') {a : Addr} {n c sz : Nat} {k : Own} (hk : k.ok κ a n c sz) : k.ok κ' a n c sz := by
  cases k <;> first | exact hk | exact ⟨hk.1, h.name _ _ hk.2⟩

theorem Rel.mono {κ κ' : K} (h : κ.le κ') {x : AV} {v : Value} (hr : Rel κ x v) : Rel κ' x v := by
  induction hr with
  | junk v => exact .junk v
  | val v => exact .val v
  | agg cs vs hl _ ih => exact .agg cs vs hl ih
  | tup cs vs hl _ ih => exact .tup cs vs hl ih
  | slnil k hk => exact .slnil k hk
  | slemp k hk a c => exact .slemp k hk a c
  | sl k es a n c sz f hk hn hc hs hz hr _ ih => exact .sl k es a n c sz f (hk.mono h) hn hc hs hz (fun i j hi hj => (hr i j hi hj).mono h) ih
  | ro cs a f hs hr _ ih => exact .ro cs a f hs (fun j hj => (hr j hj).mono h) ih
  | ref β off b hi hb => exact .ref β off b hi (h.name _ _ hb)
  | ms β off n sz b hi c hb hn hh => exact .ms β off n sz b hi c (h.name _ _ hb) hn hh
  | map β b hi hb => exact .map β b hi (h.name _ _ hb)
  | fn f cs vs hl _ ih => exact .fn f cs vs hl ih
  | bp0 τ p => exact .bp0 τ p
  | bp τ es a n hi f hn hs hμ hlt hr _ ih => exact .bp τ es a n hi f hn hs (h.name _ _ hμ) hlt (fun i hi => (hr i hi).mono h) ih

/-- The abstract store. -/
inductive Ob
  | cells (t : TypeId) (cs : List AV)
  | tok (e : Option TypeId)   -- some t: in a block of type t, of which nothing is frozen but what stands ahead
  | map (es : List (Value × AV))
abbrev Sg := Nat → Option Ob
def Sg.set (σ : Sg) (β : Nat) (o : Ob) : Sg := fun x => if x = β then some o else σ x
def Sg.del (σ : Sg) (β : Nat) : Sg := fun x => if x = β then none else σ x

/-- One row of cells, cell by cell. -/
def RelRow (κ : K) (cs : List AV) (vs : Array Value) : Prop :=
  cs.length = vs.size ∧ ∀ (i : Nat) (x : AV) (v : Value), cs[i]? = some x → vs[i]? = some v → Rel κ x v

/-- What stands in a place of the store. -/
def Ob.ok (κ : K) (b lo hi : Nat) : Ob → Prop
  | .cells t cs => lo = 0 ∧ hi = cs.length ∧ ∃ c fz, κ.w.heap[b]? = some (.cells c t fz) ∧ (∀ i, i < c.size → κ.w.frozen? ⟨b, i, none⟩ = false) ∧ RelRow κ cs c
  | .tok e => lo < hi → ∃ c t fz, κ.w.heap[b]? = some (.cells c t fz) ∧ hi = c.size + 1 ∧ (∀ i, lo ≤ i → i < c.size → κ.w.frozen? ⟨b, i, none⟩ = false) ∧ ∀ t', e = some t' → t' = t ∧ (fz.1 = fz.2 ∨ fz.2 ≤ lo)
  | .map es => lo = 0 ∧ hi = 1 ∧ ∃ (arr : Array MapEntry) (clock : Nat), κ.w.heap[b]? = some (.map arr clock) ∧ es.length = arr.size ∧
      ∀ (i : Nat) (k : Value) (x : AV) (m : MapEntry), es[i]? = some (k, x) → arr[i]? = some m → m.key = k ∧ Rel κ x m.val

structure St (κ : K) (σ : Sg) : Prop where
  ob : ∀ β o, σ β = some o → ∃ b lo hi, κ.μ β = some (b, lo, hi) ∧ (∀ x, lo ≤ x → x < hi → κ.M b x) ∧ o.ok κ b lo hi
  apart : ∀ β β' o o' b lo hi lo' hi', β ≠ β' → σ β = some o → σ β' = some o' → κ.μ β = some (b, lo, hi) → κ.μ β' = some (b, lo', hi') → hi ≤ lo ∨ hi' ≤ lo'
  fin : ∃ N, ∀ β, N ≤ β → κ.μ β = none
  mlt : ∀ b x, κ.M b x → κ.base ≤ b ∧ b < κ.w.heap.size
  bas : κ.base ≤ κ.w.heap.size

def Sg.sub (σ σ' : Sg) : Prop := ∀ β o, σ β = some o → σ' β = some o
theorem Sg.sub.refl (σ : Sg) : σ.sub σ := fun _ _ h => h
theorem St.sub {κ : K} {σ σ' : Sg} (h : St κ σ') (hs : σ.sub σ') : St κ σ :=
  ⟨fun β o hb => h.ob β o (hs β o hb), fun β β' o o' b lo hi lo' hi' hne h1 h2 => h.apart β β' o o' b lo hi lo' hi' hne (hs _ _ h1) (hs _ _ h2), h.fin, h.mlt, h.bas⟩

end Go.V
