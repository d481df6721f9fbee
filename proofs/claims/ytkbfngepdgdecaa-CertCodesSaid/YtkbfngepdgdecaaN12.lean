/- Part 12 of the proof: V16, V18, C34, D12. -/
import Derived.Test.YtkbfngepdgdecaaN11
import GoSem.ClaimChange
import Derived.Below
import Derived.Carry
import Derived.Test.YtkbfngepdgdecaaN8

/- Arguments: what a row's plain data are, as abstract values. -/
set_option linter.unusedVariables false
namespace Go.V
open Go.RowKit
variable {P : Program}

/-- The cells of a plain value of type t. -/
inductive AT (P : Program) : TypeId → List AV → Prop
  | bool {t : TypeId} {b : Bool} (h : P.underlying t = some .bool) : AT P t [.b b]
  | int {t : TypeId} {k : IntKind} {n : Int} (h : P.underlying t = some (.int k)) (hw : (Lit.int k n).wf = true) : AT P t [.val (.int k n)]
  | str {t : TypeId} {s : ByteArray} (h : P.underlying t = some .string) (hs : s.size ≤ maxLen) : AT P t [.s s]
  | nil {t e : TypeId} (h : P.underlying t = some (.slice e)) : AT P t [.sl .nil []]
  | sl {t e : TypeId} {es : List (List AV)} (h : P.underlying t = some (.slice e)) (hn : es.length ≤ maxLen) (hes : ∀ x ∈ es, AT P e x) : AT P t [.sl .view es]
  | struct {t : TypeId} {fs : Array Field} {cs : List AV} (h : P.underlying t = some (.struct fs)) (hl : cs.length = P.cellsOf t) (hf : ∀ f ∈ fs.toList, AT P f.type ((cs.drop f.offset).take (P.cellsOf f.type))) : AT P t cs
  | array {t e : TypeId} {n : Nat} {cs : List AV} (h : P.underlying t = some (.array n e)) (hl : cs.length = P.cellsOf t) (he : ∀ i, i < n → AT P e ((cs.drop (i * P.cellsOf e)).take (P.cellsOf e))) : AT P t cs

def laidF (P : Program) (total : Nat) : List Field → Nat → Bool
  | [], off => off == total
  | f :: r, off => f.offset == off && laidF P total r (off + P.cellsOf f.type)
/-- A set of types, closed, all plain. -/
def plainSet (P : Program) (l : List TypeId) : Bool := l.all fun t =>
  match P.underlying t with
  | some .bool | some (.int _) | some .string => true
  | some (.slice e) => l.contains e && decide (0 < P.cellsOf e)
  | some (.struct fs) => fs.toList.all (fun f => l.contains f.type) && laidF P (P.cellsOf t) fs.toList 0
  | some (.array n e) => l.contains e && n * P.cellsOf e == P.cellsOf t
  | _ => false

def RL (κ : K) (cs : List AV) (vs : List Value) : Prop := cs.length = vs.length ∧ ∀ (i : Nat) (x : AV) (v : Value), cs[i]? = some x → vs[i]? = some v → Rel κ x v
theorem RL.row {κ : K} {cs : List AV} {vs : List Value} (h : RL κ cs vs) : RelRow κ cs vs.toArray := ⟨by simpa using h.1, fun i x v h1 h2 => h.2 i x v h1 (by simpa using h2)⟩
theorem RL.one {κ : K} {x : AV} {v : Value} (h : Rel κ x v) : RL κ [x] [v] := ⟨rfl, fun i y u h1 h2 => by
  cases i with
  | zero => simp at h1 h2; subst h1; subst h2; exact h
  | succ i => simp at h1⟩
theorem RL.app {κ : K} {a b : List AV} {u v : List Value} (h : RL κ a u) (h' : RL κ b v) : RL κ (a ++ b) (u ++ v) := by
  refine ⟨by simp [h.1, h'.1], fun i x y h1 h2 => ?_⟩
  rcases Nat.lt_or_ge i a.length with hi | hi
  · rw [List.getElem?_append_left hi] at h1
    rw [List.getElem?_append_left (by rw [← h.1]; exact hi)] at h2
    exact h.2 i x y h1 h2
  · rw [List.getElem?_append_right hi] at h1
    rw [List.getElem?_append_right (by rw [← h.1]; exact hi), ← h.1] at h2
    exact h'.2 _ x y h1 h2

theorem mapM_each {α β : Type} {g : α → Option β} : ∀ {l : List α} {ys : List β}, l.mapM g = some ys → ∀ x ∈ l, ∃ y, g x = some y
  | [], _, _, x, hx => by cases hx
  | a :: l, ys, h, x, hx => by
    rw [List.mapM_cons] at h
    cases ha : g a with
    | none => rw [ha] at h; cases h
    | some y =>
      rw [ha] at h
      cases hr : l.mapM g with
      | none => rw [hr] at h; cases h
      | some zs =>
        rcases List.mem_cons.1 hx with rfl | hx
        · exact ⟨y, ha⟩
        · exact mapM_each hr x hx
theorem mapM_len {α β : Type} {g : α → Option β} : ∀ {l : List α} {ys : List β}, l.mapM g = some ys → ys.length = l.length
  | [], ys, h => by simp at h; subst h; rfl
  | a :: l, ys, h => by
    rw [List.mapM_cons] at h
    cases ha : g a with
    | none => rw [ha] at h; cases h
    | some y =>
      rw [ha] at h
      cases hr : l.mapM g with
      | none => rw [hr] at h; cases h
      | some zs =>
        rw [hr] at h
        cases h
        simp [mapM_len hr]
theorem mapM_get {α β : Type} {g : α → Option β} : ∀ {l : List α} {ys : List β} {i : Nat} {x : α}, l.mapM g = some ys → l[i]? = some x → ∃ y, ys[i]? = some y ∧ g x = some y
  | [], _, _, _, _, hx => by simp at hx
  | a :: l, ys, i, x, h, hx => by
    rw [List.mapM_cons] at h
    cases ha : g a with
    | none => rw [ha] at h; cases h
    | some y =>
      rw [ha] at h
      cases hr : l.mapM g with
      | none => rw [hr] at h; cases h
      | some zs =>
        rw [hr] at h
        cases h
        cases i with
        | zero => simp at hx; subst hx; exact ⟨y, rfl, ha⟩
        | succ i => simp at hx; simpa using mapM_get hr hx

theorem struct_row {κ : K} {vs : List Value} (P : Program) : ∀ (fs : List Field) (off : Nat), laidF P vs.length fs off = true → off ≤ vs.length → (∀ f ∈ fs, ∃ cs, AT P f.type cs ∧ RL κ cs ((vs.drop f.offset).take (P.cellsOf f.type)) ∧ f.offset + P.cellsOf f.type ≤ vs.length) →
    ∃ cs, RL κ cs (vs.drop off) ∧ ∀ f ∈ fs, off ≤ f.offset ∧ AT P f.type ((cs.drop (f.offset - off)).take (P.cellsOf f.type))
  | [], off, hl, _, _ => by
    simp only [laidF, beq_iff_eq] at hl
    exact ⟨[], by rw [List.drop_of_length_le (by omega)]; exact ⟨rfl, fun i x v h => by simp at h⟩, fun f hf => by cases hf⟩
  | f :: fs, off, hl, ho, hf => by
    simp only [laidF, Bool.and_eq_true, beq_iff_eq] at hl
    obtain ⟨he, hl⟩ := hl
    subst he
    obtain ⟨c, h1, h2, h3⟩ := hf f (by simp)
    obtain ⟨cs, h4, h5⟩ := struct_row (κ := κ) P fs _ hl h3 (fun g hg => hf g (by simp [hg]))
    have hclen : c.length = P.cellsOf f.type := by rw [h2.1]; simp; omega
    refine ⟨c ++ cs, ?_, fun g hg => ?_⟩
    · have := h2.app h4
      rw [← List.drop_drop, List.take_append_drop] at this
      exact this
    · rcases List.mem_cons.1 hg with rfl | hg
      · refine ⟨Nat.le_refl _, ?_⟩
        rw [Nat.sub_self, List.drop_zero, List.take_append_of_le_length (by omega), List.take_of_length_le (by omega)]
        exact h1
      · obtain ⟨h6, h7⟩ := h5 g hg
        refine ⟨by omega, ?_⟩
        rw [show g.offset - f.offset = c.length + (g.offset - (f.offset + P.cellsOf f.type)) by omega, ← List.drop_drop, List.drop_left]
        exact h7
theorem array_row {κ : K} {vs : List Value} (P : Program) (e : TypeId) (n : Nat) : ∀ (m k : Nat), k + m = n → vs.length = n * P.cellsOf e → (∀ i, i < n → ∃ cs, AT P e cs ∧ RL κ cs ((vs.drop (i * P.cellsOf e)).take (P.cellsOf e))) →
    ∃ cs, RL κ cs (vs.drop (k * P.cellsOf e)) ∧ ∀ i, i < m → AT P e ((cs.drop (i * P.cellsOf e)).take (P.cellsOf e))
  | 0, k, hk, hl, _ => ⟨[], by rw [List.drop_of_length_le (by rw [hl, show k = n by omega]; exact Nat.le_refl _)]; exact ⟨rfl, fun i x v h => by simp at h⟩, fun i hi => by omega⟩
  | m + 1, k, hk, hl, hf => by
    obtain ⟨c, h1, h2⟩ := hf k (by omega)
    obtain ⟨cs, h4, h5⟩ := array_row (κ := κ) P e n m (k + 1) (by omega) hl hf
    have hle : (k + 1) * P.cellsOf e ≤ n * P.cellsOf e := Nat.mul_le_mul_right _ (by omega)
    rw [Nat.succ_mul] at hle
    have hclen : c.length = P.cellsOf e := by rw [h2.1]; simp; omega
    refine ⟨c ++ cs, ?_, fun i hi => ?_⟩
    · have := h2.app h4
      rw [Nat.succ_mul, ← List.drop_drop, List.take_append_drop] at this
      exact this
    · cases i with
      | zero =>
        rw [Nat.zero_mul, List.drop_zero, List.take_append_of_le_length (by omega), List.take_of_length_le (by omega)]
        exact h1
      | succ i =>
        rw [show (i + 1) * P.cellsOf e = c.length + i * P.cellsOf e by rw [Nat.succ_mul]; omega, ← List.drop_drop, List.drop_left]
        exact h5 i (by omega)

theorem cells_reads {W : World} {a : Addr} {n : Nat} {l : List Value} (h : W.cells? 0 a n = some l) : l.length = n ∧ ∀ j v, l[j]? = some v → W.cell? (a.add j) = some v := by
  unfold World.cells? at h
  rw [if_pos (Nat.zero_le _)] at h
  refine ⟨by simpa using mapM_len h, fun j v hj => ?_⟩
  have hjn : j < n := by
    have := mapM_len h
    rcases Nat.lt_or_ge j l.length with h' | h'
    · simp at this; omega
    · rw [List.getElem?_eq_none h'] at hj; cases hj
  obtain ⟨y, h1, h2⟩ := mapM_get (i := j) (x := j) h (by simp [hjn])
  rw [hj] at h1
  cases h1
  exact h2
theorem spot_of_cell {W : World} {a : Addr} {v : Value} (h : W.cell? a = some v) : a.spot = none := by
  cases hs : a.spot with
  | none => rfl
  | some x =>
    exfalso
    simp only [World.cell?, hs] at h
    split at h <;> simp at h

theorem laidF_le (P : Program) (total : Nat) : ∀ (fs : List Field) (off : Nat), laidF P total fs off = true → off ≤ total ∧ ∀ f ∈ fs, f.offset + P.cellsOf f.type ≤ total
  | [], off, h => by
    simp only [laidF, beq_iff_eq] at h
    exact ⟨by omega, fun f hf => by cases hf⟩
  | f :: fs, off, h => by
    simp only [laidF, Bool.and_eq_true, beq_iff_eq] at h
    obtain ⟨he, h⟩ := h
    obtain ⟨h1, h2⟩ := laidF_le P total fs _ h
    refine ⟨by omega, fun g hg => ?_⟩
    rcases List.mem_cons.1 hg with rfl | hg
    · omega
    · exact h2 g hg
/-- **The opening.** -/
theorem open_plain {H : Type} {enc : TypeId × Value → H} {W : World} {l : List TypeId} (hl : plainSet P l = true) : ∀ (fuel : Nat) (t : TypeId) (vs : List Value) (d : DataW H) (ps : List MemPlace), t ∈ l →
    DataW.trod enc P W 0 (fun _ => true) true fuel t vs = some (d, ps) → ∃ cs, AT P t cs ∧ RL (K0 W) cs vs
  | 0, _, _, _, _, _, h => by cases h
  | fuel + 1, t, vs, d, ps, ht, h => by
    have hp := List.all_eq_true.1 hl t ht
    have ih := open_plain (enc := enc) (W := W) hl fuel
    unfold DataW.trod at h
    split at h
    all_goals try (rename_i hu; rw [hu] at hp)
    all_goals first | (cases hp; done) | (cases h; done) | skip
    · exact ⟨_, .bool hu, .one (.val _)⟩
    · split at h
      · rename_i hc
        obtain ⟨rfl, hw⟩ := hc
        exact ⟨_, .int hu hw, .one (.val _)⟩
      · cases h
    · split at h
      · rename_i hc
        exact ⟨_, .str hu hc, .one (.val _)⟩
      · cases h
    · exact ⟨_, .nil hu, .one (.slnil _ trivial)⟩
    · rename_i e a len cap
      simp only [Bool.and_eq_true, decide_eq_true_eq] at hp
      obtain ⟨hpe, hsz⟩ := hp
      have hpe' : e ∈ l := by simpa using hpe
      dsimp only at h
      split at h
      · rename_i hc
        obtain ⟨_, hlc, hcm⟩ := hc
        cases hm : List.mapM (fun i => (W.cells? 0 (a.add (i * P.cellsOf e)) (P.cellsOf e)).bind (DataW.trod enc P W 0 (fun x => true) true fuel e)) (List.range len) with
        | none => rw [hm] at h; cases h
        | some elems =>
          have key : ∀ i, i < len → ∃ cs li, AT P e cs ∧ RL (K0 W) cs li ∧ W.cells? 0 (a.add (i * P.cellsOf e)) (P.cellsOf e) = some li := by
            intro i hi
            obtain ⟨y, _, hy⟩ := mapM_get (i := i) (x := i) hm (by simp [hi])
            cases hli : W.cells? 0 (a.add (i * P.cellsOf e)) (P.cellsOf e) with
            | none => rw [hli] at hy; cases hy
            | some li =>
              rw [hli] at hy
              obtain ⟨cs, h1, h2⟩ := ih e li y.1 y.2 hpe' hy
              exact ⟨cs, li, h1, h2, rfl⟩
          rcases Nat.eq_zero_or_pos len with h0 | h0
          · subst h0
            exact ⟨_, .sl hu (Nat.zero_le _) (fun x hx => by cases hx), .one (.slemp .view (.inl rfl) a cap)⟩
          have hs : a.spot = none := by
            obtain ⟨cs, li, _, _, h3⟩ := key 0 h0
            obtain ⟨h4, h5⟩ := cells_reads h3
            have := h5 0 _ (List.getElem?_eq_getElem (by omega))
            rw [Nat.zero_mul] at this
            exact spot_of_cell (a := (a.add 0).add 0) this
          let g : Nat → List AV := fun i => if hi : i < len then (key i hi).choose else []
          have hg : ∀ i (hi : i < len), g i = (key i hi).choose := fun i hi => dif_pos hi
          have hes : ∀ i e', ((List.range len).map g)[i]? = some e' → ∃ hi : i < len, e' = (key i hi).choose := by
            intro i e' hi
            rw [List.getElem?_map] at hi
            rcases Nat.lt_or_ge i len with h' | h'
            · rw [List.getElem?_range h'] at hi
              cases hi
              exact ⟨h', hg i h'⟩
            · rw [List.getElem?_eq_none (by simpa using h')] at hi; cases hi
          have hcell : ∀ i (hi : i < len) j v, (key i hi).choose_spec.choose[j]? = some v → W.cell? ⟨a.block, a.off + i * P.cellsOf e + j, none⟩ = some v := by
            intro i hi j v hv
            obtain ⟨_, _, h3⟩ := (key i hi).choose_spec.choose_spec
            have := (cells_reads h3).2 j v hv
            rw [addr_add hs, addr_add rfl] at this
            exact this
          refine ⟨_, .sl (es := (List.range len).map g) hu (by simp; omega) (fun x hx => ?_), .one (.sl .view _ a len cap (P.cellsOf e) (fun i j => (W.cell? ⟨a.block, a.off + i * P.cellsOf e + j, none⟩).getD undef) trivial (by simp) hlc hs (fun i e' hi => ?_) (fun i j hi hj => ⟨?_, fun hM => hM⟩) (fun i j e' x hi hj => ?_))⟩
          · obtain ⟨i, hi, rfl⟩ := List.mem_map.1 hx
            have hi' : i < len := by simpa using hi
            rw [hg i hi']
            exact (key i hi').choose_spec.choose_spec.1
          · obtain ⟨hi', rfl⟩ := hes i e' hi
            obtain ⟨_, h2, h3⟩ := (key i hi').choose_spec.choose_spec
            rw [h2.1]
            exact (cells_reads h3).1
          · obtain ⟨_, h2, h3⟩ := (key i hi).choose_spec.choose_spec
            have hlen := (cells_reads h3).1
            have := hcell i hi j _ (List.getElem?_eq_getElem (by omega))
            show W.cell? _ = _
            rw [this]
            rfl
          · obtain ⟨hi', rfl⟩ := hes i e' hi
            obtain ⟨_, h2, h3⟩ := (key i hi').choose_spec.choose_spec
            have hjl : j < (key i hi').choose.length := by
              rcases Nat.lt_or_ge j (key i hi').choose.length with h' | h'
              · exact h'
              · rw [List.getElem?_eq_none h'] at hj; cases hj
            have hjl' : j < (key i hi').choose_spec.choose.length := by rw [← h2.1]; exact hjl
            have := h2.2 j x _ hj (List.getElem?_eq_getElem hjl')
            rw [hcell i hi' j _ (List.getElem?_eq_getElem hjl')]
            exact this
      · cases h
    · rename_i vs _ _ fs
      simp only [Bool.and_eq_true] at hp
      split at h
      · rename_i hc
        cases hm : List.mapM (fun f => DataW.trod enc P W 0 (fun x => true) true fuel f.type (List.take (P.cellsOf f.type) (List.drop f.offset vs))) fs.toList with
        | none => rw [hm] at h; cases h
        | some xs =>
          rw [← hc] at hp
          have hle := (laidF_le P vs.length fs.toList 0 hp.2).2
          obtain ⟨cs, h1, h2⟩ := struct_row (κ := K0 W) (vs := vs) P fs.toList 0 hp.2 (Nat.zero_le _) (fun f hf => by
            obtain ⟨y, hy⟩ := mapM_each hm f hf
            have hft : f.type ∈ l := by have := List.all_eq_true.1 hp.1 f hf; simpa using this
            obtain ⟨cs, h3, h4⟩ := ih f.type _ y.1 y.2 hft hy
            exact ⟨cs, h3, h4, hle f hf⟩)
          refine ⟨cs, .struct hu (by rw [h1.1, List.drop_zero]; exact hc) (fun f hf => ?_), by simpa using h1⟩
          have := (h2 f hf).2
          simpa using this
      · cases h
    · rename_i vs _ _ n e
      simp only [Bool.and_eq_true, beq_iff_eq] at hp
      have hpe' : e ∈ l := by simpa using hp.1
      split at h
      · rename_i hc
        cases hm : List.mapM (fun i => DataW.trod enc P W 0 (fun x => true) true fuel e (List.take (P.cellsOf e) (List.drop (i * P.cellsOf e) vs))) (List.range n) with
        | none => rw [hm] at h; cases h
        | some xs =>
          obtain ⟨cs, h1, h2⟩ := array_row (κ := K0 W) (vs := vs) P e n n 0 (by omega) (by rw [hc, hp.2]) (fun i hi => by
            obtain ⟨y, hy⟩ := mapM_each hm i (by simpa using hi)
            obtain ⟨cs, h3, h4⟩ := ih e _ y.1 y.2 hpe' hy
            exact ⟨cs, h3, h4⟩)
          rw [Nat.zero_mul, List.drop_zero] at h1
          exact ⟨cs, .array hu (by rw [h1.1]; exact hc) h2, h1⟩
      · cases h
end Go.V

/- Arguments that are slices and structs: opened. -/
set_option linter.unusedVariables false
namespace Go.V
open Go.RowKit
variable {P : Program}
theorem one_of {W : World} {cs : List AV} {v : Value} (hv : v.cells.toList = [v]) (h : RL (K0 W) cs v.cells.toList) : ∃ x, cs = [x] ∧ Rel (K0 W) x v := by
  rw [hv] at h
  match cs, h with
  | [x], h => exact ⟨x, rfl, h.2 0 x v rfl rfl⟩
theorem open_sl {H : Type} {enc : TypeId × Value → H} {W : World} {base : Nat} {t e : TypeId} {v : Value} {d : DataW H} {p : List MemPlace} (l : List TypeId) (hl : plainSet P l = true) (ht : t ∈ l) (hu : P.underlying t = some (.slice e))
    (hw : Value.okWide P W .any base t v) (h : DataW.Trod enc P W 0 (fun _ => true) true t v d p) : ∃ x, AT P t [x] ∧ Rel (K0 W) x v := by
  obtain ⟨fuel, h⟩ := h
  obtain ⟨cs, h1, h2⟩ := open_plain hl fuel t _ d p ht h
  have hv : v.cells.toList = [v] := by
    simp only [Value.okWide, hu, Cell.okWide] at hw
    cases v <;> simp_all [Cell.ok, Value.cells]
  obtain ⟨x, rfl, hx⟩ := one_of hv h2
  exact ⟨x, h1, hx⟩
theorem open_st {H : Type} {enc : TypeId × Value → H} {W : World} {base : Nat} {t : TypeId} {fs : Array Field} {v : Value} {d : DataW H} {p : List MemPlace} (l : List TypeId) (hl : plainSet P l = true) (ht : t ∈ l) (hu : P.underlying t = some (.struct fs))
    (hw : Value.okWide P W .any base t v) (h : DataW.Trod enc P W 0 (fun _ => true) true t v d p) : ∃ cs, AT P t cs ∧ Rel (K0 W) (.agg cs) v := by
  obtain ⟨fuel, h⟩ := h
  obtain ⟨cs, h1, h2⟩ := open_plain hl fuel t _ d p ht h
  simp only [Value.okWide, hu] at hw
  obtain ⟨vs, rfl, _, _⟩ := hw
  have h3 := h2.row
  exact ⟨cs, h1, .agg cs vs (by simpa [Value.cells] using h3.1) (fun i x u g1 g2 => h3.2 i x u g1 (by simpa [Value.cells] using g2))⟩
theorem trod_low {H : Type} {enc : TypeId × Value → H} {W : World} {t : TypeId} {v : Value} {d : DataW H} {p : List MemPlace} (h : DataW.Trod enc P W 0 (fun _ => true) true t v d p) : ∀ x ∈ p, x.block < W.heap.size := by
  obtain ⟨m, hm⟩ := h
  exact DataW.trod_lt m _ _ _ hm
/-! ### What the readings say -/
theorem AT.inv_int {t : TypeId} {k : IntKind} {cs : List AV} (hu : P.underlying t = some (.int k)) (h : AT P t cs) : ∃ n, cs = [.val (.int k n)] ∧ (Lit.int k n).wf = true := by
  cases h with
  | int h hw => rw [hu] at h; cases h; exact ⟨_, rfl, hw⟩
  | _ => simp_all
theorem AT.inv_slice {t e : TypeId} {cs : List AV} (hu : P.underlying t = some (.slice e)) (h : AT P t cs) : cs = [.sl .nil []] ∨ ∃ es, cs = [.sl .view es] ∧ es.length ≤ maxLen ∧ ∀ x ∈ es, AT P e x := by
  cases h with
  | nil h => exact .inl rfl
  | sl h hn hes => rw [hu] at h; cases h; exact .inr ⟨_, rfl, hn, hes⟩
  | _ => simp_all
theorem AT.inv_struct {t : TypeId} {fs : Array Field} {cs : List AV} (hu : P.underlying t = some (.struct fs)) (h : AT P t cs) : cs.length = P.cellsOf t ∧ ∀ f ∈ fs.toList, AT P f.type ((cs.drop f.offset).take (P.cellsOf f.type)) := by
  cases h with
  | struct h hl hf => rw [hu] at h; cases h; exact ⟨hl, hf⟩
  | _ => simp_all
theorem AT.inv_array {t e : TypeId} {n : Nat} {cs : List AV} (hu : P.underlying t = some (.array n e)) (h : AT P t cs) : cs.length = P.cellsOf t ∧ ∀ i, i < n → AT P e ((cs.drop (i * P.cellsOf e)).take (P.cellsOf e)) := by
  cases h with
  | array h hl he => rw [hu] at h; cases h; exact ⟨hl, he⟩
  | _ => simp_all
theorem AT.inv_str {t : TypeId} {cs : List AV} (hu : P.underlying t = some .string) (h : AT P t cs) : ∃ s, cs = [.s s] ∧ s.size ≤ maxLen := by
  cases h with
  | str h hs => exact ⟨_, rfl, hs⟩
  | _ => simp_all
theorem AT.inv_bool {t : TypeId} {cs : List AV} (hu : P.underlying t = some .bool) (h : AT P t cs) : ∃ b, cs = [.b b] := by
  cases h with
  | bool h => exact ⟨_, rfl⟩
  | _ => simp_all
theorem wf_i64 {n : Int} (h : (Lit.int .i64 n).wf = true) : -9223372036854775808 ≤ n ∧ n ≤ 9223372036854775807 := by
  simp only [Lit.wf, Bool.and_eq_true, decide_eq_true_eq] at h
  exact h
theorem relArgs_nil {κ : K} : RelArgs κ [] #[] := ⟨rfl, fun i x u h1 h2 => by simp at h1⟩
theorem relArgs_cons {κ : K} {x : AV} {v : Value} {xs : List AV} {vs : List Value} (h : Rel κ x v) (hr : RelArgs κ xs vs.toArray) : RelArgs κ (x :: xs) (v :: vs).toArray := by
  refine ⟨by have := hr.1; simp at this ⊢; omega, fun i y u h1 h2 => ?_⟩
  cases i with
  | zero => simp at h1 h2; subst h1; subst h2; exact h
  | succ i => exact hr.2 i y u (by simpa using h1) (by simpa using h2)
end Go.V

set_option linter.unusedSimpArgs false
set_option linter.unusedVariables false
namespace Go.Proofs.Ytkbfngepdgdecaa
open Go Go.V Go.Cert Go.RowKit
/-- The types of the laws' arguments. -/
abbrev plainL : List TypeId := [3, 5, 9, 22, 23, 24, 25, 26, 27, 28, 34, 47]
theorem plainL_ok : plainSet Try.prog plainL = true := by kernel_rfl
theorem take_self {l : List AV} {n : Nat} (h : l.length = n) : l.take n = l := List.take_of_length_le (by omega)
theorem dec5s : ∀ (cs : List AV), (∀ i, i < cs.length → AT Try.prog 5 ((cs.drop i).take 1)) → ∃ l : List UInt8, cs = aB l
  | [], _ => ⟨[], rfl⟩
  | x :: r, h => by
    have h0 := h 0 (by simp)
    obtain ⟨n, hn, hw⟩ := AT.inv_int Try.underlying5 h0
    obtain ⟨l, rfl⟩ := dec5s r (fun i hi => by have := h (i + 1) (by simpa using hi); simpa using this)
    have hx : x = .val (.int .u8 n) := by simpa using hn
    simp only [Lit.wf, Bool.and_eq_true, decide_eq_true_eq] at hw
    have h1 : (0 : Int) ≤ n := hw.1
    have h2 : n ≤ 255 := hw.2
    refine ⟨UInt8.ofNat n.toNat :: l, ?_⟩
    have e : ((UInt8.ofNat n.toNat).toNat : Int) = n := by rw [UInt8.toNat_ofNat']; omega
    show x :: aB l = AV.u8 (UInt8.ofNat n.toNat).toNat :: aB l
    rw [e, hx]
theorem dec24 {cs : List AV} (h : AT Try.prog 24 cs) : ∃ l : List UInt8, cs = aB l ∧ l.length = 32 := by
  obtain ⟨hl, he⟩ := AT.inv_array Try.underlying24 h
  have hc : Try.prog.cellsOf 5 = 1 := by kernel_rfl
  have hc2 : Try.prog.cellsOf 24 = 32 := by kernel_rfl
  rw [hc2] at hl
  obtain ⟨l, rfl⟩ := dec5s cs (fun i hi => by have := he i (by omega); rwa [hc, Nat.mul_one] at this)
  exact ⟨l, rfl, by rw [aB_len] at hl; exact hl⟩
theorem dec3 {cs : List AV} (h : AT Try.prog 3 cs) : ∃ n : Int, cs = [.i n] ∧ -9223372036854775808 ≤ n ∧ n ≤ 9223372036854775807 := by
  obtain ⟨n, rfl, hw⟩ := AT.inv_int Try.underlying3 h
  exact ⟨n, rfl, wf_i64 hw⟩
theorem dec26 {cs : List AV} (h : AT Try.prog 26 cs) : ∃ (q : Int) (l : List UInt8), cs = .i q :: aB l ∧ l.length = 128 := by
  obtain ⟨hl, hf⟩ := AT.inv_struct Try.underlying26 h
  have c3 : Try.prog.cellsOf 3 = 1 := by kernel_rfl
  have c24 : Try.prog.cellsOf 24 = 32 := by kernel_rfl
  have c26 : Try.prog.cellsOf 26 = 129 := by kernel_rfl
  rw [c26] at hl
  simp only [List.forall_mem_cons, c3, c24] at hf
  obtain ⟨f0, f1, f2, f3, f4, _⟩ := hf
  obtain ⟨q, hq, _⟩ := dec3 f0
  obtain ⟨a, ha, la⟩ := dec24 f1
  obtain ⟨b, hb, lb⟩ := dec24 f2
  obtain ⟨c, hc, lc⟩ := dec24 f3
  obtain ⟨d, hd, ld⟩ := dec24 f4
  refine ⟨q, a ++ (b ++ (c ++ d)), ?_, by simp [la, lb, lc, ld]⟩
  have e1 : cs = cs.take 1 ++ cs.drop 1 := (List.take_append_drop 1 cs).symm
  have e2 : cs.drop 1 = (cs.drop 1).take 32 ++ cs.drop 33 := by have := (List.take_append_drop 32 (cs.drop 1)).symm; rwa [List.drop_drop] at this
  have e3 : cs.drop 33 = (cs.drop 33).take 32 ++ cs.drop 65 := by have := (List.take_append_drop 32 (cs.drop 33)).symm; rwa [List.drop_drop] at this
  have e4 : cs.drop 65 = (cs.drop 65).take 32 ++ cs.drop 97 := by have := (List.take_append_drop 32 (cs.drop 65)).symm; rwa [List.drop_drop] at this
  have e5 : cs.drop 97 = (cs.drop 97).take 32 := (take_self (by simp [hl])).symm
  rw [List.drop_zero] at hq
  rw [e1, hq, e2, ha, e3, hb, e4, hc, e5, hd]
  simp [aB]
theorem dec28 {cs : List AV} (h : AT Try.prog 28 cs) : ∃ (q s : Int) (l : List UInt8), cs = .i q :: (aB l ++ [.i s]) ∧ l.length = 128 := by
  obtain ⟨hl, hf⟩ := AT.inv_struct Try.underlying28 h
  have c3 : Try.prog.cellsOf 3 = 1 := by kernel_rfl
  have c26 : Try.prog.cellsOf 26 = 129 := by kernel_rfl
  have c28 : Try.prog.cellsOf 28 = 130 := by kernel_rfl
  rw [c28] at hl
  simp only [List.forall_mem_cons, c3, c26] at hf
  obtain ⟨f0, f1, _⟩ := hf
  obtain ⟨q, l, hq, hll⟩ := dec26 f0
  obtain ⟨s, hs, _⟩ := dec3 f1
  refine ⟨q, s, l, ?_, hll⟩
  have e1 : cs = cs.take 129 ++ cs.drop 129 := (List.take_append_drop 129 cs).symm
  have e2 : cs.drop 129 = (cs.drop 129).take 1 := (take_self (by simp [hl])).symm
  rw [List.drop_zero] at hq
  rw [e1, hq, e2, hs]
  rfl
theorem dec47 {cs : List AV} (h : AT Try.prog 47 cs) : ∃ s : Sgn, cs = sgnA s ∧ s.2.2.length = 128 := by
  obtain ⟨hl, hf⟩ := AT.inv_struct Try.underlying47 h
  have c3 : Try.prog.cellsOf 3 = 1 := by kernel_rfl
  have c26 : Try.prog.cellsOf 26 = 129 := by kernel_rfl
  have c47 : Try.prog.cellsOf 47 = 130 := by kernel_rfl
  rw [c47] at hl
  simp only [List.forall_mem_cons, c3, c26] at hf
  obtain ⟨f0, f1, _⟩ := hf
  obtain ⟨w, hw, _⟩ := dec3 f0
  obtain ⟨q, l, hq, hll⟩ := dec26 f1
  refine ⟨(w, q, l), ?_, hll⟩
  have e1 : cs = cs.take 1 ++ cs.drop 1 := (List.take_append_drop 1 cs).symm
  have e2 : cs.drop 1 = (cs.drop 1).take 129 := (take_self (by simp [hl])).symm
  rw [List.drop_zero] at hw
  rw [e1, hw, e2, hq]
  rfl
theorem dec_rows {es : List (List AV)} : (∀ x ∈ es, AT Try.prog 47 x) → ∃ sl : List Sgn, es = sgnsA sl ∧ ∀ s ∈ sl, s.2.2.length = 128 := by
  induction es with
  | nil => intro _; exact ⟨[], rfl, fun s hs => (List.not_mem_nil hs).elim⟩
  | cons x r ih =>
    intro h
    obtain ⟨s, rfl, h1⟩ := dec47 (h x (List.mem_cons_self ..))
    obtain ⟨sl, rfl, h2⟩ := ih fun y hy => h y (List.mem_cons_of_mem _ hy)
    refine ⟨s :: sl, rfl, fun z hz => ?_⟩
    rcases List.mem_cons.1 hz with rfl | hz
    · exact h1
    · exact h2 z hz
theorem dec22 {x : AV} (h : AT Try.prog 22 [x]) : ∃ (k : Own) (sl : List Sgn), x = .sl k (sgnsA sl) ∧ (∀ s ∈ sl, s.2.2.length = 128) ∧ sl.length ≤ 9223372036854775807 := by
  rcases AT.inv_slice Try.underlying22 h with h | ⟨es, h, hn, hes⟩
  · exact ⟨.nil, [], List.head_eq_of_cons_eq h, fun s hs => (List.not_mem_nil hs).elim, by simp⟩
  · obtain ⟨sl, rfl, h2⟩ := dec_rows hes
    refine ⟨.view, sl, by simpa using h, h2, ?_⟩
    rw [sgnsA_len] at hn
    exact hn
end Go.Proofs.Ytkbfngepdgdecaa

set_option linter.unusedSimpArgs false
set_option linter.unusedVariables false
namespace Go.Proofs.Ytkbfngepdgdecaa
open Go Go.V Go.Cert
theorem certX_shape (b : List UInt8) : ∃ v L s e, certX b = .tup [cA v L s, .i e] ∧ L.length = 128 := by
  unfold certX
  cases h : certP b with
  | none => exact ⟨0, zs, 0, 4, rfl, zs_len⟩
  | some w => exact ⟨w.1, w.2.1, w.2.2, 0, rfl, (certP_some h).2.1⟩
theorem certB_le (q : Int) (l : List UInt8) (s : Int) : (certB q l s).length ≤ 1000000000000 := by
  have := partB_len _ (pcB_len q l s)
  rw [certB, rowB_part, List.length_append, be_len]
  simp only [List.length_cons, List.length_nil] at this
  omega
set_option maxHeartbeats 400000 in
set_option maxRecDepth 100000 in
theorem t9 (k : Own) (q s : Int) (l b : List UInt8) (σ : Sg) (hh : l.length = 128) : VCalls Try.prog 9 [cA q l s, .sl k (bytesL b)] σ (fun x σ' => x = .b true) := by
  obtain ⟨z26, h26, hz26⟩ := zero26
  obtain ⟨z28, h28, hz28⟩ := zero28
  have hz := cR zs_len
  have hc := cR hh s
  by_cases hb : 65536 < b.length
  · (refine vfun (fun d => if d = 2 then .ro else .no) mixed Try.func9 (by kernel_rfl) ?_; simp only [bodyOf, Try.f9, Option.getD_some])
    repeat' (first | with_reducible rfl | exact .inr trivial | with_reducible apply And.intro | with_reducible apply vqx_step | with_reducible apply vqm_step | with_reducible refine vkp_free (by decide +kernel) ?_ | with_reducible intro _ | ((first | (with_reducible first | refine .rs ?_ | refine .ds (by kernel_rfl) ?_ | refine .dg (by kernel_rfl) ?_ | refine .rg ?_ | refine .ite ?_ | refine .ret ?_ | refine .skip ?_ | refine .exit ?_ | refine .scope ?_ | refine .seq (.label ?_) | refine .block ?_ | refine .seq ?_)); (try simp only [vO, vQ, ↓vP, vE, vS, vB, vL, vF, vM, vN, vbs_full, Nat.reduceEqDiff, Nat.reduceAdd, Nat.reduceLeDiff, ne_eq, not_false_eq_true, Nat.reduceMul, Nat.reduceSub, Int.toNat_zero, Int.reduceToNat, Try.underlying3, info3, Try.underlying4, info4, Try.underlying5, info5, Try.underlying9, info9, hz26, hz28, Try.underlying26, h26, Try.underlying28, h28, Try.underlying34, info34, Try.underlying35, info35, hz, hc, bytesL_len, Option.getD_some, if_true, reduceIte, Nat.reduceEqDiff, vT])) | ((simp (disch := first | assumption | (apply Go.Cert.ne_of2; assumption; assumption) | (apply Go.Cert.ne_ob; assumption; assumption; (intro e; cases e; done)) | omega) only [w64, w8, tg_eq, Go.V.n1, Go.V.n2, Go.V.nn, Int.tdiv_eq_ediv_of_nonneg, Sg.set_same, Sg.set_ne, Sg.set_ne', Sg.del_ne, Sg.del_ne']); (try simp only [vO, vQ, ↓vP, vE, vS, vB, vL, vF, vM, vN, vbs_full, Nat.reduceEqDiff, Nat.reduceAdd, Nat.reduceLeDiff, ne_eq, not_false_eq_true, Nat.reduceMul, Nat.reduceSub, Int.toNat_zero, Int.reduceToNat, Try.underlying3, info3, Try.underlying4, info4, Try.underlying5, info5, Try.underlying9, info9, hz26, hz28, Try.underlying26, h26, Try.underlying28, h28, Try.underlying34, info34, Try.underlying35, info35, hz, hc, bytesL_len, Option.getD_some, if_true, reduceIte, Nat.reduceEqDiff, vT])) | ((((with_reducible refine (t10 _).mono ?_); rintro _ S ⟨rfl, rfl⟩)); (try simp only [vO, vQ, ↓vP, vE, vS, vB, vL, vF, vM, vN, vbs_full, Nat.reduceEqDiff, Nat.reduceAdd, Nat.reduceLeDiff, ne_eq, not_false_eq_true, Nat.reduceMul, Nat.reduceSub, Int.toNat_zero, Int.reduceToNat, Try.underlying3, info3, Try.underlying4, info4, Try.underlying5, info5, Try.underlying9, info9, hz26, hz28, Try.underlying26, h26, Try.underlying28, h28, Try.underlying34, info34, Try.underlying35, info35, hz, hc, bytesL_len, Option.getD_some, if_true, reduceIte, Nat.reduceEqDiff, vT])) | with_reducible refine vfresh_set ?_ | with_reducible refine vfresh_intro (fun _ _ => ?_) | with_reducible refine vif_intro (fun _ => ?_) (fun _ => ?_) | omega | ((with_reducible first | refine vop_at ?_ | refine vops_at ?_ | refine vquiet_at ?_ | refine vmix_at ?_ | refine Holds_at ?_); simp only [vO, vQ, ↓vP, vE, vS, vB, vL, vF, vM, vN, vbs_full, Nat.reduceEqDiff, Nat.reduceAdd, Nat.reduceLeDiff, ne_eq, not_false_eq_true, Nat.reduceMul, Nat.reduceSub, Int.toNat_zero, Int.reduceToNat, Try.underlying3, info3, Try.underlying4, info4, Try.underlying5, info5, Try.underlying9, info9, hz26, hz28, Try.underlying26, h26, Try.underlying28, h28, Try.underlying34, info34, Try.underlying35, info35, hz, hc, bytesL_len, Option.getD_some, if_true, reduceIte, Nat.reduceEqDiff, vT]))
    exact ⟨_, .refl _⟩
  obtain ⟨v, L, s', e, hX, hL⟩ := certX_shape b
  have hc' := cR hL s'
  have he : ∀ t, veqT Try.prog 28 t (cA v L s') (cA v L s') = some true := fun t => by rw [eqT28 hL hL, decide_eq_true ⟨rfl, rfl, rfl⟩]
  have he2 : ∀ t, veqT Try.prog 28 t (cA q l s) (cA q l s) = some true := fun t => by rw [eqT28 hh hh, decide_eq_true ⟨rfl, rfl, rfl⟩]
  have h24 : ∀ σ, VCalls Try.prog 24 [.sl k (bytesL b)] σ _ := fun σ => VCalls.arg1 (AVw.any _ _) (t24 b σ (by omega))
  have g26 : ∀ σ, VCalls Try.prog 26 [lent b] σ _ := fun σ => VCalls.arg1 (x' := .sl .view (bytesL b)) (fun κ v h => h.unlent) (t26 .view b σ (by omega))
  have h27 : ∀ σ, VCalls Try.prog 27 [lent b, .sl k (bytesL b)] σ _ := fun σ => VCalls.arg2 (AVw.any _ _) (t27 b σ (by omega))
  have h29 := fun σ => t29 k b σ (by omega)
  rw [hX] at g26 h29
  by_cases ho : okB q s
  · have h25 := fun σ => t25 q s l σ hh
    have g28 := fun σ => t28 q s l σ hh
    have g26b := fun σ => t26 .any (certB q l s) σ (certB_le q l s)
    rw [certX, certP_of ho hh] at g26b
    simp only [if_pos ho] at h25 g28
    (refine vfun (fun d => if d = 2 then .ro else .no) mixed Try.func9 (by kernel_rfl) ?_; simp only [bodyOf, Try.f9, Option.getD_some])
    repeat' (first | with_reducible rfl | exact .inr trivial | with_reducible apply And.intro | with_reducible apply vqx_step | with_reducible apply vqm_step | with_reducible refine vkp_free (by decide +kernel) ?_ | with_reducible intro _ | ((first | (with_reducible first | refine .rs ?_ | refine .ds (by kernel_rfl) ?_ | refine .dg (by kernel_rfl) ?_ | refine .rg ?_ | refine .ite ?_ | refine .ret ?_ | refine .skip ?_ | refine .exit ?_ | refine .scope ?_ | refine .seq (.label ?_) | refine .block ?_ | refine .seq ?_)); (try simp only [vO, vQ, ↓vP, vE, vS, vB, vL, vF, vM, vN, vbs_full, Nat.reduceEqDiff, Nat.reduceAdd, Nat.reduceLeDiff, ne_eq, not_false_eq_true, Nat.reduceMul, Nat.reduceSub, Int.toNat_zero, Int.reduceToNat, Try.underlying3, info3, Try.underlying4, info4, Try.underlying5, info5, Try.underlying9, info9, hz26, hz28, Try.underlying26, h26, Try.underlying28, h28, Try.underlying34, info34, Try.underlying35, info35, hz, hc, hc', bytesL_len, he, he2, Option.getD_some, if_true, reduceIte, Nat.reduceEqDiff, vT])) | ((simp (disch := first | assumption | (apply Go.Cert.ne_of2; assumption; assumption) | (apply Go.Cert.ne_ob; assumption; assumption; (intro e; cases e; done)) | omega) only [w64, w8, tg_eq, Go.V.n1, Go.V.n2, Go.V.nn, Int.tdiv_eq_ediv_of_nonneg, Sg.set_same, Sg.set_ne, Sg.set_ne', Sg.del_ne, Sg.del_ne']); (try simp only [vO, vQ, ↓vP, vE, vS, vB, vL, vF, vM, vN, vbs_full, Nat.reduceEqDiff, Nat.reduceAdd, Nat.reduceLeDiff, ne_eq, not_false_eq_true, Nat.reduceMul, Nat.reduceSub, Int.toNat_zero, Int.reduceToNat, Try.underlying3, info3, Try.underlying4, info4, Try.underlying5, info5, Try.underlying9, info9, hz26, hz28, Try.underlying26, h26, Try.underlying28, h28, Try.underlying34, info34, Try.underlying35, info35, hz, hc, hc', bytesL_len, he, he2, Option.getD_some, if_true, reduceIte, Nat.reduceEqDiff, vT])) | ((((with_reducible refine (t10 _).mono ?_); rintro _ S ⟨rfl, rfl⟩)); (try simp only [vO, vQ, ↓vP, vE, vS, vB, vL, vF, vM, vN, vbs_full, Nat.reduceEqDiff, Nat.reduceAdd, Nat.reduceLeDiff, ne_eq, not_false_eq_true, Nat.reduceMul, Nat.reduceSub, Int.toNat_zero, Int.reduceToNat, Try.underlying3, info3, Try.underlying4, info4, Try.underlying5, info5, Try.underlying9, info9, hz26, hz28, Try.underlying26, h26, Try.underlying28, h28, Try.underlying34, info34, Try.underlying35, info35, hz, hc, hc', bytesL_len, he, he2, Option.getD_some, if_true, reduceIte, Nat.reduceEqDiff, vT])) | ((((with_reducible refine (h24 _).mono ?_); rintro _ S ⟨rfl, rfl⟩)); (try simp only [vO, vQ, ↓vP, vE, vS, vB, vL, vF, vM, vN, vbs_full, Nat.reduceEqDiff, Nat.reduceAdd, Nat.reduceLeDiff, ne_eq, not_false_eq_true, Nat.reduceMul, Nat.reduceSub, Int.toNat_zero, Int.reduceToNat, Try.underlying3, info3, Try.underlying4, info4, Try.underlying5, info5, Try.underlying9, info9, hz26, hz28, Try.underlying26, h26, Try.underlying28, h28, Try.underlying34, info34, Try.underlying35, info35, hz, hc, hc', bytesL_len, he, he2, Option.getD_some, if_true, reduceIte, Nat.reduceEqDiff, vT])) | ((((with_reducible refine (h25 _).mono ?_); rintro _ S ⟨rfl, rfl⟩)); (try simp only [vO, vQ, ↓vP, vE, vS, vB, vL, vF, vM, vN, vbs_full, Nat.reduceEqDiff, Nat.reduceAdd, Nat.reduceLeDiff, ne_eq, not_false_eq_true, Nat.reduceMul, Nat.reduceSub, Int.toNat_zero, Int.reduceToNat, Try.underlying3, info3, Try.underlying4, info4, Try.underlying5, info5, Try.underlying9, info9, hz26, hz28, Try.underlying26, h26, Try.underlying28, h28, Try.underlying34, info34, Try.underlying35, info35, hz, hc, hc', bytesL_len, he, he2, Option.getD_some, if_true, reduceIte, Nat.reduceEqDiff, vT])) | ((((with_reducible refine (g26 _).mono ?_); rintro _ S ⟨rfl, rfl⟩)); (try simp only [vO, vQ, ↓vP, vE, vS, vB, vL, vF, vM, vN, vbs_full, Nat.reduceEqDiff, Nat.reduceAdd, Nat.reduceLeDiff, ne_eq, not_false_eq_true, Nat.reduceMul, Nat.reduceSub, Int.toNat_zero, Int.reduceToNat, Try.underlying3, info3, Try.underlying4, info4, Try.underlying5, info5, Try.underlying9, info9, hz26, hz28, Try.underlying26, h26, Try.underlying28, h28, Try.underlying34, info34, Try.underlying35, info35, hz, hc, hc', bytesL_len, he, he2, Option.getD_some, if_true, reduceIte, Nat.reduceEqDiff, vT])) | ((((with_reducible refine (h27 _).mono ?_); rintro _ S ⟨rfl, rfl⟩)); (try simp only [vO, vQ, ↓vP, vE, vS, vB, vL, vF, vM, vN, vbs_full, Nat.reduceEqDiff, Nat.reduceAdd, Nat.reduceLeDiff, ne_eq, not_false_eq_true, Nat.reduceMul, Nat.reduceSub, Int.toNat_zero, Int.reduceToNat, Try.underlying3, info3, Try.underlying4, info4, Try.underlying5, info5, Try.underlying9, info9, hz26, hz28, Try.underlying26, h26, Try.underlying28, h28, Try.underlying34, info34, Try.underlying35, info35, hz, hc, hc', bytesL_len, he, he2, Option.getD_some, if_true, reduceIte, Nat.reduceEqDiff, vT])) | ((((with_reducible refine (g28 _).mono ?_); rintro _ S ⟨rfl, rfl⟩)); (try simp only [vO, vQ, ↓vP, vE, vS, vB, vL, vF, vM, vN, vbs_full, Nat.reduceEqDiff, Nat.reduceAdd, Nat.reduceLeDiff, ne_eq, not_false_eq_true, Nat.reduceMul, Nat.reduceSub, Int.toNat_zero, Int.reduceToNat, Try.underlying3, info3, Try.underlying4, info4, Try.underlying5, info5, Try.underlying9, info9, hz26, hz28, Try.underlying26, h26, Try.underlying28, h28, Try.underlying34, info34, Try.underlying35, info35, hz, hc, hc', bytesL_len, he, he2, Option.getD_some, if_true, reduceIte, Nat.reduceEqDiff, vT])) | ((((with_reducible refine (h29 _).mono ?_); rintro _ S ⟨rfl, rfl⟩)); (try simp only [vO, vQ, ↓vP, vE, vS, vB, vL, vF, vM, vN, vbs_full, Nat.reduceEqDiff, Nat.reduceAdd, Nat.reduceLeDiff, ne_eq, not_false_eq_true, Nat.reduceMul, Nat.reduceSub, Int.toNat_zero, Int.reduceToNat, Try.underlying3, info3, Try.underlying4, info4, Try.underlying5, info5, Try.underlying9, info9, hz26, hz28, Try.underlying26, h26, Try.underlying28, h28, Try.underlying34, info34, Try.underlying35, info35, hz, hc, hc', bytesL_len, he, he2, Option.getD_some, if_true, reduceIte, Nat.reduceEqDiff, vT])) | ((((with_reducible refine (g26b _).mono ?_); rintro _ S ⟨rfl, rfl⟩)); (try simp only [vO, vQ, ↓vP, vE, vS, vB, vL, vF, vM, vN, vbs_full, Nat.reduceEqDiff, Nat.reduceAdd, Nat.reduceLeDiff, ne_eq, not_false_eq_true, Nat.reduceMul, Nat.reduceSub, Int.toNat_zero, Int.reduceToNat, Try.underlying3, info3, Try.underlying4, info4, Try.underlying5, info5, Try.underlying9, info9, hz26, hz28, Try.underlying26, h26, Try.underlying28, h28, Try.underlying34, info34, Try.underlying35, info35, hz, hc, hc', bytesL_len, he, he2, Option.getD_some, if_true, reduceIte, Nat.reduceEqDiff, vT])) | (((refine vlo_app (by first | assumption | ((simp (disch := first | assumption | (apply Go.Cert.ne_of2; assumption; assumption) | (apply Go.Cert.ne_ob; assumption; assumption; (intro e; cases e; done)) | omega) only [Sg.set_same, Sg.set_ne, Sg.set_ne', Sg.del_ne, Sg.del_ne']); first | done | rfl | assumption)) ?_)); (try simp only [vO, vQ, ↓vP, vE, vS, vB, vL, vF, vM, vN, vbs_full, Nat.reduceEqDiff, Nat.reduceAdd, Nat.reduceLeDiff, ne_eq, not_false_eq_true, Nat.reduceMul, Nat.reduceSub, Int.toNat_zero, Int.reduceToNat, Try.underlying3, info3, Try.underlying4, info4, Try.underlying5, info5, Try.underlying9, info9, hz26, hz28, Try.underlying26, h26, Try.underlying28, h28, Try.underlying34, info34, Try.underlying35, info35, hz, hc, hc', bytesL_len, he, he2, Option.getD_some, if_true, reduceIte, Nat.reduceEqDiff, vT])) | (((refine vst_app (by first | assumption | ((simp (disch := first | assumption | (apply Go.Cert.ne_of2; assumption; assumption) | (apply Go.Cert.ne_ob; assumption; assumption; (intro e; cases e; done)) | omega) only [Sg.set_same, Sg.set_ne, Sg.set_ne', Sg.del_ne, Sg.del_ne']); first | done | rfl | assumption)) ?_)); (try simp only [vO, vQ, ↓vP, vE, vS, vB, vL, vF, vM, vN, vbs_full, Nat.reduceEqDiff, Nat.reduceAdd, Nat.reduceLeDiff, ne_eq, not_false_eq_true, Nat.reduceMul, Nat.reduceSub, Int.toNat_zero, Int.reduceToNat, Try.underlying3, info3, Try.underlying4, info4, Try.underlying5, info5, Try.underlying9, info9, hz26, hz28, Try.underlying26, h26, Try.underlying28, h28, Try.underlying34, info34, Try.underlying35, info35, hz, hc, hc', bytesL_len, he, he2, Option.getD_some, if_true, reduceIte, Nat.reduceEqDiff, vT])) | ((with_reducible refine ⟨bs (certB q l s), (bs_bytesAV _).symm, ?_⟩); (try simp only [vO, vQ, ↓vP, vE, vS, vB, vL, vF, vM, vN, vbs_full, Nat.reduceEqDiff, Nat.reduceAdd, Nat.reduceLeDiff, ne_eq, not_false_eq_true, Nat.reduceMul, Nat.reduceSub, Int.toNat_zero, Int.reduceToNat, Try.underlying3, info3, Try.underlying4, info4, Try.underlying5, info5, Try.underlying9, info9, hz26, hz28, Try.underlying26, h26, Try.underlying28, h28, Try.underlying34, info34, Try.underlying35, info35, hz, hc, hc', bytesL_len, he, he2, Option.getD_some, if_true, reduceIte, Nat.reduceEqDiff, vT])) | with_reducible refine vfresh_set ?_ | with_reducible refine vfresh_intro (fun _ _ => ?_) | with_reducible refine vif_intro (fun _ => ?_) (fun _ => ?_) | omega | ((with_reducible first | refine vop_at ?_ | refine vops_at ?_ | refine vquiet_at ?_ | refine vmix_at ?_ | refine Holds_at ?_); simp only [vO, vQ, ↓vP, vE, vS, vB, vL, vF, vM, vN, vbs_full, Nat.reduceEqDiff, Nat.reduceAdd, Nat.reduceLeDiff, ne_eq, not_false_eq_true, Nat.reduceMul, Nat.reduceSub, Int.toNat_zero, Int.reduceToNat, Try.underlying3, info3, Try.underlying4, info4, Try.underlying5, info5, Try.underlying9, info9, hz26, hz28, Try.underlying26, h26, Try.underlying28, h28, Try.underlying34, info34, Try.underlying35, info35, hz, hc, hc', bytesL_len, he, he2, Option.getD_some, if_true, reduceIte, Nat.reduceEqDiff, vT]))
    exact ⟨_, .refl _, by simp⟩
  · have h25 := fun σ => t25 q s l σ hh
    have g28 := fun σ => t28 q s l σ hh
    simp only [if_neg ho] at h25 g28
    (refine vfun (fun d => if d = 2 then .ro else .no) mixed Try.func9 (by kernel_rfl) ?_; simp only [bodyOf, Try.f9, Option.getD_some])
    repeat' (first | with_reducible rfl | exact .inr trivial | with_reducible apply And.intro | with_reducible apply vqx_step | with_reducible apply vqm_step | with_reducible refine vkp_free (by decide +kernel) ?_ | with_reducible intro _ | ((first | (with_reducible first | refine .rs ?_ | refine .ds (by kernel_rfl) ?_ | refine .dg (by kernel_rfl) ?_ | refine .rg ?_ | refine .ite ?_ | refine .ret ?_ | refine .skip ?_ | refine .exit ?_ | refine .scope ?_ | refine .seq (.label ?_) | refine .block ?_ | refine .seq ?_)); (try simp only [vO, vQ, ↓vP, vE, vS, vB, vL, vF, vM, vN, vbs_full, Nat.reduceEqDiff, Nat.reduceAdd, Nat.reduceLeDiff, ne_eq, not_false_eq_true, Nat.reduceMul, Nat.reduceSub, Int.toNat_zero, Int.reduceToNat, Try.underlying3, info3, Try.underlying4, info4, Try.underlying5, info5, Try.underlying9, info9, hz26, hz28, Try.underlying26, h26, Try.underlying28, h28, Try.underlying34, info34, Try.underlying35, info35, hz, hc, hc', bytesL_len, he, he2, Option.getD_some, if_true, reduceIte, Nat.reduceEqDiff, vT])) | ((simp (disch := first | assumption | (apply Go.Cert.ne_of2; assumption; assumption) | (apply Go.Cert.ne_ob; assumption; assumption; (intro e; cases e; done)) | omega) only [w64, w8, tg_eq, Go.V.n1, Go.V.n2, Go.V.nn, Int.tdiv_eq_ediv_of_nonneg, Sg.set_same, Sg.set_ne, Sg.set_ne', Sg.del_ne, Sg.del_ne']); (try simp only [vO, vQ, ↓vP, vE, vS, vB, vL, vF, vM, vN, vbs_full, Nat.reduceEqDiff, Nat.reduceAdd, Nat.reduceLeDiff, ne_eq, not_false_eq_true, Nat.reduceMul, Nat.reduceSub, Int.toNat_zero, Int.reduceToNat, Try.underlying3, info3, Try.underlying4, info4, Try.underlying5, info5, Try.underlying9, info9, hz26, hz28, Try.underlying26, h26, Try.underlying28, h28, Try.underlying34, info34, Try.underlying35, info35, hz, hc, hc', bytesL_len, he, he2, Option.getD_some, if_true, reduceIte, Nat.reduceEqDiff, vT])) | ((((with_reducible refine (t10 _).mono ?_); rintro _ S ⟨rfl, rfl⟩)); (try simp only [vO, vQ, ↓vP, vE, vS, vB, vL, vF, vM, vN, vbs_full, Nat.reduceEqDiff, Nat.reduceAdd, Nat.reduceLeDiff, ne_eq, not_false_eq_true, Nat.reduceMul, Nat.reduceSub, Int.toNat_zero, Int.reduceToNat, Try.underlying3, info3, Try.underlying4, info4, Try.underlying5, info5, Try.underlying9, info9, hz26, hz28, Try.underlying26, h26, Try.underlying28, h28, Try.underlying34, info34, Try.underlying35, info35, hz, hc, hc', bytesL_len, he, he2, Option.getD_some, if_true, reduceIte, Nat.reduceEqDiff, vT])) | ((((with_reducible refine (h24 _).mono ?_); rintro _ S ⟨rfl, rfl⟩)); (try simp only [vO, vQ, ↓vP, vE, vS, vB, vL, vF, vM, vN, vbs_full, Nat.reduceEqDiff, Nat.reduceAdd, Nat.reduceLeDiff, ne_eq, not_false_eq_true, Nat.reduceMul, Nat.reduceSub, Int.toNat_zero, Int.reduceToNat, Try.underlying3, info3, Try.underlying4, info4, Try.underlying5, info5, Try.underlying9, info9, hz26, hz28, Try.underlying26, h26, Try.underlying28, h28, Try.underlying34, info34, Try.underlying35, info35, hz, hc, hc', bytesL_len, he, he2, Option.getD_some, if_true, reduceIte, Nat.reduceEqDiff, vT])) | ((((with_reducible refine (h25 _).mono ?_); rintro _ S ⟨rfl, rfl⟩)); (try simp only [vO, vQ, ↓vP, vE, vS, vB, vL, vF, vM, vN, vbs_full, Nat.reduceEqDiff, Nat.reduceAdd, Nat.reduceLeDiff, ne_eq, not_false_eq_true, Nat.reduceMul, Nat.reduceSub, Int.toNat_zero, Int.reduceToNat, Try.underlying3, info3, Try.underlying4, info4, Try.underlying5, info5, Try.underlying9, info9, hz26, hz28, Try.underlying26, h26, Try.underlying28, h28, Try.underlying34, info34, Try.underlying35, info35, hz, hc, hc', bytesL_len, he, he2, Option.getD_some, if_true, reduceIte, Nat.reduceEqDiff, vT])) | ((((with_reducible refine (g26 _).mono ?_); rintro _ S ⟨rfl, rfl⟩)); (try simp only [vO, vQ, ↓vP, vE, vS, vB, vL, vF, vM, vN, vbs_full, Nat.reduceEqDiff, Nat.reduceAdd, Nat.reduceLeDiff, ne_eq, not_false_eq_true, Nat.reduceMul, Nat.reduceSub, Int.toNat_zero, Int.reduceToNat, Try.underlying3, info3, Try.underlying4, info4, Try.underlying5, info5, Try.underlying9, info9, hz26, hz28, Try.underlying26, h26, Try.underlying28, h28, Try.underlying34, info34, Try.underlying35, info35, hz, hc, hc', bytesL_len, he, he2, Option.getD_some, if_true, reduceIte, Nat.reduceEqDiff, vT])) | ((((with_reducible refine (h27 _).mono ?_); rintro _ S ⟨rfl, rfl⟩)); (try simp only [vO, vQ, ↓vP, vE, vS, vB, vL, vF, vM, vN, vbs_full, Nat.reduceEqDiff, Nat.reduceAdd, Nat.reduceLeDiff, ne_eq, not_false_eq_true, Nat.reduceMul, Nat.reduceSub, Int.toNat_zero, Int.reduceToNat, Try.underlying3, info3, Try.underlying4, info4, Try.underlying5, info5, Try.underlying9, info9, hz26, hz28, Try.underlying26, h26, Try.underlying28, h28, Try.underlying34, info34, Try.underlying35, info35, hz, hc, hc', bytesL_len, he, he2, Option.getD_some, if_true, reduceIte, Nat.reduceEqDiff, vT])) | ((((with_reducible refine (g28 _).mono ?_); rintro _ S ⟨rfl, rfl⟩)); (try simp only [vO, vQ, ↓vP, vE, vS, vB, vL, vF, vM, vN, vbs_full, Nat.reduceEqDiff, Nat.reduceAdd, Nat.reduceLeDiff, ne_eq, not_false_eq_true, Nat.reduceMul, Nat.reduceSub, Int.toNat_zero, Int.reduceToNat, Try.underlying3, info3, Try.underlying4, info4, Try.underlying5, info5, Try.underlying9, info9, hz26, hz28, Try.underlying26, h26, Try.underlying28, h28, Try.underlying34, info34, Try.underlying35, info35, hz, hc, hc', bytesL_len, he, he2, Option.getD_some, if_true, reduceIte, Nat.reduceEqDiff, vT])) | ((((with_reducible refine (h29 _).mono ?_); rintro _ S ⟨rfl, rfl⟩)); (try simp only [vO, vQ, ↓vP, vE, vS, vB, vL, vF, vM, vN, vbs_full, Nat.reduceEqDiff, Nat.reduceAdd, Nat.reduceLeDiff, ne_eq, not_false_eq_true, Nat.reduceMul, Nat.reduceSub, Int.toNat_zero, Int.reduceToNat, Try.underlying3, info3, Try.underlying4, info4, Try.underlying5, info5, Try.underlying9, info9, hz26, hz28, Try.underlying26, h26, Try.underlying28, h28, Try.underlying34, info34, Try.underlying35, info35, hz, hc, hc', bytesL_len, he, he2, Option.getD_some, if_true, reduceIte, Nat.reduceEqDiff, vT])) | (((refine vlo_app (by first | assumption | ((simp (disch := first | assumption | (apply Go.Cert.ne_of2; assumption; assumption) | (apply Go.Cert.ne_ob; assumption; assumption; (intro e; cases e; done)) | omega) only [Sg.set_same, Sg.set_ne, Sg.set_ne', Sg.del_ne, Sg.del_ne']); first | done | rfl | assumption)) ?_)); (try simp only [vO, vQ, ↓vP, vE, vS, vB, vL, vF, vM, vN, vbs_full, Nat.reduceEqDiff, Nat.reduceAdd, Nat.reduceLeDiff, ne_eq, not_false_eq_true, Nat.reduceMul, Nat.reduceSub, Int.toNat_zero, Int.reduceToNat, Try.underlying3, info3, Try.underlying4, info4, Try.underlying5, info5, Try.underlying9, info9, hz26, hz28, Try.underlying26, h26, Try.underlying28, h28, Try.underlying34, info34, Try.underlying35, info35, hz, hc, hc', bytesL_len, he, he2, Option.getD_some, if_true, reduceIte, Nat.reduceEqDiff, vT])) | (((refine vst_app (by first | assumption | ((simp (disch := first | assumption | (apply Go.Cert.ne_of2; assumption; assumption) | (apply Go.Cert.ne_ob; assumption; assumption; (intro e; cases e; done)) | omega) only [Sg.set_same, Sg.set_ne, Sg.set_ne', Sg.del_ne, Sg.del_ne']); first | done | rfl | assumption)) ?_)); (try simp only [vO, vQ, ↓vP, vE, vS, vB, vL, vF, vM, vN, vbs_full, Nat.reduceEqDiff, Nat.reduceAdd, Nat.reduceLeDiff, ne_eq, not_false_eq_true, Nat.reduceMul, Nat.reduceSub, Int.toNat_zero, Int.reduceToNat, Try.underlying3, info3, Try.underlying4, info4, Try.underlying5, info5, Try.underlying9, info9, hz26, hz28, Try.underlying26, h26, Try.underlying28, h28, Try.underlying34, info34, Try.underlying35, info35, hz, hc, hc', bytesL_len, he, he2, Option.getD_some, if_true, reduceIte, Nat.reduceEqDiff, vT])) | ((with_reducible refine ⟨bs [], rfl, ?_⟩); (try simp only [vO, vQ, ↓vP, vE, vS, vB, vL, vF, vM, vN, vbs_full, Nat.reduceEqDiff, Nat.reduceAdd, Nat.reduceLeDiff, ne_eq, not_false_eq_true, Nat.reduceMul, Nat.reduceSub, Int.toNat_zero, Int.reduceToNat, Try.underlying3, info3, Try.underlying4, info4, Try.underlying5, info5, Try.underlying9, info9, hz26, hz28, Try.underlying26, h26, Try.underlying28, h28, Try.underlying34, info34, Try.underlying35, info35, hz, hc, hc', bytesL_len, he, he2, Option.getD_some, if_true, reduceIte, Nat.reduceEqDiff, vT])) | with_reducible refine vfresh_set ?_ | with_reducible refine vfresh_intro (fun _ _ => ?_) | with_reducible refine vif_intro (fun _ => ?_) (fun _ => ?_) | omega | ((with_reducible first | refine vop_at ?_ | refine vops_at ?_ | refine vquiet_at ?_ | refine vmix_at ?_ | refine Holds_at ?_); simp only [vO, vQ, ↓vP, vE, vS, vB, vL, vF, vM, vN, vbs_full, Nat.reduceEqDiff, Nat.reduceAdd, Nat.reduceLeDiff, ne_eq, not_false_eq_true, Nat.reduceMul, Nat.reduceSub, Int.toNat_zero, Int.reduceToNat, Try.underlying3, info3, Try.underlying4, info4, Try.underlying5, info5, Try.underlying9, info9, hz26, hz28, Try.underlying26, h26, Try.underlying28, h28, Try.underlying34, info34, Try.underlying35, info35, hz, hc, hc', bytesL_len, he, he2, Option.getD_some, if_true, reduceIte, Nat.reduceEqDiff, vT]))
    exact ⟨_, .refl _, by simp⟩
theorem dec5b {es : List (List AV)} : (∀ x ∈ es, AT Try.prog 5 x) → ∃ b : List UInt8, es = bytesL b := by
  induction es with
  | nil => intro _; exact ⟨[], rfl⟩
  | cons x r ih =>
    intro h
    obtain ⟨n, hn, hw⟩ := AT.inv_int Try.underlying5 (h x (List.mem_cons_self ..))
    obtain ⟨l, rfl⟩ := ih fun y hy => h y (List.mem_cons_of_mem _ hy)
    simp only [Lit.wf, Bool.and_eq_true, decide_eq_true_eq] at hw
    have h1 : (0 : Int) ≤ n := hw.1
    have h2 : n ≤ 255 := hw.2
    refine ⟨UInt8.ofNat n.toNat :: l, ?_⟩
    have e : ((UInt8.ofNat n.toNat).toNat : Int) = n := by rw [UInt8.toNat_ofNat']; omega
    show x :: bytesL l = [AV.u8 (UInt8.ofNat n.toNat).toNat] :: bytesL l
    rw [e, hn]
theorem dec34 {x : AV} (h : AT Try.prog 34 [x]) : ∃ (k : Own) (b : List UInt8), x = .sl k (bytesL b) := by
  rcases AT.inv_slice Try.underlying34 h with h | ⟨es, h, hn, hes⟩
  · exact ⟨.nil, [], List.head_eq_of_cons_eq h⟩
  · obtain ⟨b, rfl⟩ := dec5b hes
    exact ⟨.view, b, by simpa using h⟩
end Go.Proofs.Ytkbfngepdgdecaa
