/- Arguments: what a row's plain data are, as abstract values. -/
import Derived.Test.YtkbfngepdgdecaaV14
import GoSem.ClaimChange
set_option linter.unusedVariables false
namespace Go.V
open Go.RowKit
variable {P : Program}

/-- The cells of a plain value of type t. -/
inductive AT (P : Program) : TypeId → List AV → Prop
  | bool {t : TypeId} {b : Bool} (h : P.underlying t = some .bool) : AT P t [.b b]
  | int {t : TypeId} {k : IntKind} {n : Int} (h : P.underlying t = some (.int k)) (hw : (Lit.int k n).wf = true) : AT P t [.val (.int k n)]
  | str {t : TypeId} {s : ByteArray} (h : P.underlying t = some .string) (hs : s.size ≤ maxLen) : AT P t [.s s]
  | nil {t e : TypeId} (h : P.underlying t = some (.slice e)) : AT P t [.sl .nil []]
  | sl {t e : TypeId} {es : List (List AV)} (h : P.underlying t = some (.slice e)) (hn : es.length ≤ maxLen) (hes : ∀ x ∈ es, AT P e x) : AT P t [.sl .view es]
  | struct {t : TypeId} {fs : Array Field} {cs : List AV} (h : P.underlying t = some (.struct fs)) (hl : cs.length = P.cellsOf t) (hf : ∀ f ∈ fs.toList, AT P f.type ((cs.drop f.offset).take (P.cellsOf f.type))) : AT P t cs
  | array {t e : TypeId} {n : Nat} {cs : List AV} (h : P.underlying t = some (.array n e)) (hl : cs.length = P.cellsOf t) (he : ∀ i, i < n → AT P e ((cs.drop (i * P.cellsOf e)).take (P.cellsOf e))) : AT P t cs

def laidF (P : Program) (total : Nat) : List Field → Nat → Bool
  | [], off => off == total
  | f :: r, off => f.offset == off && laidF P total r (off + P.cellsOf f.type)
/-- A set of types, closed, all plain. -/
def plainSet (P : Program) (l : List TypeId) : Bool := l.all fun t =>
  match P.underlying t with
  | some .bool | some (.int _) | some .string => true
  | some (.slice e) => l.contains e && decide (0 < P.cellsOf e)
  | some (.struct fs) => fs.toList.all (fun f => l.contains f.type) && laidF P (P.cellsOf t) fs.toList 0
  | some (.array n e) => l.contains e && n * P.cellsOf e == P.cellsOf t
  | _ => false

def RL (κ : K) (cs : List AV) (vs : List Value) : Prop := cs.length = vs.length ∧ ∀ (i : Nat) (x : AV) (v : Value), cs[i]? = some x → vs[i]? = some v → Rel κ x v
theorem RL.row {κ : K} {cs : List AV} {vs : List Value} (h : RL κ cs vs) : RelRow κ cs vs.toArray := ⟨by simpa using h.1, fun i x v h1 h2 => h.2 i x v h1 (by simpa using h2)⟩
theorem RL.one {κ : K} {x : AV} {v : Value} (h : Rel κ x v) : RL κ [x] [v] := ⟨rfl, fun i y u h1 h2 => by
  cases i with
  | zero => simp at h1 h2; subst h1; subst h2; exact h
  | succ i => simp at h1⟩
theorem RL.app {κ : K} {a b : List AV} {u v : List Value} (h : RL κ a u) (h' : RL κ b v) : RL κ (a ++ b) (u ++ v) := by
  refine ⟨by simp [h.1, h'.1], fun i x y h1 h2 => ?_⟩
  rcases Nat.lt_or_ge i a.length with hi | hi
  · rw [List.getElem?_append_left hi] at h1
    rw [List.getElem?_append_left (by rw [← h.1]; exact hi)] at h2
    exact h.2 i x y h1 h2
  · rw [List.getElem?_append_right hi] at h1
    rw [List.getElem?_append_right (by rw [← h.1]; exact hi), ← h.1] at h2
    exact h'.2 _ x y h1 h2

theorem mapM_each {α β : Type} {g : α → Option β} : ∀ {l : List α} {ys : List β}, l.mapM g = some ys → ∀ x ∈ l, ∃ y, g x = some y
  | [], _, _, x, hx => by cases hx
  | a :: l, ys, h, x, hx => by
    rw [List.mapM_cons] at h
    cases ha : g a with
    | none => rw [ha] at h; cases h
    | some y =>
      rw [ha] at h
      cases hr : l.mapM g with
      | none => rw [hr] at h; cases h
      | some zs =>
        rcases List.mem_cons.1 hx with rfl | hx
        · exact ⟨y, ha⟩
        · exact mapM_each hr x hx
theorem mapM_len {α β : Type} {g : α → Option β} : ∀ {l : List α} {ys : List β}, l.mapM g = some ys → ys.length = l.length
  | [], ys, h => by simp at h; subst h; rfl
  | a :: l, ys, h => by
    rw [List.mapM_cons] at h
    cases ha : g a with
    | none => rw [ha] at h; cases h
    | some y =>
      rw [ha] at h
      cases hr : l.mapM g with
      | none => rw [hr] at h; cases h
      | some zs =>
        rw [hr] at h
        cases h
        simp [mapM_len hr]
theorem mapM_get {α β : Type} {g : α → Option β} : ∀ {l : List α} {ys : List β} {i : Nat} {x : α}, l.mapM g = some ys → l[i]? = some x → ∃ y, ys[i]? = some y ∧ g x = some y
  | [], _, _, _, _, hx => by simp at hx
  | a :: l, ys, i, x, h, hx => by
    rw [List.mapM_cons] at h
    cases ha : g a with
    | none => rw [ha] at h; cases h
    | some y =>
      rw [ha] at h
      cases hr : l.mapM g with
      | none => rw [hr] at h; cases h
      | some zs =>
        rw [hr] at h
        cases h
        cases i with
        | zero => simp at hx; subst hx; exact ⟨y, rfl, ha⟩
        | succ i => simp at hx; simpa using mapM_get hr hx

theorem struct_row {κ : K} {vs : List Value} (P : Program) : ∀ (fs : List Field) (off : Nat), laidF P vs.length fs off = true → off ≤ vs.length → (∀ f ∈ fs, ∃ cs, AT P f.type cs ∧ RL κ cs ((vs.drop f.offset).take (P.cellsOf f.type)) ∧ f.offset + P.cellsOf f.type ≤ vs.length) →
    ∃ cs, RL κ cs (vs.drop off) ∧ ∀ f ∈ fs, off ≤ f.offset ∧ AT P f.type ((cs.drop (f.offset - off)).take (P.cellsOf f.type))
  | [], off, hl, _, _ => by
    simp only [laidF, beq_iff_eq] at hl
    exact ⟨[], by rw [List.drop_of_length_le (by omega)]; exact ⟨rfl, fun i x v h => by simp at h⟩, fun f hf => by cases hf⟩
  | f :: fs, off, hl, ho, hf => by
    simp only [laidF, Bool.and_eq_true, beq_iff_eq] at hl
    obtain ⟨he, hl⟩ := hl
    subst he
    obtain ⟨c, h1, h2, h3⟩ := hf f (by simp)
    obtain ⟨cs, h4, h5⟩ := struct_row (κ := κ) P fs _ hl h3 (fun g hg => hf g (by simp [hg]))
    have hclen : c.length = P.cellsOf f.type := by rw [h2.1]; simp; omega
    refine ⟨c ++ cs, ?_, fun g hg => ?_⟩
    · have := h2.app h4
      rw [← List.drop_drop, List.take_append_drop] at this
      exact this
    · rcases List.mem_cons.1 hg with rfl | hg
      · refine ⟨Nat.le_refl _, ?_⟩
        rw [Nat.sub_self, List.drop_zero, List.take_append_of_le_length (by omega), List.take_of_length_le (by omega)]
        exact h1
      · obtain ⟨h6, h7⟩ := h5 g hg
        refine ⟨by omega, ?_⟩
        rw [show g.offset - f.offset = c.length + (g.offset - (f.offset + P.cellsOf f.type)) by omega, ← List.drop_drop, List.drop_left]
        exact h7
theorem array_row {κ : K} {vs : List Value} (P : Program) (e : TypeId) (n : Nat) : ∀ (m k : Nat), k + m = n → vs.length = n * P.cellsOf e → (∀ i, i < n → ∃ cs, AT P e cs ∧ RL κ cs ((vs.drop (i * P.cellsOf e)).take (P.cellsOf e))) →
    ∃ cs, RL κ cs (vs.drop (k * P.cellsOf e)) ∧ ∀ i, i < m → AT P e ((cs.drop (i * P.cellsOf e)).take (P.cellsOf e))
  | 0, k, hk, hl, _ => ⟨[], by rw [List.drop_of_length_le (by rw [hl, show k = n by omega]; exact Nat.le_refl _)]; exact ⟨rfl, fun i x v h => by simp at h⟩, fun i hi => by omega⟩
  | m + 1, k, hk, hl, hf => by
    obtain ⟨c, h1, h2⟩ := hf k (by omega)
    obtain ⟨cs, h4, h5⟩ := array_row (κ := κ) P e n m (k + 1) (by omega) hl hf
    have hle : (k + 1) * P.cellsOf e ≤ n * P.cellsOf e := Nat.mul_le_mul_right _ (by omega)
    rw [Nat.succ_mul] at hle
    have hclen : c.length = P.cellsOf e := by rw [h2.1]; simp; omega
    refine ⟨c ++ cs, ?_, fun i hi => ?_⟩
    · have := h2.app h4
      rw [Nat.succ_mul, ← List.drop_drop, List.take_append_drop] at this
      exact this
    · cases i with
      | zero =>
        rw [Nat.zero_mul, List.drop_zero, List.take_append_of_le_length (by omega), List.take_of_length_le (by omega)]
        exact h1
      | succ i =>
        rw [show (i + 1) * P.cellsOf e = c.length + i * P.cellsOf e by rw [Nat.succ_mul]; omega, ← List.drop_drop, List.drop_left]
        exact h5 i (by omega)

theorem cells_reads {W : World} {a : Addr} {n : Nat} {l : List Value} (h : W.cells? 0 a n = some l) : l.length = n ∧ ∀ j v, l[j]? = some v → W.cell? (a.add j) = some v := by
  unfold World.cells? at h
  rw [if_pos (Nat.zero_le _)] at h
  refine ⟨by simpa using mapM_len h, fun j v hj => ?_⟩
  have hjn : j < n := by
    have := mapM_len h
    rcases Nat.lt_or_ge j l.length with h' | h'
    · simp at this; omega
    · rw [List.getElem?_eq_none h'] at hj; cases hj
  obtain ⟨y, h1, h2⟩ := mapM_get (i := j) (x := j) h (by simp [hjn])
  rw [hj] at h1
  cases h1
  exact h2
theorem spot_of_cell {W : World} {a : Addr} {v : Value} (h : W.cell? a = some v) : a.spot = none := by
  cases hs : a.spot with
  | none => rfl
  | some x =>
    exfalso
    simp only [World.cell?, hs] at h
    split at h <;> simp at h

theorem laidF_le (P : Program) (total : Nat) : ∀ (fs : List Field) (off : Nat), laidF P total fs off = true → off ≤ total ∧ ∀ f ∈ fs, f.offset + P.cellsOf f.type ≤ total
  | [], off, h => by
    simp only [laidF, beq_iff_eq] at h
    exact ⟨by omega, fun f hf => by cases hf⟩
  | f :: fs, off, h => by
    simp only [laidF, Bool.and_eq_true, beq_iff_eq] at h
    obtain ⟨he, h⟩ := h
    obtain ⟨h1, h2⟩ := laidF_le P total fs _ h
    refine ⟨by omega, fun g hg => ?_⟩
    rcases List.mem_cons.1 hg with rfl | hg
    · omega
    · exact h2 g hg
/-- **The opening.** -/
theorem open_plain {H : Type} {enc : TypeId × Value → H} {W : World} {l : List TypeId} (hl : plainSet P l = true) : ∀ (fuel : Nat) (t : TypeId) (vs : List Value) (d : DataW H) (ps : List MemPlace), t ∈ l →
    DataW.trod enc P W 0 (fun _ => true) true fuel t vs = some (d, ps) → ∃ cs, AT P t cs ∧ RL (K0 W) cs vs
  | 0, _, _, _, _, _, h => by cases h
  | fuel + 1, t, vs, d, ps, ht, h => by
    have hp := List.all_eq_true.1 hl t ht
    have ih := open_plain (enc := enc) (W := W) hl fuel
    unfold DataW.trod at h
    split at h
    all_goals try (rename_i hu; rw [hu] at hp)
    all_goals first | (cases hp; done) | (cases h; done) | skip
    · exact ⟨_, .bool hu, .one (.val _)⟩
    · split at h
      · rename_i hc
        obtain ⟨rfl, hw⟩ := hc
        exact ⟨_, .int hu hw, .one (.val _)⟩
      · cases h
    · split at h
      · rename_i hc
        exact ⟨_, .str hu hc, .one (.val _)⟩
      · cases h
    · exact ⟨_, .nil hu, .one (.slnil _ trivial)⟩
    · rename_i e a len cap
      simp only [Bool.and_eq_true, decide_eq_true_eq] at hp
      obtain ⟨hpe, hsz⟩ := hp
      have hpe' : e ∈ l := by simpa using hpe
      dsimp only at h
      split at h
      · rename_i hc
        obtain ⟨_, hlc, hcm⟩ := hc
        cases hm : List.mapM (fun i => (W.cells? 0 (a.add (i * P.cellsOf e)) (P.cellsOf e)).bind (DataW.trod enc P W 0 (fun x => true) true fuel e)) (List.range len) with
        | none => rw [hm] at h; cases h
        | some elems =>
          have key : ∀ i, i < len → ∃ cs li, AT P e cs ∧ RL (K0 W) cs li ∧ W.cells? 0 (a.add (i * P.cellsOf e)) (P.cellsOf e) = some li := by
            intro i hi
            obtain ⟨y, _, hy⟩ := mapM_get (i := i) (x := i) hm (by simp [hi])
            cases hli : W.cells? 0 (a.add (i * P.cellsOf e)) (P.cellsOf e) with
            | none => rw [hli] at hy; cases hy
            | some li =>
              rw [hli] at hy
              obtain ⟨cs, h1, h2⟩ := ih e li y.1 y.2 hpe' hy
              exact ⟨cs, li, h1, h2, rfl⟩
          rcases Nat.eq_zero_or_pos len with h0 | h0
          · subst h0
            exact ⟨_, .sl hu (Nat.zero_le _) (fun x hx => by cases hx), .one (.slemp .view (.inl rfl) a cap)⟩
          have hs : a.spot = none := by
            obtain ⟨cs, li, _, _, h3⟩ := key 0 h0
            obtain ⟨h4, h5⟩ := cells_reads h3
            have := h5 0 _ (List.getElem?_eq_getElem (by omega))
            rw [Nat.zero_mul] at this
            exact spot_of_cell (a := (a.add 0).add 0) this
          let g : Nat → List AV := fun i => if hi : i < len then (key i hi).choose else []
          have hg : ∀ i (hi : i < len), g i = (key i hi).choose := fun i hi => dif_pos hi
          have hes : ∀ i e', ((List.range len).map g)[i]? = some e' → ∃ hi : i < len, e' = (key i hi).choose := by
            intro i e' hi
            rw [List.getElem?_map] at hi
            rcases Nat.lt_or_ge i len with h' | h'
            · rw [List.getElem?_range h'] at hi
              cases hi
              exact ⟨h', hg i h'⟩
            · rw [List.getElem?_eq_none (by simpa using h')] at hi; cases hi
          have hcell : ∀ i (hi : i < len) j v, (key i hi).choose_spec.choose[j]? = some v → W.cell? ⟨a.block, a.off + i * P.cellsOf e + j, none⟩ = some v := by
            intro i hi j v hv
            obtain ⟨_, _, h3⟩ := (key i hi).choose_spec.choose_spec
            have := (cells_reads h3).2 j v hv
            rw [addr_add hs, addr_add rfl] at this
            exact this
          refine ⟨_, .sl (es := (List.range len).map g) hu (by simp; omega) (fun x hx => ?_), .one (.sl .view _ a len cap (P.cellsOf e) (fun i j => (W.cell? ⟨a.block, a.off + i * P.cellsOf e + j, none⟩).getD undef) trivial (by simp) hlc hs (fun i e' hi => ?_) (fun i j hi hj => ⟨?_, fun hM => hM⟩) (fun i j e' x hi hj => ?_))⟩
          · obtain ⟨i, hi, rfl⟩ := List.mem_map.1 hx
            have hi' : i < len := by simpa using hi
            rw [hg i hi']
            exact (key i hi').choose_spec.choose_spec.1
          · obtain ⟨hi', rfl⟩ := hes i e' hi
            obtain ⟨_, h2, h3⟩ := (key i hi').choose_spec.choose_spec
            rw [h2.1]
            exact (cells_reads h3).1
          · obtain ⟨_, h2, h3⟩ := (key i hi).choose_spec.choose_spec
            have hlen := (cells_reads h3).1
            have := hcell i hi j _ (List.getElem?_eq_getElem (by omega))
            show W.cell? _ = _
            rw [this]
            rfl
          · obtain ⟨hi', rfl⟩ := hes i e' hi
            obtain ⟨_, h2, h3⟩ := (key i hi').choose_spec.choose_spec
            have hjl : j < (key i hi').choose.length := by
              rcases Nat.lt_or_ge j (key i hi').choose.length with h' | h'
              · exact h'
              · rw [List.getElem?_eq_none h'] at hj; cases hj
            have hjl' : j < (key i hi').choose_spec.choose.length := by rw [← h2.1]; exact hjl
            have := h2.2 j x _ hj (List.getElem?_eq_getElem hjl')
            rw [hcell i hi' j _ (List.getElem?_eq_getElem hjl')]
            exact this
      · cases h
    · rename_i vs _ _ fs
      simp only [Bool.and_eq_true] at hp
      split at h
      · rename_i hc
        cases hm : List.mapM (fun f => DataW.trod enc P W 0 (fun x => true) true fuel f.type (List.take (P.cellsOf f.type) (List.drop f.offset vs))) fs.toList with
        | none => rw [hm] at h; cases h
        | some xs =>
          rw [← hc] at hp
          have hle := (laidF_le P vs.length fs.toList 0 hp.2).2
          obtain ⟨cs, h1, h2⟩ := struct_row (κ := K0 W) (vs := vs) P fs.toList 0 hp.2 (Nat.zero_le _) (fun f hf => by
            obtain ⟨y, hy⟩ := mapM_each hm f hf
            have hft : f.type ∈ l := by have := List.all_eq_true.1 hp.1 f hf; simpa using this
            obtain ⟨cs, h3, h4⟩ := ih f.type _ y.1 y.2 hft hy
            exact ⟨cs, h3, h4, hle f hf⟩)
          refine ⟨cs, .struct hu (by rw [h1.1, List.drop_zero]; exact hc) (fun f hf => ?_), by simpa using h1⟩
          have := (h2 f hf).2
          simpa using this
      · cases h
    · rename_i vs _ _ n e
      simp only [Bool.and_eq_true, beq_iff_eq] at hp
      have hpe' : e ∈ l := by simpa using hp.1
      split at h
      · rename_i hc
        cases hm : List.mapM (fun i => DataW.trod enc P W 0 (fun x => true) true fuel e (List.take (P.cellsOf e) (List.drop (i * P.cellsOf e) vs))) (List.range n) with
        | none => rw [hm] at h; cases h
        | some xs =>
          obtain ⟨cs, h1, h2⟩ := array_row (κ := K0 W) (vs := vs) P e n n 0 (by omega) (by rw [hc, hp.2]) (fun i hi => by
            obtain ⟨y, hy⟩ := mapM_each hm i (by simpa using hi)
            obtain ⟨cs, h3, h4⟩ := ih e _ y.1 y.2 hpe' hy
            exact ⟨cs, h3, h4⟩)
          rw [Nat.zero_mul, List.drop_zero] at h1
          exact ⟨cs, .array hu (by rw [h1.1]; exact hc) h2, h1⟩
      · cases h
end Go.V
