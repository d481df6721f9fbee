/- Part 14 of the proof: V16, V18, W23, R13. -/
import Derived.Test.YtjdapkelojdefaaGreatDoorN13
import GoSem.ClaimChange
import Derived.Below
import Derived.Carry
import Derived.Test.YtjdapkelojdefaaGreatDoorRows
import Derived.Test.YtjdapkelojdefaaGreatDoorN0
import Derived.WalkKit
import Derived.ProofKit
import Derived.OpenShut
import Derived.LaidMore
import Derived.Lay
import Derived.SevenTiedAt
import Derived.Stop.Joined

set_option linter.all false
set_option maxRecDepth 100000
set_option maxHeartbeats 200000
open Go.Proofs.Tryz renaming underlying3 → Z3, underlying24 → Z24, underlying26 → Z26
set_option linter.unusedVariables false
namespace Go.V
open Go.RowKit
variable {P : Program}

inductive AT (P : Program) : TypeId → List AV → Prop
  | bool {t : TypeId} {b : Bool} (h : P.underlying t = some .bool) : AT P t [.b b]
  | int {t : TypeId} {k : IntKind} {n : Int} (h : P.underlying t = some (.int k)) (hw : (Lit.int k n).wf = true) : AT P t [.val (.int k n)]
  | str {t : TypeId} {s : ByteArray} (h : P.underlying t = some .string) (hs : s.size ≤ maxLen) : AT P t [.s s]
  | nil {t e : TypeId} (h : P.underlying t = some (.slice e)) : AT P t [.sl .nil []]
  | sl {t e : TypeId} {es : List (List AV)} (h : P.underlying t = some (.slice e)) (hn : es.length ≤ maxLen) (hes : ∀ x ∈ es, AT P e x) : AT P t [.sl .view es]
  | struct {t : TypeId} {fs : Array Field} {cs : List AV} (h : P.underlying t = some (.struct fs)) (hl : cs.length = P.cellsOf t) (hf : ∀ f ∈ fs.toList, AT P f.type ((cs.drop f.offset).take (P.cellsOf f.type))) : AT P t cs
  | array {t e : TypeId} {n : Nat} {cs : List AV} (h : P.underlying t = some (.array n e)) (hl : cs.length = P.cellsOf t) (he : ∀ i, i < n → AT P e ((cs.drop (i * P.cellsOf e)).take (P.cellsOf e))) : AT P t cs

def laidF (P : Program) (total : Nat) : List Field → Nat → Bool
  | [], off => off == total
  | f :: r, off => f.offset == off && laidF P total r (off + P.cellsOf f.type)
def plainSet (P : Program) (l : List TypeId) : Bool := l.all fun t =>
  match P.underlying t with
  | some .bool | some (.int _) | some .string => true
  | some (.slice e) => l.contains e && decide (0 < P.cellsOf e)
  | some (.struct fs) => fs.toList.all (fun f => l.contains f.type) && laidF P (P.cellsOf t) fs.toList 0
  | some (.array n e) => l.contains e && n * P.cellsOf e == P.cellsOf t
  | _ => false

def RL (κ : K) (cs : List AV) (vs : List Value) : Prop := cs.length = vs.length ∧ ∀ (i : Nat) (x : AV) (v : Value), cs[i]? = some x → vs[i]? = some v → Rel κ x v
theorem RL.row {κ : K} {cs : List AV} {vs : List Value} (h : RL κ cs vs) : RelRow κ cs vs.toArray := ⟨by simpa using h.1, fun i x v h1 h2 => h.2 i x v h1 (by simpa using h2)⟩
theorem RL.one {κ : K} {x : AV} {v : Value} (h : Rel κ x v) : RL κ [x] [v] := ⟨rfl, fun i y u h1 h2 => by
  cases i with
  | zero => simp at h1 h2; subst h1; subst h2; exact h
  | succ i => simp at h1⟩
theorem RL.app {κ : K} {a b : List AV} {u v : List Value} (h : RL κ a u) (h' : RL κ b v) : RL κ (a ++ b) (u ++ v) := by
  refine ⟨by simp [h.1, h'.1], fun i x y h1 h2 => ?_⟩
  rcases Nat.lt_or_ge i a.length with hi | hi
  · rw [List.getElem?_append_left hi] at h1
    rw [List.getElem?_append_left (by rw [← h.1]; exact hi)] at h2
    exact h.2 i x y h1 h2
  · rw [List.getElem?_append_right hi] at h1
    rw [List.getElem?_append_right (by rw [← h.1]; exact hi), ← h.1] at h2
    exact h'.2 _ x y h1 h2

theorem mapM_each {α β : Type} {g : α → Option β} : ∀ {l : List α} {ys : List β}, l.mapM g = some ys → ∀ x ∈ l, ∃ y, g x = some y
  | [], _, _, x, hx => by cases hx
  | a :: l, ys, h, x, hx => by
    rw [List.mapM_cons] at h
    cases ha : g a with
    | none => rw [ha] at h; cases h
    | some y =>
      rw [ha] at h
      cases hr : l.mapM g with
      | none => rw [hr] at h; cases h
      | some zs =>
        rcases List.mem_cons.1 hx with rfl | hx
        · exact ⟨y, ha⟩
        · exact mapM_each hr x hx
theorem mapM_len {α β : Type} {g : α → Option β} : ∀ {l : List α} {ys : List β}, l.mapM g = some ys → ys.length = l.length
  | [], ys, h => by simp at h; subst h; rfl
  | a :: l, ys, h => by
    rw [List.mapM_cons] at h
    cases ha : g a with
    | none => rw [ha] at h; cases h
    | some y =>
      rw [ha] at h
      cases hr : l.mapM g with
      | none => rw [hr] at h; cases h
      | some zs =>
        rw [hr] at h
        cases h
        simp [mapM_len hr]
theorem mapM_get {α β : Type} {g : α → Option β} : ∀ {l : List α} {ys : List β} {i : Nat} {x : α}, l.mapM g = some ys → l[i]? = some x → ∃ y, ys[i]? = some y ∧ g x = some y
  | [], _, _, _, _, hx => by simp at hx
  | a :: l, ys, i, x, h, hx => by
    rw [List.mapM_cons] at h
    cases ha : g a with
    | none => rw [ha] at h; cases h
    | some y =>
      rw [ha] at h
      cases hr : l.mapM g with
      | none => rw [hr] at h; cases h
      | some zs =>
        rw [hr] at h
        cases h
        cases i with
        | zero => simp at hx; subst hx; exact ⟨y, rfl, ha⟩
        | succ i => simp at hx; simpa using mapM_get hr hx

theorem struct_row {κ : K} {vs : List Value} (P : Program) : ∀ (fs : List Field) (off : Nat), laidF P vs.length fs off = true → off ≤ vs.length → (∀ f ∈ fs, ∃ cs, AT P f.type cs ∧ RL κ cs ((vs.drop f.offset).take (P.cellsOf f.type)) ∧ f.offset + P.cellsOf f.type ≤ vs.length) →
    ∃ cs, RL κ cs (vs.drop off) ∧ ∀ f ∈ fs, off ≤ f.offset ∧ AT P f.type ((cs.drop (f.offset - off)).take (P.cellsOf f.type))
  | [], off, hl, _, _ => by
    simp only [laidF, beq_iff_eq] at hl
    exact ⟨[], by rw [List.drop_of_length_le (by omega)]; exact ⟨rfl, fun i x v h => by simp at h⟩, fun f hf => by cases hf⟩
  | f :: fs, off, hl, ho, hf => by
    simp only [laidF, Bool.and_eq_true, beq_iff_eq] at hl
    obtain ⟨he, hl⟩ := hl
    subst he
    obtain ⟨c, h1, h2, h3⟩ := hf f (by simp)
    obtain ⟨cs, h4, h5⟩ := struct_row (κ := κ) P fs _ hl h3 (fun g hg => hf g (by simp [hg]))
    have hclen : c.length = P.cellsOf f.type := by rw [h2.1]; simp; omega
    refine ⟨c ++ cs, ?_, fun g hg => ?_⟩
    · have := h2.app h4
      rw [← List.drop_drop, List.take_append_drop] at this
      exact this
    · rcases List.mem_cons.1 hg with rfl | hg
      · refine ⟨Nat.le_refl _, ?_⟩
        rw [Nat.sub_self, List.drop_zero, List.take_append_of_le_length (by omega), List.take_of_length_le (by omega)]
        exact h1
      · obtain ⟨h6, h7⟩ := h5 g hg
        refine ⟨by omega, ?_⟩
        rw [show g.offset - f.offset = c.length + (g.offset - (f.offset + P.cellsOf f.type)) by omega, ← List.drop_drop, List.drop_left]
        exact h7
theorem array_row {κ : K} {vs : List Value} (P : Program) (e : TypeId) (n : Nat) : ∀ (m k : Nat), k + m = n → vs.length = n * P.cellsOf e → (∀ i, i < n → ∃ cs, AT P e cs ∧ RL κ cs ((vs.drop (i * P.cellsOf e)).take (P.cellsOf e))) →
    ∃ cs, RL κ cs (vs.drop (k * P.cellsOf e)) ∧ ∀ i, i < m → AT P e ((cs.drop (i * P.cellsOf e)).take (P.cellsOf e))
  | 0, k, hk, hl, _ => ⟨[], by rw [List.drop_of_length_le (by rw [hl, show k = n by omega]; exact Nat.le_refl _)]; exact ⟨rfl, fun i x v h => by simp at h⟩, fun i hi => by omega⟩
  | m + 1, k, hk, hl, hf => by
    obtain ⟨c, h1, h2⟩ := hf k (by omega)
    obtain ⟨cs, h4, h5⟩ := array_row (κ := κ) P e n m (k + 1) (by omega) hl hf
    have hle : (k + 1) * P.cellsOf e ≤ n * P.cellsOf e := Nat.mul_le_mul_right _ (by omega)
    rw [Nat.succ_mul] at hle
    have hclen : c.length = P.cellsOf e := by rw [h2.1]; simp; omega
    refine ⟨c ++ cs, ?_, fun i hi => ?_⟩
    · have := h2.app h4
      rw [Nat.succ_mul, ← List.drop_drop, List.take_append_drop] at this
      exact this
    · cases i with
      | zero =>
        rw [Nat.zero_mul, List.drop_zero, List.take_append_of_le_length (by omega), List.take_of_length_le (by omega)]
        exact h1
      | succ i =>
        rw [show (i + 1) * P.cellsOf e = c.length + i * P.cellsOf e by rw [Nat.succ_mul]; omega, ← List.drop_drop, List.drop_left]
        exact h5 i (by omega)

theorem cells_reads {W : World} {a : Addr} {n : Nat} {l : List Value} (h : W.cells? 0 a n = some l) : l.length = n ∧ ∀ j v, l[j]? = some v → W.cell? (a.add j) = some v := by
  unfold World.cells? at h
  rw [if_pos (Nat.zero_le _)] at h
  refine ⟨by simpa using mapM_len h, fun j v hj => ?_⟩
  have hjn : j < n := by
    have := mapM_len h
    rcases Nat.lt_or_ge j l.length with h' | h'
    · simp at this; omega
    · rw [List.getElem?_eq_none h'] at hj; cases hj
  obtain ⟨y, h1, h2⟩ := mapM_get (i := j) (x := j) h (by simp [hjn])
  rw [hj] at h1
  cases h1
  exact h2
theorem spot_of_cell {W : World} {a : Addr} {v : Value} (h : W.cell? a = some v) : a.spot = none := by
  cases hs : a.spot with
  | none => rfl
  | some x =>
    exfalso
    simp only [World.cell?, hs] at h
    split at h <;> simp at h

theorem laidF_le (P : Program) (total : Nat) : ∀ (fs : List Field) (off : Nat), laidF P total fs off = true → off ≤ total ∧ ∀ f ∈ fs, f.offset + P.cellsOf f.type ≤ total
  | [], off, h => by
    simp only [laidF, beq_iff_eq] at h
    exact ⟨by omega, fun f hf => by cases hf⟩
  | f :: fs, off, h => by
    simp only [laidF, Bool.and_eq_true, beq_iff_eq] at h
    obtain ⟨he, h⟩ := h
    obtain ⟨h1, h2⟩ := laidF_le P total fs _ h
    refine ⟨by omega, fun g hg => ?_⟩
    rcases List.mem_cons.1 hg with rfl | hg
    · omega
    · exact h2 g hg
theorem open_plain {H : Type} {enc : TypeId × Value → H} {W : World} {l : List TypeId} (hl : plainSet P l = true) : ∀ (fuel : Nat) (t : TypeId) (vs : List Value) (d : DataW H) (ps : List MemPlace), t ∈ l →
    DataW.trod enc P W 0 (fun _ => true) true fuel t vs = some (d, ps) → ∃ cs, AT P t cs ∧ RL (K0 W) cs vs
  | 0, _, _, _, _, _, h => by cases h
  | fuel + 1, t, vs, d, ps, ht, h => by
    have hp := List.all_eq_true.1 hl t ht
    have ih := open_plain (enc := enc) (W := W) hl fuel
    unfold DataW.trod at h
    split at h
    all_goals try (rename_i hu; rw [hu] at hp)
    all_goals first | (cases hp; done) | (cases h; done) | skip
    · exact ⟨_, .bool hu, .one (.val _)⟩
    · split at h
      · rename_i hc
        obtain ⟨rfl, hw⟩ := hc
        exact ⟨_, .int hu hw, .one (.val _)⟩
      · cases h
    · split at h
      · rename_i hc
        exact ⟨_, .str hu hc, .one (.val _)⟩
      · cases h
    · exact ⟨_, .nil hu, .one (.slnil _ trivial)⟩
    · rename_i e a len cap
      simp only [Bool.and_eq_true, decide_eq_true_eq] at hp
      obtain ⟨hpe, hsz⟩ := hp
      have hpe' : e ∈ l := by simpa using hpe
      dsimp only at h
      split at h
      · rename_i hc
        obtain ⟨_, hlc, hcm⟩ := hc
        cases hm : List.mapM (fun i => (W.cells? 0 (a.add (i * P.cellsOf e)) (P.cellsOf e)).bind (DataW.trod enc P W 0 (fun x => true) true fuel e)) (List.range len) with
        | none => rw [hm] at h; cases h
        | some elems =>
          have key : ∀ i, i < len → ∃ cs li, AT P e cs ∧ RL (K0 W) cs li ∧ W.cells? 0 (a.add (i * P.cellsOf e)) (P.cellsOf e) = some li := by
            intro i hi
            obtain ⟨y, _, hy⟩ := mapM_get (i := i) (x := i) hm (by simp [hi])
            cases hli : W.cells? 0 (a.add (i * P.cellsOf e)) (P.cellsOf e) with
            | none => rw [hli] at hy; cases hy
            | some li =>
              rw [hli] at hy
              obtain ⟨cs, h1, h2⟩ := ih e li y.1 y.2 hpe' hy
              exact ⟨cs, li, h1, h2, rfl⟩
          rcases Nat.eq_zero_or_pos len with h0 | h0
          · subst h0
            exact ⟨_, .sl hu (Nat.zero_le _) (fun x hx => by cases hx), .one (.slemp .view (.inl rfl) a cap)⟩
          have hs : a.spot = none := by
            obtain ⟨cs, li, _, _, h3⟩ := key 0 h0
            obtain ⟨h4, h5⟩ := cells_reads h3
            have := h5 0 _ (List.getElem?_eq_getElem (by omega))
            rw [Nat.zero_mul] at this
            exact spot_of_cell (a := (a.add 0).add 0) this
          let g : Nat → List AV := fun i => if hi : i < len then (key i hi).choose else []
          have hg : ∀ i (hi : i < len), g i = (key i hi).choose := fun i hi => dif_pos hi
          have hes : ∀ i e', ((List.range len).map g)[i]? = some e' → ∃ hi : i < len, e' = (key i hi).choose := by
            intro i e' hi
            rw [List.getElem?_map] at hi
            rcases Nat.lt_or_ge i len with h' | h'
            · rw [List.getElem?_range h'] at hi
              cases hi
              exact ⟨h', hg i h'⟩
            · rw [List.getElem?_eq_none (by simpa using h')] at hi; cases hi
          have hcell : ∀ i (hi : i < len) j v, (key i hi).choose_spec.choose[j]? = some v → W.cell? ⟨a.block, a.off + i * P.cellsOf e + j, none⟩ = some v := by
            intro i hi j v hv
            obtain ⟨_, _, h3⟩ := (key i hi).choose_spec.choose_spec
            have := (cells_reads h3).2 j v hv
            rw [addr_add hs, addr_add rfl] at this
            exact this
          refine ⟨_, .sl (es := (List.range len).map g) hu (by simp; omega) (fun x hx => ?_), .one (.sl .view _ a len cap (P.cellsOf e) (fun i j => (W.cell? ⟨a.block, a.off + i * P.cellsOf e + j, none⟩).getD undef) trivial (by simp) hlc hs (fun i e' hi => ?_) (fun i j hi hj => ⟨?_, fun hM => hM⟩) (fun i j e' x hi hj => ?_))⟩
          · obtain ⟨i, hi, rfl⟩ := List.mem_map.1 hx
            have hi' : i < len := by simpa using hi
            rw [hg i hi']
            exact (key i hi').choose_spec.choose_spec.1
          · obtain ⟨hi', rfl⟩ := hes i e' hi
            obtain ⟨_, h2, h3⟩ := (key i hi').choose_spec.choose_spec
            rw [h2.1]
            exact (cells_reads h3).1
          · obtain ⟨_, h2, h3⟩ := (key i hi).choose_spec.choose_spec
            have hlen := (cells_reads h3).1
            have := hcell i hi j _ (List.getElem?_eq_getElem (by omega))
            show W.cell? _ = _
            rw [this]
            rfl
          · obtain ⟨hi', rfl⟩ := hes i e' hi
            obtain ⟨_, h2, h3⟩ := (key i hi').choose_spec.choose_spec
            have hjl : j < (key i hi').choose.length := by
              rcases Nat.lt_or_ge j (key i hi').choose.length with h' | h'
              · exact h'
              · rw [List.getElem?_eq_none h'] at hj; cases hj
            have hjl' : j < (key i hi').choose_spec.choose.length := by rw [← h2.1]; exact hjl
            have := h2.2 j x _ hj (List.getElem?_eq_getElem hjl')
            rw [hcell i hi' j _ (List.getElem?_eq_getElem hjl')]
            exact this
      · cases h
    · rename_i vs _ _ fs
      simp only [Bool.and_eq_true] at hp
      split at h
      · rename_i hc
        cases hm : List.mapM (fun f => DataW.trod enc P W 0 (fun x => true) true fuel f.type (List.take (P.cellsOf f.type) (List.drop f.offset vs))) fs.toList with
        | none => rw [hm] at h; cases h
        | some xs =>
          rw [← hc] at hp
          have hle := (laidF_le P vs.length fs.toList 0 hp.2).2
          obtain ⟨cs, h1, h2⟩ := struct_row (κ := K0 W) (vs := vs) P fs.toList 0 hp.2 (Nat.zero_le _) (fun f hf => by
            obtain ⟨y, hy⟩ := mapM_each hm f hf
            have hft : f.type ∈ l := by have := List.all_eq_true.1 hp.1 f hf; simpa using this
            obtain ⟨cs, h3, h4⟩ := ih f.type _ y.1 y.2 hft hy
            exact ⟨cs, h3, h4, hle f hf⟩)
          refine ⟨cs, .struct hu (by rw [h1.1, List.drop_zero]; exact hc) (fun f hf => ?_), by simpa using h1⟩
          have := (h2 f hf).2
          simpa using this
      · cases h
    · rename_i vs _ _ n e
      simp only [Bool.and_eq_true, beq_iff_eq] at hp
      have hpe' : e ∈ l := by simpa using hp.1
      split at h
      · rename_i hc
        cases hm : List.mapM (fun i => DataW.trod enc P W 0 (fun x => true) true fuel e (List.take (P.cellsOf e) (List.drop (i * P.cellsOf e) vs))) (List.range n) with
        | none => rw [hm] at h; cases h
        | some xs =>
          obtain ⟨cs, h1, h2⟩ := array_row (κ := K0 W) (vs := vs) P e n n 0 (by omega) (by rw [hc, hp.2]) (fun i hi => by
            obtain ⟨y, hy⟩ := mapM_each hm i (by simpa using hi)
            obtain ⟨cs, h3, h4⟩ := ih e _ y.1 y.2 hpe' hy
            exact ⟨cs, h3, h4⟩)
          rw [Nat.zero_mul, List.drop_zero] at h1
          exact ⟨cs, .array hu (by rw [h1.1]; exact hc) h2, h1⟩
      · cases h
end Go.V

set_option linter.unusedVariables false
namespace Go.V
open Go.RowKit
variable {P : Program}
theorem open_st {H : Type} {enc : TypeId × Value → H} {W : World} {base : Nat} {t : TypeId} {fs : Array Field} {v : Value} {d : DataW H} {p : List MemPlace} (l : List TypeId) (hl : plainSet P l = true) (ht : t ∈ l) (hu : P.underlying t = some (.struct fs))
    (hw : Value.okWide P W .any base t v) (h : DataW.Trod enc P W 0 (fun _ => true) true t v d p) : ∃ cs, AT P t cs ∧ Rel (K0 W) (.agg cs) v := by
  obtain ⟨fuel, h⟩ := h
  obtain ⟨cs, h1, h2⟩ := open_plain hl fuel t _ d p ht h
  simp only [Value.okWide, hu] at hw
  obtain ⟨vs, rfl, _, _⟩ := hw
  have h3 := h2.row
  exact ⟨cs, h1, .agg cs vs (by simpa [Value.cells] using h3.1) (fun i x u g1 g2 => h3.2 i x u g1 (by simpa [Value.cells] using g2))⟩
theorem trod_low {H : Type} {enc : TypeId × Value → H} {W : World} {t : TypeId} {v : Value} {d : DataW H} {p : List MemPlace} (h : DataW.Trod enc P W 0 (fun _ => true) true t v d p) : ∀ x ∈ p, x.block < W.heap.size := by
  obtain ⟨m, hm⟩ := h
  exact DataW.trod_lt m _ _ _ hm
theorem AT.inv_int {t : TypeId} {k : IntKind} {cs : List AV} (hu : P.underlying t = some (.int k)) (h : AT P t cs) : ∃ n, cs = [.val (.int k n)] ∧ (Lit.int k n).wf = true := by
  cases h with
  | int h hw => rw [hu] at h; cases h; exact ⟨_, rfl, hw⟩
  | _ => simp_all
theorem AT.inv_struct {t : TypeId} {fs : Array Field} {cs : List AV} (hu : P.underlying t = some (.struct fs)) (h : AT P t cs) : cs.length = P.cellsOf t ∧ ∀ f ∈ fs.toList, AT P f.type ((cs.drop f.offset).take (P.cellsOf f.type)) := by
  cases h with
  | struct h hl hf => rw [hu] at h; cases h; exact ⟨hl, hf⟩
  | _ => simp_all
theorem AT.inv_str {t : TypeId} {cs : List AV} (hu : P.underlying t = some .string) (h : AT P t cs) : ∃ s, cs = [.s s] ∧ s.size ≤ maxLen := by
  cases h with
  | str h hs => exact ⟨_, rfl, hs⟩
  | _ => simp_all
theorem wf_i64 {n : Int} (h : (Lit.int .i64 n).wf = true) : -9223372036854775808 ≤ n ∧ n ≤ 9223372036854775807 := by
  simp only [Lit.wf, Bool.and_eq_true, decide_eq_true_eq] at h
  exact h
theorem relArgs_nil {κ : K} : RelArgs κ [] #[] := ⟨rfl, fun i x u h1 h2 => by simp at h1⟩
theorem relArgs_cons {κ : K} {x : AV} {v : Value} {xs : List AV} {vs : List Value} (h : Rel κ x v) (hr : RelArgs κ xs vs.toArray) : RelArgs κ (x :: xs) (v :: vs).toArray := by
  refine ⟨by have := hr.1; simp at this ⊢; omega, fun i y u h1 h2 => ?_⟩
  cases i with
  | zero => simp at h1 h2; subst h1; subst h2; exact h
  | succ i => exact hr.2 i y u (by simpa using h1) (by simpa using h2)
end Go.V

set_option linter.unusedSimpArgs false
set_option linter.unusedVariables false
namespace Go.Proofs.YtjdapkelojdefaaGreatDoor
open Go Go.V Go.Lex Go.Parse Go.Print
def CW (cs cs' : List AV) : Prop := cs.length = cs'.length ∧ ∀ (i : Nat) (x x' : AV), cs[i]? = some x → cs'[i]? = some x' → AVw x x'
theorem cw_list {es : List (List AV)} (h : ∀ x ∈ es, ∃ e, Lim e ∧ CW x (exA e)) : ∃ l : List Ex, l.length = es.length ∧ (∀ e ∈ l, Lim e) ∧ AVw (.sl .any es) (.sl .any (exsA l)) := by
  have : ∃ l : List Ex, l.length = es.length ∧ (∀ e ∈ l, Lim e) ∧ ∀ (i : Nat) (e e' : List AV), es[i]? = some e → (exsA l)[i]? = some e' → CW e e' := by
    induction es with
    | nil => exact ⟨[], rfl, fun e he => (by cases he), fun i e e' h1 => (by simp at h1)⟩
    | cons x r ih =>
      obtain ⟨l, h1, h2, h3⟩ := ih (fun y hy => h y (List.mem_cons_of_mem _ hy))
      obtain ⟨e, h4, h5⟩ := h x (List.mem_cons_self ..)
      refine ⟨e :: l, by simp [h1], fun f hf => ?_, fun i a b q1 q2 => ?_⟩
      · rcases List.mem_cons.1 hf with rfl | hf
        · exact h4
        · exact h2 f hf
      · rw [exsA_cons] at q2
        cases i with
        | zero => simp at q1 q2; subst q1 q2; exact h5
        | succ i => exact h3 i a b (by simpa using q1) (by simpa using q2)
  obtain ⟨l, h1, h2, h3⟩ := this
  exact ⟨l, h1, h2, AVw.els (by rw [exsA_len, h1]) h3⟩
abbrev tE : TypeId := 26
abbrev tS : TypeId := 24
theorem dec_val {cs : List AV} (h : AT Tryz.prog 23 cs) : ∃ (k n : Int) (s : ByteArray), cs = [.i k, .i n, .s s] ∧ inR k ∧ inR n := by
  obtain ⟨hl, hf⟩ := AT.inv_struct Tryz.underlying23 h
  have c3 : Tryz.prog.cellsOf 3 = 1 := by kernel_rfl
  have c9 : Tryz.prog.cellsOf 9 = 1 := by kernel_rfl
  have c23 : Tryz.prog.cellsOf 23 = 3 := by kernel_rfl
  rw [c23] at hl
  simp only [List.forall_mem_cons, c3, c9] at hf
  obtain ⟨f0, f1, f2, _⟩ := hf
  match cs, hl with
  | [a, b, c], _ =>
    obtain ⟨k, hk, hw0⟩ := AT.inv_int Z3 f0
    obtain ⟨n, hn, hw⟩ := AT.inv_int Z3 f1
    obtain ⟨s, hs, _⟩ := AT.inv_str Tryz.underlying9 f2
    simp only [List.drop_zero, List.drop_succ_cons, List.take_succ_cons, List.take_zero, List.cons.injEq, and_true] at hk hn hs
    subst hk hn hs
    exact ⟨k, n, s, rfl, wf_i64 hw0, wf_i64 hw⟩
theorem dec_ex : ∀ {t : TypeId} {cs : List AV}, AT Tryz.prog t cs → (t = tE → ∃ e, Lim e ∧ CW cs (exA e)) ∧ (t = tS → ∃ (l : List Ex) (x : AV), cs = [x] ∧ l.length ≤ maxLen ∧ (∀ e ∈ l, Lim e) ∧ AVw x (.sl .any (exsA l))) := by
  intro t cs h
  induction h with
  | bool h => exact ⟨fun ht => (by subst ht; rw [Z26] at h; cases h), fun ht => (by subst ht; rw [Z24] at h; cases h)⟩
  | int h => exact ⟨fun ht => (by subst ht; rw [Z26] at h; cases h), fun ht => (by subst ht; rw [Z24] at h; cases h)⟩
  | str h => exact ⟨fun ht => (by subst ht; rw [Z26] at h; cases h), fun ht => (by subst ht; rw [Z24] at h; cases h)⟩
  | array h => exact ⟨fun ht => (by subst ht; rw [Z26] at h; cases h), fun ht => (by subst ht; rw [Z24] at h; cases h)⟩
  | nil h =>
    refine ⟨fun ht => (by subst ht; rw [Z26] at h; cases h), fun ht => ⟨[], _, rfl, Nat.zero_le _, fun e he => (by cases he), ?_⟩⟩
    rw [exsA_nil]; exact AVw.any _ _
  | sl h hn hes ih =>
    refine ⟨fun ht => (by subst ht; rw [Z26] at h; cases h), fun ht => ?_⟩
    subst ht
    rw [Z24] at h
    cases h
    obtain ⟨l, h1, h2, h3⟩ := cw_list (fun x hx => (ih x hx).1 rfl)
    exact ⟨l, _, rfl, by omega, h2, fun κ v hr => h3 κ v (AVw.any _ _ κ v hr)⟩
  | @struct t' fs cs h hl hf ih =>
    refine ⟨fun ht => ?_, fun ht => (by subst ht; rw [Z24] at h; cases h)⟩
    subst ht
    rw [Z26] at h
    cases h
    have c3 : Tryz.prog.cellsOf 3 = 1 := by kernel_rfl
    have c9 : Tryz.prog.cellsOf 9 = 1 := by kernel_rfl
    have c23 : Tryz.prog.cellsOf 23 = 3 := by kernel_rfl
    have c27 : Tryz.prog.cellsOf tE = 8 := by kernel_rfl
    have c28 : Tryz.prog.cellsOf tS = 1 := by kernel_rfl
    rw [c27] at hl
    simp only [List.forall_mem_cons, c3, c9, c23, c28] at hf ih
    obtain ⟨f0, f1, f2, f3, f4, f5, _⟩ := hf
    obtain ⟨_, _, _, _, _, i5, _⟩ := ih
    match cs, hl with
    | [a, b, c, d, e, f, g, x], _ =>
      obtain ⟨k, hk, hw0⟩ := AT.inv_int Z3 f0
      obtain ⟨op, hop, hw1⟩ := AT.inv_int Z3 f1
      obtain ⟨t, ht, _⟩ := AT.inv_str Tryz.underlying9 f2
      obtain ⟨n, hn, _⟩ := AT.inv_str Tryz.underlying9 f3
      obtain ⟨vk, vn, vs, hv, r1, r2⟩ := dec_val f4
      obtain ⟨l, y, hy, hll, hL, hw⟩ := i5.2 trivial
      simp only [List.drop_zero, List.drop_succ_cons, List.take_succ_cons, List.take_zero, List.cons.injEq, and_true] at hk hop ht hn hv hy
      obtain ⟨rfl, rfl, rfl⟩ := hv
      subst hk hop ht hn hy
      refine ⟨.mk k op t.data.toList n.data.toList (vk, vn, vs.data.toList) l, .mk _ _ _ _ _ _ (Nat.le_trans hll (by decide)) ⟨wf_i64 hw0, wf_i64 hw1, r1, r2⟩ hL, ?_⟩
      rw [exA_mk]
      simp only [bs_list]
      refine ⟨rfl, fun i z z' g1 g2 => ?_⟩
      match i, g1, g2 with
      | 0, g1, g2 | 1, g1, g2 | 2, g1, g2 | 3, g1, g2 | 4, g1, g2 | 5, g1, g2 | 6, g1, g2 => cases g1; cases g2; exact AVw.refl _
      | 7, g1, g2 => cases g1; cases g2; exact hw
theorem dec_expr {cs : List AV} (h : AT Tryz.prog tE cs) : ∃ e, Lim e ∧ AVw (.agg cs) (.agg (exA e)) := by
  obtain ⟨e, h1, h2⟩ := (dec_ex h).1 rfl
  exact ⟨e, h1, AVw.agg h2.1 h2.2⟩
end Go.Proofs.YtjdapkelojdefaaGreatDoor

namespace Go.Proofs.YtjdapkelojdefaaGreatDoor
open Go.ChangeShapes Go.WideShapes Go.ChangeAt Go.RowKit Go.V
set_option linter.unusedVariables false
theorem own : ownKnob Tryz.prog.godebug = none := by kernel_rfl
theorem laidOut : laidOutB Tryz.prog = true := by kernel_rfl
abbrev laid : List (String × DataW Unit) := [("math/bits.deBruijn32tab", Rows.laid_math_bits_deBruijn32tab), ("math/bits.deBruijn64tab", Rows.laid_math_bits_deBruijn64tab), ("internal/strconv.uint64pow10", Rows.laid_internal_strconv_uint64pow10), ("unicode/utf8.acceptRanges", Rows.laid_unicode_utf8_acceptRanges), ("unicode/utf8.first", Rows.laid_unicode_utf8_first)]
theorem glob {W : World} (h : laidMetH Tryz.prog laid W) : Glob (K0 W) := by
  rw [MakeChecks.laidMetH_plain _ _ _ (by kernel_rfl)] at h
  obtain ⟨ps, ⟨g0, t0, cs0, f0, p0, q0, hg0, ht0, hv0, hd0, ⟨g1, t1, cs1, f1, p1, q1, hg1, ht1, hv1, hd1, ⟨g, t, cs, fuel, p, q, hg, ht, hv, hd, _, _⟩, _⟩, _⟩, _, _⟩ := h
  obtain rfl := Option.some.inj ((show Tryz.prog.globalNamed "internal/strconv.uint64pow10" = some 1 by kernel_rfl).symm.trans hg)
  obtain rfl := Option.some.inj ((show (Tryz.prog.globals[1]?).map (·.type) = some 186 by kernel_rfl).symm.trans ht)
  obtain ⟨xs, m, _, ex, _, hl, hel⟩ := DataW.trod_array Tryz.underlying186 hd
  have c5 : Tryz.prog.cellsOf 179 = 1 := by kernel_rfl
  have hlen : pow10tab.length = 20 := by kernel_rfl
  have e3 : (xs.map (·.1)) = pow10tab.map fun v => match v with | .int k n => (DataW.lit (.int k n) : DataW Unit) | _ => .nil := (DataW.agg.inj (Prod.mk.inj ex).1).symm
  intro g cs' hg' r v hr
  by_cases hgg : g = 1
  · subst hgg
    obtain rfl : pow10tab = cs' := Option.some.inj ((if_pos rfl).symm.trans hg')
    refine ⟨?_, fun hh => hh⟩
    have hr20 : r < 20 := by rw [← hlen]; exact (List.getElem?_eq_some_iff.1 hr).1
    have hE := hel r hr20
    rw [c5, Nat.mul_one, List.getElem?_eq_getElem (by omega)] at hE
    obtain ⟨z, e1, e2, _⟩ := DataW.trod_int Tryz.underlying179 hE
    have e4 : (xs.map (·.1))[r]? = (pow10tab.map fun v => match v with | .int k n => (DataW.lit (.int k n) : DataW Unit) | _ => .nil)[r]? := by rw [e3]
    rw [List.getElem?_map, List.getElem?_map, List.getElem?_eq_getElem (by omega : r < xs.length), hr, e2] at e4
    have hz : v = .int .u64 z := by
      cases v <;> simp at e4
      rw [← e4.1, ← e4.2]
    show W.cell? _ = _
    rw [World.var?_cell hg hv r, hz]
    have : cs.toList[r]? = some (.int .u64 z) := by
      have h0 : ((cs.toList.drop r).take 1)[0]? = some (.int .u64 z) := by rw [e1]; rfl
      simpa using h0
    simpa using this
  · have : gtab g = none := if_neg hgg
    rw [this] at hg'; cases hg'
end Go.Proofs.YtjdapkelojdefaaGreatDoor
