/- Soundness, part 4: slices, conversions. -/
import Derived.Test.YtkbfngepdgdecaaV6
namespace Go.V
open Go.RowKit
variable {P : Program} {κ : K} {σ : Sg} {ρ : Nat → AV} {a : Act} {R : AV → Sg → Prop}

def RelOpt (κ : K) : Option AV → Option Value → Prop
  | none, none => True
  | some x, some v => Rel κ x v
  | _, _ => False

theorem optInt_some {x : Option AV} {v : Option Value} {d n : Int} (hr : RelOpt κ x v) (h : optInt x d = some n) : (v = none ∧ n = d) ∨ ∃ k, v = some (.int k n) := by
  unfold optInt at h
  split at h
  · cases v with
    | none => cases h; exact .inl ⟨rfl, rfl⟩
    | some v => exact hr.elim
  · cases v with
    | none => exact hr.elim
    | some v => cases hr; cases h; exact .inr ⟨_, rfl⟩
  · cases h

theorem run_sliceBounds {lo hi : Option AV} {lv hv : Option Value} {b : Bool} {len cap : Nat} {l h : Int} (hl : RelOpt κ lo lv) (hh : RelOpt κ hi hv) (h1 : optInt lo 0 = some l) (h2 : optInt hi len = some h)
    (h0 : 0 ≤ l) (hlh : l ≤ h) (hle : h ≤ len) (hc : len ≤ cap) (w : World) : (Instr.sliceBounds b len cap lv hv none).run P w = .ok (l.toNat, h.toNat, cap) w := by
  have hb : ∀ (k : IntKind) (n : Int) (y : Nat) (code : BoundsCode), 0 ≤ n → n ≤ y → (Instr.sliceBound (.int k n) y code).run P w = .ok n.toNat w := fun k n y code g1 g2 => by
    simp [Instr.sliceBound, asIntOf, g1, g2]
  rcases optInt_some hl h1 with ⟨rfl, rfl⟩ | ⟨k1, rfl⟩ <;> rcases optInt_some hh h2 with ⟨rfl, rfl⟩ | ⟨k2, rfl⟩
  · simp [Instr.sliceBounds]
  · have := hb k2 h cap (if b = true then .sliceAcap else .sliceAlen) (by omega) (by omega)
    simp [Instr.sliceBounds, this]
  · have := hb k1 l len .sliceB (by omega) (by omega)
    simp [Instr.sliceBounds, this]
  · have g1 := hb k2 h cap (if b = true then .sliceAcap else .sliceAlen) (by omega) (by omega)
    have g2 := hb k1 l h.toNat .sliceB (by omega) (by omega)
    simp [Instr.sliceBounds, g1, g2]

theorem run_sliceBounds3 {lo hi : Option AV} {lv hv : Option Value} {b : Bool} {len cap : Nat} {l h m : Int} {k : IntKind} (hl : RelOpt κ lo lv) (hh : RelOpt κ hi hv) (h1 : optInt lo 0 = some l) (h2 : optInt hi len = some h)
    (h0 : 0 ≤ l) (hlh : l ≤ h) (hle : h ≤ m) (hm : m ≤ cap) (hsome : hv ≠ none) (w : World) : (Instr.sliceBounds b len cap lv hv (some (.int k m))).run P w = .ok (l.toNat, h.toNat, m.toNat) w := by
  have hb : ∀ (k : IntKind) (n : Int) (y : Nat) (code : BoundsCode), 0 ≤ n → n ≤ y → (Instr.sliceBound (.int k n) y code).run P w = .ok n.toNat w := fun k n y code g1 g2 => by
    simp [Instr.sliceBound, asIntOf, g1, g2]
  rcases optInt_some hh h2 with ⟨rfl, rfl⟩ | ⟨k2, rfl⟩
  · exact absurd rfl hsome
  have g0 := hb k m cap (if b = true then .slice3Acap else .slice3Alen) (by omega) (by omega)
  have g1 := hb k2 h m.toNat .slice3B (by omega) (by omega)
  rcases optInt_some hl h1 with ⟨rfl, rfl⟩ | ⟨k1, rfl⟩
  · simp [Instr.sliceBounds, g0, g1]
  · have g2 := hb k1 l h.toNat .slice3C (by omega) (by omega)
    simp [Instr.sliceBounds, g0, g1, g2]

theorem chunks_length (sz : Nat) : ∀ (n : Nat) (cs : List AV), (chunks sz n cs).length = n
  | 0, _ => rfl
  | n + 1, cs => by simp [chunks, chunks_length sz n]
theorem chunks_get (sz : Nat) : ∀ (n : Nat) (cs : List AV) (i : Nat), i < n → (chunks sz n cs)[i]? = some ((cs.drop (i * sz)).take sz)
  | n + 1, cs, 0, _ => by simp [chunks]
  | n + 1, cs, i + 1, h => by
    simp only [chunks, List.getElem?_cons_succ]
    rw [chunks_get sz n _ i (by omega), List.drop_drop]
    congr 3
    rw [Nat.succ_mul]
    omega

/-- A cut of a row of elements. -/
theorem rel_cut {k' : Own} {es : List (List AV)} {b : Addr} {n sz : Nat} {f : Nat → Nat → Value} {l h : Nat} {b' : Addr} {c' : Nat} (hn : n = es.length) (hs : b.spot = none)
    (hz : ∀ (i : Nat) (e : List AV), es[i]? = some e → e.length = sz) (hr : ∀ i j, i < n → j < sz → κ.reads b.block (b.off + i * sz + j) (f i j))
    (hrel : ∀ (i j : Nat) (e : List AV) (x : AV), es[i]? = some e → e[j]? = some x → Rel κ x (f i j)) (hlh : l ≤ h) (hle : h ≤ n) (hb' : (b' = b ∧ h ≤ l) ∨ b' = ⟨b.block, b.off + l * sz, none⟩)
    (hk : k'.ok κ b' (h - l) c' sz) (hc' : h - l ≤ c') : Rel κ (.sl k' ((es.take h).drop l)) (.slice (some b') (h - l) c') := by
  refine .sl k' _ b' (h - l) c' sz (fun i j => f (l + i) j) hk (by simp; omega) hc' ?_ (fun i e he => ?_) (fun i j hi hj => ?_) (fun i j e x he hx => ?_)
  · rcases hb' with ⟨e, _⟩ | e <;> rw [e]
    exact hs
  · rw [List.getElem?_drop, List.getElem?_take] at he
    split at he
    · exact hz _ _ he
    · cases he
  · rcases hb' with ⟨_, e⟩ | e
    · omega
    rw [e]
    have := hr (l + i) j (by omega) hj
    rw [Nat.add_mul] at this
    simpa [Nat.add_assoc] using this
  · rw [List.getElem?_drop, List.getElem?_take] at he
    split at he
    · exact hrel _ _ _ _ he hx
    · cases he

theorem own_cut {k : Own} {es : List (List AV)} {b : Addr} {n c sz : Nat} {l h : Int} (hk : k.ok κ b n c sz) (hn : n = es.length) (hc : n ≤ c) (h0 : 0 ≤ l) (hl : l ≤ h) (hh : h.toNat ≤ n) :
    (k.cut (decide (h = (es.length : Int) ∧ (l = 0 ∨ l < h)))).ok κ (if c = l.toNat then b else ⟨b.block, b.off + l.toNat * sz, none⟩) (h.toNat - l.toNat) (c - l.toNat) sz := by
  cases k with
  | nil => exact hk.elim
  | full =>
    by_cases e : h = (es.length : Int) ∧ (l = 0 ∨ l < h)
    · rw [decide_eq_true e]
      show c - l.toNat = h.toNat - l.toNat
      have : c = n := hk
      omega
    · rw [decide_eq_false e]
      exact trivial
  | tok τ s =>
    by_cases e : h = (es.length : Int) ∧ (l = 0 ∨ l < h)
    · rw [decide_eq_true e]
      refine ⟨hk.1, ?_⟩
      rw [hk.2]
      have h1 : h.toNat = n := by omega
      by_cases hcl : c = l.toNat
      · have : l.toNat = 0 := by omega
        rw [if_pos hcl, h1, this]
        simp
      · rw [if_neg hcl]
        have h2 : b.off + n * sz = b.off + l.toNat * sz + (h.toNat - l.toNat) * sz := by rw [Nat.add_assoc, ← Nat.add_mul]; congr 2; omega
        have h3 : b.off + c * sz = b.off + l.toNat * sz + (c - l.toNat) * sz := by rw [Nat.add_assoc, ← Nat.add_mul]; congr 2; omega
        rw [h2, h3]
    · rw [decide_eq_false e]
      exact trivial
  | view => exact trivial
  | any => exact trivial

theorem snd_slice {t : TypeId} {x : AV} {v : Value} {lo hi mx : Option AV} {lv hv mv : Option Value} (h : St κ σ) (hx : Rel κ x v) (hl : RelOpt κ lo lv) (hh : RelOpt κ hi hv) (hm : RelOpt κ mx mv)
    (hw : vslice P t x lo hi mx σ (R · σ)) : ∃ u, (Instr.sliceAt t v lv hv mv).run P κ.w = .ok u κ.w ∧ Post κ R u κ.w := by
  unfold vslice at hw
  split at hw
  · rename_i s hd
    split at hw
    · rename_i l' h' e1 e2
      obtain ⟨⟨h0, h1, h2⟩, hw⟩ := hw
      cases hx
      cases mv with
      | some v => exact hm.elim
      | none =>
        refine ⟨.string (s.extract l'.toNat h'.toNat), ?_, post_same h (.val _) hw⟩
        simp only [Instr.sliceAt, Sem.run_bind, run_und hd, Result.andThen, Instr.slice]
        simp [run_sliceBounds (P := P) (b := false) hl hh e1 e2 h0 h1 h2 (Nat.le_refl _) κ.w]
    · exact hw.elim
  · rename_i e k es hd
    split at hw
    · rename_i l' h' z s by_ e1 e2 ht
      split at hw
      · cases mv with
        | some v => exact hm.elim
        | none =>
          obtain ⟨⟨h0, h1, h2, h3⟩, hw⟩ := hw
          cases hx with
          | slnil _ hk =>
            have hl0 : l' = 0 := by simp at h2; omega
            have hh0 : h' = 0 := by simp at h2; omega
            refine ⟨.slice none 0 0, ?_, post_same h ?_ hw⟩
            · simp only [Instr.sliceAt, Sem.run_bind, run_und hd, Result.andThen, Instr.slice]
              simp only [List.length_nil] at e2 h2
              simp [run_sliceBounds (P := P) (b := true) (len := 0) (cap := 0) hl hh e1 e2 h0 h1 h2 (Nat.le_refl _) κ.w, run_size ht, hl0, hh0]
            · simp only [List.take_nil, List.drop_nil]
              refine .slnil _ ?_
              cases k <;> simp_all [Own.cut, Own.maybeNil]
          | slemp _ hk b c =>
            have hl0 : l' = 0 := by simp at h2; omega
            have hh0 : h' = 0 := by simp at h2; omega
            refine ⟨.slice (some b) 0 c, ?_, post_same h ?_ hw⟩
            · simp only [Instr.sliceAt, Sem.run_bind, run_und hd, Result.andThen, Instr.slice]
              simp only [List.length_nil] at e2 h2
              rw [run_sliceBounds (P := P) (b := true) (len := 0) (cap := c) hl hh e1 e2 h0 h1 h2 (Nat.zero_le _) κ.w]
              subst hl0 hh0
              simp only [run_size ht, Sem.run_pure, Option.map_some, Int.toNat_zero, Nat.zero_mul, Nat.sub_zero, Addr.add, if_true]
              first | rfl | (split <;> rfl)
            · simp only [List.take_nil, List.drop_nil]
              refine .slemp _ ?_ b c
              rcases hk with rfl | rfl <;> simp [Own.cut]
          | sl _ _ b n c sz f hk hn hc hs hz hr hrel =>
            rw [← hn] at e2 h2
            have hls : l'.toNat * s = l'.toNat * sz := by
              cases es with
              | nil => simp at hn; rw [show l'.toNat = 0 by omega]; simp
              | cons e0 r => rw [← h3 e0 (by simp), hz 0 e0 rfl]
            refine ⟨.slice (some (if c = l'.toNat then b else ⟨b.block, b.off + l'.toNat * sz, none⟩)) (h'.toNat - l'.toNat) (c - l'.toNat), ?_,
              post_same h (rel_cut (k' := k.cut (decide (h' = (es.length : Int) ∧ (l' = 0 ∨ l' < h')))) hn hs hz hr hrel (by omega) (by omega) (by split; exact .inl ⟨rfl, by omega⟩; exact .inr rfl) (own_cut hk hn hc h0 h1 (by omega)) (by omega)) hw⟩
            simp only [Instr.sliceAt, Sem.run_bind, run_und hd, Result.andThen, Instr.slice]
            rw [run_sliceBounds (P := P) (b := true) hl hh e1 e2 h0 h1 h2 hc κ.w]
            simp only [run_size ht, Sem.run_pure, Option.map_some, addr_add hs, hls]
            congr 2
            split <;> rfl
      · rename_i k' m
        obtain ⟨⟨h0, h1, h2, h3, h4, h5, h5', h6⟩, hw⟩ := hw
        cases mv with
        | none => exact hm.elim
        | some v =>
          cases hm
          cases hx with
          | slnil _ hk => exact absurd rfl h5
          | slemp _ hk => exact absurd rfl h5
          | sl _ _ b n c sz f hk hn hc hs hz hr hrel =>
            rw [← hn] at e2 h3
            have hls : l'.toNat * s = l'.toNat * sz := by
              cases es with
              | nil => exact absurd rfl h5
              | cons e0 r => rw [← h6 e0 (by simp), hz 0 e0 rfl]
            have hsome : hv ≠ none := fun e => by
              subst e
              cases hi with
              | none => simp at h5'
              | some x => exact hh.elim
            refine ⟨.slice (some (if m.toNat = l'.toNat then b else ⟨b.block, b.off + l'.toNat * sz, none⟩)) (h'.toNat - l'.toNat) (m.toNat - l'.toNat), ?_, post_same h ?_ hw⟩
            · simp only [Instr.sliceAt, Sem.run_bind, run_und hd, Result.andThen, Instr.slice]
              rw [run_sliceBounds3 (P := P) (b := true) hl hh e1 e2 h0 h1 h2 (by omega) hsome κ.w]
              simp only [run_size ht, Sem.run_pure, Option.map_some, addr_add hs, hls]
              congr 2
              split <;> rfl
            · exact rel_cut (k' := .full) hn hs hz hr hrel (by omega) (by omega) (by split; exact .inl ⟨rfl, by omega⟩; exact .inr rfl) (by show m.toNat - _ = _; omega) (by omega)
      · exact hw.elim
    · exact hw.elim
  · rename_i e β off n sz hd
    split at hw
    · rename_i l' h' z s by_ e1 e2 ht
      obtain ⟨⟨rfl, h0, h1, h2, h3⟩, hw⟩ := hw
      cases mv with
      | some v => exact hm.elim
      | none =>
        cases hx with
        | ms _ _ _ _ b hi' c hμ hn hh' =>
          refine ⟨.slice (some ⟨b, off + l'.toNat * s, none⟩) (h'.toNat - l'.toNat) (c - l'.toNat), ?_, post_same h (?_ : Rel κ (.ms β (off + l'.toNat * s) (h' - l').toNat s) _) hw⟩
          · simp only [Instr.sliceAt, Sem.run_bind, run_und hd, Result.andThen, Instr.slice]
            rw [run_sliceBounds (P := P) (b := true) hl hh e1 e2 h0 h1 h2 hn κ.w]
            simp only [run_size ht, Sem.run_pure, Option.map_some, addr_add (b := ⟨b, off, none⟩) rfl]
            congr 2
            split
            · rcases h3 with h3 | h3
              · subst h3; simp
              · omega
            · rfl
          · rw [show (h' - l').toNat = h'.toNat - l'.toNat by omega]
            refine .ms β _ _ s b hi' _ hμ (by omega) ?_
            have : l'.toNat * s + (h'.toNat - l'.toNat) * s = h'.toNat * s := by rw [← Nat.add_mul]; congr 1; omega
            have : h'.toNat * s ≤ n * s := Nat.mul_le_mul_right _ (by omega)
            omega
    · exact hw.elim
  · rename_i n e cs hd
    split at hw
    · rename_i l' h' z s by_ e1 e2 ht
      obtain ⟨⟨h0, h1, h2, h3⟩, hw⟩ := hw
      cases mv with
      | some v => exact hm.elim
      | none =>
        cases hx with
        | ro _ b f hs hr hrel =>
          refine ⟨.slice (some (if n = l'.toNat then b else ⟨b.block, b.off + l'.toNat * s, none⟩)) (h'.toNat - l'.toNat) (n - l'.toNat), ?_,
            post_same h (rel_cut (k' := .view) (f := fun i j => f (i * s + j)) (n := n) (chunks_length s n cs).symm hs (fun i e he => ?_) (fun i j hi hj => ?_) (fun i j e x he hx => ?_) (by omega) (by omega) (by split; exact .inl ⟨rfl, by omega⟩; exact .inr rfl) trivial (by omega)) hw⟩
          · simp only [Instr.sliceAt, Sem.run_bind, run_und hd, Result.andThen, Instr.sureAddr, Sem.run_pure]
            rw [run_sliceBounds (P := P) (b := false) hl hh e1 e2 h1 h2 h3 (Nat.le_refl _) κ.w]
            simp only [run_size ht, addr_add hs]
          · have hi : i < n := by
              rcases Nat.lt_or_ge i n with h' | h'
              · exact h'
              · rw [List.getElem?_eq_none (by rw [chunks_length]; exact h')] at he; cases he
            rw [chunks_get s n cs i hi] at he
            cases he
            have : (i + 1) * s ≤ n * s := Nat.mul_le_mul_right _ hi
            rw [Nat.succ_mul] at this
            simp
            omega
          · have : (i + 1) * s ≤ n * s := Nat.mul_le_mul_right _ hi
            rw [Nat.succ_mul] at this
            have := hr (i * s + j) (by omega)
            simpa [Nat.add_assoc] using this
          · have hi : i < n := by
              rcases Nat.lt_or_ge i n with h' | h'
              · exact h'
              · rw [List.getElem?_eq_none (by rw [chunks_length]; exact h')] at he; cases he
            rw [chunks_get s n cs i hi] at he
            cases he
            refine hrel _ _ ?_
            rw [List.getElem?_take] at hx
            split at hx
            · rw [List.getElem?_drop] at hx; exact hx
            · cases hx
    · exact hw.elim
  · rename_i n e β off hd
    split at hw
    · rename_i l' h' z s by_ ty cs e1 e2 ht hσ
      obtain ⟨⟨h0, h1, h2, h3, h4⟩, hw⟩ := hw
      cases mv with
      | some v => exact hm.elim
      | none =>
        cases hx with
        | ref _ _ b hi' hμ =>
          obtain ⟨b', lo', hi'', g1, g2, g3, g4, _⟩ := h.ob β _ hσ
          rw [hμ] at g1
          cases g1
          refine ⟨.slice (some ⟨b, off + l'.toNat * s, none⟩) (h'.toNat - l'.toNat) (n - l'.toNat), ?_, post_same h (?_ : Rel κ (.ms β (off + l'.toNat * s) (h' - l').toNat s) _) hw⟩
          · simp only [Instr.sliceAt, Sem.run_bind, run_und hd, Result.andThen, Instr.sureAddr, Sem.run_pure]
            rw [run_sliceBounds (P := P) (b := false) hl hh e1 e2 h1 h2 h3 (Nat.le_refl _) κ.w]
            simp only [run_size ht, addr_add (b := ⟨b, off, none⟩) rfl]
            congr 2
            split
            · rcases h4 with h4 | h4
              · subst h4; simp
              · omega
            · rfl
          · rw [show (h' - l').toNat = h'.toNat - l'.toNat by omega]
            refine .ms β _ _ s b hi' _ hμ (by omega) ?_
            have : l'.toNat * s + (h'.toNat - l'.toNat) * s = h'.toNat * s := by rw [← Nat.add_mul]; congr 1; omega
            have : h'.toNat * s ≤ n * s := Nat.mul_le_mul_right _ (by omega)
            omega
    · exact hw.elim
  · exact hw.elim

end Go.V
