/- Part 1 of the proof: V7, V8, V9. -/
import Derived.Test.YtjdapkelojdefaaGreatDoorN0
import Derived.Laws.AppendOwn
import Derived.IntWalk
import Derived.Lib.Builder
import Derived.Lib.UnsafeStr

set_option linter.all false
namespace Go.V
open Go.RowKit
variable {P : Program} {κ : K} {σ : Sg} {ρ : Nat → AV} {a : Act} {R : AV → Sg → Prop}
def Q8f (κ : K) : Option AV → Option Value → Prop
  | none, none => True
  | some x, some v => Rel κ x v
  | _, _ => False
theorem Q4v {x : Option AV} {v : Option Value} {d n : Int} (hr : Q8f κ x v) (h : Q1l x d = some n) : (v = none ∧ n = d) ∨ ∃ k, v = some (.int k n) := by
  unfold Q1l at h
  split at h
  · cases v with
    | none => cases h; exact .inl ⟨rfl, rfl⟩
    | some v => exact hr.elim
  · cases v with
    | none => exact hr.elim
    | some v => cases hr; cases h; exact .inr ⟨_, rfl⟩
  · cases h
theorem Q2a {lo hi : Option AV} {lv hv : Option Value} {b : Bool} {len cap : Nat} {l h : Int} (hl : Q8f κ lo lv) (hh : Q8f κ hi hv) (h1 : Q1l lo 0 = some l) (h2 : Q1l hi len = some h)
    (h0 : 0 ≤ l) (hlh : l ≤ h) (hle : h ≤ len) (hc : len ≤ cap) (w : World) : (Instr.sliceBounds b len cap lv hv none).run P w = .ok (l.toNat, h.toNat, cap) w := by
  have hb : ∀ (k : IntKind) (n : Int) (y : Nat) (code : BoundsCode), 0 ≤ n → n ≤ y → (Instr.sliceBound (.int k n) y code).run P w = .ok n.toNat w := fun k n y code g1 g2 => by
    simp [Instr.sliceBound, asIntOf, g1, g2]
  rcases Q4v hl h1 with ⟨rfl, rfl⟩ | ⟨k1, rfl⟩ <;> rcases Q4v hh h2 with ⟨rfl, rfl⟩ | ⟨k2, rfl⟩
  · simp [Instr.sliceBounds]
  · have := hb k2 h cap (if b = true then .sliceAcap else .sliceAlen) (by omega) (by omega)
    simp [Instr.sliceBounds, this]
  · have := hb k1 l len .sliceB (by omega) (by omega)
    simp [Instr.sliceBounds, this]
  · have g1 := hb k2 h cap (if b = true then .sliceAcap else .sliceAlen) (by omega) (by omega)
    have g2 := hb k1 l h.toNat .sliceB (by omega) (by omega)
    simp [Instr.sliceBounds, g1, g2]
theorem Q4g {hi : Option AV} {hv : Option Value} {len cap : Nat} {h : Int} (hh : Q8f κ hi hv) (h2 : Q1l hi len = some h) (h0 : 0 ≤ h) (hle : h ≤ cap) (hc : len ≤ cap) (w : World) :
    (Instr.sliceBounds true len cap none hv none).run P w = .ok (0, h.toNat, cap) w := by
  have hb : ∀ (k : IntKind) (n : Int) (y : Nat) (code : BoundsCode), 0 ≤ n → n ≤ y → (Instr.sliceBound (.int k n) y code).run P w = .ok n.toNat w := fun k n y code g1 g2 => by
    simp [Instr.sliceBound, asIntOf, g1, g2]
  rcases Q4v hh h2 with ⟨rfl, rfl⟩ | ⟨k2, rfl⟩
  · simp [Instr.sliceBounds]
  · have := hb k2 h cap .sliceAcap (by omega) (by omega)
    simp [Instr.sliceBounds, this]
theorem X0z {lo hi : Option AV} {lv hv : Option Value} {b : Bool} {len cap : Nat} {l h m : Int} {k : IntKind} (hl : Q8f κ lo lv) (hh : Q8f κ hi hv) (h1 : Q1l lo 0 = some l) (h2 : Q1l hi len = some h)
    (h0 : 0 ≤ l) (hlh : l ≤ h) (hle : h ≤ m) (hm : m ≤ cap) (hsome : hv ≠ none) (w : World) : (Instr.sliceBounds b len cap lv hv (some (.int k m))).run P w = .ok (l.toNat, h.toNat, m.toNat) w := by
  have hb : ∀ (k : IntKind) (n : Int) (y : Nat) (code : BoundsCode), 0 ≤ n → n ≤ y → (Instr.sliceBound (.int k n) y code).run P w = .ok n.toNat w := fun k n y code g1 g2 => by
    simp [Instr.sliceBound, asIntOf, g1, g2]
  rcases Q4v hh h2 with ⟨rfl, rfl⟩ | ⟨k2, rfl⟩
  · exact absurd rfl hsome
  have g0 := hb k m cap (if b = true then .slice3Acap else .slice3Alen) (by omega) (by omega)
  have g1 := hb k2 h m.toNat .slice3B (by omega) (by omega)
  rcases Q4v hl h1 with ⟨rfl, rfl⟩ | ⟨k1, rfl⟩
  · simp [Instr.sliceBounds, g0, g1]
  · have g2 := hb k1 l h.toNat .slice3C (by omega) (by omega)
    simp [Instr.sliceBounds, g0, g1, g2]
theorem Q2m (sz : Nat) : ∀ (n : Nat) (cs : List AV), (Q2f sz n cs).length = n
  | 0, _ => rfl
  | n + 1, cs => by simp [Q2f, Q2m sz n]
theorem Q9x (sz : Nat) : ∀ (n : Nat) (cs : List AV) (i : Nat), i < n → (Q2f sz n cs)[i]? = some ((cs.drop (i * sz)).take sz)
  | n + 1, cs, 0, _ => by simp [Q2f]
  | n + 1, cs, i + 1, h => by
    simp only [Q2f, List.getElem?_cons_succ]
    rw [Q9x sz n _ i (by omega), List.drop_drop]
    congr 3
    rw [Nat.succ_mul]
    omega
theorem rel_cut {k' : Own} {es : List (List AV)} {b : Addr} {n sz : Nat} {f : Nat → Nat → Value} {l h : Nat} {b' : Addr} {c' : Nat} (hn : n = es.length) (hs : b.spot = none)
    (hz : ∀ (i : Nat) (e : List AV), es[i]? = some e → e.length = sz) (hr : ∀ i j, i < n → j < sz → κ.reads b.block (b.off + i * sz + j) (f i j))
    (hrel : ∀ (i j : Nat) (e : List AV) (x : AV), es[i]? = some e → e[j]? = some x → Rel κ x (f i j)) (hlh : l ≤ h) (hle : h ≤ n) (hb' : (b' = b ∧ h ≤ l) ∨ b' = ⟨b.block, b.off + l * sz, none⟩)
    (hk : k'.ok κ b' (h - l) c' sz) (hc' : h - l ≤ c') : Rel κ (.sl k' ((es.take h).drop l)) (.slice (some b') (h - l) c') := by
  refine .sl k' _ b' (h - l) c' sz (fun i j => f (l + i) j) hk (by simp; omega) hc' ?_ (fun i e he => ?_) (fun i j hi hj => ?_) (fun i j e x he hx => ?_)
  · rcases hb' with ⟨e, _⟩ | e <;> rw [e]
    exact hs
  · rw [List.getElem?_drop, List.getElem?_take] at he
    split at he
    · exact hz _ _ he
    · cases he
  · rcases hb' with ⟨_, e⟩ | e
    · omega
    rw [e]
    have := hr (l + i) j (by omega) hj
    rw [Nat.add_mul] at this
    simpa [Nat.add_assoc] using this
  · rw [List.getElem?_drop, List.getElem?_take] at he
    split at he
    · exact hrel _ _ _ _ he hx
    · cases he
theorem own_cut {k : Own} {es : List (List AV)} {b : Addr} {n c sz : Nat} {l h : Int} (hk : k.ok κ b n c sz) (hn : n = es.length) (hc : n ≤ c) (h0 : 0 ≤ l) (hl : l ≤ h) (hh : h.toNat ≤ n) :
    (k.cut (decide (h = (es.length : Int) ∧ (l = 0 ∨ l < h)))).ok κ (if c = l.toNat then b else ⟨b.block, b.off + l.toNat * sz, none⟩) (h.toNat - l.toNat) (c - l.toNat) sz := by
  cases k with
  | nil => exact hk.elim
  | full =>
    by_cases e : h = (es.length : Int) ∧ (l = 0 ∨ l < h)
    · rw [decide_eq_true e]
      show c - l.toNat = h.toNat - l.toNat
      have : c = n := hk
      omega
    · rw [decide_eq_false e]
      exact trivial
  | tok τ s =>
    by_cases e : h = (es.length : Int) ∧ (l = 0 ∨ l < h)
    · rw [decide_eq_true e]
      refine ⟨hk.1, ?_⟩
      rw [hk.2]
      have h1 : h.toNat = n := by omega
      by_cases hcl : c = l.toNat
      · have : l.toNat = 0 := by omega
        rw [if_pos hcl, h1, this]
        simp
      · rw [if_neg hcl]
        have h2 : b.off + n * sz = b.off + l.toNat * sz + (h.toNat - l.toNat) * sz := by rw [Nat.add_assoc, ← Nat.add_mul]; congr 2; omega
        have h3 : b.off + c * sz = b.off + l.toNat * sz + (c - l.toNat) * sz := by rw [Nat.add_assoc, ← Nat.add_mul]; congr 2; omega
        rw [h2, h3]
    · rw [decide_eq_false e]
      exact trivial
  | view => exact trivial
  | any => exact trivial
theorem snd_slice {t : TypeId} {x : AV} {v : Value} {lo hi mx : Option AV} {lv hv mv : Option Value} (h : St κ σ) (hx : Rel κ x v) (hl : Q8f κ lo lv) (hh : Q8f κ hi hv) (hm : Q8f κ mx mv)
    (hw : vslice P t x lo hi mx σ (R · σ)) : ∃ u, (Instr.sliceAt t v lv hv mv).run P κ.w = .ok u κ.w ∧ Post κ R u κ.w := by
  unfold vslice at hw
  split at hw
  · rename_i s hd
    split at hw
    · rename_i l' h' e1 e2
      obtain ⟨⟨h0, h1, h2⟩, hw⟩ := hw
      cases hx
      cases mv with
      | some v => exact hm.elim
      | none =>
        refine ⟨.string (s.extract l'.toNat h'.toNat), ?_, Q0h h (.val _) hw⟩
        simp only [Instr.sliceAt, Sem.run_bind, Q0p hd, Result.andThen, Instr.slice]
        simp [Q2a (P := P) (b := false) hl hh e1 e2 h0 h1 h2 (Nat.le_refl _) κ.w]
    · exact hw.elim
  · rename_i e k es hd
    split at hw
    · rename_i l' h' z s by_ e1 e2 ht
      split at hw
      · cases mv with
        | some v => exact hm.elim
        | none =>
          obtain ⟨⟨h0, h1, h2, h3⟩, hw⟩ := hw
          cases hx with
          | slnil _ hk =>
            have hl0 : l' = 0 := by simp at h2; omega
            have hh0 : h' = 0 := by simp at h2; omega
            refine ⟨.slice none 0 0, ?_, Q0h h ?_ hw⟩
            · simp only [Instr.sliceAt, Sem.run_bind, Q0p hd, Result.andThen, Instr.slice]
              simp only [List.length_nil] at e2 h2
              simp [Q2a (P := P) (b := true) (len := 0) (cap := 0) hl hh e1 e2 h0 h1 h2 (Nat.le_refl _) κ.w, Q1g ht, hl0, hh0]
            · simp only [List.take_nil, List.drop_nil]
              refine .slnil _ ?_
              cases k <;> simp_all [Own.cut, Own.maybeNil]
          | slemp _ hk b c =>
            have hl0 : l' = 0 := by simp at h2; omega
            have hh0 : h' = 0 := by simp at h2; omega
            refine ⟨.slice (some b) 0 c, ?_, Q0h h ?_ hw⟩
            · simp only [Instr.sliceAt, Sem.run_bind, Q0p hd, Result.andThen, Instr.slice]
              simp only [List.length_nil] at e2 h2
              rw [Q2a (P := P) (b := true) (len := 0) (cap := c) hl hh e1 e2 h0 h1 h2 (Nat.zero_le _) κ.w]
              subst hl0 hh0
              simp only [Q1g ht, Sem.run_pure, Option.map_some, Int.toNat_zero, Nat.zero_mul, Nat.sub_zero, Addr.add, if_true]
              first | rfl | (split <;> rfl)
            · simp only [List.take_nil, List.drop_nil]
              refine .slemp _ ?_ b c
              rcases hk with rfl | rfl <;> simp [Own.cut]
          | sl _ _ b n c sz f hk hn hc hs hz hr hrel =>
            rw [← hn] at e2 h2
            have hls : l'.toNat * s = l'.toNat * sz := by
              cases es with
              | nil => simp at hn; rw [show l'.toNat = 0 by omega]; simp
              | cons e0 r => rw [← h3 e0 (by simp), hz 0 e0 rfl]
            refine ⟨.slice (some (if c = l'.toNat then b else ⟨b.block, b.off + l'.toNat * sz, none⟩)) (h'.toNat - l'.toNat) (c - l'.toNat), ?_,
              Q0h h (rel_cut (k' := k.cut (decide (h' = (es.length : Int) ∧ (l' = 0 ∨ l' < h')))) hn hs hz hr hrel (by omega) (by omega) (by split; exact .inl ⟨rfl, by omega⟩; exact .inr rfl) (own_cut hk hn hc h0 h1 (by omega)) (by omega)) hw⟩
            simp only [Instr.sliceAt, Sem.run_bind, Q0p hd, Result.andThen, Instr.slice]
            rw [Q2a (P := P) (b := true) hl hh e1 e2 h0 h1 h2 hc κ.w]
            simp only [Q1g ht, Sem.run_pure, Option.map_some, Q1m hs, hls]
            congr 2
            split <;> rfl
      · rename_i k' m
        obtain ⟨⟨h0, h1, h2, h3, h4, h5, h5', h6⟩, hw⟩ := hw
        cases mv with
        | none => exact hm.elim
        | some v =>
          cases hm
          cases hx with
          | slnil _ hk => exact absurd rfl h5
          | slemp _ hk => exact absurd rfl h5
          | sl _ _ b n c sz f hk hn hc hs hz hr hrel =>
            rw [← hn] at e2 h3
            have hls : l'.toNat * s = l'.toNat * sz := by
              cases es with
              | nil => exact absurd rfl h5
              | cons e0 r => rw [← h6 e0 (by simp), hz 0 e0 rfl]
            have hsome : hv ≠ none := fun e => by
              subst e
              cases hi with
              | none => simp at h5'
              | some x => exact hh.elim
            refine ⟨.slice (some (if m.toNat = l'.toNat then b else ⟨b.block, b.off + l'.toNat * sz, none⟩)) (h'.toNat - l'.toNat) (m.toNat - l'.toNat), ?_, Q0h h ?_ hw⟩
            · simp only [Instr.sliceAt, Sem.run_bind, Q0p hd, Result.andThen, Instr.slice]
              rw [X0z (P := P) (b := true) hl hh e1 e2 h0 h1 h2 (by omega) hsome κ.w]
              simp only [Q1g ht, Sem.run_pure, Option.map_some, Q1m hs, hls]
              congr 2
              split <;> rfl
            · exact rel_cut (k' := .full) hn hs hz hr hrel (by omega) (by omega) (by split; exact .inl ⟨rfl, by omega⟩; exact .inr rfl) (by show m.toNat - _ = _; omega) (by omega)
      · exact hw.elim
    · exact hw.elim
  · rename_i e β off n sz hd
    split at hw
    · rename_i l' h' z s by_ e1 e2 ht
      obtain ⟨⟨rfl, h0, h1, h2, h3⟩, hw⟩ := hw
      cases mv with
      | some v => exact hm.elim
      | none =>
        cases hx with
        | ms _ _ _ _ b hi' c hμ hn hh' =>
          refine ⟨.slice (some ⟨b, off + l'.toNat * s, none⟩) (h'.toNat - l'.toNat) (c - l'.toNat), ?_, Q0h h (?_ : Rel κ (.ms β (off + l'.toNat * s) (h' - l').toNat s) _) hw⟩
          · simp only [Instr.sliceAt, Sem.run_bind, Q0p hd, Result.andThen, Instr.slice]
            rw [Q2a (P := P) (b := true) hl hh e1 e2 h0 h1 h2 hn κ.w]
            simp only [Q1g ht, Sem.run_pure, Option.map_some, Q1m (b := ⟨b, off, none⟩) rfl]
            congr 2
            split
            · rcases h3 with h3 | h3
              · subst h3; simp
              · omega
            · rfl
          · rw [show (h' - l').toNat = h'.toNat - l'.toNat by omega]
            refine .ms β _ _ s b hi' _ hμ (by omega) ?_
            have : l'.toNat * s + (h'.toNat - l'.toNat) * s = h'.toNat * s := by rw [← Nat.add_mul]; congr 1; omega
            have : h'.toNat * s ≤ n * s := Nat.mul_le_mul_right _ (by omega)
            omega
    · exact hw.elim
  · rename_i e β n m sz hd
    split at hw
    · rename_i h' z s by_ e2 ht
      obtain ⟨⟨rfl, h1, h2⟩, hw⟩ := hw
      cases mv with
      | some v => exact hm.elim
      | none =>
        cases lv with
        | some v => exact hl.elim
        | none =>
          cases hx with
          | mc _ _ _ _ b hi' hμ hn hh' =>
            refine ⟨.slice (some ⟨b, 0, none⟩) h'.toNat m, ?_, Q0h h (?_ : Rel κ (.ms β 0 h'.toNat s) _) hw⟩
            · simp only [Instr.sliceAt, Sem.run_bind, Q0p hd, Result.andThen, Instr.slice]
              rw [Q4g (P := P) hh e2 h1 h2 hn κ.w]
              simp only [Q1g ht, Sem.run_pure, Option.map_some, Q1m (b := ⟨b, 0, none⟩) rfl]
              simp
            · refine .ms β _ _ s b hi' _ hμ (by omega) ?_
              have : h'.toNat * s ≤ m * s := Nat.mul_le_mul_right _ (by omega)
              omega
    · exact hw.elim
  · rename_i e τ n sz hd
    split at hw
    · rename_i h' z s by_ e2 ht
      obtain ⟨⟨rfl, rfl⟩, hw⟩ := hw
      cases mv with
      | some v => exact hm.elim
      | none =>
        cases lv with
        | some v => exact hl.elim
        | none =>
          cases hx with
          | nz _ _ _ b c hμ hn =>
            refine ⟨.slice (some ⟨b, 0, none⟩) 0 c, ?_, Q0h h (?_ : Rel κ (.sl (.tok τ s) []) _) hw⟩
            · simp only [Instr.sliceAt, Sem.run_bind, Q0p hd, Result.andThen, Instr.slice]
              rw [Q4g (P := P) hh e2 (by omega) (by omega) hn κ.w]
              simp only [Q1g ht, Sem.run_pure, Option.map_some, Q1m (b := ⟨b, 0, none⟩) rfl]
              simp
            · refine .sl (.tok τ s) [] ⟨b, 0, none⟩ 0 c s (fun _ _ => undef) ⟨rfl, ?_⟩ rfl (by omega) rfl (fun i e h1 => by cases h1) (fun i j h1 _ => by omega) (fun i j e x h1 _ => by cases h1)
              simpa using hμ
    · exact hw.elim
  · rename_i e u es hd
    split at hw
    · rename_i h' z s by_ e2 ht
      obtain ⟨⟨rfl, rfl⟩, hw⟩ := hw
      cases mv with
      | some v => exact hm.elim
      | none =>
        cases lv with
        | some v => exact hl.elim
        | none =>
          cases hx with
          | lsl _ _ a n c f hn hc hs hz hr hu hrel =>
            rw [← hn] at e2
            refine ⟨.slice (some a) (n + 1) c, ?_, Q0h h (?_ : Rel κ (.sl .view (es ++ [[.val u]])) _) hw⟩
            · simp only [Instr.sliceAt, Sem.run_bind, Q0p hd, Result.andThen, Instr.slice]
              rw [Q4g (P := P) hh e2 (by omega) (by omega) (by omega) κ.w]
              simp only [Q1g ht, Sem.run_pure, Option.map_some, Q1m hs]
              have : ¬ c = 0 := by omega
              obtain ⟨ab, ao, as⟩ := a
              cases hs
              simp
            · refine .sl .view _ a (n + 1) c 1 (fun i j => if i < n then f i j else u) trivial (by simp [hn]) (by omega) hs (fun i e he => ?_) (fun i j hi hj => ?_) (fun i j e x he hx => ?_)
              · rcases Nat.lt_or_ge i es.length with h' | h'
                · rw [List.getElem?_append_left h'] at he; exact hz i e he
                · rw [List.getElem?_append_right h'] at he
                  obtain ⟨rfl⟩ : e = [.val u] := by
                    cases hk : i - es.length with
                    | zero => rw [hk] at he; cases he; rfl
                    | succ k => rw [hk] at he; cases he
                  rfl
              · by_cases h' : i < n
                · rw [if_pos h']; exact hr i j h' hj
                · rw [if_neg h']
                  obtain rfl : i = n := by omega
                  obtain rfl : j = 0 := by omega
                  simpa using hu
              · rcases Nat.lt_or_ge i es.length with h' | h'
                · rw [List.getElem?_append_left h'] at he
                  rw [if_pos (by omega)]
                  exact hrel i j e x he hx
                · rw [List.getElem?_append_right h'] at he
                  rw [if_neg (by omega)]
                  cases hk : i - es.length with
                  | zero =>
                    rw [hk] at he
                    cases he
                    cases j with
                    | zero => cases hx; exact .val _
                    | succ j => cases hx
                  | succ k => rw [hk] at he; cases he
    · exact hw.elim
  · rename_i n e cs hd
    split at hw
    · rename_i l' h' z s by_ e1 e2 ht
      obtain ⟨⟨h0, h1, h2, h3⟩, hw⟩ := hw
      cases mv with
      | some v => exact hm.elim
      | none =>
        cases hx with
        | ro _ b f hs hr hrel =>
          refine ⟨.slice (some (if n = l'.toNat then b else ⟨b.block, b.off + l'.toNat * s, none⟩)) (h'.toNat - l'.toNat) (n - l'.toNat), ?_,
            Q0h h (rel_cut (k' := .view) (f := fun i j => f (i * s + j)) (n := n) (Q2m s n cs).symm hs (fun i e he => ?_) (fun i j hi hj => ?_) (fun i j e x he hx => ?_) (by omega) (by omega) (by split; exact .inl ⟨rfl, by omega⟩; exact .inr rfl) trivial (by omega)) hw⟩
          · simp only [Instr.sliceAt, Sem.run_bind, Q0p hd, Result.andThen, Instr.sureAddr, Sem.run_pure]
            rw [Q2a (P := P) (b := false) hl hh e1 e2 h1 h2 h3 (Nat.le_refl _) κ.w]
            simp only [Q1g ht, Q1m hs]
          · have hi : i < n := by
              rcases Nat.lt_or_ge i n with h' | h'
              · exact h'
              · rw [List.getElem?_eq_none (by rw [Q2m]; exact h')] at he; cases he
            rw [Q9x s n cs i hi] at he
            cases he
            have : (i + 1) * s ≤ n * s := Nat.mul_le_mul_right _ hi
            rw [Nat.succ_mul] at this
            simp
            omega
          · have : (i + 1) * s ≤ n * s := Nat.mul_le_mul_right _ hi
            rw [Nat.succ_mul] at this
            have := hr (i * s + j) (by omega)
            simpa [Nat.add_assoc] using this
          · have hi : i < n := by
              rcases Nat.lt_or_ge i n with h' | h'
              · exact h'
              · rw [List.getElem?_eq_none (by rw [Q2m]; exact h')] at he; cases he
            rw [Q9x s n cs i hi] at he
            cases he
            refine hrel _ _ ?_
            rw [List.getElem?_take] at hx
            split at hx
            · rw [List.getElem?_drop] at hx; exact hx
            · cases hx
    · exact hw.elim
  · rename_i n e β off hd
    split at hw
    · rename_i l' h' z s by_ ty cs e1 e2 ht hσ
      obtain ⟨⟨h0, h1, h2, h3, h4⟩, hw⟩ := hw
      cases mv with
      | some v => exact hm.elim
      | none =>
        cases hx with
        | ref _ _ b hi' hμ =>
          obtain ⟨b', lo', hi'', g1, g2, g3, g4, _⟩ := h.ob β _ hσ
          rw [hμ] at g1
          cases g1
          refine ⟨.slice (some ⟨b, off + l'.toNat * s, none⟩) (h'.toNat - l'.toNat) (n - l'.toNat), ?_, Q0h h (?_ : Rel κ (.ms β (off + l'.toNat * s) (h' - l').toNat s) _) hw⟩
          · simp only [Instr.sliceAt, Sem.run_bind, Q0p hd, Result.andThen, Instr.sureAddr, Sem.run_pure]
            rw [Q2a (P := P) (b := false) hl hh e1 e2 h1 h2 h3 (Nat.le_refl _) κ.w]
            simp only [Q1g ht, Q1m (b := ⟨b, off, none⟩) rfl]
            congr 2
            split
            · rcases h4 with h4 | h4
              · subst h4; simp
              · omega
            · rfl
          · rw [show (h' - l').toNat = h'.toNat - l'.toNat by omega]
            refine .ms β _ _ s b hi' _ hμ (by omega) ?_
            have : l'.toNat * s + (h'.toNat - l'.toNat) * s = h'.toNat * s := by rw [← Nat.add_mul]; congr 1; omega
            have : h'.toNat * s ≤ n * s := Nat.mul_le_mul_right _ (by omega)
            omega
    · exact hw.elim
  · exact hw.elim
end Go.V
namespace Go.V
open Go.RowKit
variable {P : Program} {κ : K} {σ : Sg} {ρ : Nat → AV} {a : Act} {R : AV → Sg → Prop}
theorem Q1y {sz : Nat} : ∀ {es : List (List AV)}, (∀ e ∈ es, e.length = sz) → es.flatten.length = es.length * sz
  | [], _ => by simp
  | e :: es, h => by
    rw [List.flatten_cons, List.length_append, Q1y (fun x hx => h x (by simp [hx])), h e (by simp), List.length_cons, Nat.succ_mul]
    omega
theorem Q3g {sz : Nat} : ∀ {es : List (List AV)}, (∀ e ∈ es, e.length = sz) → ∀ i j e, es[i]? = some e → j < sz → es.flatten[i * sz + j]? = e[j]?
  | [], _, i, j, e, he, _ => by simp at he
  | x :: es, h, 0, j, e, he, hj => by
    simp at he
    subst he
    rw [List.flatten_cons, Nat.zero_mul, Nat.zero_add, List.getElem?_append_left (by rw [h x (by simp)]; exact hj)]
  | x :: es, h, i + 1, j, e, he, hj => by
    simp at he
    rw [List.flatten_cons, List.getElem?_append_right (by rw [h x (by simp), Nat.succ_mul]; omega), h x (by simp)]
    rw [show (i + 1) * sz + j - sz = i * sz + j by rw [Nat.succ_mul]; omega]
    exact Q3g (fun y hy => h y (by simp [hy])) i j e he hj
theorem Q3h {k : Own} {es : List (List AV)} {b : Addr} {n c sz : Nat} {g : Nat → Value} (hk : k.ok κ b n c sz) (hn : n = es.length) (hc : n ≤ c) (hs : b.spot = none) (hz : ∀ e ∈ es, e.length = sz)
    (hr : ∀ t, t < n * sz → κ.reads b.block (b.off + t) (g t)) (hrel : ∀ t x, es.flatten[t]? = some x → Rel κ x (g t)) : Rel κ (.sl k es) (.slice (some b) n c) := by
  refine .sl k es b n c sz (fun i j => g (i * sz + j)) hk hn hc hs (fun i e he => hz e (List.mem_of_getElem? he)) (fun i j hi hj => ?_) (fun i j e x he hx => ?_)
  · have : (i + 1) * sz ≤ n * sz := Nat.mul_le_mul_right _ hi
    rw [Nat.succ_mul] at this
    have := hr (i * sz + j) (by omega)
    simpa [Nat.add_assoc] using this
  · have hj : j < sz := by
      rw [← hz e (List.mem_of_getElem? he)]
      rcases Nat.lt_or_ge j e.length with h' | h'
      · exact h'
      · simp [List.getElem?_eq_none h'] at hx
    refine hrel _ _ ?_
    rw [Q3g hz i j e he hj]
    exact hx
def Own.size (k : Own) (d : Nat) : Nat := match k with | .tok _ s => s | _ => d
theorem Own.ok_size {k : Own} {b : Addr} {n c s d : Nat} (h : k.ok κ b n c s) : k.ok κ b n c (k.size d) := by
  cases k <;> first | exact h | exact ⟨rfl, by have h1 := h.1; subst h1; exact h.2⟩
theorem Q3w {k : Own} {es : List (List AV)} {v : Value} {sz : Nat} (h : Rel κ (.sl k es) v) (hz : ∀ e ∈ es, e.length = sz) :
    (v = .slice none 0 0 ∧ es = [] ∧ k.maybeNil) ∨ (∃ a c, v = .slice (some a) 0 c ∧ es = [] ∧ (k = .view ∨ k = .any)) ∨ ∃ (b : Addr) (n c : Nat) (g : Nat → Value), v = .slice (some b) n c ∧ k.ok κ b n c (k.size sz) ∧ n = es.length ∧ n ≤ c ∧ b.spot = none ∧ (∀ t, t < n * sz → κ.reads b.block (b.off + t) (g t)) ∧ (∀ t x, es.flatten[t]? = some x → Rel κ x (g t)) := by
  cases h with
  | slnil _ hk => exact .inl ⟨rfl, rfl, hk⟩
  | slemp _ hk a c => exact .inr (.inl ⟨a, c, rfl, rfl, hk⟩)
  | sl _ _ b n c s f hk hn hc hs hz' hr hrel =>
    right
    right
    cases es with
    | nil =>
      simp at hn
      exact ⟨b, n, c, fun _ => undef, rfl, Own.ok_size hk, by simp [hn], hc, hs, fun t ht => by simp [hn] at ht, fun t x hx => by simp at hx⟩
    | cons e0 r =>
      have hsz : s = sz := by rw [← hz e0 (by simp)]; exact (hz' 0 e0 rfl).symm
      subst hsz
      refine ⟨b, n, c, fun t => f (t / s) (t % s), rfl, Own.ok_size hk, hn, hc, hs, fun t ht => ?_, fun t x hx => ?_⟩
      · have hs0 : 0 < s := by
          rcases Nat.eq_zero_or_pos s with h0 | h0
          · subst h0; simp at ht
          · exact h0
        have h1 : t / s < n := Nat.div_lt_of_lt_mul (by rw [Nat.mul_comm]; exact ht)
        have h2 := hr (t / s) (t % s) h1 (Nat.mod_lt _ hs0)
        have h3 : t / s * s + t % s = t := by rw [Nat.mul_comm]; exact Nat.div_add_mod t s
        rw [Nat.add_assoc, h3] at h2
        exact h2
      · have hlt : t < (e0 :: r).flatten.length := by
          rcases Nat.lt_or_ge t (e0 :: r).flatten.length with h' | h'
          · exact h'
          · rw [List.getElem?_eq_none h'] at hx; cases hx
        rw [Q1y hz] at hlt
        have hs0 : 0 < s := by
          rcases Nat.eq_zero_or_pos s with h0 | h0
          · subst h0; simp at hlt
          · exact h0
        have h1 : t / s < (e0 :: r).length := Nat.div_lt_of_lt_mul (by rw [Nat.mul_comm]; exact hlt)
        have h3 : t / s * s + t % s = t := by rw [Nat.mul_comm]; exact Nat.div_add_mod t s
        have h4 := Q3g hz (t / s) (t % s) _ (List.getElem?_eq_getElem h1) (Nat.mod_lt _ hs0)
        rw [h3, hx] at h4
        exact hrel _ _ _ _ (List.getElem?_eq_getElem h1) h4.symm
theorem Q6n {m i : Nat} {g : Nat → Value} {v : Value} (h : ((List.range m).map g)[i]? = some v) : i < m ∧ g i = v := by
  rw [List.getElem?_map] at h
  rcases Nat.lt_or_ge i m with hi | hi
  · rw [List.getElem?_eq_getElem (by simpa using hi)] at h
    simp at h
    exact ⟨hi, h⟩
  · rw [List.getElem?_eq_none (by simpa using hi)] at h
    cases h
theorem src_of {tx : TypeId} {y : AV} {v : Value} {ys : List (List AV)} {sz : Nat} (hy : Rel κ y v) (he : elems y = some ys) (hz : ∀ e ∈ ys, e.length = sz ∧ (e.all AV.one) = true)
    (hk : (∃ e', P.underlying tx = some (.slice e')) ∨ P.underlying tx = some .string) : ∃ news : List Value, Src P sz tx v ys.length news κ.w ∧ RelRow κ ys.flatten news.toArray := by
  have h1 : ∀ e ∈ ys, e.length = sz := fun e he => (hz e he).1
  have none_ : ys = [] → (∀ w', (Builtin.lenOf v).run P w' = .ok 0 w') → (∀ w', (Builtin.firstCells sz 0 v).run P w' = .ok #[] w') → ∃ news : List Value, Src P sz tx v ys.length news κ.w ∧ RelRow κ ys.flatten news.toArray := fun e h2 h3 => by
    subst e
    exact ⟨[], ⟨hk, h2, h3 _, h3 _, by simp, fun u hu => by cases hu⟩, rfl, fun i x v hx => by simp at hx⟩
  cases y <;> simp only [elems] at he
  case sl k es =>
    cases he
    rcases Q3w hy h1 with ⟨rfl, h2, _⟩ | ⟨a, c, rfl, h2, _⟩ | ⟨b, n, c, g, rfl, hko, hn, hc, hs, hr, hrel⟩
    · exact none_ h2 (fun _ => rfl) (fun _ => rfl)
    · exact none_ h2 (fun _ => rfl) (fun w' => by simp only [Builtin.firstCells, Nat.zero_mul]; exact run_loadCells w' a 0 (fun _ => undef) (fun j hj => absurd hj (by omega)))
    · have hld : ∀ w', (∀ t, t < n * sz → w'.cell? ⟨b.block, b.off + t, none⟩ = some (g t)) → (Builtin.firstCells sz n (.slice (some b) n c)).run P w' = .ok ((List.range (n * sz)).map g).toArray w' := fun w' hw => by
        simp only [Builtin.firstCells]
        exact run_loadCells w' b (n * sz) g (fun j hj => by rw [Q1m hs]; exact hw j hj)
      have hrow : RelRow κ ys.flatten ((List.range (n * sz)).map g).toArray := by
        refine ⟨by rw [Q1y h1]; simp [hn], fun i x v hx hv => ?_⟩
        rw [List.getElem?_toArray] at hv
        obtain ⟨_, rfl⟩ := Q6n hv
        exact hrel i x hx
      refine ⟨(List.range (n * sz)).map g, ⟨hk, fun _ => by rw [← hn]; rfl, by rw [← hn]; exact hld _ (fun t ht => (hr t ht).1), by rw [← hn]; exact hld _ (fun t ht => (hr t ht).1), by simp [hn], fun u hu => ?_⟩, hrow⟩
      obtain ⟨i, hi, rfl⟩ := List.getElem_of_mem hu
      have hi' : i < ys.flatten.length := by rw [hrow.1]; simpa using hi
      refine X3e (hrow.2 i ys.flatten[i] _ (List.getElem?_eq_getElem hi') (by rw [← Array.getElem?_toList]; exact List.getElem?_eq_getElem hi)) ?_
      obtain ⟨e, he1, he2⟩ := List.mem_flatten.1 (List.getElem_mem hi')
      exact List.all_eq_true.1 (hz e he1).2 _ he2
  case val v' =>
    cases v' <;> simp at he
    case string s =>
      subst he
      cases hy
      by_cases h0 : Q0z s = []
      · have hs0 : s.size = 0 := by
          unfold Q0z at h0
          have := congrArg List.length h0
          simpa using this
        refine none_ h0 (fun w' => by simp [Builtin.lenOf, hs0]) (fun w' => ?_)
        simp [Builtin.firstCells]
      · obtain ⟨e, he⟩ := List.exists_mem_of_ne_nil _ h0
        have hs1 : sz = 1 := by
          rw [← h1 e he]
          unfold Q0z at he
          obtain ⟨b, _, rfl⟩ := List.mem_map.1 he
          rfl
        subst hs1
        have hlen : (Q0z s).length = s.size := by unfold Q0z; rw [List.length_map, Array.length_toList]; rfl
        have hrow : RelRow κ (Q0z s).flatten (byteCells s).toArray := by
          have hfl : (Q0z s).flatten = s.data.toList.map fun b => AV.u8 b.toNat := by
            unfold Q0z
            induction s.data.toList with
            | nil => rfl
            | cons b r ih => simp [ih]
          rw [hfl]
          refine ⟨by simp [byteCells], fun i x v hx hv => ?_⟩
          rw [List.getElem?_map] at hx
          rw [List.getElem?_toArray] at hv
          unfold byteCells at hv
          rw [List.getElem?_map] at hv
          cases hb : s.data.toList[i]? with
          | none => rw [hb] at hx; cases hx
          | some b => rw [hb] at hx hv; cases hx; cases hv; exact .val _
        exact ⟨byteCells s, ⟨hk, fun _ => by rw [hlen]; rfl, by rw [hlen]; exact firstCells_string s _, by rw [hlen]; exact firstCells_string s _, by rw [byteCells_length, Nat.mul_one, hlen], fun u hu => by
          obtain ⟨_, _, rfl⟩ := List.mem_map.1 hu
          rfl⟩, hrow⟩
  all_goals cases he
theorem X2m (z : Array Value) (n : Nat) : (Builtin.zeroCells z n).size = n * z.size := by simp [Builtin.zeroCells]
theorem Q7f (z : Value) : z.cells.size = (Q0o z).length := by
  unfold Q0o
  cases z <;> first
    | (simp [ofValue, Value.cells, AV.cells]; done)
    | rfl
    | (rename_i a b c; cases a <;> first | rfl | (cases b <;> first | rfl | (cases c <;> rfl)))
theorem snd_append {t tx ty e : TypeId} {x y : AV} {u v : Value} (h : St κ σ) (hx : Rel κ x u) (hy : Rel κ y v) (ht : P.underlying t = some (.slice e))
    (hk : (∃ e', P.underlying tx = some (.slice e')) ∨ P.underlying tx = some .string) (hw : Q8n P e x y σ R) :
    ∃ r w', (Builtin.append_ #[t, tx] ty #[u, v]).run P κ.w = .ok r w' ∧ Post κ R r w' := by
  unfold Q8n at hw
  split at hw
  · rename_i z sz by_ k es ys hi hel
    obtain ⟨⟨hz0, hb, h62, hzx, hzy⟩, hw⟩ := hw
    obtain ⟨news, hsrc, hnews⟩ := src_of hy hel hzy hk
    obtain ⟨i, hi1, hi2, hi3, hi4⟩ := Q9c hi κ.w
    have hinf : P.info? e = some i := by
      unfold Q0m at hi
      cases hh : P.info? e with
      | none => rw [hh] at hi; cases hi
      | some j =>
        simp [typeInfo, program, Sem.run, hh, Bind.bind, Sem.bind] at hi1
        rw [hi1]
    have hsz : i.size = sz := hi3
    have hzsize : z.cells.size = sz := by rw [Q7f, hz0]
    have hzes : ∀ e ∈ es ++ ys, e.length = sz := fun e he => by
      rcases List.mem_append.1 he with he | he
      · exact hzx e he
      · exact (hzy e he).1
    have hnl : news.length = ys.length * sz := hsrc.newsLen
    -- a new row
    have grow : ∀ (σ0 : Sg) (ot : Option TypeId), St κ σ0 → (ot = none ∨ ot = some e) → (∀ τ, σ τ = none → R (.sl (.tok τ sz) (es ++ ys)) (σ0.set τ (.tok ot))) → ∀ (base : Option Addr) (n c : Nat) (olds : List Value), n = es.length → olds.length = n * sz → RelRow κ es.flatten olds.toArray →
        (Builtin.firstCells sz n (.slice base n c)).run P κ.w.drew = .ok olds.toArray κ.w.drew → c < n + ys.length →
        ∃ r w', (Builtin.append_ #[t, tx] ty #[.slice base n c, v]).run P κ.w = .ok r w' ∧ Post κ R r w' := by
      intro σ0 ot h0 hot hR base n c olds hn hol hor hold hlt
      have hrun := run_append_grow_src (P := P) κ.w t tx ty e i z ht hinf hi2 base n c olds (by rw [hsz]; exact hold) v ys.length news (by rw [hsz]; exact hsrc) hlt (by omega) (by
        have := Go.nextslicecap_le (need := n + ys.length) (old := c) hlt
        have h2 : Builtin.nextslicecap (n + ys.length) c * i.bytes ≤ 2 * (n + ys.length) * i.bytes := Nat.mul_le_mul_right _ this
        rw [hi4] at h2 ⊢
        rw [hn] at h2 ⊢
        omega)
      have hge := grownCap_ge κ.w (n + ys.length) c e
      generalize grownCap κ.w (n + ys.length) c e = nc at hrun hge
      generalize hC : ((olds ++ news).toArray ++ Builtin.zeroCells z.cells (nc - (n + ys.length))) = C at hrun
      have hCs : C.size = nc * sz := by
        rw [← hC]
        simp only [Array.size_append, List.size_toArray, List.length_append, X2m, hol, hnl, hzsize]
        rw [← Nat.add_mul, ← Nat.add_mul]
        congr 1
        omega
      obtain ⟨τ, hτ, hτ'⟩ := h.drew.fresh
      have hlo : (n + ys.length) * sz ≤ nc * sz := Nat.mul_le_mul_right _ hge
      obtain ⟨g1, g2⟩ := h0.drew.newTok (c := C) (t := e) (fz := (0, 0)) (e := ot) (lo := (n + ys.length) * sz) (τ := τ) (by omega) (fun i _ => by simp) (fun t' ht' => by
        rcases hot with rfl | rfl
        · cases ht'
        · cases ht'; exact ⟨rfl, rfl⟩) hτ
      refine ⟨_, _, hrun, ⟨_, _, _, ?_, κ.le_drew.trans g1, g2, ?_, hR τ (hτ' σ (.refl σ))⟩⟩
      · rfl
      · refine Q3h (sz := sz) (g := fun t => C.getD t undef) ⟨rfl, ?_⟩ (by simp [hn]) hge rfl hzes (fun t ht => ?_) (fun t x hx => ?_)
        · simp [K.named, K.drew, hCs]
        · have htC : t < C.size := by omega
          have := Q5w h0.drew (c := C) (e := e) (fz := (0, 0)) (m := fun x => (n + ys.length) * sz ≤ x ∧ x < C.size + 1) (j := t) (v := C.getD t undef) (by simp [htC]) (by omega)
          show K.reads _ κ.w.heap.size (0 + t) _
          rw [Nat.zero_add]
          exact this
        · rw [List.flatten_append] at hx
          have hrow := (hor.append hnews)
          have hlt' : t < (es.flatten ++ ys.flatten).length := by
            rcases Nat.lt_or_ge t (es.flatten ++ ys.flatten).length with h' | h'
            · exact h'
            · rw [List.getElem?_eq_none h'] at hx; cases hx
          rw [hrow.1] at hlt'
          have hCt : C[t]? = (olds.toArray ++ news.toArray)[t]? := by
            rw [← hC, ← List.append_toArray]
            rw [Array.getElem?_append_left (by simpa using hlt')]
          refine ((hrow.2 t x (C.getD t undef) hx ?_).mono κ.le_drew).mono g1
          rw [← hCt]
          have : t < C.size := by
            rw [← hC]
            simp at hlt'
            simp
            omega
          simp [this]
    have room : ∀ (b : Addr) (n c : Nat), b.spot = none → n + ys.length ≤ c → (∀ j, j < news.length → (κ.w.cell? ⟨b.block, b.off + n * sz + j, none⟩).isSome = true) → (∀ j, j < news.length → κ.w.frozen? ⟨b.block, b.off + n * sz + j, none⟩ = false) →
        (Builtin.append_ #[t, tx] ty #[.slice (some b) n c, v]).run P κ.w = .ok (.slice (some b) (n + ys.length) c) (κ.w.setCells b.block (b.off + n * sz) news) := by
      intro b n c hs hle h1 h2
      obtain ⟨bb, bo, bs⟩ := b
      simp only at hs
      subst hs
      have := run_append_room_src (P := P) κ.w t tx ty e i ht hinf bb bo n c v ys.length news (by rw [hsz]; exact hsrc) hle (by rw [hsz]; exact h1) (by rw [hsz]; exact h2)
      rw [hsz] at this
      exact this
    have olds : ∀ (b : Addr) (n c : Nat) (g : Nat → Value), n = es.length → b.spot = none → (∀ t, t < n * sz → κ.reads b.block (b.off + t) (g t)) → (∀ t x, es.flatten[t]? = some x → Rel κ x (g t)) →
        ((List.range (n * sz)).map g).length = n * sz ∧ RelRow κ es.flatten ((List.range (n * sz)).map g).toArray ∧ (Builtin.firstCells sz n (.slice (some b) n c)).run P κ.w.drew = .ok ((List.range (n * sz)).map g).toArray κ.w.drew := by
      intro b n c g hn hs hr hrel
      refine ⟨by simp, ⟨by rw [Q1y hzx]; simp [hn], fun i x v hx hv => ?_⟩, ?_⟩
      · rw [List.getElem?_toArray] at hv
        obtain ⟨_, rfl⟩ := Q6n hv
        exact hrel i x hx
      · simp only [Builtin.firstCells]
        exact run_loadCells κ.w.drew b (n * sz) g (fun j hj => by rw [Q1m hs]; exact (hr j hj).1)
    have nilcase : ∀ (σ0 : Sg) (ot : Option TypeId), St κ σ0 → (ot = none ∨ ot = some e) → (∀ τ, σ τ = none → R (.sl (.tok τ sz) (es ++ ys)) (σ0.set τ (.tok ot))) → es = [] → ∃ r w', (Builtin.append_ #[t, tx] ty #[.slice none 0 0, v]).run P κ.w = .ok r w' ∧ Post κ R r w' := by
      intro σ0 ot h0 hot hR hes
      by_cases hys : ys = []
      · have hl : ys.length = 0 := by rw [hys]; rfl
        have hs0 := hsrc
        rw [hl] at hs0
        obtain ⟨τ, hτ, hτ'⟩ := h.fresh
        obtain ⟨g1, g2⟩ := h0.noRoom ot hτ
        refine ⟨.slice none 0 0, κ.w, ?_, ⟨_, _, _, ?_, g1, g2, ?_, hR τ (hτ' σ (.refl σ))⟩⟩
        · rcases hs0.kind with ⟨e', hk'⟩ | hk' <;> simp [Builtin.append_, Q0p ht, Q0p hk', sizeOf, typeInfo, hinf, hs0.len, hsz, hs0.cells]
        · rfl
        · subst hys
          subst hes
          exact .slnil _ trivial
      · refine grow σ0 ot h0 hot hR none 0 0 [] (by simp [hes]) (by simp) (by subst hes; exact ⟨rfl, fun i x v hx => by simp at hx⟩) rfl ?_
        have : 0 < ys.length := List.length_pos_iff.2 hys
        omega
    rcases Q3w hx hzx with ⟨rfl, hes, hmn⟩ | ⟨_, _, rfl, hes, hkk⟩ | ⟨b, n, c, g, rfl, hko, hn, hc, hs, hr, hrel⟩
    · cases k <;> simp only at hw
      case nil => exact nilcase σ (some e) h (.inr rfl) hw hes
      case full => exact hmn.elim
      case tok t' s =>
        obtain ⟨_, hw⟩ := hw
        split at hw
        · rename_i ot _
          exact nilcase (σ.del t') ot (h.sub (Sg.del_sub σ t')) hw.1 hw.2 hes
        · exact hw.elim
    · rcases hkk with rfl | rfl <;> exact hw.elim
    · obtain ⟨ho1, ho2, ho3⟩ := olds b n c g hn hs hr hrel
      cases k <;> simp only at hw
      case nil => exact hko.elim
      case full =>
        have hcn : c = n := hko
        by_cases hys : ys = []
        · subst hcn
          have hl : ys.length = 0 := by rw [hys]; rfl
          have hnil : news = [] := List.eq_nil_of_length_eq_zero (by rw [hnl, hl, Nat.zero_mul])
          refine ⟨_, _, room b c c hs (by omega) (fun j hj => by simp [hnil] at hj) (fun j hj => by simp [hnil] at hj), ?_⟩
          rw [hnil, hl]
          refine ⟨κ, _, σ, rfl, .refl κ, h, ?_, hw.1 hys⟩
          exact Q3h (sz := sz) (k := .full) (show c + 0 = c + 0 from rfl) hn (Nat.le_refl _) hs hzx hr hrel
        · have : 0 < ys.length := List.length_pos_iff.2 hys
          exact grow σ (some e) h (.inr rfl) (hw.2 hys) (some b) n c _ hn ho1 ho2 ho3 (by omega)
      case tok t' s =>
        obtain ⟨rfl, hw⟩ := hw
        split at hw
        · rename_i ot hst
          obtain ⟨hot, hw⟩ := hw
          by_cases hroom : n + ys.length ≤ c
          · have hμ := hko.2
            have hko1 : (Own.tok t' s).size s = s := rfl
            rw [hko1] at hμ
            obtain ⟨τ, hτ, hτ'⟩ := h.fresh
            have hle : b.off + n * s + news.length < b.off + c * s + 1 := by
              rw [hnl, Nat.add_assoc, ← Nat.add_mul]
              have := Nat.mul_le_mul_right s hroom
              omega
            obtain ⟨g1, g2, g3, g4⟩ := h.appendIn (τ := τ) (vs := news) hst hμ hle hτ
            refine ⟨_, _, room b n c hs hroom (fun j hj => (g3 j hj).1) (fun j hj => (g3 j hj).2), ⟨_, _, _, ?_, g1, g2, ?_, hw τ (hτ' _ (.refl _))⟩⟩
            · rfl
            · refine Q3h (sz := s) (g := fun t => if t < n * s then g t else news.getD (t - n * s) undef) ⟨rfl, ?_⟩ (by simp [hn]) hroom hs hzes (fun t ht => ?_) (fun t x hx => ?_)
              · simp only [K.named, if_true]
                rw [hnl, Nat.add_assoc, ← Nat.add_mul]
              · by_cases hlt : t < n * s
                · rw [if_pos hlt]
                  exact (hr t hlt).mono g1
                · rw [if_neg hlt]
                  rw [Nat.add_mul] at ht
                  have hj : t - n * s < news.length := by rw [hnl]; omega
                  have := g4 (t - n * s) hj
                  rw [show b.off + n * s + (t - n * s) = b.off + t by omega] at this
                  rw [show news.getD (t - n * s) undef = news[t - n * s] by simp [hj]]
                  exact this
              · rw [List.flatten_append] at hx
                have hfl := Q1y hzx
                by_cases hlt : t < n * s
                · rw [if_pos hlt]
                  rw [List.getElem?_append_left (by rw [hfl, ← hn]; exact hlt)] at hx
                  exact (hrel t x hx).mono g1
                · rw [if_neg hlt]
                  rw [List.getElem?_append_right (by rw [hfl, ← hn]; omega), hfl, ← hn] at hx
                  have hj : t - n * s < news.length := by
                    have := hnews.1
                    simp only [List.size_toArray] at this
                    rw [← this]
                    rcases Nat.lt_or_ge (t - n * s) ys.flatten.length with h' | h'
                    · exact h'
                    · rw [List.getElem?_eq_none h'] at hx; cases hx
                  exact (hnews.2 _ x _ hx (by simp [hj])).mono g1
          · exact grow (σ.del t') ot (h.sub (Sg.del_sub σ t')) hot hw (some b) n c _ hn ho1 ho2 ho3 (by omega)
        · exact hw.elim
  · exact hw.elim
end Go.V
namespace Go.V
open Go.RowKit
variable {P : Program} {κ : K} {σ : Sg} {ρ : Nat → AV} {a : Act} {R : AV → Sg → Prop}
theorem Q1f (s : ByteArray) : (Q0z s).length = s.size := by unfold Q0z; rw [List.length_map, Array.length_toList]; rfl
theorem Q8s (s : ByteArray) : ∀ e ∈ Q0z s, e.length = 1 := fun e he => by
  unfold Q0z at he
  obtain ⟨b, _, rfl⟩ := List.mem_map.1 he
  rfl
theorem Q4w (s : ByteArray) : (Q0z s).flatten = s.data.toList.map fun b => AV.u8 b.toNat := by
  unfold Q0z
  induction s.data.toList with
  | nil => rfl
  | cons b r ih => simp [ih]
theorem St.mark {κ : K} {σ : Sg} (h : St κ σ) {τ b lo m : Nat} {e : Option TypeId} {C : Array Value} {t : TypeId} {fz : Nat × Nat} {a v} (hτ : σ τ = some (.tok e)) (hμ : κ.μ τ = some (b, lo, m)) (hb : κ.w.heap[b]? = some (.cells C t fz))
    (hr : κ.reads b a v) (ha : a < lo) (hm : m = C.size + 1) (hl : lo < m) : κ.le { κ with w := κ.w.freeze ⟨b, C.size, none⟩ 1 } ∧ St { κ with w := κ.w.freeze ⟨b, C.size, none⟩ 1 } (σ.del τ) := by
  have hsz : (κ.w.freeze ⟨b, C.size, none⟩ 1).heap.size = κ.w.heap.size := by simp [World.freeze]
  have hne : ∀ b', b' ≠ b → (κ.w.freeze ⟨b, C.size, none⟩ 1).heap[b']? = κ.w.heap[b']? := fun b' hb' => by
    simp [World.freeze, Array.getElem?_modify, Ne.symm hb']
  have hbb : ∃ fz', (κ.w.freeze ⟨b, C.size, none⟩ 1).heap[b]? = some (.cells C t fz') := by
    refine ⟨if fz.1 == fz.2 then (C.size, C.size + 1) else (min fz.1 C.size, max fz.2 (C.size + 1)), ?_⟩
    simp [World.freeze, Array.getElem?_modify, hb]
  have hcell : ∀ b' o, (κ.w.freeze ⟨b, C.size, none⟩ 1).cell? ⟨b', o, none⟩ = κ.w.cell? ⟨b', o, none⟩ := fun b' o => by
    by_cases e : b' = b
    · subst e
      obtain ⟨fz', h1⟩ := hbb
      simp [World.cell?, h1, hb]
    · simp [World.cell?, hne b' e]
  obtain ⟨b1, lo1, hi1, g1, g2, g3⟩ := h.ob τ _ hτ
  rw [hμ] at g1
  cases g1
  have haC : a < C.size := by
    have h1 := hr.1
    simp [World.cell?, hb] at h1
    exact (Array.getElem?_eq_some_iff.1 h1).1
  have hbase : κ.base ≤ b := (h.mlt b lo (g2 lo (Nat.le_refl _) hl)).1
  have hle : κ.le { κ with w := κ.w.freeze ⟨b, C.size, none⟩ 1 } := ⟨by simp [World.freeze], by simp [World.freeze], by simp [World.freeze], by rw [hsz]; exact Nat.le_refl _, fun b' o _ hm => ⟨hcell b' o, hm⟩, rfl, fun b' hb' => hne b' (by omega), fun _ _ g => g⟩
  refine ⟨hle, ⟨fun β o ho => ?_, fun β1 β2 o1 o2 b' l1 h1 l2 h2 hne' k1 k2 k3 k4 => h.apart β1 β2 o1 o2 b' l1 h1 l2 h2 hne' (Sg.del_sub _ _ _ _ k1) (Sg.del_sub _ _ _ _ k2) k3 k4, h.fin, fun b' x hx => by rw [hsz]; exact h.mlt b' x hx, by rw [hsz]; exact h.bas, h.glob.mono hle⟩⟩
  have hβ : β ≠ τ := fun e => by subst e; simp [Sg.del] at ho
  have ho' := Sg.del_sub _ _ _ _ ho
  obtain ⟨b2, l2, h2, k1, k2, k3⟩ := h.ob β o ho'
  refine ⟨b2, l2, h2, k1, k2, ?_⟩
  by_cases e : b2 = b
  · subst e
    have hap := h.apart τ β _ _ b2 lo m l2 h2 (Ne.symm hβ) hτ ho' hμ k1
    cases o with
    | cells t2 cs =>
      obtain ⟨q1, q2, c2, fz2, q3, q4, q5⟩ := k3
      rw [hb] at q3
      cases q3
      exact absurd (k2 a (by omega) (by rw [q2, q5.1]; exact haC)) hr.2
    | tok e2 =>
      intro hlt
      obtain ⟨c2, t2, fz2, q3, q4, _⟩ := k3 hlt
      rw [hb] at q3
      cases q3
      omega
    | map es =>
      obtain ⟨_, _, arr, clock, q3, _⟩ := k3
      rw [hb] at q3
      cases q3
  · exact k3.keep hle (hne b2 e)
theorem snd_conv {s d : TypeId} {x : AV} {v : Value} (h : St κ σ) (hx : Rel κ x v) (hw : vconv P s d x σ R) : ∃ u w', (convert s d v).run P κ.w = .ok u w' ∧ Post κ R u w' := by
  unfold vconv at hw
  split at hw
  · rename_i ds k k' n hd hs
    cases hx
    refine ⟨.int k (k.wrap n), κ.w, ?_, Q0h h (.val _) hw⟩
    have hs' := Q0p hs
    have hd' := Q0p hd
    cases ds <;> simp [convert, Q0p hs, Q0p hd, Conv.intToInt]
  · rename_i b hs hd
    cases hx
    exact ⟨.string b, κ.w, by simp [convert, Q0p hs, Q0p hd], Q0h h (.val _) hw⟩
  · rename_i e b hs hd
    split at hw
    · rename_i he
      cases hx
      have hrun := run_bytes_of_string (P := P) κ.w s d e b hs hd he
      have hge := grownCap_ge κ.w b.size 0 e
      generalize grownCap κ.w b.size 0 e = nc at hrun hge
      have hsz : (bytesRow b nc).size = nc := by
        simp [bytesRow]
        have : b.data.size = b.size := rfl
        omega
      obtain ⟨τ, hτ, hτ'⟩ := h.drew.fresh
      obtain ⟨g1, g2⟩ := h.drew.newTok (c := bytesRow b nc) (t := e) (e := none) (fz := ((bytesRow b nc).size, (bytesRow b nc).size + 1)) (lo := b.size * 1) (τ := τ) (by omega) (fun i h2 => by simp only; omega) (fun t' ht' => by cases ht') hτ
      refine ⟨_, _, hrun, ⟨_, _, _, ?_, κ.le_drew.trans g1, g2, ?_, hw τ (hτ' σ (.refl σ))⟩⟩
      · rfl
      · refine Q3h (sz := 1) (g := fun t => (bytesRow b nc).getD t undef) ⟨rfl, ?_⟩ (Q1f b).symm hge rfl (Q8s b) (fun t ht => ?_) (fun t x hx => ?_)
        · simp [K.named, K.drew, hsz]
        · have htC : t < (bytesRow b nc).size := by omega
          have := Q5w h.drew (c := bytesRow b nc) (e := e) (fz := ((bytesRow b nc).size, (bytesRow b nc).size + 1)) (m := fun x => b.size * 1 ≤ x ∧ x < (bytesRow b nc).size + 1) (j := t) (v := (bytesRow b nc).getD t undef) (by simp [htC]) (by omega)
          show K.reads _ κ.w.heap.size (0 + t) _
          rw [Nat.zero_add]
          exact this
        · rw [Q4w, List.getElem?_map] at hx
          cases hb : b.data.toList[t]? with
          | none => rw [hb] at hx; cases hx
          | some c =>
            rw [hb] at hx
            cases hx
            have hlt : t < b.data.size := by
              rcases Nat.lt_or_ge t b.data.size with h' | h'
              · exact h'
              · rw [List.getElem?_eq_none (by simpa using h')] at hb; cases hb
            have : (bytesRow b nc)[t]? = some (.int .u8 c.toNat) := by
              unfold bytesRow
              rw [Array.getElem?_append_left (by simpa using hlt), Array.getElem?_map, ← Array.getElem?_toList, hb]
              rfl
            simp only [Array.getD_eq_getD_getElem?, this, Option.getD_some]
            exact .val _
    · exact hw.elim
  · rename_i e k es hs hd
    split at hw
    · rename_i he
      obtain ⟨b, rfl, hw⟩ := hw
      refine ⟨.string b, κ.w, ?_, Q0h h (.val _) hw⟩
      rcases Q3w hx (Q8s b) with ⟨rfl, hes, _⟩ | ⟨ad, c, rfl, hes, _⟩ | ⟨ad, n, c, g, rfl, hko, hn, hc, hsp, hr, hrel⟩
      · have hb : b = .empty := by
          have := congrArg List.length hes
          rw [Q1f] at this
          exact ByteArray.ext (Array.eq_empty_of_size_eq_zero this)
        subst hb
        rw [run_convert_bytes_string (P := P) κ.w s d e none 0 0 hs he hd]
        rfl
      · have hb : b = .empty := by
          have := congrArg List.length hes
          rw [Q1f] at this
          exact ByteArray.ext (Array.eq_empty_of_size_eq_zero this)
        subst hb
        have := run_convert_bytes_back (P := P) κ.w s d e ad c [] hs he hd (fun j hj => absurd hj (by simp))
        exact this
      · rw [Q1f] at hn
        have := run_convert_bytes_back (P := P) κ.w s d e ad c b.data.toList hs he hd (fun j hj => by
          have hj' : j < b.size := by simpa using hj
          have h1 := (hr j (by omega)).1
          rw [Q1m hsp, h1]
          have h2 := hrel j (AV.u8 (b.data.toList[j]).toNat) (by rw [Q4w, List.getElem?_map, List.getElem?_eq_getElem hj]; rfl)
          generalize g j = q at h2 ⊢
          cases h2
          rfl)
        rw [show b.data.toList.length = n by rw [hn]; rfl] at this
        rw [this]
    · exact hw.elim
  · rename_i e u0 es hs hd
    split at hw
    · rename_i he
      obtain ⟨b, rfl, hw⟩ := hw
      refine ⟨.string b, κ.w, ?_, Q0h h (.val _) hw⟩
      rcases Q3w hx.unlent (Q8s b) with ⟨rfl, hes, _⟩ | ⟨ad, c, rfl, hes, _⟩ | ⟨ad, n, c, g, rfl, hko, hn, hc, hsp, hr, hrel⟩
      · have hb : b = .empty := by
          have := congrArg List.length hes
          rw [Q1f] at this
          exact ByteArray.ext (Array.eq_empty_of_size_eq_zero this)
        subst hb
        rw [run_convert_bytes_string (P := P) κ.w s d e none 0 0 hs he hd]
        rfl
      · have hb : b = .empty := by
          have := congrArg List.length hes
          rw [Q1f] at this
          exact ByteArray.ext (Array.eq_empty_of_size_eq_zero this)
        subst hb
        have := run_convert_bytes_back (P := P) κ.w s d e ad c [] hs he hd (fun j hj => absurd hj (by simp))
        exact this
      · rw [Q1f] at hn
        have := run_convert_bytes_back (P := P) κ.w s d e ad c b.data.toList hs he hd (fun j hj => by
          have hj' : j < b.size := by simpa using hj
          have h1 := (hr j (by omega)).1
          rw [Q1m hsp, h1]
          have h2 := hrel j (AV.u8 (b.data.toList[j]).toNat) (by rw [Q4w, List.getElem?_map, List.getElem?_eq_getElem hj]; rfl)
          generalize g j = q at h2 ⊢
          cases h2
          rfl)
        rw [show b.data.toList.length = n by rw [hn]; rfl] at this
        rw [this]
    · exact hw.elim
  · rename_i e β off n sz hs hd
    split at hw
    · rename_i ety cs he hσ
      obtain ⟨b, rfl, hb, hn, hw⟩ := hw
      cases hx with
      | ms _ _ _ _ blk hi c hμ hnc hh =>
        obtain ⟨b', lo, hi', g1, g2, g3, g4, arr, fz, g5, g6, g7⟩ := h.ob β _ hσ
        rw [hμ] at g1
        cases g1
        refine ⟨.string b, κ.w, ?_, Q0h h (.val _) hw⟩
        have := run_convert_bytes_back (P := P) κ.w s d e ⟨blk, off, none⟩ c b.data.toList hs he hd (fun j hj => by
          have hj' : j < b.size := by simpa using hj
          have h1 : cs[off + j]? = some (AV.u8 (b.data.toList[j]).toNat) := by
            have : ((cs.drop off).take n)[j]? = (b.data.toList.map fun c => AV.u8 c.toNat)[j]? := by rw [hb]
            rw [List.getElem?_take, if_pos (by omega), List.getElem?_drop, List.getElem?_map, List.getElem?_eq_getElem hj] at this
            exact this
          have h2 : off + j < arr.size := by
            have h3 := (List.getElem?_eq_some_iff.1 h1).1
            have h4 := g7.1
            omega
          have h3 := g7.2 _ _ _ h1 (show arr[off + j]? = some (arr.getD (off + j) undef) by simp [h2])
          rw [Q1m rfl, X0s g5]
          have h5 : arr[off + j]? = some (arr.getD (off + j) undef) := by simp [h2]
          rw [h5]
          generalize arr.getD (off + j) undef = q at h3 ⊢
          cases h3
          rfl)
        rw [show b.data.toList.length = n by rw [← hn]; rfl] at this
        exact this
    · exact hw.elim
  · rename_i e β off hs hd
    split at hw
    · rename_i z n by_ ety cs ht hσ
      obtain ⟨⟨hn, hlt⟩, hw⟩ := hw
      cases hx with
      | ref _ _ b hi hμ =>
        obtain ⟨b', lo, hi', g1, g2, g3, g4, c, fz, g5, g6, g7⟩ := h.ob β _ hσ
        rw [hμ] at g1
        cases g1
        obtain ⟨j, j1, j2⟩ : ∃ j, P.info? e = some j ∧ j.size = n := by
          unfold Q0m at ht
          cases hj : P.info? e with
          | none => rw [hj] at ht; cases ht
          | some j => rw [hj] at ht; simp at ht; exact ⟨j, rfl, ht.2.1⟩
        refine ⟨.pointer (some ⟨b, off, none⟩), κ.w, ?_, Q0h h (.ref β off b hi hμ) hw⟩
        exact Lib.run_to_unsafe (e := ety) (cells := c.size) κ.w ⟨b, off, none⟩ hs hd j1 (by rw [j2]; exact hn) (by simp [World.shape?, g5]) (by rw [← g7.1]; exact hlt)
    · exact hw.elim
  · rename_i u β off hs hd
    split at hw
    · rename_i i ety cs ht hσ
      obtain ⟨hl, hw⟩ := hw
      cases hx with
      | ref _ _ b hi hμ =>
        obtain ⟨b', lo, hi', g1, g2, g3, g4, c, fz, g5, g6, g7⟩ := h.ob β _ hσ
        rw [hμ] at g1
        cases g1
        obtain ⟨j, j1⟩ : ∃ j, P.info? u = some j := by
          unfold Q0m at ht
          cases hj : P.info? u with
          | none => rw [hj] at ht; cases ht
          | some j => exact ⟨j, rfl⟩
        refine ⟨.pointer (some ⟨b, off, none⟩), κ.w, ?_, Q0h h (.ref β off b hi hμ) hw⟩
        exact Lib.run_from_unsafe (e := ety) (cells := c.size) κ.w ⟨b, off, none⟩ hs hd j1 (by simp [World.shape?, g5]) (by rw [← g7.1]; exact hl)
    · exact hw.elim
  · rename_i e' e τ x r hs hd
    split at hw
    · rename_i t he hσ
      obtain ⟨hsd, hw⟩ := hw
      obtain rfl : s = d := by simpa using hsd
      cases hx with
      | sl k es a n c sz f hk hn hc hsp hz hr hrel =>
        obtain ⟨rfl, hμ⟩ := hk
        obtain ⟨b', lo, hi, g1, g2, g3⟩ := h.ob τ _ hσ
        rw [hμ] at g1
        cases g1
        obtain ⟨C, t', fz, g4, g5, g6, g7⟩ := g3 (by omega)
        have hn0 : 0 < n := by rw [hn]; simp
        obtain ⟨g8, g9⟩ := h.mark hσ hμ g4 (hr 0 0 hn0 (by omega)) (by omega) g5 (by omega)
        refine ⟨.slice (some a) n c, _, ?_, ⟨_, .sl .any (x :: r), σ.del τ, rfl, g8, g9, ?_, hw⟩⟩
        · rw [hs] at hd
          cases hd
          simp [convert, Q0p hs, Q0p he, markStringish, World.shape?, g4]
        · exact .sl .any _ a n c 1 f trivial hn hc hsp hz (fun i j hi hj => (hr i j hi hj).mono g8) (fun i j e x h1 h2 => (hrel i j e x h1 h2).mono g8)
    · exact hw.elim
  · exact hw.elim
theorem splice_get {cs xs : List AV} {off i : Nat} (hfit : off + xs.length ≤ cs.length) : (Q2o cs off xs)[i]? = if off ≤ i ∧ i < off + xs.length then xs[i - off]? else cs[i]? := by
  unfold Q2o
  rcases Nat.lt_or_ge i off with h1 | h1
  · rw [if_neg (by omega), List.append_assoc, List.getElem?_append_left (by simp; omega), List.getElem?_take, if_pos h1]
  · rcases Nat.lt_or_ge i (off + xs.length) with h2 | h2
    · rw [if_pos ⟨h1, h2⟩, List.getElem?_append_left (by simp; omega), List.getElem?_append_right (by simp; omega)]
      congr 1
      simp
      omega
    · rw [if_neg (by omega), List.getElem?_append_right (by simp; omega), List.getElem?_drop]
      congr 1
      simp
      omega
theorem Q9d {cs xs : List AV} {off : Nat} (hfit : off + xs.length ≤ cs.length) : (Q2o cs off xs).length = cs.length := by
  unfold Q2o
  simp
  omega
theorem foldl_set (off : Nat) : ∀ (us : List Value) (k : Nat) (vs : Array Value), ((us.zipIdx k).foldl (fun cs p => cs.setIfInBounds (off + p.2) p.1) vs).size = vs.size ∧
    ∀ i, off + k + us.length ≤ vs.size → ((us.zipIdx k).foldl (fun cs p => cs.setIfInBounds (off + p.2) p.1) vs)[i]? = if off + k ≤ i ∧ i < off + k + us.length then us[i - (off + k)]? else vs[i]?
  | [], k, vs => ⟨rfl, fun i _ => by rw [if_neg (by simp)]; rfl⟩
  | u :: us, k, vs => by
    obtain ⟨h1, h2⟩ := foldl_set off us (k + 1) (vs.setIfInBounds (off + k) u)
    simp only [List.zipIdx_cons, List.foldl_cons]
    refine ⟨by rw [h1]; simp, fun i hi => ?_⟩
    simp only [List.length_cons] at hi ⊢
    rw [h2 i (by simp; omega)]
    by_cases hin : off + (k + 1) ≤ i ∧ i < off + (k + 1) + us.length
    · rw [if_pos hin, if_pos (by omega), show i - (off + k) = (i - (off + (k + 1))) + 1 by omega, List.getElem?_cons_succ]
    · rw [if_neg hin]
      by_cases he : i = off + k
      · subst he
        rw [if_pos (by omega), Nat.sub_self, Array.getElem?_setIfInBounds_self_of_lt (by omega)]
        rfl
      · rw [if_neg (by omega), Array.getElem?_setIfInBounds_ne (by omega)]
theorem X1b {place : Nat → Option (Nat × Nat)} : ∀ (parts : List (Nat × AV)) (us : List (Nat × Value)) (cs : List AV) (vs : Array Value) (out : List AV), parts.length = us.length →
    (∀ (i : Nat) (p : Nat × AV) (q : Nat × Value), parts[i]? = some p → us[i]? = some q → p.1 = q.1 ∧ p.2.solid = true ∧ Rel κ p.2 q.2) → RelRow κ cs vs → Q4a place cs parts = some out →
    ∃ ws, Instr.fill place vs us = some ws ∧ RelRow κ out ws
  | [], [], cs, vs, out, _, _, hr, hf => by
    simp only [Q4a] at hf
    cases hf
    exact ⟨vs, rfl, hr⟩
  | p :: parts, q :: us, cs, vs, out, hl, hp, hr, hf => by
    obtain ⟨i, x⟩ := p
    obtain ⟨j, v⟩ := q
    obtain ⟨h1, h2, h3⟩ := hp 0 _ _ rfl rfl
    simp only at h1 h2 h3
    subst h1
    simp only [Q4a] at hf
    cases hpl : place i with
    | none => rw [hpl] at hf; cases hf
    | some os =>
      obtain ⟨off, size⟩ := os
      rw [hpl] at hf
      simp only at hf
      split at hf
      · rename_i hc
        have hrc := X1k h3 h2
        have hvs : v.cells.size = size := by rw [← hrc.1]; exact hc.1
        obtain ⟨g1, g2⟩ := foldl_set off v.cells.toList 0 vs
        have hsz := hr.1
        have hcl : v.cells.toList.length = size := by simpa using hvs
        have harr : v.cells.zipIdx.foldl (fun cs x => match x with | (c, j) => cs.setIfInBounds (off + j) c) vs = (v.cells.toList.zipIdx 0).foldl (fun cs p => cs.setIfInBounds (off + p.2) p.1) vs := by
          rw [← Array.foldl_toList]
          simp
        refine (?_ : ∃ ws, Instr.fill place vs ((i, v) :: us) = some ws ∧ RelRow κ out ws)
        have hnew : RelRow κ (Q2o cs off x.cells) ((v.cells.toList.zipIdx 0).foldl (fun cs p => cs.setIfInBounds (off + p.2) p.1) vs) := by
          refine ⟨by rw [Q9d (by omega), g1]; exact hsz, fun t y u ht hu => ?_⟩
          rw [splice_get (by omega)] at ht
          rw [g2 t (by omega)] at hu
          rw [hcl] at hu
          rw [hc.1] at ht
          simp only [Nat.add_zero] at hu
          by_cases hin : off ≤ t ∧ t < off + size
          · rw [if_pos hin] at ht hu
            exact hrc.2 _ y u ht (by rw [← Array.getElem?_toList]; exact hu)
          · rw [if_neg hin] at ht hu
            exact hr.2 t y u ht hu
        obtain ⟨ws, k1, k2⟩ := X1b parts us _ _ out (by simpa using hl) (fun t p q hp' hq' => hp (t + 1) p q hp' hq') hnew hf
        refine ⟨ws, ?_, k2⟩
        rw [← k1]
        simp only [Instr.fill, hpl]
        rw [if_neg (by simp; omega), harr]
      · cases hf
theorem Q8t (κ : K) (z : Value) : RelRow κ (Q0o z) z.cells := by
  cases z <;> first
    | exact Q4p κ _
    | (refine ⟨(Q7f _).symm, fun i x v h1 h2 => ?_⟩
       · have hcells : ∀ (y : AV), (∀ cs, y ≠ .agg cs) → y.cells = [y] := fun y hy => by cases y <;> first | rfl | exact absurd rfl (hy _)
         cases i with
         | zero =>
           simp only [Value.cells] at h2
           simp only [Q0o, ofValue] at h1
           rw [hcells _ (fun cs => by unfold Q3t; split <;> simp)] at h1
           cases h1
           cases h2
           exact Q7r κ _
         | succ i => simp [Value.cells] at h2)
def RelParts (κ : K) (parts : List (Nat × AV)) (us : List (Nat × Value)) : Prop :=
  parts.length = us.length ∧ ∀ (i : Nat) (p : Nat × AV) (q : Nat × Value), parts[i]? = some p → us[i]? = some q → p.1 = q.1 ∧ Rel κ p.2 q.2
theorem RelParts.solid {parts : List (Nat × AV)} {us : List (Nat × Value)} (h : RelParts κ parts us) (hs : (parts.all fun p => p.2.solid) = true) :
    ∀ (i : Nat) (p : Nat × AV) (q : Nat × Value), parts[i]? = some p → us[i]? = some q → p.1 = q.1 ∧ p.2.solid = true ∧ Rel κ p.2 q.2 := fun i p q h1 h2 =>
  ⟨(h.2 i p q h1 h2).1, List.all_eq_true.1 hs p (List.mem_of_getElem? h1), (h.2 i p q h1 h2).2⟩
theorem run_places {fs : Array Field} (hp : (Q2u P fs).all (·.isSome) = true) (w : World) :
    ∃ ps : Array (Nat × Nat), (fs.mapM fun f => (do pure (f.offset, ← sizeOf f.type) : Sem (Nat × Nat))).run P w = .ok ps w ∧ ∀ i : Nat, ps[i]? = ((Q2u P fs)[i]?).bind id := by
  have key : ∀ (l : List Field), ((l.map fun f => (Q0m P f.type).map fun i => (f.offset, i.2.1)).all (·.isSome)) = true →
      ∃ ps : List (Nat × Nat), (l.mapM fun f => (do pure (f.offset, ← sizeOf f.type) : Sem (Nat × Nat))).run P w = .ok ps w ∧ ∀ i : Nat, ps[i]? = ((l.map fun f => (Q0m P f.type).map fun i => (f.offset, i.2.1))[i]?).bind id := by
    intro l
    induction l with
    | nil => intro _; exact ⟨[], rfl, fun i => by simp⟩
    | cons f l ih =>
      intro h
      simp only [List.map_cons, List.all_cons, Bool.and_eq_true] at h
      obtain ⟨ps, h1, h2⟩ := ih h.2
      cases ht : Q0m P f.type with
      | none => rw [ht] at h; simp at h
      | some i =>
        obtain ⟨z, n, b⟩ := i
        refine ⟨(f.offset, n) :: ps, by simp only [List.mapM_cons, Sem.run_bind, Q1g ht, Result.andThen, h1, Sem.run_pure], fun i => ?_⟩
        cases i with
        | zero => simp [ht]
        | succ i => simpa using h2 i
  obtain ⟨ps, h1, h2⟩ := key fs.toList hp
  refine ⟨ps.toArray, ?_, fun i => by rw [List.getElem?_toArray]; exact h2 i⟩
  rw [Array.mapM_eq_mapM_toList]
  simp only [Sem.run_map, h1, Result.andThen]
theorem snd_build {t : TypeId} {parts : List (Nat × AV)} {us : Array (Nat × Value)} (h : St κ σ) (hp : RelParts κ parts us.toList) (hw : vbuild P t parts (R · σ)) :
    ∃ u, (Instr.build t us).run P κ.w = .ok u κ.w ∧ Post κ R u κ.w := by
  unfold vbuild at hw
  split at hw
  · rename_i z n b fs ht hd
    obtain ⟨hs, hw⟩ := hw
    split at hw
    · rename_i cs hf
      obtain ⟨hpl, hw⟩ := hw
      obtain ⟨ps, h1, h2⟩ := run_places hpl κ.w
      obtain ⟨ws, h3, h4⟩ := X1b (κ := κ) parts us.toList _ z.cells cs hp.1 (hp.solid hs) (Q8t κ z) hf
      refine ⟨.agg ws, ?_, Q0h h (.agg _ _ h4.1 h4.2) hw⟩
      have hfun : (fun i => ps[i]?) = fun i => ((Q2u P fs)[i]?).bind id := funext h2
      simp only [Instr.build, Sem.run_bind, Q6l ht, Result.andThen, Q0p hd, h1]
      rw [hfun, h3]
      rfl
    · exact hw.elim
  · rename_i z n b m e ht hd
    split at hw
    · rename_i z' s b' ht'
      obtain ⟨hs, hw⟩ := hw
      split at hw
      · rename_i cs hf
        obtain ⟨ws, h3, h4⟩ := X1b (κ := κ) parts us.toList _ z.cells cs hp.1 (hp.solid hs) (Q8t κ z) hf
        refine ⟨.agg ws, ?_, Q0h h (.agg _ _ h4.1 h4.2) hw⟩
        simp only [Instr.build, Sem.run_bind, Q6l ht, Result.andThen, Q0p hd, Q1g ht']
        rw [h3]
        rfl
      · exact hw.elim
    · exact hw.elim
  · exact hw.elim
theorem Q9y {sz : Nat} : ∀ (n : Nat) (cs : List AV), cs.length = n * sz → ∀ e ∈ Q2f sz n cs, e.length = sz
  | 0, _, _, e, he => by cases he
  | n + 1, cs, h, e, he => by
    rw [Nat.succ_mul] at h
    simp only [Q2f, List.mem_cons] at he
    rcases he with rfl | he
    · simp; omega
    · exact Q9y n _ (by simp; omega) e he
theorem Q5p {sz : Nat} : ∀ (n : Nat) (cs : List AV), cs.length = n * sz → (Q2f sz n cs).flatten = cs
  | 0, cs, h => by simp at h; simp [Q2f, h]
  | n + 1, cs, h => by
    rw [Nat.succ_mul] at h
    simp only [Q2f, List.flatten_cons]
    rw [Q5p n _ (by simp; omega)]
    exact List.take_append_drop sz cs
theorem Q1e {z : List AV} : ∀ (n : Nat), (List.replicate n z).flatten.length = n * z.length
  | 0 => by simp
  | n + 1 => by rw [List.replicate_succ, List.flatten_cons, List.length_append, Q1e n, Nat.succ_mul]; omega
theorem Q2v {z : List AV} {n i : Nat} (hi : i < n * z.length) : (List.replicate n z).flatten[i]? = z[i % z.length]? := by
  have hz : 0 < z.length := by
    rcases Nat.eq_zero_or_pos z.length with h | h
    · rw [h] at hi; simp at hi
    · exact h
  have h1 : i / z.length < n := Nat.div_lt_of_lt_mul (by rw [Nat.mul_comm]; exact hi)
  have h3 : i / z.length * z.length + i % z.length = i := by rw [Nat.mul_comm]; exact Nat.div_add_mod i z.length
  have h4 := Q3g (sz := z.length) (es := List.replicate n z) (fun e he => by rw [List.eq_of_mem_replicate he]) (i / z.length) (i % z.length) z (by simp [h1]) (Nat.mod_lt _ hz)
  rw [h3] at h4
  exact h4
theorem X0t (κ : K) (z : Value) (n : Nat) (hz : 0 < z.cells.size) : RelRow κ (List.replicate n (Q0o z)).flatten ((Array.range (n * z.cells.size)).map (z.cells[· % z.cells.size]!)) := by
  have hs := Q7f z
  refine ⟨by rw [Q1e]; simp [hs], fun i x v h1 h2 => ?_⟩
  have hi : i < n * (Q0o z).length := by
    rw [← Q1e]
    rcases Nat.lt_or_ge i (List.replicate n (Q0o z)).flatten.length with h' | h'
    · exact h'
    · rw [List.getElem?_eq_none h'] at h1; cases h1
  rw [Q2v hi] at h1
  rw [hs] at h2 hz
  rw [Array.getElem?_map] at h2
  have : (Array.range (n * (Q0o z).length))[i]? = some i := by simp [hi]
  rw [this] at h2
  cases h2
  have hm : i % (Q0o z).length < z.cells.size := by rw [hs]; exact Nat.mod_lt _ hz
  refine (Q8t κ z).2 _ x _ h1 ?_
  simp [hm]
theorem X2n {t : TypeId} {len : Nat} {parts : List (Nat × AV)} {us : Array (Nat × Value)} (h : St κ σ) (hp : RelParts κ parts us.toList) {H : Hint} (hw : Q6i P H t len parts σ R) :
    ∃ u w', (Instr.buildSlice t len us).run P κ.w = .ok u w' ∧ Post κ R u w' := by
  unfold Q6i at hw
  split at hw
  · rename_i e hd
    split at hw
    · rename_i z s b ht
      obtain ⟨⟨hs, h24, hz, h0⟩, hw⟩ := hw
      split at hw
      · rename_i cs hf
        have hzs := Q7f z
        rw [hz] at hzs
        have hrow := X0t κ z len (by omega)
        rw [hzs] at hrow
        obtain ⟨ws, h3, h4⟩ := X1b (κ := κ) parts us.toList _ _ cs hp.1 (hp.solid hs) hrow hf
        have hcl : cs.length = len * s := by
          have : ∀ {place : Nat → Option (Nat × Nat)} (parts : List (Nat × AV)) (c out : List AV), Q4a place c parts = some out → out.length = c.length := by
            intro place parts
            induction parts with
            | nil => intro c out hh; simp only [Q4a] at hh; cases hh; rfl
            | cons p parts ih =>
              intro c out hh
              obtain ⟨i, x⟩ := p
              simp only [Q4a] at hh
              split at hh
              · cases hh
              · split at hh
                · rw [ih _ _ hh, Q9d (by omega)]
                · cases hh
          rw [this _ _ _ hf, Q1e, hz]
        have hrun : (Instr.buildSlice t len us).run P κ.w = .ok (.slice (some ⟨κ.w.heap.size, 0, none⟩) len len) (κ.w.alloc (.cells ws e)) := by
          have h24' : ¬ (len * s > 2 ^ 24) := by omega
          simp only [Instr.buildSlice, Sem.run_bind, Q0p hd, Result.andThen, Q1g ht]
          rw [if_neg h24']
          by_cases hl0 : len * s = 0
          · have hws : ws = #[] := by
              have := h4.1
              rw [hcl, hl0] at this
              exact Array.eq_empty_of_size_eq_zero this.symm
            subst hws
            have hm : ∀ f : Nat → Value, (Array.range (len * s)).map f = #[] := fun f => Array.eq_empty_of_size_eq_zero (by simp [hl0])
            rw [hm] at h3
            simp only [if_pos hl0, hm, h3]
            rfl
          · simp only [if_neg hl0, Sem.run_bind, Q6l ht, Result.andThen, Sem.run_pure]
            rw [hzs, h3]
            rfl
        refine ⟨_, _, hrun, ?_⟩
        have plain : R (.sl .full (Q2f s len cs)) σ → Post κ R (.slice (some ⟨κ.w.heap.size, 0, none⟩) len len) (κ.w.alloc (.cells ws e)) := fun hw => by
          have hle := K.le_alloc h.bas (.cells ws e) (fun _ => False)
          refine ⟨κ.alloc (.cells ws e) (fun _ => False), _, σ, rfl, hle, h.alloc _ _, ?_, hw⟩
          refine Q3h (sz := s) (g := fun t => ws.getD t undef) rfl (Q2m s len cs).symm (Nat.le_refl _) rfl (Q9y len cs hcl) (fun t ht' => ?_) (fun t x hx => ?_)
          · have htC : t < ws.size := by rw [← h4.1, hcl]; exact ht'
            have := Q5w h (c := ws) (e := e) (fz := (0, 0)) (m := fun _ => False) (j := t) (v := ws.getD t undef) (by simp [htC]) (fun f => f)
            show K.reads _ κ.w.heap.size (0 + t) _
            rw [Nat.zero_add]
            exact this
          · rw [Q5p len cs hcl] at hx
            have htC : t < ws.size := by
              rw [← h4.1]
              rcases Nat.lt_or_ge t cs.length with h' | h'
              · exact h'
              · rw [List.getElem?_eq_none h'] at hx; cases hx
            exact (h4.2 t x _ hx (by simp [htC])).mono hle
        have own : (∀ τ, σ τ = none → R (.sl (.tok τ s) (Q2f s len cs)) (σ.set τ (.tok (some e)))) → Post κ R (.slice (some ⟨κ.w.heap.size, 0, none⟩) len len) (κ.w.alloc (.cells ws e)) := fun hw => by
          obtain ⟨τ, hτ, hτ'⟩ := h.fresh
          have hws : ws.size = len * s := by rw [← h4.1, hcl]
          obtain ⟨g1, g2⟩ := h.newTok (c := ws) (t := e) (fz := (0, 0)) (e := some e) (lo := len * s) (τ := τ) (by omega) (fun i _ => by simp) (fun t' ht' => by cases ht'; exact ⟨rfl, rfl⟩) hτ
          refine ⟨_, _, _, ?_, g1, g2, ?_, hw τ (hτ' σ (.refl σ))⟩
          · rfl
          · refine Q3h (sz := s) (g := fun t => ws.getD t undef) ⟨rfl, ?_⟩ (Q2m s len cs).symm (Nat.le_refl _) rfl (Q9y len cs hcl) (fun t ht' => ?_) (fun t x hx => ?_)
            · simp [K.named, hws]
            · have htC : t < ws.size := by omega
              have := Q5w h (c := ws) (e := e) (fz := (0, 0)) (m := fun x => len * s ≤ x ∧ x < ws.size + 1) (j := t) (v := ws.getD t undef) (by simp [htC]) (by omega)
              show K.reads _ κ.w.heap.size (0 + t) _
              rw [Nat.zero_add]
              exact this
            · rw [Q5p len cs hcl] at hx
              have htC : t < ws.size := by
                rw [← h4.1]
                rcases Nat.lt_or_ge t cs.length with h' | h'
                · exact h'
                · rw [List.getElem?_eq_none h'] at hx; cases hx
              exact (h4.2 t x _ hx (by simp [htC])).mono g1
        cases H
        · exact plain hw
        · exact plain hw
        · exact own hw
        · exact plain hw
      · exact hw.elim
    · exact hw.elim
  · exact hw.elim
theorem X3i {t : TypeId} {H : Hint} {l c : AV} {lv cv : Value} (h : St κ σ) (hl : Rel κ l lv) (hc : Rel κ c cv) (hw : Q4r P H t l c σ R) :
    ∃ u w', (Instr.makeSlice t lv cv).run P κ.w = .ok u w' ∧ Post κ R u w' := by
  unfold Q4r at hw
  split at hw
  · rename_i e k1 l k2 c hd
    split at hw
    · rename_i z s b ht
      obtain ⟨⟨h0, h1, h2, h3, h4, h5⟩, hw⟩ := hw
      cases hl
      cases hc
      obtain ⟨i, i1, i2, i3, i4⟩ := Q9c ht κ.w
      have hzs := Q7f z
      rw [h4] at hzs
      have wl : IntKind.i64.wrap l = l := IntWalk.i64_in l ⟨by omega, by omega⟩
      have wc : IntKind.i64.wrap c = c := IntWalk.i64_in c ⟨by omega, by omega⟩
      have hrow := X0t κ z c.toNat (by omega)
      rw [hzs] at hrow
      generalize hC : (Array.range (c.toNat * s)).map (z.cells[· % s]!) = C at hrow
      have hrun : (Instr.makeSlice t (.int k1 l) (.int k2 c)).run P κ.w = .ok (.slice (some ⟨κ.w.heap.size, 0, none⟩) l.toNat c.toNat) (κ.w.alloc (.cells C e)) := by
        have hlt : ¬ l < 0 := by omega
        have hct : ¬ c < 0 := by omega
        have hbig : ¬ ((b : Int) * c > 2 ^ 48) := by omega
        have hlc : ¬ l > c := by omega
        simp only [Instr.makeSlice, Sem.run_bind, Q0p hd, Result.andThen, asInt, asIntOf, Sem.run_pure, i1, wl, wc, i4]
        simp only [decide_eq_false hlt, decide_eq_false hct, decide_eq_false hbig, decide_eq_false hlc, Bool.or_false, Bool.false_eq_true, if_false]
        simp only [Sem.run_bind, run_askRoom, Result.andThen, Q1g ht]
        by_cases hn : c.toNat * s = 0
        · have hm : ∀ f : Nat → Value, (Array.range (c.toNat * s)).map f = #[] := fun f => Array.eq_empty_of_size_eq_zero (by simp [hn])
          rw [hm] at hC
          simp only [if_pos hn, hm, ← hC]
          rfl
        · simp only [if_neg hn, Sem.run_bind, Q6l ht, Result.andThen, Sem.run_pure, hzs, hC]
          rfl
      have hCs : C.size = c.toNat * s := by rw [← hC]; simp
      refine ⟨_, _, hrun, ?_⟩
      have own : (∀ τ, σ τ = none → R (.sl (.tok τ s) (List.replicate l.toNat (Q0o z))) (σ.set τ (.tok (some e)))) → Post κ R (.slice (some ⟨κ.w.heap.size, 0, none⟩) l.toNat c.toNat) (κ.w.alloc (.cells C e)) := fun hw => by
        obtain ⟨τ, hτ, hτ'⟩ := h.fresh
        have hlo : l.toNat * s ≤ c.toNat * s := Nat.mul_le_mul_right _ (by omega)
        obtain ⟨g1, g2⟩ := h.newTok (c := C) (t := e) (fz := (0, 0)) (e := some e) (lo := l.toNat * s) (τ := τ) (by omega) (fun i _ => by simp) (fun t' ht' => by cases ht'; exact ⟨rfl, rfl⟩) hτ
        refine ⟨_, _, _, ?_, g1, g2, ?_, hw τ (hτ' σ (.refl σ))⟩
        · rfl
        · refine Q3h (sz := s) (g := fun t => C.getD t undef) ⟨rfl, ?_⟩ (by simp) (by omega) rfl (fun e he => by rw [List.eq_of_mem_replicate he]; exact h4) (fun t ht' => ?_) (fun t x hx => ?_)
          · simp [K.named, hCs]
          · have htC : t < C.size := by omega
            have := Q5w h (c := C) (e := e) (fz := (0, 0)) (m := fun x => l.toNat * s ≤ x ∧ x < C.size + 1) (j := t) (v := C.getD t undef) (by simp [htC]) (by omega)
            show K.reads _ κ.w.heap.size (0 + t) _
            rw [Nat.zero_add]
            exact this
          · have hlt : t < l.toNat * s := by
              rcases Nat.lt_or_ge t (List.replicate l.toNat (Q0o z)).flatten.length with h' | h'
              · rw [Q1e, h4] at h'; exact h'
              · rw [List.getElem?_eq_none h'] at hx; cases hx
            rw [Q2v (by rw [h4]; exact hlt)] at hx
            refine ((hrow.2 t x _ ?_ (by simp [show t < C.size by omega])).mono g1)
            rw [Q2v (by rw [h4]; omega)]
            exact hx
      have obj : (l = c ∧ ∀ β, σ β = none → R (.ms β 0 l.toNat s) (σ.set β (.cells e ((List.replicate l.toNat (Q0o z)).flatten)))) → Post κ R (.slice (some ⟨κ.w.heap.size, 0, none⟩) l.toNat c.toNat) (κ.w.alloc (.cells C e)) := fun hw2 => by
        obtain ⟨rfl, hw3⟩ := hw2
        obtain ⟨β, hβ, hβ'⟩ := h.fresh
        have hle := (K.le_alloc h.bas (.cells C e) (· < C.size)).trans (K.le_named (κ := κ.alloc _ _) (β := β) hβ (κ.w.heap.size, 0, C.size))
        refine ⟨_, _, _, ?_, hle, h.newObj (x := .cells C e) (n := C.size) hβ ?_, ?_, hw3 β (hβ' σ (.refl σ))⟩
        · rfl
        · refine ⟨rfl, by rw [← hrow.1], C, (0, 0), ?_, fun i _ => ?_, hrow.mono hle⟩
          · show (κ.w.heap.push _)[κ.w.heap.size]? = _
            simp
          · show (κ.w.alloc _).frozen? _ = _
            simp
        · refine .ms β 0 _ s _ C.size _ ?_ (Nat.le_refl _) (by omega)
          simp [K.named]
      cases H
      · exact own hw
      · exact own hw
      · exact obj hw
      · obtain ⟨β, hβ, hβ'⟩ := h.fresh
        have hle := (K.le_alloc h.bas (.cells C e) (· < C.size)).trans (K.le_named (κ := κ.alloc _ _) (β := β) hβ (κ.w.heap.size, 0, C.size))
        refine ⟨_, _, _, ?_, hle, h.newObj (x := .cells C e) (n := C.size) hβ ?_, ?_, hw β (hβ' σ (.refl σ))⟩
        · rfl
        · refine ⟨rfl, by rw [← hrow.1], C, (0, 0), ?_, fun i _ => ?_, hrow.mono hle⟩
          · show (κ.w.heap.push _)[κ.w.heap.size]? = _
            simp
          · show (κ.w.alloc _).frozen? _ = _
            simp
        · refine .mc β _ _ s _ C.size ?_ (by omega) (by omega)
          simp [K.named]
    · exact hw.elim
  · exact hw.elim
theorem first_of {y : AV} {v : Value} {ys : List (List AV)} {sz m : Nat} (hy : Rel κ y v) (he : elems y = some ys) (hz : ∀ e ∈ ys, e.length = sz) (hm : m ≤ ys.length) (hsz : 0 < sz) :
    (Builtin.lenOf v).run P κ.w = .ok ys.length κ.w ∧ ∃ news : List Value, (Builtin.firstCells sz m v).run P κ.w = .ok news.toArray κ.w ∧ RelRow κ (ys.take m).flatten news.toArray := by
  cases y <;> simp only [elems] at he
  case sl k es =>
    cases he
    rcases Q3w hy hz with ⟨rfl, rfl, _⟩ | ⟨a, c, rfl, rfl, _⟩ | ⟨b, n, c, g, rfl, hko, hn, hc, hs, hr, hrel⟩
    · simp at hm
      subst hm
      exact ⟨rfl, [], rfl, rfl, fun i x v hx => by simp at hx⟩
    · simp at hm
      subst hm
      exact ⟨rfl, [], by simp only [Builtin.firstCells, Nat.zero_mul]; exact run_loadCells κ.w a 0 (fun _ => undef) (fun j hj => absurd hj (by omega)), rfl, fun i x v hx => by simp at hx⟩
    · refine ⟨by rw [← hn]; rfl, (List.range (m * sz)).map g, ?_, ?_, fun i x v hx hv => ?_⟩
      · simp only [Builtin.firstCells]
        have : m * sz ≤ n * sz := Nat.mul_le_mul_right _ (by omega)
        exact run_loadCells κ.w b (m * sz) g (fun j hj => by rw [Q1m hs]; exact (hr j (by omega)).1)
      · rw [Q1y (fun e he => hz e (List.mem_of_mem_take he))]
        simp
        rw [Nat.min_eq_left hm]
      · rw [List.getElem?_toArray] at hv
        obtain ⟨hi, rfl⟩ := Q6n hv
        refine hrel i x ?_
        have h1 : i / sz < m := Nat.div_lt_of_lt_mul (by rw [Nat.mul_comm]; exact hi)
        have h3 : i / sz * sz + i % sz = i := by rw [Nat.mul_comm]; exact Nat.div_add_mod i sz
        have h4 := Q3g hz (i / sz) (i % sz) _ (List.getElem?_eq_getElem (show i / sz < ys.length by omega)) (Nat.mod_lt _ hsz)
        have h5 := Q3g (es := ys.take m) (fun e he => hz e (List.mem_of_mem_take he)) (i / sz) (i % sz) (ys[i / sz]'(by omega)) (by rw [List.getElem?_take, if_pos h1]; exact List.getElem?_eq_getElem _) (Nat.mod_lt _ hsz)
        rw [h3] at h4 h5
        rw [h4, ← h5]
        exact hx
  case val v' =>
    cases v' <;> simp at he
    case string s =>
      subst he
      cases hy
      rw [Q1f] at hm
      refine ⟨by rw [Q1f]; rfl, (s.data.toList.take m).map (fun b => Value.int .u8 b.toNat), ?_, ?_⟩
      · simp only [Builtin.firstCells, Sem.run_pure]
        congr 1
        apply Array.ext'
        rw [Array.toList_map, ByteArray.data_extract]
        simp [List.map_take]
      · have hfl : ((Q0z s).take m).flatten = (s.data.toList.take m).map fun b => AV.u8 b.toNat := by
          unfold Q0z
          rw [← List.map_take]
          induction s.data.toList.take m with
          | nil => rfl
          | cons b r ih => simp [ih]
        rw [hfl]
        refine ⟨by simp, fun i x v hx hv => ?_⟩
        rw [List.getElem?_map] at hx
        rw [List.getElem?_toArray, List.getElem?_map] at hv
        cases hb : (s.data.toList.take m)[i]? with
        | none => rw [hb] at hx; cases hx
        | some b => rw [hb] at hx hv; cases hx; cases hv; exact .val _
  all_goals cases he
theorem snd_copy {t tx ty : TypeId} {d s : AV} {u v : Value} (h : St κ σ) (hd : Rel κ d u) (hs : Rel κ s v) (hw : X3d P t d s σ R) :
    ∃ r w', (Builtin.copy_ #[t, tx] ty #[u, v]).run P κ.w = .ok r w' ∧ Post κ R r w' := by
  unfold X3d at hw
  split at hw
  · rename_i e β off n sz ys hd' hel
    split at hw
    · rename_i z s' b ety cs ht hσ
      obtain ⟨⟨rfl, h0, h1, h2, h3⟩, hw⟩ := hw
      cases hd with
      | ms _ _ _ _ b hi c hμ hn hh =>
        obtain ⟨k1, news, k2, k3⟩ := first_of (P := P) (m := Nat.min ys.length n) hs hel h1 (Nat.min_le_left _ _) h0
        have hfl : ((ys.take (Nat.min ys.length n)).flatten).length = Nat.min ys.length n * s' := by
          rw [Q1y (fun e he => h1 e (List.mem_of_mem_take he)), List.length_take, Nat.min_eq_left (Nat.min_le_left _ _)]
        have hmn : Nat.min ys.length n * s' ≤ n * s' := Nat.mul_le_mul_right _ (Nat.min_le_right _ _)
        have htk : ys.take (Nat.min ys.length n) = ys.take n := by
          rcases Nat.le_total ys.length n with h' | h'
          · rw [show Nat.min ys.length n = ys.length from Nat.min_eq_left h', List.take_of_length_le (Nat.le_refl _), List.take_of_length_le h']
          · rw [show Nat.min ys.length n = n from Nat.min_eq_right h']
        obtain ⟨g1, g2, g3⟩ := h.store (off := off) (xs := (ys.take (Nat.min ys.length n)).flatten) (vs := news) hσ hμ (by rw [hfl]; omega) (by simpa using k3.1) (fun i x u k4 k5 => k3.2 i x u k4 (by rw [List.getElem?_toArray]; exact k5))
        have hone : ∀ u ∈ news, u.oneCell' = true := fun u hu => by
          obtain ⟨i, hi, rfl⟩ := List.getElem_of_mem hu
          have hi' : i < (ys.take (Nat.min ys.length n)).flatten.length := by have := k3.1; simp only [List.size_toArray] at this; omega
          refine X3e (k3.2 i ((ys.take (Nat.min ys.length n)).flatten[i]) _ (List.getElem?_eq_getElem hi') (by rw [List.getElem?_toArray]; exact List.getElem?_eq_getElem hi)) ?_
          obtain ⟨e, he1, he2⟩ := List.mem_flatten.1 (List.getElem_mem hi')
          exact List.all_eq_true.1 (List.all_eq_true.1 h3 e (List.mem_of_mem_take he1)) _ he2
        refine ⟨.int .i64 (Nat.min ys.length n), (κ.wrote b off news fun _ => False).w, ?_, ⟨κ.wrote b off news fun _ => False, _, _, rfl, g1, g2, .val _, by rw [htk]; exact hw⟩⟩
        simp only [Builtin.copy_, Sem.run_bind, List.getElem?_toArray, List.getElem?_cons_zero, List.getElem?_cons_succ, Q0p hd', Result.andThen, k1, Q1g ht, k2]
        have := run_storeCells_cells (P := P) b off news 0 κ.w (fun j hj => (g3 j hj).1) (fun j hj => (g3 j hj).2) hone
        simp only [this, Sem.run_pure]
        rfl
    · exact hw.elim
  · rename_i e β n m sz ys hd' hel
    split at hw
    · rename_i z s' b ety cs ht hσ
      obtain ⟨⟨rfl, h0, h1, h2, h3⟩, hw⟩ := hw
      cases hd with
      | mc _ _ _ _ b hi hμ hn hh =>
        obtain ⟨k1, news, k2, k3⟩ := first_of (P := P) (m := Nat.min ys.length n) hs hel h1 (Nat.min_le_left _ _) h0
        have hfl : ((ys.take (Nat.min ys.length n)).flatten).length = Nat.min ys.length n * s' := by
          rw [Q1y (fun e he => h1 e (List.mem_of_mem_take he)), List.length_take, Nat.min_eq_left (Nat.min_le_left _ _)]
        have hmn : Nat.min ys.length n * s' ≤ n * s' := Nat.mul_le_mul_right _ (Nat.min_le_right _ _)
        have htk : ys.take (Nat.min ys.length n) = ys.take n := by
          rcases Nat.le_total ys.length n with h' | h'
          · rw [show Nat.min ys.length n = ys.length from Nat.min_eq_left h', List.take_of_length_le (Nat.le_refl _), List.take_of_length_le h']
          · rw [show Nat.min ys.length n = n from Nat.min_eq_right h']
        obtain ⟨g1, g2, g3⟩ := h.store (off := 0) (xs := (ys.take (Nat.min ys.length n)).flatten) (vs := news) hσ hμ (by rw [hfl]; omega) (by simpa using k3.1) (fun i x u k4 k5 => k3.2 i x u k4 (by rw [List.getElem?_toArray]; exact k5))
        have hone : ∀ u ∈ news, u.oneCell' = true := fun u hu => by
          obtain ⟨i, hi, rfl⟩ := List.getElem_of_mem hu
          have hi' : i < (ys.take (Nat.min ys.length n)).flatten.length := by have := k3.1; simp only [List.size_toArray] at this; omega
          refine X3e (k3.2 i ((ys.take (Nat.min ys.length n)).flatten[i]) _ (List.getElem?_eq_getElem hi') (by rw [List.getElem?_toArray]; exact List.getElem?_eq_getElem hi)) ?_
          obtain ⟨e, he1, he2⟩ := List.mem_flatten.1 (List.getElem_mem hi')
          exact List.all_eq_true.1 (List.all_eq_true.1 h3 e (List.mem_of_mem_take he1)) _ he2
        refine ⟨.int .i64 (Nat.min ys.length n), (κ.wrote b 0 news fun _ => False).w, ?_, ⟨κ.wrote b 0 news fun _ => False, _, _, rfl, g1, g2, .val _, by rw [htk]; exact hw⟩⟩
        simp only [Builtin.copy_, Sem.run_bind, List.getElem?_toArray, List.getElem?_cons_zero, List.getElem?_cons_succ, Q0p hd', Result.andThen, k1, Q1g ht, k2]
        have := run_storeCells_cells (P := P) b 0 news 0 κ.w (fun j hj => (g3 j hj).1) (fun j hj => (g3 j hj).2) hone
        simp only [this, Sem.run_pure]
        rfl
    · exact hw.elim
  · rename_i e k hd' hel
    obtain ⟨hi, _, rfl, hw⟩ := hw
    obtain ⟨⟨z, sz, by_⟩, ht⟩ := Option.isSome_iff_exists.1 hi
    obtain rfl : v = .slice none 0 0 := by
      cases hs with
      | slnil => rfl
      | slemp _ hk => rcases hk with hk | hk <;> cases hk
      | sl _ _ a n c sz f hk => exact hk.elim
    have key : ∀ (base : Option Addr) (c : Nat), (Builtin.copy_ #[t, tx] ty #[.slice base 0 c, .slice none 0 0]).run P κ.w = .ok (.int .i64 0) κ.w := fun base c => by
      simp only [Builtin.copy_, Sem.run_bind, List.getElem?_toArray, List.getElem?_cons_zero, List.getElem?_cons_succ, Q0p hd', Result.andThen, Builtin.lenOf, Sem.run_pure, Q1g ht, Builtin.firstCells]
      cases base <;> rfl
    cases hd with
    | slnil => exact ⟨_, κ.w, key _ _, Q0h h (.val _) hw⟩
    | slemp => exact ⟨_, κ.w, key _ _, Q0h h (.val _) hw⟩
    | sl _ _ a n c sz' f hk hn hc hs' hz hr hx =>
      have hn0 : n = 0 := by simpa using hn
      subst hn0
      exact ⟨_, κ.w, key _ _, Q0h h (.val _) hw⟩
  · exact hw.elim
theorem Q9z {kt : TypeDesc} {key : Value} (hk : (∃ k n, kt = .int k ∧ ∃ k', key = .int k' n) ∨ (kt = .string ∧ ∃ s, key = .string s)) : ∀ (es : List (Value × AV)) (arr : List MapEntry) (i : Nat), es.length = arr.length →
    (∀ (j : Nat) (k : Value) (x : AV) (m : MapEntry), es[j]? = some (k, x) → arr[j]? = some m → m.key = k ∧ Rel κ x m.val) → (∀ k x, (k, x) ∈ es → ∀ q a q' b, key = .int q a → k = .int q' b → q = q') → Q8o key es ≠ none →
    (Q8o key es = some none ∧ Instr.findNow kt key arr i = some none) ∨
    ∃ n x v, Q8o key es = some (some x) ∧ Instr.findNow kt key arr i = some (some (i + n, v)) ∧ Rel κ x v ∧ n < arr.length
  | [], [], i, _, _, _, _ => .inl ⟨rfl, rfl⟩
  | (k, x) :: es, m :: arr, i, hl, hr, hq, hne => by
    obtain ⟨h1, h2⟩ := hr 0 k x m rfl rfl
    have ih := Q9z hk es arr (i + 1) (by simpa using hl) (fun j k x m h3 h4 => hr (j + 1) k x m h3 h4) (fun k' x' hm => hq k' x' (by simp [hm]))
    simp only [Q8o] at hne ⊢
    simp only [Instr.findNow, h1]
    have heq : Q3u key k ≠ none → Instr.sameNow kt key k = Q3u key k := by
      intro hn
      rcases hk with ⟨k0, n, rfl, k', rfl⟩ | ⟨rfl, s, rfl⟩
      · cases k <;> simp only [Q3u] at hn ⊢
        case int q b =>
          have : k' = q := hq _ x (by simp) k' n q b rfl rfl
          subst this
          simp [Instr.sameNow]
          rfl
        all_goals exact absurd rfl hn
      · cases k <;> simp only [Q3u] at hn ⊢
        case string b =>
          simp only [Instr.sameNow]
          congr 1
          unfold sEq
          rw [show (s == b) = (s.data == b.data) from rfl]
          by_cases h : s = b
          · subst h; simp
          · rw [decide_eq_false h]; exact beq_false_of_ne (fun h' => h (ByteArray.ext h'))
        all_goals exact absurd rfl hn
    cases hv : Q3u key k with
    | none => rw [hv] at hne; exact absurd rfl hne
    | some b =>
      rw [heq (by rw [hv]; simp), hv]
      cases b with
      | true => exact .inr ⟨0, x, m.val, rfl, rfl, h2, by simp⟩
      | false =>
        rw [hv] at hne
        rcases ih hne with ⟨g1, g2⟩ | ⟨n, y, v, g1, g2, g3, g4⟩
        · exact .inl ⟨g1, g2⟩
        · exact .inr ⟨n + 1, y, v, g1, by rw [show i + (n + 1) = i + 1 + n by omega]; exact g2, g3, by simp; omega⟩
theorem Q4x {empty : Bool} {kt : TypeId} {d : TypeDesc} {key : Value} (hd : P.underlying kt = some d) (hk : (∃ k n, d = .int k ∧ ∃ k', key = .int k' n) ∨ (d = .string ∧ ∃ s, key = .string s)) (w : World) :
    (Instr.checkKey empty 10000 kt key).run P w = .ok () w := by
  have key' : ∀ n, (Instr.checkKey empty (n + 1) kt key).run P w = .ok () w := fun n => by
    rcases hk with ⟨k0, n, rfl, k', rfl⟩ | ⟨rfl, s, rfl⟩ <;> simp only [Instr.checkKey, Sem.run_bind, Q0p hd, Result.andThen, Sem.run_pure]
  exact key' 9999
theorem Q3x {b : Nat} {arr : Array MapEntry} {clock : Nat} {w : World} (h : w.heap[b]? = some (.map arr clock)) : (getObj b).run P w = .ok (.map arr clock) w := by
  simp [getObj, Sem.run, h]
theorem X0a {b : Nat} {arr : Array MapEntry} {clock : Nat} {o : Obj} {w : World} (h : w.heap[b]? = some (.map arr clock)) : (setObj b o).run P w = .ok () { w with heap := w.heap.setIfInBounds b o } := by
  simp [setObj, Sem.run, h]
theorem X3j : ∀ {cs : List AV} {vs us : List Value}, allV cs = some vs → cs.length = us.length → (∀ (i : Nat) (x : AV) (v : Value), cs[i]? = some x → us[i]? = some v → Rel κ x v) → us = vs
  | [], vs, us, h, hl, _ => by
    simp only [allV, Option.some.injEq] at h
    subst h
    exact List.eq_nil_of_length_eq_zero hl.symm
  | x :: cs, vs, [], h, hl, _ => by simp at hl
  | x :: cs, vs, u :: us, h, hl, hr => by
    cases x <;> simp only [allV] at h <;> first | (cases h; done) | skip
    rename_i v
    cases hc : allV cs with
    | none => rw [hc] at h; cases h
    | some ws =>
      rw [hc] at h
      cases h
      have h1 := hr 0 (.val v) u rfl rfl
      cases h1
      rw [X3j hc (by simpa using hl) (fun i x v h2 h3 => hr (i + 1) x v h2 h3)]
theorem rel_ofKey (κ : K) (v : Value) : Rel κ (ofKey v) v := by
  cases v <;> simp only [ofKey] <;> first | exact .val _ | skip
  rename_i cs
  refine .agg _ _ (by simp) (fun i x v h1 h2 => ?_)
  rw [List.getElem?_map] at h1
  rw [← Array.getElem?_toList] at h2
  rw [h2] at h1
  cases h1
  exact .val _
theorem X0u {α : Type} {f : α → PUnit → Sem (ForInStep PUnit)} : ∀ (l : List α) (u : PUnit) (w : World), (∀ x ∈ l, (f x PUnit.unit).run P w = .ok (.yield PUnit.unit) w) → (forIn l u f).run P w = .ok PUnit.unit w
  | [], _, _, _ => rfl
  | x :: l, u, w, h => by
    rw [List.forIn_cons]
    simp only [Sem.run_bind]
    rw [show u = PUnit.unit from rfl, h x (by simp)]
    exact X0u l _ w (fun y hy => h y (by simp [hy]))
theorem Q7g {empty : Bool} {kt : TypeId} {cs : List AV} {us : Array Value} (hk : keyOK P kt cs = true) (hr : RelRow κ cs us) (w : World) : (Instr.checkKey empty 10000 kt (.agg us)).run P w = .ok () w := by
  unfold keyOK at hk
  split at hk
  · rename_i fs hd
    have key : ∀ n, (Instr.checkKey empty (n + 2) kt (.agg us)).run P w = .ok () w := fun n => by
      rw [Instr.checkKey]
      simp only [Sem.run_bind, Q0p hd, Result.andThen]
      rw [← Array.forIn_toList, X0u _ _ w (fun f hf => ?_)]
      · rfl
      · have hkf := List.all_eq_true.1 hk f hf
        simp only [Bool.and_eq_true] at hkf
        obtain ⟨h1, h2⟩ := hkf
        obtain ⟨x, hx⟩ := Option.isSome_iff_exists.1 h1
        obtain ⟨v, hv, _⟩ := Q7e hr w hx
        by_cases hn : f.name ≠ "_"
        · rw [if_pos hn]
          simp only [Sem.run_bind, hv, Result.andThen]
          have hc : (Instr.checkKey empty (n + 1) f.type v).run P w = .ok () w := by
            rw [Instr.checkKey]
            split at h2 <;> first | (cases h2; done) | skip
            all_goals
              rename_i hu
              simp only [Sem.run_bind, Q0p hu, Result.andThen]
              rfl
          rw [hc]
          rfl
        · rw [if_neg hn]
          rfl
    exact key 9998
  · cases hk
theorem Q9e {kt : TypeId} {key : Value} (w : World) : ∀ (es : List (Value × AV)) (arr : List MapEntry) (i : Nat), es.length = arr.length →
    (∀ (j : Nat) (k : Value) (x : AV) (m : MapEntry), es[j]? = some (k, x) → arr[j]? = some m → m.key = k ∧ Rel κ x m.val) → Q7c P kt key es ≠ none →
    (Q7c P kt key es = some none ∧ (Instr.findAsking kt key arr i).run P w = .ok none w) ∨
    ∃ n x v, Q7c P kt key es = some (some x) ∧ (Instr.findAsking kt key arr i).run P w = .ok (some (i + n, v)) w ∧ Rel κ x v
  | [], [], i, _, _, _ => .inl ⟨rfl, rfl⟩
  | (k, x) :: es, m :: arr, i, hl, hr, hne => by
    obtain ⟨h1, h2⟩ := hr 0 k x m rfl rfl
    have ih := Q9e (kt := kt) (key := key) w es arr (i + 1) (by simpa using hl) (fun j k x m h3 h4 => hr (j + 1) k x m h3 h4)
    simp only [Q7c] at hne ⊢
    cases hv : vkeyS P kt key k with
    | none => rw [hv] at hne; exact absurd rfl hne
    | some b =>
      have he : (Op.equal kt key m.key).run P w = .ok b w := by
        rw [h1]
        exact Q6m 10000 kt _ _ _ _ b w hv (rel_ofKey κ key) (rel_ofKey κ k)
      rw [hv] at hne
      rw [Instr.findAsking]
      simp only [Sem.run_bind, he, Result.andThen]
      cases b with
      | true => exact .inr ⟨0, x, m.val, rfl, rfl, h2⟩
      | false =>
        rcases ih hne with ⟨g1, g2⟩ | ⟨n, y, v, g1, g2, g3⟩
        · exact .inl ⟨g1, g2⟩
        · exact .inr ⟨n + 1, y, v, g1, by rw [show i + (n + 1) = i + 1 + n by omega]; exact g2, g3⟩
theorem Q8g {kt : TypeId} {key : Value} {fs : Array Field} (hd : P.underlying kt = some (.struct fs)) (w : World) {es : List (Value × AV)} {arr : List MapEntry} (hl : es.length = arr.length)
    (hr : ∀ (j : Nat) (k : Value) (x : AV) (m : MapEntry), es[j]? = some (k, x) → arr[j]? = some m → m.key = k ∧ Rel κ x m.val) (hne : Q7c P kt key es ≠ none) :
    (Q7c P kt key es = some none ∧ (Instr.findKey kt key arr).run P w = .ok none w) ∨
    ∃ n x v, Q7c P kt key es = some (some x) ∧ (Instr.findKey kt key arr).run P w = .ok (some (n, v)) w ∧ Rel κ x v := by
  have hrun : (Instr.findKey kt key arr).run P w = (Instr.findAsking kt key arr 0).run P w := by
    simp only [Instr.findKey, Sem.run_bind, Q0p hd, Result.andThen]
    cases arr with
    | nil => rfl
    | cons m arr => rfl
  rw [hrun]
  rcases Q9e (κ := κ) w es arr 0 hl hr hne with h | ⟨n, x, v, h1, h2, h3⟩
  · exact .inl h
  · exact .inr ⟨_, x, v, h1, h2, h3⟩
theorem snd_lookup {t : TypeId} {m k : AV} {mv kv : Value} {ok : Bool} (h : St κ σ) (hm : Rel κ m mv) (hk : Rel κ k kv) (hw : Q9w P t m k ok σ (R · σ)) :
    ∃ u, (Instr.lookup t mv kv ok).run P κ.w = .ok u κ.w ∧ Post κ R u κ.w := by
  unfold Q9w at hw
  split at hw
  · rename_i kt e β key hd
    have hkv : kv = key := by cases hk; rfl
    rw [hkv]
    cases hm with
    | map _ b hi hμ =>
      have main : ∀ {d : TypeDesc} {es : List (Value × AV)} {z : Value} {n b' : Nat}, P.underlying kt = some d → ((∃ k n, d = .int k ∧ ∃ k', key = .int k' n) ∨ (d = .string ∧ ∃ s, key = .string s)) → σ β = some (.map es) → Q0m P e = some (some z, n, b') → Q9v key es →
          (match Q8o key es with | some (some x) => R (if ok = true then .tup [x, .b true] else x) σ | some none => R (if ok = true then .tup [ofValue z, .b false] else ofValue z) σ | none => False) →
          ∃ u, (Instr.lookup t (.map (some b)) key ok).run P κ.w = .ok u κ.w ∧ Post κ R u κ.w := by
        intro d es z n b' hkt hkk hσ ht hfit hw
        obtain ⟨b1, lo, hi1, g1, g2, g3, g4, arr, clock, g5, g6, g7⟩ := h.ob β _ hσ
        rw [hμ] at g1
        cases g1
        have hne : Q8o key es ≠ none := fun e => by rw [e] at hw; exact hw
        have hrun : ∀ (r : Option (Nat × Value)) (v : Value) (o : Bool), Instr.findNow d key arr.toList 0 = some r → (v, o) = (match r with | some (_, v) => (v, true) | none => (z, false)) →
            (Instr.lookup t (.map (some b)) key ok).run P κ.w = .ok (if ok = true then .tuple #[v, .bool o] else v) κ.w := by
          intro r v o hr hvo
          simp only [Instr.lookup, Sem.run_bind, Q0p hd, Result.andThen, Q3x g5, Sem.run_pure, Q4x hkt hkk, Instr.findKey, Q0p hkt, hr]
          cases r with
          | none =>
            simp only [Prod.mk.injEq] at hvo
            obtain ⟨rfl, rfl⟩ := hvo
            simp only [Sem.run_bind, Q6l ht, Result.andThen, Sem.run_pure]
          | some p =>
            obtain ⟨i, v'⟩ := p
            simp only [Prod.mk.injEq] at hvo
            obtain ⟨rfl, rfl⟩ := hvo
            rfl
        have tup2 : ∀ {x : AV} {v : Value} {o : Bool}, Rel κ x v → Rel κ (if ok = true then .tup [x, .b o] else x) (if ok = true then .tuple #[v, .bool o] else v) := fun {x v o} hx => by
          cases ok with
          | false => exact hx
          | true =>
            refine .tup _ _ rfl (fun i y u h1 h2 => ?_)
            match i with
            | 0 => simp at h1 h2; subst h1; subst h2; exact hx
            | 1 => simp at h1 h2; subst h1; subst h2; exact .val _
            | i + 2 => simp at h1
        rcases Q9z (κ := κ) hkk es arr.toList 0 (by simpa using g6) (fun j k x m h1 h2 => g7 j k x m h1 (by rw [← Array.getElem?_toList]; exact h2)) hfit hne with ⟨k1, k2⟩ | ⟨n, x, v, k1, k2, k3, _⟩
        · rw [k1] at hw
          exact ⟨_, hrun none z false k2 rfl, Q0h h (tup2 (Q8q κ z)) hw⟩
        · rw [k1] at hw
          exact ⟨_, hrun _ v true k2 rfl, Q0h h (tup2 k3) hw⟩
      split at hw
      · rename_i k1 k2 n es z n' b' hkt hσ ht
        exact main hkt (.inl ⟨k1, n, rfl, k2, rfl⟩) hσ ht hw.1 hw.2
      · rename_i s es z n' b' hkt hσ ht
        exact main hkt (.inr ⟨rfl, s, rfl⟩) hσ ht hw.1 hw.2
      · exact hw.elim
  · rename_i kt e β cs hd
    cases hk with
    | agg _ us hl hr =>
      cases hm with
      | map _ b hi hμ =>
        split at hw
        · rename_i vs es z n b' hv hσ ht
          have hus := X3j (us := us.toList) hv (by rw [Array.length_toList]; exact hl) (fun i x v h1 h2 => hr i x v h1 (by rw [← Array.getElem?_toList]; exact h2))
          have hus' : us = vs.toArray := by rw [← hus]
          subst hus'
          obtain ⟨hok, hw⟩ := hw
          obtain ⟨b1, lo, hi1, g1, g2, g3, g4, arr, clock, g5, g6, g7⟩ := h.ob β _ hσ
          rw [hμ] at g1
          cases g1
          have hne : Q7c P kt (.agg vs.toArray) es ≠ none := fun e => by rw [e] at hw; exact hw
          have hst : ∃ fs, P.underlying kt = some (.struct fs) := by
            unfold keyOK at hok
            split at hok
            · rename_i fs hu; exact ⟨fs, hu⟩
            · cases hok
          obtain ⟨fs, hkt⟩ := hst
          have hck : (Instr.checkKey arr.isEmpty 10000 kt (.agg vs.toArray)).run P κ.w = .ok () κ.w := Q7g hok ⟨hl, hr⟩ κ.w
          have tup2 : ∀ {x : AV} {v : Value} {o : Bool}, Rel κ x v → Rel κ (if ok = true then .tup [x, .b o] else x) (if ok = true then .tuple #[v, .bool o] else v) := fun {x v o} hx => by
            cases ok with
            | false => exact hx
            | true =>
              refine .tup _ _ rfl (fun i y u h1 h2 => ?_)
              match i with
              | 0 => simp at h1 h2; subst h1; subst h2; exact hx
              | 1 => simp at h1 h2; subst h1; subst h2; exact .val _
              | i + 2 => simp at h1
          rcases Q8g (κ := κ) (arr := arr.toList) hkt κ.w (by rw [Array.length_toList]; exact g6) (fun j k x m h1 h2 => g7 j k x m h1 (by rw [← Array.getElem?_toList]; exact h2)) hne with ⟨k1, k2⟩ | ⟨n, x, v, k1, k2, k3⟩
          · rw [k1] at hw
            refine ⟨if ok = true then .tuple #[z, .bool false] else z, ?_, Q0h h (tup2 (Q8q κ z)) hw⟩
            simp only [Instr.lookup, Sem.run_bind, Q0p hd, Result.andThen, Q3x g5, Sem.run_pure, hck, k2, Q6l ht]
          · rw [k1] at hw
            refine ⟨if ok = true then .tuple #[v, .bool true] else v, ?_, Q0h h (tup2 k3) hw⟩
            simp only [Instr.lookup, Sem.run_bind, Q0p hd, Result.andThen, Q3x g5, Sem.run_pure, hck, k2]
        · exact hw.elim
  · exact hw.elim
theorem vput_spec (key : Value) (x : AV) : ∀ (es : List (Value × AV)), Q8o key es ≠ none →
    (Q8o key es = some none ∧ vput key x es = es ++ [(key, x)]) ∨ ∃ n k y, Q8o key es = some (some y) ∧ es[n]? = some (k, y) ∧ Q3u key k = some true ∧ vput key x es = es.set n (k, x) ∧ ∀ m, m < n → ∀ k' y', es[m]? = some (k', y') → Q3u key k' = some false
  | [], _ => .inl ⟨rfl, rfl⟩
  | (k, y) :: es, hne => by
    simp only [Q8o] at hne ⊢
    simp only [vput]
    cases hv : Q3u key k with
    | none => rw [hv] at hne; exact absurd rfl hne
    | some b =>
      cases b with
      | true => exact .inr ⟨0, k, y, rfl, rfl, hv, by simp, fun m hm => absurd hm (by omega)⟩
      | false =>
        rw [hv] at hne
        simp only [Option.some.injEq, Bool.false_eq_true, if_false]
        rcases vput_spec key x es hne with ⟨g1, g2⟩ | ⟨n, k', y', g1, g2, g3, g4, g5⟩
        · exact .inl ⟨g1, by rw [g2]; rfl⟩
        · refine .inr ⟨n + 1, k', y', g1, g2, g3, by rw [g4]; rfl, fun m hm k'' y'' hk => ?_⟩
          cases m with
          | zero => simp at hk; rw [← hk.1]; exact hv
          | succ m => exact g5 m (by omega) k'' y'' hk
theorem findNow_at {d : TypeDesc} {key : Value} (hk : (∃ k n, d = .int k ∧ ∃ k', key = .int k' n) ∨ (d = .string ∧ ∃ s, key = .string s)) : ∀ (es : List (Value × AV)) (arr : List MapEntry) (i n : Nat) (k : Value) (y : AV), es.length = arr.length →
    (∀ (j : Nat) (k : Value) (x : AV) (m : MapEntry), es[j]? = some (k, x) → arr[j]? = some m → m.key = k) → Q9v key es → es[n]? = some (k, y) → Q3u key k = some true → (∀ m, m < n → ∀ k' y', es[m]? = some (k', y') → Q3u key k' = some false) →
    ∃ v, Instr.findNow d key arr i = some (some (i + n, v)) := by
  intro es
  induction es with
  | nil => intro arr i n k y _ _ _ h; simp at h
  | cons p es ih =>
    obtain ⟨k0, y0⟩ := p
    intro arr i n k y hl hr hq h1 h2 h3
    cases arr with
    | nil => simp at hl
    | cons m arr =>
      have hm := hr 0 k0 y0 m rfl rfl
      have heq : Q3u key k0 ≠ none → Instr.sameNow d key k0 = Q3u key k0 := by
        intro hn
        rcases hk with ⟨k0', n, rfl, k', rfl⟩ | ⟨rfl, s, rfl⟩
        · cases k0 <;> simp only [Q3u] at hn ⊢
          case int q b =>
            have : k' = q := hq _ y0 (by simp) k' n q b rfl rfl
            subst this
            simp [Instr.sameNow]
            rfl
          all_goals exact absurd rfl hn
        · cases k0 <;> simp only [Q3u] at hn ⊢
          case string b =>
            simp only [Instr.sameNow]
            congr 1
            unfold sEq
            rw [show (s == b) = (s.data == b.data) from rfl]
            by_cases h : s = b
            · subst h; simp
            · rw [decide_eq_false h]; exact beq_false_of_ne (fun h' => h (ByteArray.ext h'))
          all_goals exact absurd rfl hn
      simp only [Instr.findNow, hm]
      cases n with
      | zero =>
        simp at h1
        obtain ⟨rfl, rfl⟩ := h1
        rw [heq (by rw [h2]; simp), h2]
        exact ⟨_, rfl⟩
      | succ n =>
        have h0 := h3 0 (by omega) k0 y0 rfl
        rw [heq (by rw [h0]; simp), h0]
        obtain ⟨v, hv⟩ := ih arr (i + 1) n k y (by simpa using hl) (fun j k x m h4 h5 => hr (j + 1) k x m h4 h5) (fun k' x' hm' => hq k' x' (by simp [hm'])) h1 h2 (fun m hm' k' y' hk' => h3 (m + 1) (by omega) k' y' hk')
        exact ⟨v, by rw [show i + (n + 1) = i + 1 + n by omega]; exact hv⟩
theorem findNow_none {d : TypeDesc} {key : Value} {es : List (Value × AV)} {arr : List MapEntry} (hk : (∃ k n, d = .int k ∧ ∃ k', key = .int k' n) ∨ (d = .string ∧ ∃ s, key = .string s)) (hl : es.length = arr.length)
    (hr : ∀ (j : Nat) (k : Value) (x : AV) (m : MapEntry), es[j]? = some (k, x) → arr[j]? = some m → m.key = k ∧ Rel κ x m.val) (hq : Q9v key es) (h : Q8o key es = some none) : Instr.findNow d key arr 0 = some none := by
  rcases Q9z (κ := κ) hk es arr 0 hl hr hq (by rw [h]; simp) with ⟨_, h2⟩ | ⟨n, x, v, h1, _⟩
  · exact h2
  · rw [h] at h1; cases h1
theorem X3k {t : TypeId} {m k x : AV} {mv kv xv : Value} (h : St κ σ) (hm : Rel κ m mv) (hk : Rel κ k kv) (hx : Rel κ x xv) {R' : Sg → Prop} (hw : Q4s P t m k x σ R') :
    ∃ κ' σ', (Instr.mapUpdate t mv kv xv).run P κ.w = .ok () κ'.w ∧ κ.le κ' ∧ St κ' σ' ∧ R' σ' := by
  unfold Q4s at hw
  split at hw
  · rename_i kt e β key hd
    have hkv : kv = key := by cases hk; rfl
    rw [hkv]
    cases hm with
    | map _ b hi hμ =>
      have main : ∀ {d : TypeDesc} {es : List (Value × AV)}, P.underlying kt = some d → ((∃ k n, d = .int k ∧ ∃ k', key = .int k' n) ∨ (d = .string ∧ ∃ s, key = .string s)) → σ β = some (.map es) → Q9v key es → Q8o key es ≠ none → R' (σ.set β (.map (vput key x es))) →
          ∃ κ' σ', (Instr.mapUpdate t (.map (some b)) key xv).run P κ.w = .ok () κ'.w ∧ κ.le κ' ∧ St κ' σ' ∧ R' σ' := by
        intro d es hkt hkk hσ hfit hne hw
        obtain ⟨b1, lo, hi1, g1, g2, g3, g4, arr, clock, g5, g6, g7⟩ := h.ob β _ hσ
        rw [hμ] at g1
        cases g1
        have g7' : ∀ (j : Nat) (k : Value) (x : AV) (m : MapEntry), es[j]? = some (k, x) → arr.toList[j]? = some m → m.key = k ∧ Rel κ x m.val := fun j k x m h1 h2 => g7 j k x m h1 (by rw [← Array.getElem?_toList]; exact h2)
        rcases vput_spec key x es hne with ⟨k1, k2⟩ | ⟨n, k, y, k1, k2, k3, k4, k5⟩
        · have hf := findNow_none (κ := κ) hkk (by simpa using g6) g7' hfit k1
          obtain ⟨m1, m2⟩ := h.setMap (es' := vput key x es) (arr := arr.push { key, val := xv, born := clock }) (clock := clock + 1) hσ hμ (by rw [k2]; simp [g6]) (fun i k' x' m' h1 h2 => by
            rw [k2] at h1
            rcases Nat.lt_or_ge i es.length with hi' | hi'
            · rw [List.getElem?_append_left hi'] at h1
              rw [Array.getElem?_push_lt (by omega)] at h2
              exact g7 i k' x' m' h1 (by rw [← h2]; simp [show i < arr.size by omega])
            · rw [List.getElem?_append_right hi'] at h1
              have : i = es.length := by
                rcases Nat.lt_or_ge (i - es.length) 1 with h' | h'
                · omega
                · rw [List.getElem?_eq_none (by simpa using h')] at h1; cases h1
              subst this
              simp at h1
              rw [g6] at h2
              simp at h2
              obtain ⟨rfl, rfl⟩ := h1
              subst h2
              exact ⟨rfl, hx⟩)
          refine ⟨_, _, ?_, m1, m2, hw⟩
          simp only [Instr.mapUpdate, Sem.run_bind, Q0p hd, Result.andThen, Q3x g5, Q4x hkt hkk, Instr.findKey, Q0p hkt, hf, Sem.run_pure, X0a g5]
        · obtain ⟨v, hf⟩ := findNow_at hkk es arr.toList 0 n k y (by simpa using g6) (fun j k x m h1 h2 => (g7' j k x m h1 h2).1) hfit k2 k3 k5
          rw [Nat.zero_add] at hf
          have hn : n < arr.size := by
            rw [← g6]
            rcases Nat.lt_or_ge n es.length with h' | h'
            · exact h'
            · rw [List.getElem?_eq_none h'] at k2; cases k2
          have hkey : arr[n].key = k := (g7 n k y arr[n] k2 (by simp [hn])).1
          have hsame : k = key := by
            rcases hkk with ⟨k0', a, rfl, k', rfl⟩ | ⟨rfl, s, rfl⟩
            · cases k <;> simp only [Q3u] at k3 <;> first
                | (cases k3; done)
                | (rename_i q b'
                   have e1 : k' = q := hfit _ y (List.mem_of_getElem? k2) k' a q b' rfl rfl
                   simp at k3
                   rw [e1, k3])
            · cases k <;> simp only [Q3u] at k3 <;> first
                | (cases k3; done)
                | (simp [sEq] at k3
                   rw [k3])
          have hbits : Instr.sameBits 10000 key key = true := by
            rcases hkk with ⟨k0', a, rfl, k', rfl⟩ | ⟨rfl, s, rfl⟩
            · simp [Instr.sameBits]
            · simp only [Instr.sameBits]
              show (s.data == s.data) = true
              simp
          obtain ⟨m1, m2⟩ := h.setMap (es' := vput key x es) (arr := arr.modify n fun e => { e with key, val := xv }) (clock := clock) hσ hμ (by rw [k4]; simp [g6]) (fun i k' x' m' h1 h2 => by
            rw [k4] at h1
            rw [Array.getElem?_modify] at h2
            by_cases hin : n = i
            · subst hin
              rw [List.getElem?_set_self (by omega)] at h1
              simp [hn] at h1 h2
              obtain ⟨rfl, rfl⟩ := h1
              subst h2
              exact ⟨hsame.symm, hx⟩
            · rw [List.getElem?_set_ne hin] at h1
              rw [if_neg hin] at h2
              exact g7 i k' x' m' h1 h2)
          refine ⟨_, _, ?_, m1, m2, hw⟩
          simp only [Instr.mapUpdate, Sem.run_bind, Q0p hd, Result.andThen, Q3x g5, Q4x hkt hkk, Instr.findKey, Q0p hkt, hf, Sem.run_pure, Instr.keyThatStays]
          have hk0 : ((arr[n]?).map (·.key)).getD key = key := by simp [hn, hkey, hsame]
          rw [hk0, if_pos hbits]
          simp only [Sem.run_pure, X0a g5]
      split at hw
      · rename_i k1 k2 n es hkt hσ
        exact main hkt (.inl ⟨k1, n, rfl, k2, rfl⟩) hσ hw.1.1 hw.1.2 hw.2
      · rename_i s es hkt hσ
        exact main hkt (.inr ⟨rfl, s, rfl⟩) hσ hw.1.1 hw.1.2 hw.2
      · exact hw.elim
  · rename_i kt e β cs hd
    cases hk with
    | agg _ us hl hr =>
      cases hm with
      | map _ b hi hμ =>
        split at hw
        · rename_i vs es hv hσ
          have hus := X3j (us := us.toList) hv (by rw [Array.length_toList]; exact hl) (fun i x v h1 h2 => hr i x v h1 (by rw [← Array.getElem?_toList]; exact h2))
          have hus' : us = vs.toArray := by rw [← hus]
          subst hus'
          obtain ⟨⟨hok, hf⟩, hw⟩ := hw
          obtain ⟨b1, lo, hi1, g1, g2, g3, g4, arr, clock, g5, g6, g7⟩ := h.ob β _ hσ
          rw [hμ] at g1
          cases g1
          have hst : ∃ fs, P.underlying kt = some (.struct fs) := by
            unfold keyOK at hok
            split at hok
            · rename_i fs hu; exact ⟨fs, hu⟩
            · cases hok
          obtain ⟨fs, hkt⟩ := hst
          have hck : (Instr.checkKey false 10000 kt (.agg vs.toArray)).run P κ.w = .ok () κ.w := Q7g hok ⟨hl, hr⟩ κ.w
          rcases Q8g (κ := κ) (arr := arr.toList) hkt κ.w (by rw [Array.length_toList]; exact g6) (fun j k x m h1 h2 => g7 j k x m h1 (by rw [← Array.getElem?_toList]; exact h2)) (by rw [hf]; simp) with ⟨k1, k2⟩ | ⟨n, x, v, k1, k2, k3⟩
          · obtain ⟨m1, m2⟩ := h.setMap (es' := es ++ [(.agg vs.toArray, x)]) (arr := arr.push { key := .agg vs.toArray, val := xv, born := clock }) (clock := clock + 1) hσ hμ (by simp [g6]) (fun i k' x' m' h1 h2 => by
              rcases Nat.lt_or_ge i es.length with hi' | hi'
              · rw [List.getElem?_append_left hi'] at h1
                rw [Array.getElem?_push_lt (by omega)] at h2
                exact g7 i k' x' m' h1 (by rw [← h2]; simp [show i < arr.size by omega])
              · rw [List.getElem?_append_right hi'] at h1
                have : i = es.length := by
                  rcases Nat.lt_or_ge (i - es.length) 1 with h' | h'
                  · omega
                  · rw [List.getElem?_eq_none (by simpa using h')] at h1; cases h1
                subst this
                simp at h1
                rw [g6] at h2
                simp at h2
                obtain ⟨rfl, rfl⟩ := h1
                subst h2
                exact ⟨rfl, hx⟩)
            refine ⟨_, _, ?_, m1, m2, hw⟩
            simp only [Instr.mapUpdate, Sem.run_bind, Q0p hd, Result.andThen, Q3x g5, hck, k2, Sem.run_pure, X0a g5]
          · rw [hf] at k1; cases k1
        · exact hw.elim
  · exact hw.elim
end Go.V
