/- Every operation, every statement: what the abstract reading promises, the model does. -/
import Derived.Test.YtkbfngepdgdecaaV9
import Derived.Deep.LoopGhost
namespace Go.V
open Go.RowKit
variable {P : Program} {κ : K} {σ : Sg} {ρ : Nat → AV} {a : Act} {R : AV → Sg → Prop}

theorem done_value {s : Sem Value} {u : Value} {w' : World} (h : s.run P κ.w = .ok u w') (hp : Post κ R u w') : Done P κ R ((do pure (.value (← s)) : Sem Next).run P κ.w) := by
  simp only [Sem.run_bind, h, Result.andThen, Sem.run_pure]
  exact hp
theorem done_unit {s : Sem Unit} {w' : World} (h : s.run P κ.w = .ok () w') (hp : Post κ R undef w') : Done P κ R ((do s; pure .skip : Sem Next).run P κ.w) := by
  simp only [Sem.run_bind, h, Result.andThen, Sem.run_pure]
  exact hp

theorem relOpt_evals (hρ : RelEnv κ ρ a.tmps) (x : Option Operand) : RelOpt κ (x.map (ev ρ)) (x.map a.eval) := by
  cases x with
  | none => trivial
  | some x => exact rel_eval hρ x
theorem relParts_evals (hρ : RelEnv κ ρ a.tmps) (ps : Array (Nat × Operand)) : RelParts κ (ps.toList.map fun p => (p.1, ev ρ p.2)) ((ps.map fun (i, x) => (i, a.eval x)).toList) := by
  refine ⟨by simp, fun i p q h1 h2 => ?_⟩
  rw [Array.toList_map] at h2
  rw [List.getElem?_map] at h1 h2
  cases h : ps.toList[i]? with
  | none => rw [h] at h1; cases h1
  | some o =>
    rw [h] at h1 h2
    cases h1
    cases h2
    exact ⟨rfl, rel_eval hρ o.2⟩

theorem snd_pick {c x y : AV} {cv xv yv : Value} (h : St κ σ) (hc : Rel κ c cv) (hx : Rel κ x xv) (hy : Rel κ y yv) (hw : vpick c x y (R · σ)) :
    Done P κ R ((do pure (.value (if ← asBool cv then xv else yv)) : Sem Next).run P κ.w) := by
  unfold vpick at hw
  split at hw
  · rename_i t x y
    cases hc; cases hx; cases hy
    simp only [asBool, Sem.run_bind, Sem.run_pure, Result.andThen]
    refine post_same h ?_ hw
    cases t <;> exact .val _
  · rename_i x y t _
    cases hc
    simp only [asBool, Sem.run_bind, Sem.run_pure, Result.andThen]
    cases t with
    | true => exact post_same h hx (hw.1 rfl)
    | false => exact post_same h hy (hw.2 rfl)
  · exact hw.elim

theorem snd_un {op : UnOp} {x : AV} {v : Value} (h : St κ σ) (hx : Rel κ x v) (hw : vun op x (R · σ)) : ∃ u, (Op.unary op v).run P κ.w = .ok u κ.w ∧ Post κ R u κ.w := by
  unfold vun at hw
  split at hw
  · cases hx; exact ⟨_, rfl, post_same h (.val _) hw⟩
  · cases hx; exact ⟨_, rfl, post_same h (.val _) hw⟩
  · cases hx; exact ⟨_, rfl, post_same h (.val _) hw⟩
  · exact hw.elim

theorem snd_len {t : TypeId} {tys : Array TypeId} {ty : TypeId} {x : AV} {v : Value} (h : St κ σ) (hx : Rel κ x v) (ht : tys[0]? = some t) {d : TypeDesc} (hd : P.underlying t = some d) (hdd : vlenOK d x = true) (hw : vlen x σ (R · σ)) :
    ∃ u, (Builtin.len_ tys ty #[v]).run P κ.w = .ok u κ.w ∧ Post κ R u κ.w := by
  unfold vlen at hw
  split at hw
  · rename_i s
    cases hx
    cases d <;> simp only [vlenOK] at hdd <;> first
      | (cases hdd; done)
      | exact ⟨_, by simp [Builtin.len_, ht, run_und hd]; rfl, post_same h (.val _) hw⟩
  · rename_i k es
    cases d <;> simp only [vlenOK] at hdd <;> (try (cases hdd; done))
    cases hx with
    | slnil => exact ⟨_, by simp [Builtin.len_, ht, run_und hd]; rfl, post_same h (.val _) hw⟩
    | slemp => exact ⟨_, by simp [Builtin.len_, ht, run_und hd]; rfl, post_same h (.val _) hw⟩
    | sl _ _ b n c sz f hk hn =>
      rw [← hn] at hw
      exact ⟨_, by simp [Builtin.len_, ht, run_und hd]; rfl, post_same h (.val _) hw⟩
  · cases d <;> simp only [vlenOK] at hdd <;> (try (cases hdd; done))
    cases hx
    exact ⟨_, by simp [Builtin.len_, ht, run_und hd]; rfl, post_same h (.val _) hw⟩
  · rename_i β
    split at hw
    · rename_i es hσ
      cases d <;> simp only [vlenOK] at hdd <;> (try (cases hdd; done))
      cases hx with
      | map _ b hi hμ =>
        obtain ⟨b1, lo, hi1, g1, g2, g3, g4, arr, clock, g5, g6, g7⟩ := h.ob β _ hσ
        rw [hμ] at g1
        cases g1
        rw [g6] at hw
        exact ⟨_, by simp [Builtin.len_, ht, run_und hd, run_getObj g5]; rfl, post_same h (.val _) hw⟩
    · exact hw.elim
  · exact hw.elim

theorem snd_min {lt : Bool} {x y : AV} {u v : Value} (h : St κ σ) (hx : Rel κ x u) (hy : Rel κ y v) (hw : vmin lt x y (R · σ)) (ts : Array TypeId) (ty : TypeId) :
    ∃ r, (if lt = true then Builtin.min_ ts ty #[u, v] else Builtin.max_ ts ty #[u, v]).run P κ.w = .ok r κ.w ∧ Post κ R r κ.w := by
  unfold vmin at hw
  split at hw
  · obtain ⟨rfl, hw⟩ := hw
    cases hx; cases hy
    cases lt with
    | true => exact ⟨_, by simp [Builtin.min_, Builtin.min2], post_same h (.val _) hw⟩
    | false => exact ⟨_, by simp [Builtin.max_, Builtin.max2], post_same h (.val _) hw⟩
  · exact hw.elim

theorem relRow1 {x : AV} {us : Array Value} (h : RelRow κ [x] us) : ∃ v, us = #[v] ∧ Rel κ x v := by
  have hl : us.size = 1 := h.1.symm
  refine ⟨us[0], ?_, h.2 0 x _ rfl (by simp [hl])⟩
  apply Array.ext (by simp [hl])
  intro i h1 h2
  have : i = 0 := by omega
  subst this
  rfl
theorem relRow2 {x y : AV} {us : Array Value} (h : RelRow κ [x, y] us) : ∃ u v, us = #[u, v] ∧ Rel κ x u ∧ Rel κ y v := by
  have hl : us.size = 2 := h.1.symm
  refine ⟨us[0], us[1], ?_, h.2 0 x _ rfl (by simp [hl]), h.2 1 y _ rfl (by simp [hl])⟩
  apply Array.ext (by simp [hl])
  intro i h1 h2
  match i with
  | 0 => rfl
  | 1 => rfl
  | i + 2 => omega

theorem liesAt_off {e : TypeId} (hc : P.cellsOf e = 1) (count off n : Nat) (hn : off + n ≤ count) : liesAt P P.depth e count off e n = true := by
  have hd : P.depth = (2 * (P.types.size + Made.depth) + 1) + 1 := rfl
  rw [hd]
  simp only [liesAt, Bool.or_eq_true]
  left
  rw [hd]
  simp [rowAt, hc, hn, sameLayout, Nat.mod_one]

theorem run_unsafeString_off {w : World} {ts : Array TypeId} {pt ty e : TypeId} (ht : ts[0]? = some pt) (hp : P.underlying pt = some (.pointer e)) (hc : P.cellsOf e = 1) {b o cells : Nat} (hsh : w.shape? b = some (e, cells)) {l : List UInt8} (h0 : l ≠ []) (hn : o + l.length ≤ cells) (h63 : (l.length : Int) ≤ 9223372036854775807)
    (hcell : ∀ j x, l[j]? = some x → w.cell? ((⟨b, o, none⟩ : Addr).add j) = some (.int .u8 x.toNat)) :
    (Builtin.unsafeString_ ts ty #[.pointer (some ⟨b, o, none⟩), .int .i64 l.length]).run P w = .ok (.string ⟨l.toArray⟩) (w.freeze ⟨b, o, none⟩ l.length) := by
  have hl : l.length ≠ 0 := by simpa using h0
  have hlb := Lib.run_loadBytes (P := P) w l ⟨b, o, none⟩ .empty hcell
  have hlies := liesAt_off (P := P) hc (cells / P.cellsOf e) o l.length (by rw [hc]; simpa using hn)
  have h63' : ¬ (9223372036854775807 : Int) < (l.length : Int) := by omega
  have hdef : Builtin.unsafeString_ ts ty #[.pointer (some ⟨b, o, none⟩), .int .i64 l.length] =
      (do
        let n ← asInt (.int .i64 l.length)
        let some pt := ts[0]? | stuck "unsafe.String: no argument types"
        if n < 0 then runtimePanic (.error "unsafe.String: len out of range")
        if n > IntKind.i64.max then unsupported (.unsafePointer "String: a length above the largest int")
        if n = 0 then pure (.string .empty)
        else if ← variablesAt ⟨b, o, none⟩ (← elemOf pt) n.toNat then do
          let s ← loadBytes ⟨b, o, none⟩ .empty n.toNat
          freeze ⟨b, o, none⟩ n.toNat
          pure (.string s)
        else unsupported (.unsafePointer "String: not so many bytes at ptr")) := rfl
  rw [hdef]
  have hmax : IntKind.i64.max = 9223372036854775807 := rfl
  have hneg : ¬ (l.length : Int) < 0 := by omega
  simp [asInt, asIntOf, hmax, h63', hneg, hl, variablesAt, hsh, elemOf, run_underlying hp, hlies, hlb, ht]

/-- Bytes ahead of a room are frozen: nothing that the store says is touched. -/
theorem St.freeze (h : St κ σ) {τ b lo hi o n : Nat} {e : TypeId} (hτ : σ τ = some (.tok (some e))) (hμ : κ.μ τ = some (b, lo, hi)) (hlt : lo < hi) (hn : n ≠ 0) (ho : o + n = lo) :
    κ.le { κ with w := κ.w.freeze ⟨b, o, none⟩ n } ∧ St { κ with w := κ.w.freeze ⟨b, o, none⟩ n } σ := by
  obtain ⟨b', lo', hi', h1, h2, h3⟩ := h.ob τ _ hτ
  rw [hμ] at h1
  cases h1
  obtain ⟨c, t, fz, k1, k2, k3, k4⟩ := h3 hlt
  obtain ⟨ht, hfz⟩ := k4 e rfl
  obtain ⟨f1, f2⟩ := fz
  simp only at hfz
  have hM : κ.M b lo := h2 lo (Nat.le_refl _) hlt
  have hself : ∃ g1 g2, (κ.w.freeze ⟨b, o, none⟩ n).heap[b]? = some (.cells c t (g1, g2)) ∧ g2 ≤ lo := by
    unfold World.freeze
    rw [if_neg hn]
    simp only [Array.getElem?_modify, if_true, k1, Option.map_some]
    by_cases hf : f1 = f2
    · subst hf
      exact ⟨o, o + n, by simp, by omega⟩
    · refine ⟨min f1 o, max f2 (o + n), by simp [hf], ?_⟩
      have := hfz.resolve_left hf
      omega
  have hother : ∀ b', b' ≠ b → (κ.w.freeze ⟨b, o, none⟩ n).heap[b']? = κ.w.heap[b']? := fun b' hb => by
    unfold World.freeze
    rw [if_neg hn]
    simp [Array.getElem?_modify, Ne.symm hb]
  have hsize : (κ.w.freeze ⟨b, o, none⟩ n).heap.size = κ.w.heap.size := by
    unfold World.freeze
    rw [if_neg hn]
    simp
  have hrest : (κ.w.freeze ⟨b, o, none⟩ n).os = κ.w.os ∧ (κ.w.freeze ⟨b, o, none⟩ n).tape = κ.w.tape ∧ (κ.w.freeze ⟨b, o, none⟩ n).output = κ.w.output := by
    unfold World.freeze
    rw [if_neg hn]
    exact ⟨rfl, rfl, rfl⟩
  obtain ⟨g1, g2, hs, hg⟩ := hself
  have hle : κ.le { κ with w := κ.w.freeze ⟨b, o, none⟩ n } := by
    refine ⟨hrest.1, hrest.2.1, hrest.2.2, by simp [hsize], fun b' x hb' hm => ⟨?_, hm⟩, rfl, fun b' hb' => hother b' (fun e => ?_), fun _ _ g => g⟩
    · by_cases e : b' = b
      · subst e
        simp [World.cell?, hs, k1]
      · exact World.cell?_of_block (w := κ.w) (hother b' e)
    · have := (h.mlt _ _ hM).1
      omega
  refine ⟨hle, ⟨fun β' ob hob => ?_, h.apart, h.fin, fun b' x hm => by have := h.mlt b' x hm; simpa [hsize] using this, by have := h.bas; simpa [hsize] using this⟩⟩
  obtain ⟨b1, lo1, hi1, q1, q2, q3⟩ := h.ob β' ob hob
  refine ⟨b1, lo1, hi1, q1, q2, ?_⟩
  by_cases eb : b1 = b
  · subst eb
    by_cases eβ : β' = τ
    · subst eβ
      rw [hμ] at q1
      cases q1
      rw [hτ] at hob
      cases hob
      intro _
      refine ⟨c, t, (g1, g2), hs, k2, fun i hi1 hi2 => ?_, fun t' ht' => ⟨(k4 t' ht').1, .inr hg⟩⟩
      simp only [World.frozen?, hs]
      simp
      omega
    · have hap := h.apart τ β' _ _ b1 lo hi lo1 hi1 (Ne.symm eβ) hτ hob hμ q1
      cases ob with
      | cells t2 cs =>
        obtain ⟨w1, w2, c2, fz2, w3, w4, w5⟩ := q3
        rw [k1] at w3
        cases w3
        refine ⟨w1, w2, c, (g1, g2), hs, fun i hi => ?_, w5.mono hle⟩
        have := w5.1
        omega
      | tok e2 => exact fun hl => by omega
      | map es =>
        obtain ⟨w1, w2, arr, clock, w3, _⟩ := q3
        rw [k1] at w3
        cases w3
  · exact q3.keep hle (hother b1 eb)

theorem snd_sliceData {ts : Array TypeId} {ty e : TypeId} {τ s : Nat} {es : List (List AV)} {v : Value} {ot : Option TypeId} (h : St κ σ) (hx : Rel κ (.sl (.tok τ s) es) v) (hd : P.underlying ty = some (.pointer e)) (hσ : σ τ = some (.tok ot)) (hs : s = 1) (hz : ∀ e ∈ es, e.length = 1) (hw : R (.bp τ es) σ) :
    ∃ u w', (Builtin.unsafeSliceData_ ts ty #[v]).run P κ.w = .ok u w' ∧ Post κ R u w' := by
  subst hs
  rcases flat_of_rel hx hz with ⟨rfl, rfl, _⟩ | ⟨_, _, rfl, rfl, hkk⟩ | ⟨b, n, c, g, rfl, hko, hn, hc, hsp, hr, hrel⟩
  · exact ⟨_, κ.w, Lib.run_unsafeSliceData_nil κ.w ts ty 0 0, post_same h (.bp0 τ none) hw⟩
  · rcases hkk with h | h <;> cases h
  · have hko2 := hko.2
    have hko1 : (Own.tok τ 1).size 1 = 1 := rfl
    rw [hko1] at hko2
    by_cases hc0 : c = 0
    · subst hc0
      have he : es = [] := List.eq_nil_of_length_eq_zero (by omega)
      subst he
      obtain ⟨b', lo, hi, h1, h2, h3⟩ := h.ob τ _ hσ
      rw [hko2] at h1
      cases h1
      obtain ⟨cc, t, fz, k1, _⟩ := h3 (by omega)
      refine ⟨_, _, Lib.run_unsafeSliceData_zero κ.w ts ty e hd b n (t, cc.size) (by simp [World.shape?, k1]), ?_⟩
      refine ⟨κ.alloc (.view b e) (fun _ => False), _, σ, rfl, K.le_alloc h.bas _ _, h.alloc _ _, .bp0 τ _, hw⟩
    · refine ⟨_, κ.w, Lib.run_unsafeSliceData_row κ.w ts ty b n c hc0, post_same h ?_ hw⟩
      refine .bp τ es b n (b.off + c * 1 + 1) g hn hsp (by simpa using hko2) (by omega) (fun i hi => hr i (by omega)) (fun i x hi => hrel i x ?_)
      have := flatten_get hz i 0 [x] hi (by omega)
      simpa using this

theorem snd_unsafeString {ts : Array TypeId} {pt ty e : TypeId} {τ n by_ : Nat} {z : Option Value} {b : ByteArray} {v : Value} (h : St κ σ) (hx : Rel κ (.bp τ (bytesAV b)) v) (ht : ts[0]? = some pt) (hd : P.underlying pt = some (.pointer e)) (hi : tInfo P e = some (z, n, by_)) (hn1 : n = 1)
    (hsz : (b.size : Int) ≤ 9223372036854775807) (hσ : bytesAV b = [] ∨ σ τ = some (.tok (some e))) (hw : R (.s b) σ) :
    ∃ u w', (Builtin.unsafeString_ ts ty #[v, .int .i64 b.size]).run P κ.w = .ok u w' ∧ Post κ R u w' := by
  have empty : ∀ p, b.size = 0 → ∃ u w', (Builtin.unsafeString_ ts ty #[.pointer p, .int .i64 b.size]).run P κ.w = .ok u w' ∧ Post κ R u w' := by
    intro p h0
    have hb : b = .empty := ByteArray.ext (Array.eq_empty_of_size_eq_zero h0)
    subst hb
    refine ⟨.string .empty, κ.w, ?_, post_same h (.val _) hw⟩
    have := Lib.run_unsafeString_none (P := P) κ.w pt pt ty p
    rw [← this]
    unfold Builtin.unsafeString_
    rw [ht]
    rfl
  generalize hes : bytesAV b = es at hx hσ
  cases hx with
  | bp0 _ p => exact empty p (by rw [← bytesAV_length, hes]; rfl)
  | bp _ _ a m hi' f hn hs hμ hlt hr hrel =>
    obtain ⟨ab, ao, as⟩ := a
    simp only at hs
    subst hs
    dsimp only at hμ hlt hr
    have hm : m = b.size := by rw [hn, ← hes, bytesAV_length]
    by_cases h0 : b.size = 0
    · exact empty _ h0
    · have hne : es ≠ [] := fun e => h0 (by rw [← bytesAV_length, hes, e]; rfl)
      have hτ := hσ.resolve_left hne
      obtain ⟨b', lo, hi2, g1, g2, g3⟩ := h.ob τ _ hτ
      rw [hμ] at g1
      cases g1
      obtain ⟨c, t, fz, k1, k2, k3, k4⟩ := g3 hlt
      obtain ⟨rfl, _⟩ := k4 e rfl
      have hc1 : P.cellsOf e = 1 := by
        unfold Program.cellsOf
        unfold tInfo at hi
        cases hj : P.info? e with
        | none => rw [hj] at hi; cases hi
        | some j => rw [hj] at hi; simp at hi; simp [hi.2.1, hn1]
      have hl : b.data.toList.length = b.size := by simp
      have hrun := run_unsafeString_off (P := P) (w := κ.w) (ty := ty) ht hd hc1 (b := ab) (o := ao) (cells := c.size) (by simp [World.shape?, k1]) (l := b.data.toList) (by intro hh; rw [hh] at hl; simp at hl; omega) (by rw [hl]; omega) (by rw [hl]; exact hsz) (fun j x hj => by
        have hjm : j < m := by
          rw [hm, ← hl]
          rcases Nat.lt_or_ge j b.data.toList.length with h' | h'
          · exact h'
          · rw [List.getElem?_eq_none h'] at hj; cases hj
        rw [addr_add (b := ⟨ab, ao, none⟩) rfl]
        rw [(hr j hjm).1]
        have := hrel j (AV.u8 x.toNat) (by rw [← hes]; unfold bytesAV; rw [List.getElem?_map, hj]; rfl)
        generalize f j = q at this
        cases this
        rfl)
      rw [hl] at hrun
      obtain ⟨q1, q2⟩ := h.freeze (o := ao) (n := b.size) hτ hμ hlt h0 (by omega)
      exact ⟨_, _, hrun, ⟨_, _, σ, rfl, q1, q2, .val _, hw⟩⟩

theorem vbuiltin_sound {b : Builtin} {vs : List AV} {us : Array Value} {ts : Array TypeId} {ty : TypeId} {cs : Array Bool} (h : St κ σ) (hr : RelRow κ vs us) (hw : vbuiltin P b vs ts ty σ R) : Done P κ R ((builtin b ts ty cs us).run P κ.w) := by
  unfold vbuiltin at hw
  split at hw
  · rename_i x
    obtain ⟨v, rfl, hx⟩ := relRow1 hr
    split at hw
    · rename_i d hd
      obtain ⟨hd1, hw⟩ := hw
      cases ht : ts[0]? with
      | none => rw [ht] at hd; cases hd
      | some t =>
        rw [ht] at hd
        obtain ⟨u, h1, h2⟩ := snd_len (P := P) (tys := ts) (ty := ty) h hx ht hd hd1 hw
        exact done_value h1 h2
    · exact hw.elim
  · rename_i x y
    obtain ⟨u, v, rfl, hx, hy⟩ := relRow2 hr
    have ty2 : ∀ {e : TypeId} {d : TypeDesc}, (ts[0]?).bind P.underlying = some (.slice e) → (ts[1]?).bind P.underlying = some d → ∃ t tx, ts[0]? = some t ∧ ts[1]? = some tx ∧ P.underlying t = some (.slice e) ∧ P.underlying tx = some d := fun {e d} h1 h2 => by
      cases ht : ts[0]? with
      | none => rw [ht] at h1; cases h1
      | some t =>
        cases ht2 : ts[1]? with
        | none => rw [ht2] at h2; cases h2
        | some tx => exact ⟨t, tx, rfl, rfl, by rw [ht] at h1; exact h1, by rw [ht2] at h2; exact h2⟩
    have main : ∀ {e : TypeId} {d : TypeDesc}, (ts[0]?).bind P.underlying = some (.slice e) → (ts[1]?).bind P.underlying = some d → ((∃ e', d = .slice e') ∨ d = .string) → vappend P e x y σ R →
        Done P κ R ((builtin .append ts ty cs #[u, v]).run P κ.w) := by
      intro e d h1 h2 hd hw
      obtain ⟨t, tx, k1, k2, k3, k4⟩ := ty2 h1 h2
      obtain ⟨r, w', g1, g2⟩ := snd_append (t := t) (tx := tx) (ty := ty) h hx hy k3 (by rcases hd with ⟨e', rfl⟩ | rfl; exact .inl ⟨e', k4⟩; exact .inr k4) hw
      have hsame : Builtin.append_ ts ty #[u, v] = Builtin.append_ #[t, tx] ty #[u, v] := by
        unfold Builtin.append_
        rw [k1, k2]
        rfl
      exact done_value (by rw [hsame]; exact g1) g2
    split at hw
    · rename_i e e' h1 h2; exact main h1 h2 (.inl ⟨_, rfl⟩) hw
    · rename_i e h1 h2; exact main h1 h2 (.inr rfl) hw
    · exact hw.elim
  · rename_i d s
    obtain ⟨u, v, rfl, hx, hy⟩ := relRow2 hr
    split at hw
    · rename_i t ht
      obtain ⟨r, w', g1, g2⟩ := snd_copy (t := t) (tx := t) (ty := ty) h hx hy hw
      have hsame : Builtin.copy_ ts ty #[u, v] = Builtin.copy_ #[t, t] ty #[u, v] := by
        unfold Builtin.copy_
        rw [ht]
        rfl
      exact done_value (by rw [hsame]; exact g1) g2
    · exact hw.elim
  · obtain ⟨u, v, rfl, hx, hy⟩ := relRow2 hr
    obtain ⟨r, g1, g2⟩ := snd_min (P := P) (lt := true) h hx hy hw ts ty
    simp only [if_true] at g1
    exact done_value g1 g2
  · obtain ⟨v, rfl, hx⟩ := relRow1 hr
    split at hw
    · rename_i e τ s es hd
      split at hw
      · rename_i ot hσ
        obtain ⟨r, w', g1, g2⟩ := snd_sliceData (ts := ts) h hx hd hσ hw.1.1 hw.1.2 hw.2
        exact done_value g1 g2
      · exact hw.elim
    · rename_i e es hd
      obtain ⟨rfl, hw⟩ := hw
      cases hx with
      | sl _ _ _ _ _ _ _ hk => exact hk.elim
      | slemp _ hk => rcases hk with h | h <;> cases h
      | slnil => exact done_value (Lib.run_unsafeSliceData_nil κ.w ts ty 0 0) (post_same h (.bp0 0 none) hw)
    · exact hw.elim
  · rename_i τ es n
    obtain ⟨u, v, rfl, hx, hy⟩ := relRow2 hr
    split at hw
    · rename_i e hd
      split at hw
      · rename_i z s by_ hi
        obtain ⟨b, ⟨rfl, rfl, rfl, hsz⟩, hσ, hw⟩ := hw
        cases hy
        cases ht : ts[0]? with
        | none => rw [ht] at hd; cases hd
        | some pt =>
          rw [ht] at hd
          obtain ⟨r, w', g1, g2⟩ := snd_unsafeString (ty := ty) h hx ht hd hi rfl hsz hσ hw
          exact done_value g1 g2
      · exact hw.elim
    · exact hw.elim
  · obtain ⟨u, v, rfl, hx, hy⟩ := relRow2 hr
    obtain ⟨r, g1, g2⟩ := snd_min (P := P) (lt := false) h hx hy hw ts ty
    simp only [Bool.false_eq_true, if_false] at g1
    exact done_value g1 g2
  · exact hw.elim

theorem vcall_sound {c : Call} {ty : TypeId} (h : St κ σ) (hρ : RelEnv κ ρ a.tmps) (hw : vcall P ρ ty c σ R) : Done P κ R ((do let d ← resolve a.eval c ty; invoke d.target d.args : Sem Next).run P κ.w) := by
  obtain ⟨callee, args, argTypes⟩ := c
  unfold vcall at hw
  cases callee with
  | invoke r m => exact hw.elim
  | value f =>
    simp only at hw
    have hf := rel_eval hρ f
    split at hw
    · rename_i g cap hev
      rw [hev] at hf
      generalize hfv : a.eval f = fv at hf
      cases hf with
      | fn _ _ vs hl hrel =>
        have hrow : RelArgs κ (args.toList.map (ev ρ) ++ cap) (args.map a.eval ++ vs) := (relRow_evals hρ args).append ⟨hl, hrel⟩
        have := hw.go κ _ h hrow
        simp only [resolve, hfv, Deferred.ofValue, Sem.run_bind, Sem.run_pure, Result.andThen, invoke, Array.empty_append]
        exact this
    · exact hw.elim
  | builtin b =>
    simp only at hw
    simp only [resolve, Sem.run_bind, Sem.run_pure, Result.andThen, invoke]
    exact vbuiltin_sound h (relRow_evals hρ args) hw

theorem vop_sound {H : Hint} {o : Oper} (h : St κ σ) (hρ : RelEnv κ ρ a.tmps) (hw : vop P H ρ o.type o.op σ R) : Done P κ R ((execOp a.eval o).run P κ.w) := by
  obtain ⟨dst, op, type, pos, after, guard⟩ := o
  simp only at hw
  cases op <;> simp only [vop] at hw <;> (try exact hw.elim)
  case move x => exact post_same h (rel_eval hρ x) hw
  case assign x => exact post_same h (rel_eval hρ x) hw
  case pick c x y => exact snd_pick h (rel_eval hρ c) (rel_eval hρ x) (rel_eval hρ y) hw
  case alloc e =>
    split at hw
    · rename_i z n b ht
      obtain ⟨u, w', h1, h2⟩ := snd_alloc ht h hw
      exact done_value h1 h2
    · exact hw.elim
  case box e x =>
    obtain ⟨u, w', h1, h2⟩ := snd_box (P := P) (e := e) h (rel_cells (rel_eval hρ x) hw.1) hw.2
    exact done_value h1 h2
  case build t parts =>
    obtain ⟨u, h1, h2⟩ := snd_build h (relParts_evals hρ parts) hw
    exact done_value h1 h2
  case buildSlice t len parts =>
    obtain ⟨u, w', h1, h2⟩ := snd_buildSlice h (relParts_evals hρ parts) hw
    exact done_value h1 h2
  case load t x =>
    obtain ⟨u, h1, h2⟩ := snd_load h (rel_eval hρ x) hw
    exact done_value h1 h2
  case store t x y =>
    obtain ⟨κ', σ', h1, h2, h3, h4⟩ := snd_store h (rel_eval hρ x) (rel_eval hρ y) hw
    exact done_unit h1 ⟨κ', _, σ', rfl, h2, h3, .val _, h4⟩
  case nilCheck x =>
    have hx := rel_eval hρ x
    split at hw
    · rename_i cs hev
      rw [hev] at hx
      simp only [execOp]
      generalize a.eval x = v at hx
      cases hx with
      | ro _ b f hs hr hrel => exact post_same h (.ro cs b f hs hr hrel) hw
    · rename_i β off hev
      rw [hev] at hx
      simp only [execOp]
      generalize a.eval x = v at hx
      cases hx with
      | ref _ _ b hi hμ => exact post_same h (.ref β off b hi hμ) hw
    · rename_i f cap hev
      rw [hev] at hx
      simp only [execOp]
      generalize a.eval x = v at hx
      cases hx with
      | fn _ _ vs hl hrel => exact post_same h (.fn f cap vs hl hrel) hw
    · exact hw.elim
  case binOp op t x y yt =>
    obtain ⟨u, h1, h2⟩ := snd_binop (xo := x) (yo := y) h (rel_eval hρ x) (rel_eval hρ y) hw
    exact done_value h1 h2
  case unOp op t x =>
    obtain ⟨u, h1, h2⟩ := snd_un (P := P) h (rel_eval hρ x) hw
    exact done_value h1 h2
  case convert s d x =>
    obtain ⟨u, w', h1, h2⟩ := snd_conv h (rel_eval hρ x) hw
    exact done_value h1 h2
  case makeFunc fn first captured =>
    cases fn <;> simp only at hw <;> (try exact hw.elim)
    case func f =>
      obtain ⟨h1, hw⟩ := hw
      have hf : first = #[] := Array.toList_eq_nil_iff.1 h1
      subst hf
      have hrow := relRow_evals hρ captured
      refine post_same h ?_ hw
      rw [show Array.map a.eval #[] = #[] by simp]
      exact .fn f _ _ hrow.1 hrow.2
  case makeMap t r =>
    cases r <;> simp only at hw <;> (try exact hw.elim)
    obtain ⟨β, hβ, hβ'⟩ := h.fresh
    have hle := (K.le_alloc h.bas (.map #[] 0) (· < 1)).trans (K.le_named (κ := κ.alloc _ _) (β := β) hβ (κ.w.heap.size, 0, 1))
    refine ⟨_, _, _, ?_, hle, h.newObj (x := .map #[] 0) (n := 1) hβ ?_, ?_, hw β (hβ' σ (.refl σ))⟩
    · rfl
    · refine ⟨rfl, rfl, #[], 0, ?_, rfl, fun i k x m h1 => by simp at h1⟩
      show (κ.w.heap.push _)[κ.w.heap.size]? = _
      simp
    · refine .map β _ 1 ?_
      simp [K.named]
  case makeSlice t l c =>
    obtain ⟨u, w', h1, h2⟩ := snd_makeSlice h (rel_eval hρ l) (rel_eval hρ c) hw
    exact done_value h1 h2
  case slice t x lo hi mx =>
    obtain ⟨u, h1, h2⟩ := snd_slice h (rel_eval hρ x) (relOpt_evals hρ lo) (relOpt_evals hρ hi) (relOpt_evals hρ mx) hw
    exact done_value h1 h2
  case fieldAddr s x f =>
    obtain ⟨u, h1, h2⟩ := snd_fieldAddr h (rel_eval hρ x) hw
    exact done_value h1 h2
  case field s x f =>
    obtain ⟨u, h1, h2⟩ := snd_field h (rel_eval hρ x) hw
    exact done_value h1 h2
  case indexAddr t x i =>
    obtain ⟨u, h1, h2⟩ := snd_indexAddr h (rel_eval hρ x) (rel_eval hρ i) hw
    exact done_value h1 h2
  case index t x i =>
    obtain ⟨u, h1, h2⟩ := snd_index h (rel_eval hρ x) (rel_eval hρ i) hw
    exact done_value h1 h2
  case lookup t m k ok =>
    obtain ⟨u, h1, h2⟩ := snd_lookup h (rel_eval hρ m) (rel_eval hρ k) hw
    exact done_value h1 h2
  case mapUpdate t m k x =>
    obtain ⟨κ', σ', h1, h2, h3, h4⟩ := snd_mapUpdate h (rel_eval hρ m) (rel_eval hρ k) (rel_eval hρ x) hw
    exact done_unit h1 ⟨κ', _, σ', rfl, h2, h3, .val _, h4⟩
  case extract x ix =>
    have hx := rel_eval hρ x
    split at hw
    · rename_i vs hev
      rw [hev] at hx
      split at hw
      · rename_i y hy
        generalize hv : a.eval x = v at hx
        cases hx with
        | tup _ us hl hrel =>
          have hlt : ix < us.size := by
            rw [← hl]
            rcases Nat.lt_or_ge ix vs.length with h' | h'
            · exact h'
            · rw [List.getElem?_eq_none h'] at hy; cases hy
          refine done_value (u := us[ix]) (w' := κ.w) ?_ (post_same h (hrel ix y _ hy (by simp [hlt])) hw)
          rw [hv]
          simp [Instr.extract, hlt]
      · exact hw.elim
    · exact hw.elim
  case call c => exact vcall_sound h hρ hw

end Go.V
