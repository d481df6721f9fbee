/- Part 2 of the proof: V10, V11, V12. -/
import Derived.Test.YtjdapkelojdefaaGreatDoorN1
import Derived.Deep.LoopGhost
import Derived.Deep.Quiet
import Derived.Scope
import Derived.Laws.Externs

set_option linter.all false
namespace Go.V
open Go.RowKit
variable {P : Program} {κ : K} {σ : Sg} {ρ : Nat → AV} {a : Act} {R : AV → Sg → Prop}
theorem Q0w {s : Sem Value} {u : Value} {w' : World} (h : s.run P κ.w = .ok u w') (hp : Post κ R u w') : Done P κ R ((do pure (.value (← s)) : Sem Next).run P κ.w) := by
  simp only [Sem.run_bind, h, Result.andThen, Sem.run_pure]
  exact hp
theorem done_unit {s : Sem Unit} {w' : World} (h : s.run P κ.w = .ok () w') (hp : Post κ R undef w') : Done P κ R ((do s; pure .skip : Sem Next).run P κ.w) := by
  simp only [Sem.run_bind, h, Result.andThen, Sem.run_pure]
  exact hp
theorem Q7h (h : St κ σ) (hρ : RelEnv κ ρ a.tmps) (x : Option Operand) : Q8f κ (x.map (ev ρ)) (x.map a.eval) := by
  cases x with
  | none => trivial
  | some x => exact Q0y h hρ x
theorem Q8h (h : St κ σ) (hρ : RelEnv κ ρ a.tmps) (ps : Array (Nat × Operand)) : RelParts κ (ps.toList.map fun p => (p.1, ev ρ p.2)) ((ps.map fun (i, x) => (i, a.eval x)).toList) := by
  refine ⟨by simp, fun i p q h1 h2 => ?_⟩
  rw [Array.toList_map] at h2
  rw [List.getElem?_map] at h1 h2
  cases hh : ps.toList[i]? with
  | none => rw [hh] at h1; cases h1
  | some o =>
    rw [hh] at h1 h2
    cases h1
    cases h2
    exact ⟨rfl, Q0y h hρ o.2⟩
theorem snd_pick {c x y : AV} {cv xv yv : Value} (h : St κ σ) (hc : Rel κ c cv) (hx : Rel κ x xv) (hy : Rel κ y yv) (hw : Q8p c x y (R · σ)) :
    Done P κ R ((do pure (.value (if ← asBool cv then xv else yv)) : Sem Next).run P κ.w) := by
  unfold Q8p at hw
  split at hw
  · rename_i t x y
    cases hc; cases hx; cases hy
    simp only [asBool, Sem.run_bind, Sem.run_pure, Result.andThen]
    refine Q0h h ?_ hw
    cases t <;> exact .val _
  · rename_i x y t _
    cases hc
    simp only [asBool, Sem.run_bind, Sem.run_pure, Result.andThen]
    cases t with
    | true => exact Q0h h hx (hw.1 rfl)
    | false => exact Q0h h hy (hw.2 rfl)
  · exact hw.elim
theorem snd_un {op : UnOp} {x : AV} {v : Value} (h : St κ σ) (hx : Rel κ x v) (hw : vun op x (R · σ)) : ∃ u, (Op.unary op v).run P κ.w = .ok u κ.w ∧ Post κ R u κ.w := by
  unfold vun at hw
  split at hw
  · cases hx; exact ⟨_, rfl, Q0h h (.val _) hw⟩
  · cases hx; exact ⟨_, rfl, Q0h h (.val _) hw⟩
  · cases hx; exact ⟨_, rfl, Q0h h (.val _) hw⟩
  · exact hw.elim
theorem snd_len {t : TypeId} {tys : Array TypeId} {ty : TypeId} {x : AV} {v : Value} (h : St κ σ) (hx : Rel κ x v) (ht : tys[0]? = some t) {d : TypeDesc} (hd : P.underlying t = some d) (hdd : Q7d d x = true) (hw : vlen x σ (R · σ)) :
    ∃ u, (Builtin.len_ tys ty #[v]).run P κ.w = .ok u κ.w ∧ Post κ R u κ.w := by
  unfold vlen at hw
  split at hw
  · rename_i s
    cases hx
    cases d <;> simp only [Q7d] at hdd <;> first
      | (cases hdd; done)
      | exact ⟨_, by simp [Builtin.len_, ht, Q0p hd]; rfl, Q0h h (.val _) hw⟩
  · rename_i k es
    cases d <;> simp only [Q7d] at hdd <;> (try (cases hdd; done))
    cases hx with
    | slnil => exact ⟨_, by simp [Builtin.len_, ht, Q0p hd]; rfl, Q0h h (.val _) hw⟩
    | slemp => exact ⟨_, by simp [Builtin.len_, ht, Q0p hd]; rfl, Q0h h (.val _) hw⟩
    | sl _ _ b n c sz f hk hn =>
      rw [← hn] at hw
      exact ⟨_, by simp [Builtin.len_, ht, Q0p hd]; rfl, Q0h h (.val _) hw⟩
  · cases d <;> simp only [Q7d] at hdd <;> (try (cases hdd; done))
    cases hx
    exact ⟨_, by simp [Builtin.len_, ht, Q0p hd]; rfl, Q0h h (.val _) hw⟩
  · rename_i β
    split at hw
    · rename_i es hσ
      cases d <;> simp only [Q7d] at hdd <;> (try (cases hdd; done))
      cases hx with
      | map _ b hi hμ =>
        obtain ⟨b1, lo, hi1, g1, g2, g3, g4, arr, clock, g5, g6, g7⟩ := h.ob β _ hσ
        rw [hμ] at g1
        cases g1
        rw [g6] at hw
        exact ⟨_, by simp [Builtin.len_, ht, Q0p hd, Q3x g5]; rfl, Q0h h (.val _) hw⟩
    · exact hw.elim
  · exact hw.elim
theorem snd_min {lt : Bool} {x y : AV} {u v : Value} (h : St κ σ) (hx : Rel κ x u) (hy : Rel κ y v) (hw : vmin lt x y (R · σ)) (ts : Array TypeId) (ty : TypeId) :
    ∃ r, (if lt = true then Builtin.min_ ts ty #[u, v] else Builtin.max_ ts ty #[u, v]).run P κ.w = .ok r κ.w ∧ Post κ R r κ.w := by
  unfold vmin at hw
  split at hw
  · obtain ⟨rfl, hw⟩ := hw
    cases hx; cases hy
    cases lt with
    | true => exact ⟨_, by simp [Builtin.min_, Builtin.min2], Q0h h (.val _) hw⟩
    | false => exact ⟨_, by simp [Builtin.max_, Builtin.max2], Q0h h (.val _) hw⟩
  · exact hw.elim
theorem X0b {x : AV} {us : Array Value} (h : RelRow κ [x] us) : ∃ v, us = #[v] ∧ Rel κ x v := by
  have hl : us.size = 1 := h.1.symm
  refine ⟨us[0], ?_, h.2 0 x _ rfl (by simp [hl])⟩
  apply Array.ext (by simp [hl])
  intro i h1 h2
  have : i = 0 := by omega
  subst this
  rfl
theorem Q8u {x y : AV} {us : Array Value} (h : RelRow κ [x, y] us) : ∃ u v, us = #[u, v] ∧ Rel κ x u ∧ Rel κ y v := by
  have hl : us.size = 2 := h.1.symm
  refine ⟨us[0], us[1], ?_, h.2 0 x _ rfl (by simp [hl]), h.2 1 y _ rfl (by simp [hl])⟩
  apply Array.ext (by simp [hl])
  intro i h1 h2
  match i with
  | 0 => rfl
  | 1 => rfl
  | i + 2 => omega
theorem liesAt_off {e : TypeId} (hc : P.cellsOf e = 1) (count off n : Nat) (hn : off + n ≤ count) : liesAt P P.depth e count off e n = true := by
  have hd : P.depth = (2 * (P.types.size + Made.depth) + 1) + 1 := rfl
  rw [hd]
  simp only [liesAt, Bool.or_eq_true]
  left
  rw [hd]
  simp [rowAt, hc, hn, sameLayout, Nat.mod_one]
theorem Q8a {w : World} {ts : Array TypeId} {pt ty e : TypeId} (ht : ts[0]? = some pt) (hp : P.underlying pt = some (.pointer e)) (hc : P.cellsOf e = 1) {b o cells : Nat} (hsh : w.shape? b = some (e, cells)) {l : List UInt8} (h0 : l ≠ []) (hn : o + l.length ≤ cells) (h63 : (l.length : Int) ≤ 9223372036854775807)
    (hcell : ∀ j x, l[j]? = some x → w.cell? ((⟨b, o, none⟩ : Addr).add j) = some (.int .u8 x.toNat)) :
    (Builtin.unsafeString_ ts ty #[.pointer (some ⟨b, o, none⟩), .int .i64 l.length]).run P w = .ok (.string ⟨l.toArray⟩) (w.freeze ⟨b, o, none⟩ l.length) := by
  have hl : l.length ≠ 0 := by simpa using h0
  have hlb := Lib.run_loadBytes (P := P) w l ⟨b, o, none⟩ .empty hcell
  have hlies := liesAt_off (P := P) hc (cells / P.cellsOf e) o l.length (by rw [hc]; simpa using hn)
  have h63' : ¬ (9223372036854775807 : Int) < (l.length : Int) := by omega
  have hdef : Builtin.unsafeString_ ts ty #[.pointer (some ⟨b, o, none⟩), .int .i64 l.length] =
      (do
        let n ← asInt (.int .i64 l.length)
        let some pt := ts[0]? | stuck "unsafe.String: no argument types"
        if n < 0 then runtimePanic (.error "unsafe.String: len out of range")
        if n > IntKind.i64.max then unsupported (.unsafePointer "String: a length above the largest int")
        if n = 0 then pure (.string .empty)
        else if ← variablesAt ⟨b, o, none⟩ (← elemOf pt) n.toNat then do
          let s ← loadBytes ⟨b, o, none⟩ .empty n.toNat
          freeze ⟨b, o, none⟩ n.toNat
          pure (.string s)
        else unsupported (.unsafePointer "String: not so many bytes at ptr")) := rfl
  rw [hdef]
  have hmax : IntKind.i64.max = 9223372036854775807 := rfl
  have hneg : ¬ (l.length : Int) < 0 := by omega
  simp [asInt, asIntOf, hmax, h63', hneg, hl, variablesAt, hsh, elemOf, run_underlying hp, hlies, hlb, ht]
theorem St.freeze (h : St κ σ) {τ b lo hi o n : Nat} {e : TypeId} (hτ : σ τ = some (.tok (some e))) (hμ : κ.μ τ = some (b, lo, hi)) (hlt : lo < hi) (hn : n ≠ 0) (ho : o + n = lo) :
    κ.le { κ with w := κ.w.freeze ⟨b, o, none⟩ n } ∧ St { κ with w := κ.w.freeze ⟨b, o, none⟩ n } σ := by
  obtain ⟨b', lo', hi', h1, h2, h3⟩ := h.ob τ _ hτ
  rw [hμ] at h1
  cases h1
  obtain ⟨c, t, fz, k1, k2, k3, k4⟩ := h3 hlt
  obtain ⟨ht, hfz⟩ := k4 e rfl
  obtain ⟨f1, f2⟩ := fz
  simp only at hfz
  have hM : κ.M b lo := h2 lo (Nat.le_refl _) hlt
  have hself : ∃ g1 g2, (κ.w.freeze ⟨b, o, none⟩ n).heap[b]? = some (.cells c t (g1, g2)) ∧ g2 ≤ lo := by
    unfold World.freeze
    rw [if_neg hn]
    simp only [Array.getElem?_modify, if_true, k1, Option.map_some]
    by_cases hf : f1 = f2
    · subst hf
      exact ⟨o, o + n, by simp, by omega⟩
    · refine ⟨min f1 o, max f2 (o + n), by simp [hf], ?_⟩
      have := hfz.resolve_left hf
      omega
  have hother : ∀ b', b' ≠ b → (κ.w.freeze ⟨b, o, none⟩ n).heap[b']? = κ.w.heap[b']? := fun b' hb => by
    unfold World.freeze
    rw [if_neg hn]
    simp [Array.getElem?_modify, Ne.symm hb]
  have hsize : (κ.w.freeze ⟨b, o, none⟩ n).heap.size = κ.w.heap.size := by
    unfold World.freeze
    rw [if_neg hn]
    simp
  have hrest : (κ.w.freeze ⟨b, o, none⟩ n).os = κ.w.os ∧ (κ.w.freeze ⟨b, o, none⟩ n).tape = κ.w.tape ∧ (κ.w.freeze ⟨b, o, none⟩ n).output = κ.w.output := by
    unfold World.freeze
    rw [if_neg hn]
    exact ⟨rfl, rfl, rfl⟩
  obtain ⟨g1, g2, hs, hg⟩ := hself
  have hle : κ.le { κ with w := κ.w.freeze ⟨b, o, none⟩ n } := by
    refine ⟨hrest.1, hrest.2.1, hrest.2.2, by simp [hsize], fun b' x hb' hm => ⟨?_, hm⟩, rfl, fun b' hb' => hother b' (fun e => ?_), fun _ _ g => g⟩
    · by_cases e : b' = b
      · subst e
        simp [World.cell?, hs, k1]
      · exact World.cell?_of_block (w := κ.w) (hother b' e)
    · have := (h.mlt _ _ hM).1
      omega
  refine ⟨hle, ⟨fun β' ob hob => ?_, h.apart, h.fin, fun b' x hm => by have := h.mlt b' x hm; simpa [hsize] using this, by have := h.bas; simpa [hsize] using this, h.glob.mono hle⟩⟩
  obtain ⟨b1, lo1, hi1, q1, q2, q3⟩ := h.ob β' ob hob
  refine ⟨b1, lo1, hi1, q1, q2, ?_⟩
  by_cases eb : b1 = b
  · subst eb
    by_cases eβ : β' = τ
    · subst eβ
      rw [hμ] at q1
      cases q1
      rw [hτ] at hob
      cases hob
      intro _
      refine ⟨c, t, (g1, g2), hs, k2, fun i hi1 hi2 => ?_, fun t' ht' => ⟨(k4 t' ht').1, .inr hg⟩⟩
      simp only [World.frozen?, hs]
      simp
      omega
    · have hap := h.apart τ β' _ _ b1 lo hi lo1 hi1 (Ne.symm eβ) hτ hob hμ q1
      cases ob with
      | cells t2 cs =>
        obtain ⟨w1, w2, c2, fz2, w3, w4, w5⟩ := q3
        rw [k1] at w3
        cases w3
        refine ⟨w1, w2, c, (g1, g2), hs, fun i hi => ?_, w5.mono hle⟩
        have := w5.1
        omega
      | tok e2 => exact fun hl => by omega
      | map es =>
        obtain ⟨w1, w2, arr, clock, w3, _⟩ := q3
        rw [k1] at w3
        cases w3
  · exact q3.keep hle (hother b1 eb)
theorem X3l {ts : Array TypeId} {ty e : TypeId} {τ s : Nat} {es : List (List AV)} {v : Value} {ot : Option TypeId} (h : St κ σ) (hx : Rel κ (.sl (.tok τ s) es) v) (hd : P.underlying ty = some (.pointer e)) (hσ : σ τ = some (.tok ot)) (hs : s = 1) (hz : ∀ e ∈ es, e.length = 1) (hw : R (.bp τ es) σ) :
    ∃ u w', (Builtin.unsafeSliceData_ ts ty #[v]).run P κ.w = .ok u w' ∧ Post κ R u w' := by
  subst hs
  rcases Q3w hx hz with ⟨rfl, rfl, _⟩ | ⟨_, _, rfl, rfl, hkk⟩ | ⟨b, n, c, g, rfl, hko, hn, hc, hsp, hr, hrel⟩
  · exact ⟨_, κ.w, Lib.run_unsafeSliceData_nil κ.w ts ty 0 0, Q0h h (.bp0 τ none) hw⟩
  · rcases hkk with h | h <;> cases h
  · have hko2 := hko.2
    have hko1 : (Own.tok τ 1).size 1 = 1 := rfl
    rw [hko1] at hko2
    by_cases hc0 : c = 0
    · subst hc0
      have he : es = [] := List.eq_nil_of_length_eq_zero (by omega)
      subst he
      obtain ⟨b', lo, hi, h1, h2, h3⟩ := h.ob τ _ hσ
      rw [hko2] at h1
      cases h1
      obtain ⟨cc, t, fz, k1, _⟩ := h3 (by omega)
      refine ⟨_, _, Lib.run_unsafeSliceData_zero κ.w ts ty e hd b n (t, cc.size) (by simp [World.shape?, k1]), ?_⟩
      refine ⟨κ.alloc (.view b e) (fun _ => False), _, σ, rfl, K.le_alloc h.bas _ _, h.alloc _ _, .bp0 τ _, hw⟩
    · refine ⟨_, κ.w, Lib.run_unsafeSliceData_row κ.w ts ty b n c hc0, Q0h h ?_ hw⟩
      refine .bp τ es b n (b.off + c * 1 + 1) g hn hsp (by simpa using hko2) (by omega) (fun i hi => hr i (by omega)) (fun i x hi => hrel i x ?_)
      have := Q3g hz i 0 [x] hi (by omega)
      simpa using this
theorem X1a {ts : Array TypeId} {pt ty e : TypeId} {τ n by_ : Nat} {z : Option Value} {b : ByteArray} {v : Value} (h : St κ σ) (hx : Rel κ (.bp τ (Q0z b)) v) (ht : ts[0]? = some pt) (hd : P.underlying pt = some (.pointer e)) (hi : Q0m P e = some (z, n, by_)) (hn1 : n = 1)
    (hsz : (b.size : Int) ≤ 9223372036854775807) (hσ : Q0z b = [] ∨ σ τ = some (.tok (some e))) (hw : R (.s b) σ) :
    ∃ u w', (Builtin.unsafeString_ ts ty #[v, .int .i64 b.size]).run P κ.w = .ok u w' ∧ Post κ R u w' := by
  have empty : ∀ p, b.size = 0 → ∃ u w', (Builtin.unsafeString_ ts ty #[.pointer p, .int .i64 b.size]).run P κ.w = .ok u w' ∧ Post κ R u w' := by
    intro p h0
    have hb : b = .empty := ByteArray.ext (Array.eq_empty_of_size_eq_zero h0)
    subst hb
    refine ⟨.string .empty, κ.w, ?_, Q0h h (.val _) hw⟩
    have := Lib.run_unsafeString_none (P := P) κ.w pt pt ty p
    rw [← this]
    unfold Builtin.unsafeString_
    rw [ht]
    rfl
  generalize hes : Q0z b = es at hx hσ
  cases hx with
  | bp0 _ p => exact empty p (by rw [← Q1f, hes]; rfl)
  | bp _ _ a m hi' f hn hs hμ hlt hr hrel =>
    obtain ⟨ab, ao, as⟩ := a
    simp only at hs
    subst hs
    dsimp only at hμ hlt hr
    have hm : m = b.size := by rw [hn, ← hes, Q1f]
    by_cases h0 : b.size = 0
    · exact empty _ h0
    · have hne : es ≠ [] := fun e => h0 (by rw [← Q1f, hes, e]; rfl)
      have hτ := hσ.resolve_left hne
      obtain ⟨b', lo, hi2, g1, g2, g3⟩ := h.ob τ _ hτ
      rw [hμ] at g1
      cases g1
      obtain ⟨c, t, fz, k1, k2, k3, k4⟩ := g3 hlt
      obtain ⟨rfl, _⟩ := k4 e rfl
      have hc1 : P.cellsOf e = 1 := by
        unfold Program.cellsOf
        unfold Q0m at hi
        cases hj : P.info? e with
        | none => rw [hj] at hi; cases hi
        | some j => rw [hj] at hi; simp at hi; simp [hi.2.1, hn1]
      have hl : b.data.toList.length = b.size := by simp
      have hrun := Q8a (P := P) (w := κ.w) (ty := ty) ht hd hc1 (b := ab) (o := ao) (cells := c.size) (by simp [World.shape?, k1]) (l := b.data.toList) (by intro hh; rw [hh] at hl; simp at hl; omega) (by rw [hl]; omega) (by rw [hl]; exact hsz) (fun j x hj => by
        have hjm : j < m := by
          rw [hm, ← hl]
          rcases Nat.lt_or_ge j b.data.toList.length with h' | h'
          · exact h'
          · rw [List.getElem?_eq_none h'] at hj; cases hj
        rw [Q1m (b := ⟨ab, ao, none⟩) rfl]
        rw [(hr j hjm).1]
        have := hrel j (AV.u8 x.toNat) (by rw [← hes]; unfold Q0z; rw [List.getElem?_map, hj]; rfl)
        generalize f j = q at this
        cases this
        rfl)
      rw [hl] at hrun
      obtain ⟨q1, q2⟩ := h.freeze (o := ao) (n := b.size) hτ hμ hlt h0 (by omega)
      exact ⟨_, _, hrun, ⟨_, _, σ, rfl, q1, q2, .val _, hw⟩⟩
theorem X2o {b : Builtin} {vs : List AV} {us : Array Value} {ts : Array TypeId} {ty : TypeId} {cs : Array Bool} (h : St κ σ) (hr : RelRow κ vs us) (hw : Q1s P b vs ts ty σ R) : Done P κ R ((builtin b ts ty cs us).run P κ.w) := by
  unfold Q1s at hw
  split at hw
  · rename_i x
    obtain ⟨v, rfl, hx⟩ := X0b hr
    split at hw
    · rename_i d hd
      obtain ⟨hd1, hw⟩ := hw
      cases ht : ts[0]? with
      | none => rw [ht] at hd; cases hd
      | some t =>
        rw [ht] at hd
        obtain ⟨u, h1, h2⟩ := snd_len (P := P) (tys := ts) (ty := ty) h hx ht hd hd1 hw
        exact Q0w h1 h2
    · exact hw.elim
  · rename_i x y
    obtain ⟨u, v, rfl, hx, hy⟩ := Q8u hr
    have ty2 : ∀ {e : TypeId} {d : TypeDesc}, (ts[0]?).bind P.underlying = some (.slice e) → (ts[1]?).bind P.underlying = some d → ∃ t tx, ts[0]? = some t ∧ ts[1]? = some tx ∧ P.underlying t = some (.slice e) ∧ P.underlying tx = some d := fun {e d} h1 h2 => by
      cases ht : ts[0]? with
      | none => rw [ht] at h1; cases h1
      | some t =>
        cases ht2 : ts[1]? with
        | none => rw [ht2] at h2; cases h2
        | some tx => exact ⟨t, tx, rfl, rfl, by rw [ht] at h1; exact h1, by rw [ht2] at h2; exact h2⟩
    have main : ∀ {e : TypeId} {d : TypeDesc}, (ts[0]?).bind P.underlying = some (.slice e) → (ts[1]?).bind P.underlying = some d → ((∃ e', d = .slice e') ∨ d = .string) → Q8n P e x y σ R →
        Done P κ R ((builtin .append ts ty cs #[u, v]).run P κ.w) := by
      intro e d h1 h2 hd hw
      obtain ⟨t, tx, k1, k2, k3, k4⟩ := ty2 h1 h2
      obtain ⟨r, w', g1, g2⟩ := snd_append (t := t) (tx := tx) (ty := ty) h hx hy k3 (by rcases hd with ⟨e', rfl⟩ | rfl; exact .inl ⟨e', k4⟩; exact .inr k4) hw
      have hsame : Builtin.append_ ts ty #[u, v] = Builtin.append_ #[t, tx] ty #[u, v] := by
        unfold Builtin.append_
        rw [k1, k2]
        rfl
      exact Q0w (by rw [hsame]; exact g1) g2
    split at hw
    · rename_i e e' h1 h2; exact main h1 h2 (.inl ⟨_, rfl⟩) hw
    · rename_i e h1 h2; exact main h1 h2 (.inr rfl) hw
    · exact hw.elim
  · rename_i d s
    obtain ⟨u, v, rfl, hx, hy⟩ := Q8u hr
    split at hw
    · rename_i t ht
      obtain ⟨r, w', g1, g2⟩ := snd_copy (t := t) (tx := t) (ty := ty) h hx hy hw
      have hsame : Builtin.copy_ ts ty #[u, v] = Builtin.copy_ #[t, t] ty #[u, v] := by
        unfold Builtin.copy_
        rw [ht]
        rfl
      exact Q0w (by rw [hsame]; exact g1) g2
    · exact hw.elim
  · obtain ⟨u, v, rfl, hx, hy⟩ := Q8u hr
    obtain ⟨r, g1, g2⟩ := snd_min (P := P) (lt := true) h hx hy hw ts ty
    simp only [if_true] at g1
    exact Q0w g1 g2
  · obtain ⟨v, rfl, hx⟩ := X0b hr
    split at hw
    · rename_i e τ s es hd
      split at hw
      · rename_i ot hσ
        obtain ⟨r, w', g1, g2⟩ := X3l (ts := ts) h hx hd hσ hw.1.1 hw.1.2 hw.2
        exact Q0w g1 g2
      · exact hw.elim
    · rename_i e es hd
      obtain ⟨rfl, hw⟩ := hw
      cases hx with
      | sl _ _ _ _ _ _ _ hk => exact hk.elim
      | slemp _ hk => rcases hk with h | h <;> cases h
      | slnil => exact Q0w (Lib.run_unsafeSliceData_nil κ.w ts ty 0 0) (Q0h h (.bp0 0 none) hw)
    · exact hw.elim
  · rename_i τ es n
    obtain ⟨u, v, rfl, hx, hy⟩ := Q8u hr
    split at hw
    · rename_i e hd
      split at hw
      · rename_i z s by_ hi
        obtain ⟨b, ⟨rfl, rfl, rfl, hsz⟩, hσ, hw⟩ := hw
        cases hy
        cases ht : ts[0]? with
        | none => rw [ht] at hd; cases hd
        | some pt =>
          rw [ht] at hd
          obtain ⟨r, w', g1, g2⟩ := X1a (ty := ty) h hx ht hd hi rfl hsz hσ hw
          exact Q0w g1 g2
      · exact hw.elim
    · exact hw.elim
  · obtain ⟨u, v, rfl, hx, hy⟩ := Q8u hr
    obtain ⟨r, g1, g2⟩ := snd_min (P := P) (lt := false) h hx hy hw ts ty
    simp only [Bool.false_eq_true, if_false] at g1
    exact Q0w g1 g2
  · rename_i x
    obtain ⟨rfl, ⟨e, he⟩, hw⟩ := hw
    obtain ⟨v, rfl, hx⟩ := X0b hr
    cases ht : ts[0]? with
    | none => rw [ht] at he; cases he
    | some t =>
      rw [ht] at he
      obtain rfl : v = .slice none 0 0 := by
        cases hx with
        | slnil => rfl
        | slemp _ hk => rcases hk with hk | hk <;> cases hk
        | sl _ _ a n c sz f hk => exact hk.elim
      have hk : (Builtin.cap_ ts ty #[.slice none 0 0]).run P κ.w = .ok (.int .i64 0) κ.w := by
        simp [Builtin.cap_, ht, Q0p (show P.underlying t = some (.slice e) from he)]
        rfl
      exact Q0w hk (Q0h h (.val _) hw)
  · exact hw.elim
theorem vcall_sound {c : Call} {ty : TypeId} (h : St κ σ) (hρ : RelEnv κ ρ a.tmps) (hw : vcall P ρ ty c σ R) : Done P κ R ((do let d ← resolve a.eval c ty; invoke d.target d.args : Sem Next).run P κ.w) := by
  obtain ⟨callee, args, argTypes⟩ := c
  unfold vcall at hw
  cases callee with
  | invoke r m => exact hw.elim
  | value f =>
    simp only at hw
    have hf := Q0y h hρ f
    split at hw
    · rename_i g cap hev
      rw [hev] at hf
      generalize hfv : a.eval f = fv at hf
      cases hf with
      | fn _ _ vs hl hrel =>
        have hrow : Q7b κ (args.toList.map (ev ρ) ++ cap) (args.map a.eval ++ vs) := (Q4b h hρ args).append ⟨hl, hrel⟩
        have := hw.go κ _ h hrow
        simp only [resolve, hfv, Deferred.ofValue, Sem.run_bind, Sem.run_pure, Result.andThen, invoke, Array.empty_append]
        exact this
    · rename_i g fs hev
      rw [hev] at hf
      generalize hfv : a.eval f = fv at hf
      cases hf with
      | bm _ _ vs hl hrel =>
        have hrow : Q7b κ (fs ++ args.toList.map (ev ρ)) (vs ++ args.map a.eval) := RelRow.append ⟨hl, hrel⟩ (Q4b h hρ args)
        have := hw.go κ _ h hrow
        simp only [resolve, hfv, Deferred.ofValue, Sem.run_bind, Sem.run_pure, Result.andThen, invoke, Array.append_empty]
        exact this
    · exact hw.elim
  | builtin b =>
    simp only at hw
    simp only [resolve, Sem.run_bind, Sem.run_pure, Result.andThen, invoke]
    exact X2o h (Q4b h hρ args) hw
theorem Q9f {H : Hint} {o : Oper} (h : St κ σ) (hρ : RelEnv κ ρ a.tmps) (hw : vop P H ρ o.type o.op σ R) : Done P κ R ((execOp a.eval o).run P κ.w) := by
  obtain ⟨dst, op, type, pos, after, guard⟩ := o
  simp only at hw
  cases op <;> simp only [vop] at hw <;> (try exact hw.elim)
  case move x => exact Q0h h (Q0y h hρ x) hw
  case assign x => exact Q0h h (Q0y h hρ x) hw
  case pick c x y => exact snd_pick h (Q0y h hρ c) (Q0y h hρ x) (Q0y h hρ y) hw
  case alloc e =>
    split at hw
    · rename_i z n b ht
      obtain ⟨u, w', h1, h2⟩ := snd_alloc ht h hw
      exact Q0w h1 h2
    · exact hw.elim
  case box e x =>
    obtain ⟨u, w', h1, h2⟩ := snd_box (P := P) (e := e) h (X1k (Q0y h hρ x) hw.1) hw.2
    exact Q0w h1 h2
  case build t parts =>
    obtain ⟨u, h1, h2⟩ := snd_build h (Q8h h hρ parts) hw
    exact Q0w h1 h2
  case buildSlice t len parts =>
    obtain ⟨u, w', h1, h2⟩ := X2n h (Q8h h hρ parts) hw
    exact Q0w h1 h2
  case load t x =>
    obtain ⟨u, h1, h2⟩ := snd_load h (Q0y h hρ x) hw
    exact Q0w h1 h2
  case store t x y =>
    obtain ⟨κ', σ', h1, h2, h3, h4⟩ := snd_store h (Q0y h hρ x) (Q0y h hρ y) hw
    exact done_unit h1 ⟨κ', _, σ', rfl, h2, h3, .val _, h4⟩
  case nilCheck x =>
    have hx := Q0y h hρ x
    split at hw
    · rename_i cs hev
      rw [hev] at hx
      simp only [execOp]
      generalize a.eval x = v at hx
      cases hx with
      | ro _ b f hs hr hrel => exact Q0h h (.ro cs b f hs hr hrel) hw
    · rename_i β off hev
      rw [hev] at hx
      simp only [execOp]
      generalize a.eval x = v at hx
      cases hx with
      | ref _ _ b hi hμ => exact Q0h h (.ref β off b hi hμ) hw
    · rename_i f cap hev
      rw [hev] at hx
      simp only [execOp]
      generalize a.eval x = v at hx
      cases hx with
      | fn _ _ vs hl hrel => exact Q0h h (.fn f cap vs hl hrel) hw
    · rename_i f cap hev
      rw [hev] at hx
      simp only [execOp]
      generalize a.eval x = v at hx
      cases hx with
      | bm _ _ vs hl hrel => exact Q0h h (.bm f cap vs hl hrel) hw
    · exact hw.elim
  case binOp op t x y yt =>
    obtain ⟨u, h1, h2⟩ := snd_binop (xo := x) (yo := y) h (Q0y h hρ x) (Q0y h hρ y) hw
    exact Q0w h1 h2
  case unOp op t x =>
    obtain ⟨u, h1, h2⟩ := snd_un (P := P) h (Q0y h hρ x) hw
    exact Q0w h1 h2
  case convert s d x =>
    obtain ⟨u, w', h1, h2⟩ := snd_conv h (Q0y h hρ x) hw
    exact Q0w h1 h2
  case makeFunc fn first captured =>
    cases fn <;> simp only at hw <;> (try exact hw.elim)
    case func f =>
      split at hw
      · rename_i h1
        have hf : first = #[] := Array.toList_eq_nil_iff.1 (List.map_eq_nil_iff.1 h1)
        subst hf
        have hrow := Q4b h hρ captured
        refine Q0h h ?_ hw
        rw [show Array.map a.eval #[] = #[] by simp]
        exact .fn f _ _ hrow.1 hrow.2
      · rename_i x fs h1 h2
        have hf : captured = #[] := Array.toList_eq_nil_iff.1 (List.map_eq_nil_iff.1 h2)
        subst hf
        rw [← h1] at hw
        have hrow := Q4b h hρ first
        refine Q0h h ?_ hw
        rw [show Array.map a.eval #[] = #[] by simp]
        exact .bm f _ _ hrow.1 hrow.2
      · exact hw.elim
  case makeMap t r =>
    cases r <;> simp only at hw <;> (try exact hw.elim)
    obtain ⟨β, hβ, hβ'⟩ := h.fresh
    have hle := (K.le_alloc h.bas (.map #[] 0) (· < 1)).trans (K.le_named (κ := κ.alloc _ _) (β := β) hβ (κ.w.heap.size, 0, 1))
    refine ⟨_, _, _, ?_, hle, h.newObj (x := .map #[] 0) (n := 1) hβ ?_, ?_, hw β (hβ' σ (.refl σ))⟩
    · rfl
    · refine ⟨rfl, rfl, #[], 0, ?_, rfl, fun i k x m h1 => by simp at h1⟩
      show (κ.w.heap.push _)[κ.w.heap.size]? = _
      simp
    · refine .map β _ 1 ?_
      simp [K.named]
  case makeSlice t l c =>
    obtain ⟨u, w', h1, h2⟩ := X3i h (Q0y h hρ l) (Q0y h hρ c) hw
    exact Q0w h1 h2
  case slice t x lo hi mx =>
    obtain ⟨u, h1, h2⟩ := snd_slice h (Q0y h hρ x) (Q7h h hρ lo) (Q7h h hρ hi) (Q7h h hρ mx) hw
    exact Q0w h1 h2
  case fieldAddr s x f =>
    obtain ⟨u, h1, h2⟩ := X3f h (Q0y h hρ x) hw
    exact Q0w h1 h2
  case field s x f =>
    obtain ⟨u, h1, h2⟩ := snd_field h (Q0y h hρ x) hw
    exact Q0w h1 h2
  case indexAddr t x i =>
    obtain ⟨u, h1, h2⟩ := X3h h (Q0y h hρ x) (Q0y h hρ i) hw
    exact Q0w h1 h2
  case index t x i =>
    obtain ⟨u, h1, h2⟩ := snd_index h (Q0y h hρ x) (Q0y h hρ i) hw
    exact Q0w h1 h2
  case lookup t m k ok =>
    obtain ⟨u, h1, h2⟩ := snd_lookup h (Q0y h hρ m) (Q0y h hρ k) hw
    exact Q0w h1 h2
  case mapUpdate t m k x =>
    obtain ⟨κ', σ', h1, h2, h3, h4⟩ := X3k h (Q0y h hρ m) (Q0y h hρ k) (Q0y h hρ x) hw
    exact done_unit h1 ⟨κ', _, σ', rfl, h2, h3, .val _, h4⟩
  case extract x ix =>
    have hx := Q0y h hρ x
    split at hw
    · rename_i vs hev
      rw [hev] at hx
      split at hw
      · rename_i y hy
        generalize hv : a.eval x = v at hx
        cases hx with
        | tup _ us hl hrel =>
          have hlt : ix < us.size := by
            rw [← hl]
            rcases Nat.lt_or_ge ix vs.length with h' | h'
            · exact h'
            · rw [List.getElem?_eq_none h'] at hy; cases hy
          refine Q0w (u := us[ix]) (w' := κ.w) ?_ (Q0h h (hrel ix y _ hy (by simp [hlt])) hw)
          rw [hv]
          simp [Instr.extract, hlt]
      · exact hw.elim
    · exact hw.elim
  case call c => exact vcall_sound h hρ hw
end Go.V
namespace Go.V
open Go.RowKit
variable {P : Program} {κ : K} {σ : Sg} {ρ : Nat → AV} {a : Act} {R : AV → Sg → Prop}
inductive VX | normal | exit (id : Nat) | ret
def Q8i (ops : Array Oper) (g : Option (Nat × Bool)) (ρ : Nat → AV) (T F : (Nat → AV) → Prop) : Prop :=
  match g with
  | none => T ρ
  | some (j, want) => match (ops[j]?).bind (·.dst) with
    | some s => match ρ s with
      | .val (.bool t) => (t = want → T (upd ρ s (.b want))) ∧ (t = !want → F (upd ρ s (.b !want)))
      | .val (.tuple _) => F ρ
      | _ => False
    | none => False
def vops (P : Program) (H : Nat → Hint) (ops : Array Oper) (Q : (Nat → AV) → Sg → Prop) : List Oper → (Nat → AV) → Sg → Prop
  | [], ρ, σ => Q ρ σ
  | o :: rest, ρ, σ => Q8i ops o.guard ρ (fun ρ => vop P (H (o.dst.getD 0)) ρ o.type o.op σ fun x σ' => vops P H ops Q rest (updo ρ o.dst x) σ') (fun ρ => vops P H ops Q rest (updo ρ o.dst (.val undef)) σ)
def Q3o (P : Program) (H : Nat → Hint) (ops : Array Oper) (σ : Sg) (Q : (Nat → AV) → Prop) : List Oper → (Nat → AV) → Prop
  | [], ρ => Q ρ
  | o :: rest, ρ => Q8i ops o.guard ρ (fun ρ => ∃ x, vop P (H (o.dst.getD 0)) ρ o.type o.op σ (fun y σ' => y = x ∧ σ' = σ) ∧ Q3o P H ops σ Q rest (updo ρ o.dst x)) (fun ρ => Q3o P H ops σ Q rest (updo ρ o.dst (.val undef)))
def opsOK (n : Nat) (ops : Array Oper) : Bool := ops.all fun o => match o.dst with | some d => decide (d < n) | none => true
def Q6w (n : Nat) : Code → Bool
  | .region _ ops _ => opsOK n ops
  | .seq x y => Q6w n x && Q6w n y
  | .cond _ x y => Q6w n x && Q6w n y
  | .block _ c => Q6w n c
  | .loop c => Q6w n c
  | .scope c => Q6w n c
  | _ => true
structure Fits (κ0 κ : K) (n : Nat) (ρ : Nat → AV) (σ : Sg) (a : Act) : Prop where
  le : κ0.le κ
  st : St κ σ
  env : RelEnv κ ρ a.tmps
  size : a.tmps.size = n
  defers : a.defers = []
def Lift (κ0 : K) (n : Nat) (Q : VX → (Nat → AV) → Sg → Prop) : Exit → Act → World → Prop
  | .normal, a, w => ∃ κ ρ σ, κ.w = w ∧ Fits κ0 κ n ρ σ a ∧ Q .normal ρ σ
  | .exit id, a, w => ∃ κ ρ σ, κ.w = w ∧ Fits κ0 κ n ρ σ a ∧ Q (.exit id) ρ σ
  | .ret, a, w => ∃ κ ρ σ, κ.w = w ∧ Fits κ0 κ n ρ σ a ∧ Q .ret ρ σ
  | _, _, _ => False
theorem RelEnv.put {κ : K} {ρ : Nat → AV} {a : Act} (h : RelEnv κ ρ a.tmps) {d : Option Tmp} {x : AV} {v : Value} (hx : Rel κ x v) (hd : ∀ t, d = some t → t < a.tmps.size) : RelEnv κ (updo ρ d x) (a.put d v).tmps := by
  cases d with
  | none => exact h
  | some d =>
    intro t
    have hlt := hd d rfl
    simp only [updo, upd, Act.put]
    by_cases e : t = d
    · subst e
      rw [if_pos rfl]
      simp [hlt, hx]
    · rw [if_neg e]
      have := h t
      simpa [Array.getElem?_setIfInBounds_ne (Ne.symm e)] using this
theorem put_size (a : Act) (d : Option Tmp) (v : Value) : (a.put d v).tmps.size = a.tmps.size := by cases d <;> simp [Act.put]
theorem put_defers (a : Act) (d : Option Tmp) (v : Value) : (a.put d v).defers = a.defers := by cases d <;> rfl
theorem Fits.put {κ0 κ κ' : K} {n : Nat} {ρ : Nat → AV} {σ σ' : Sg} {a : Act} (h : Fits κ0 κ n ρ σ a) (hle : κ.le κ') (hst : St κ' σ') {d : Option Tmp} {x : AV} {v : Value} (hx : Rel κ' x v) (hd : ∀ t, d = some t → t < n) :
    Fits κ0 κ' n (updo ρ d x) σ' (a.put d v) :=
  ⟨h.le.trans hle, hst, (h.env.mono hle).put hx (fun t ht => by rw [h.size]; exact hd t ht), by rw [put_size]; exact h.size, by rw [put_defers]; exact h.defers⟩
theorem Fits.upd {κ0 κ : K} {n : Nat} {ρ : Nat → AV} {σ : Sg} {a : Act} (h : Fits κ0 κ n ρ σ a) {s : Nat} {x : AV} (hx : Rel κ x (a.tmps.getD s undef)) : Fits κ0 κ n (upd ρ s x) σ a :=
  ⟨h.le, h.st, fun t => by
    unfold V.upd
    by_cases e : t = s
    · rw [if_pos e, e]; exact hx
    · rw [if_neg e]; exact h.env t, h.size, h.defers⟩
theorem X0v {κ0 : K} {n : Nat} {ops : Array Oper} {o : Oper} {T F : (Nat → AV) → Prop} (h : Fits κ0 κ n ρ σ a) (hw : Q8i ops o.guard ρ T F) :
    ∃ ρ', Fits κ0 κ n ρ' σ a ∧ ((Region.wanted o (yielded ops a.tmps) = true ∧ T ρ') ∨ (Region.wanted o (yielded ops a.tmps) = false ∧ F ρ')) := by
  unfold Q8i at hw
  unfold Region.wanted
  cases hg : o.guard with
  | none =>
    rw [hg] at hw
    exact ⟨ρ, h, .inl ⟨rfl, hw⟩⟩
  | some jw =>
    obtain ⟨j, want⟩ := jw
    rw [hg] at hw
    simp only at hw ⊢
    cases hs : (ops[j]?).bind (·.dst) with
    | none => rw [hs] at hw; exact hw.elim
    | some s =>
      rw [hs] at hw
      simp only at hw
      have hrel := h.env s
      have hy : yielded ops a.tmps j = (match a.tmps[s]? with | some (.bool b) => some b | _ => none) := by
        unfold yielded
        rw [hs]
        rfl
      split at hw
      · rename_i t hρs
        rw [hρs] at hrel
        have hv : a.tmps.getD s undef = .bool t := by
          generalize a.tmps.getD s undef = v at hrel
          cases hrel
          rfl
        have hget : a.tmps[s]? = some (.bool t) := by
          cases hh : a.tmps[s]? with
          | none => rw [Array.getD_eq_getD_getElem?, hh] at hv; simp [undef] at hv
          | some v => rw [Array.getD_eq_getD_getElem?, hh] at hv; simp at hv; rw [hv]
        rw [hy, hget]
        by_cases e : t = want
        · subst e
          refine ⟨_, h.upd (s := s) (x := .b t) (by rw [hv]; exact .val _), .inl ⟨by simp, hw.1 rfl⟩⟩
        · have e' : t = !want := by cases t <;> cases want <;> simp_all
          subst e'
          refine ⟨_, h.upd (s := s) (x := .b !want) (by rw [hv]; exact .val _), .inr ⟨by cases want <;> rfl, hw.2 rfl⟩⟩
      · rename_i vs hρs
        rw [hρs] at hrel
        have hv : a.tmps.getD s undef = .tuple vs := by
          generalize a.tmps.getD s undef = v at hrel
          cases hrel
          rfl
        refine ⟨ρ, h, .inr ⟨?_, hw⟩⟩
        rw [hy]
        cases hh : a.tmps[s]? with
        | none => rfl
        | some v => rw [Array.getD_eq_getD_getElem?, hh] at hv; simp at hv; rw [hv]; rfl
      · exact hw.elim
theorem Q7s {κ0 : K} {n : Nat} {o : Oper} {next : Act → World → Prop} {Q : Exit → Act → World → Prop} (h : Fits κ0 κ n ρ σ a) (hd : ∀ t, o.dst = some t → t < n) (hw : Done P κ R ((execOp a.eval o).run P κ.w))
    (hn : ∀ (κ' : K) (x : AV) (v : Value) (σ' : Sg), Fits κ0 κ' n (updo ρ o.dst x) σ' (a.put o.dst v) → R x σ' → next (a.put o.dst v) κ'.w) : o.wp P a κ.w next Q := by
  have post : ∀ {v : Value} {w' : World}, Post κ R v w' → next (a.put o.dst v) w' := fun {v w'} hp => by
    obtain ⟨κ', x, σ', rfl, h1, h2, h3, h4⟩ := hp
    exact hn κ' x v σ' (h.put h1 h2 h3 hd) h4
  unfold Oper.wp
  generalize (execOp a.eval o).run P κ.w = r at hw
  cases r with
  | halt x w' => exact hw.elim
  | ok nx w' =>
    cases nx <;> simp only [Done] at hw <;> simp only [Oper.upon]
    case value v => exact post hw
    case skip => exact post hw
    case enter f args =>
      refine Calls.mono hw (fun e w'' he => ?_)
      cases e with
      | returned v => exact post he
      | panicked c => exact he.elim
      | outgrown => exact he.elim
    case row r args => exact Rows.mono hw (fun v w'' he => post he)
theorem X2p {κ0 : K} {n : Nat} {H : Nat → Hint} {ops : Array Oper} {Q : (Nat → AV) → Sg → Prop} {Q' : Exit → Act → World → Prop} (hQ : ∀ κ ρ σ a, Fits κ0 κ n ρ σ a → Q ρ σ → Q' .normal a κ.w) (hok : opsOK n ops = true) :
    ∀ (l : List Oper) (k : Nat) (κ : K) (ρ : Nat → AV) (σ : Sg) (a : Act), (∀ j, l[j]? = ops[k + j]?) → Fits κ0 κ n ρ σ a → vops P H ops Q l ρ σ → wpOps P ops Q' ((List.range l.length).map (k + ·)) a κ.w
  | [], _, κ, ρ, σ, a, _, h, hw => hQ κ ρ σ a h hw
  | o :: l, k, κ, ρ, σ, a, hl, h, hw => by
    have h0 : ops[k]? = some o := by simpa using (hl 0).symm
    have hd : ∀ t, o.dst = some t → t < n := fun t ht => by
      unfold opsOK at hok
      rw [← Array.all_toList, List.all_eq_true] at hok
      have := hok o (by rw [Array.mem_toList_iff]; exact Array.mem_of_getElem? h0)
      rw [ht] at this
      simpa using this
    have ih := fun κ ρ σ a => X2p (H := H) hQ hok l (k + 1) κ ρ σ a (fun j => by have := hl (j + 1); simpa [Nat.add_assoc, Nat.add_comm 1 j] using this)
    have hlist : (List.range (o :: l).length).map (k + ·) = k :: (List.range l.length).map (k + 1 + ·) := by
      rw [List.length_cons, List.range_succ_eq_map, List.map_cons, List.map_map]
      congr 1
      apply List.map_congr_left
      intro j _
      simp
      omega
    rw [hlist]
    simp only [wpOps, h0]
    unfold vops at hw
    obtain ⟨ρ', hf, ⟨hwt, hT⟩ | ⟨hwt, hF⟩⟩ := X0v h hw
    · rw [if_pos hwt]
      exact .inl (Q7s hf hd (Q9f hf.st hf.env hT) (fun κ' x v σ' hf' hR => ih κ' _ σ' _ hf' hR))
    · rw [if_neg (by rw [hwt]; simp)]
      exact ih κ _ σ _ (hf.put (.refl κ) hf.st (.val _) hd) hF
def Q5i (ops : Array Oper) (g : Option (Nat × Bool)) (ρ : Nat → AV) : Option Bool :=
  match g with
  | none => some true
  | some (j, want) => match (ops[j]?).bind (·.dst) with
    | some s => match ρ s with
      | .val (.bool t) => some (t == want)
      | .val (.tuple _) => some false
      | _ => none
    | none => none
theorem upd_same {ρ : Nat → AV} {s : Nat} {x : AV} (h : ρ s = x) : upd ρ s x = ρ := by
  funext t
  unfold upd
  split
  · rename_i e; rw [e, h]
  · rfl
theorem Q7i {ops : Array Oper} {g : Option (Nat × Bool)} {T F : (Nat → AV) → Prop} (h : Q8i ops g ρ T F) : (Q5i ops g ρ = some true ∧ T ρ) ∨ (Q5i ops g ρ = some false ∧ F ρ) := by
  unfold Q8i at h
  unfold Q5i
  cases g with
  | none => exact .inl ⟨rfl, h⟩
  | some jw =>
    obtain ⟨j, want⟩ := jw
    simp only at h ⊢
    cases hs : (ops[j]?).bind (·.dst) with
    | none => rw [hs] at h; exact h.elim
    | some s =>
      rw [hs] at h
      simp only at h ⊢
      split at h
      · rename_i t ht
        by_cases e : t = want
        · subst e
          rw [upd_same ht] at h
          exact .inl ⟨by simp, h.1 rfl⟩
        · have e' : t = !want := by cases t <;> cases want <;> simp_all
          rw [← e', upd_same ht] at h
          exact .inr ⟨by simp [e], h.2 rfl⟩
      · rename_i vs hv
        exact .inr ⟨rfl, h⟩
      · exact h.elim
def YV (P : Program) (H : Nat → Hint) (ops : Array Oper) (σ : Sg) (o : Oper) (x : AV) (ρ : Nat → AV) : Prop :=
  (Q5i ops o.guard ρ = some true ∧ vop P (H (o.dst.getD 0)) ρ o.type o.op σ (fun y σ' => y = x ∧ σ' = σ)) ∨ (Q5i ops o.guard ρ = some false ∧ x = .val undef)
theorem ev_congr {ρ ρ' : Nat → AV} {x : Operand} (h : ∀ t, x = .tmp t → ρ t = ρ' t) : ev ρ x = ev ρ' x := by
  cases x <;> simp only [ev]
  exact h _ rfl
theorem vop_congr {H : Hint} {ρ ρ' : Nat → AV} {ty : TypeId} {o : Op} (h : ∀ x ∈ o.operands, ev ρ x = ev ρ' x) : vop P H ρ ty o σ R = vop P H ρ' ty o σ R := by
  cases o <;> simp only [vop]
  case move x => rw [h x (by simp [Op.operands])]
  case assign x => rw [h x (by simp [Op.operands])]
  case pick c x y => rw [h c (by simp [Op.operands]), h x (by simp [Op.operands]), h y (by simp [Op.operands])]
  case box e x => rw [h x (by simp [Op.operands])]
  case build t parts =>
    rw [show (parts.toList.map fun p => (p.1, ev ρ p.2)) = parts.toList.map fun p => (p.1, ev ρ' p.2) from List.map_congr_left (fun p hp => by rw [h p.2 (by simp only [Op.operands, List.mem_toArray, List.mem_map]; exact ⟨p, hp, rfl⟩)])]
  case buildSlice t len parts =>
    rw [show (parts.toList.map fun p => (p.1, ev ρ p.2)) = parts.toList.map fun p => (p.1, ev ρ' p.2) from List.map_congr_left (fun p hp => by rw [h p.2 (by simp only [Op.operands, List.mem_toArray, List.mem_map]; exact ⟨p, hp, rfl⟩)])]
  case load t x => rw [h x (by simp [Op.operands])]
  case store t x y => rw [h x (by simp [Op.operands]), h y (by simp [Op.operands])]
  case nilCheck x => rw [h x (by simp [Op.operands])]
  case binOp op t x y u => rw [h x (by simp [Op.operands]), h y (by simp [Op.operands])]
  case unOp op t x => rw [h x (by simp [Op.operands])]
  case convert s d x => rw [h x (by simp [Op.operands])]
  case makeFunc fn first captured =>
    cases fn <;> simp only
    rw [show captured.toList.map (ev ρ) = captured.toList.map (ev ρ') from List.map_congr_left (fun p hp => h p (by simp only [Op.operands, Array.mem_append]; exact .inr (Array.mem_toList_iff.1 hp))),
      show first.toList.map (ev ρ) = first.toList.map (ev ρ') from List.map_congr_left (fun p hp => h p (by simp only [Op.operands, Array.mem_append]; exact .inl (Array.mem_toList_iff.1 hp)))]
  case makeMap t r => cases r <;> simp only
  case makeSlice t l c => rw [h l (by simp [Op.operands]), h c (by simp [Op.operands])]
  case slice t x lo hi mx =>
    rw [h x (by simp [Op.operands])]
    have ho : ∀ (y : Option Operand), (∀ z, y = some z → ev ρ z = ev ρ' z) → y.map (ev ρ) = y.map (ev ρ') := fun y hy => by
      cases y with
      | none => rfl
      | some z => simp [hy z rfl]
    rw [ho lo (fun z hz => h z (by simp [Op.operands, hz])), ho hi (fun z hz => h z (by simp [Op.operands, hz])), ho mx (fun z hz => h z (by simp [Op.operands, hz]))]
  case fieldAddr s x f => rw [h x (by simp [Op.operands])]
  case field s x f => rw [h x (by simp [Op.operands])]
  case indexAddr t x i => rw [h x (by simp [Op.operands]), h i (by simp [Op.operands])]
  case index t x i => rw [h x (by simp [Op.operands]), h i (by simp [Op.operands])]
  case lookup t m k ok => rw [h m (by simp [Op.operands]), h k (by simp [Op.operands])]
  case mapUpdate t m k x => rw [h m (by simp [Op.operands]), h k (by simp [Op.operands]), h x (by simp [Op.operands])]
  case extract x ix => rw [h x (by simp [Op.operands])]
  case call c =>
    obtain ⟨callee, args, ats⟩ := c
    have ha : args.toList.map (ev ρ) = args.toList.map (ev ρ') := List.map_congr_left (fun p hp => h p (by simp only [Op.operands, Call.operands, Array.mem_append]; exact .inr (Array.mem_toList_iff.1 hp)))
    have hm : ∀ p ∈ args.toList, ev ρ p = ev ρ' p := fun p hp => h p (by simp only [Op.operands, Call.operands, Array.mem_append]; exact .inr (Array.mem_toList_iff.1 hp))
    unfold vcall
    cases callee with
    | value f =>
      simp only
      rw [h f (by simp [Op.operands, Call.operands]), ha]
    | invoke r m => rfl
    | builtin b =>
      simp only
      rw [ha]
def vqOp (P : Program) (H : Nat → Hint) (ops : Array Oper) (σ : Sg) (i : Nat) (Q : (Nat → AV) → Prop) (ρ : Nat → AV) : Prop :=
  match ops[i]? with
  | none => Q ρ
  | some o => ∃ x, YV P H ops σ o x ρ ∧ Q (updo ρ o.dst x)
theorem vqOp_mono {H : Nat → Hint} {ops : Array Oper} {i : Nat} {Q Q' : (Nat → AV) → Prop} (h : ∀ ρ, Q ρ → Q' ρ) (hh : vqOp P H ops σ i Q ρ) : vqOp P H ops σ i Q' ρ := by
  unfold vqOp at *
  split
  · rename_i ho; rw [ho] at hh; exact h _ hh
  · rename_i o ho
    rw [ho] at hh
    obtain ⟨x, h1, h2⟩ := hh
    exact ⟨x, h1, h _ h2⟩
def vAny (P : Program) (H : Nat → Hint) (md : Region.Mode) (ops : Array Oper) (σ : Sg) (Q : (Nat → AV) → Prop) : Nat → Array Bool → (Nat → AV) → Prop
  | 0, listed, ρ => Region.ready md ops listed = [] ∧ Q ρ
  | fuel + 1, listed, ρ => (Region.ready md ops listed = [] → Q ρ) ∧ ∀ i ∈ Region.ready md ops listed, vqOp P H ops σ i (vAny P H md ops σ Q fuel (listed.setIfInBounds i true)) ρ
theorem X1n {ρ : Nat → AV} {x y : Option Tmp} (u v : AV) (h : ∀ d, x = some d → y ≠ some d) : updo (updo ρ x u) y v = updo (updo ρ y v) x u := by
  cases x with
  | none => rfl
  | some d =>
    cases y with
    | none => rfl
    | some e =>
      have hne : d ≠ e := fun he => h d rfl (he ▸ rfl)
      funext t
      simp only [updo, upd]
      by_cases h1 : t = d
      · rw [if_pos h1, if_neg (fun h2 => hne (h1.symm.trans h2)), if_pos h1]
      · rw [if_neg h1]
        by_cases h2 : t = e
        · rw [if_pos h2, if_neg h1]
        · rw [if_neg h2, if_neg h1]
theorem YV.agree {H : Nat → Hint} {ops : Array Oper} {o : Oper} {x : AV} {ρ' : Nat → AV} (h : ∀ t ∈ o.looksAt ops, ρ t = ρ' t) (hy : YV P H ops σ o x ρ) : YV P H ops σ o x ρ' := by
  have hw : Q5i ops o.guard ρ = Q5i ops o.guard ρ' := by
    unfold Q5i
    cases hg : o.guard with
    | none => rfl
    | some jw =>
      obtain ⟨j, want⟩ := jw
      simp only
      cases hs : (ops[j]?).bind (·.dst) with
      | none => rfl
      | some s =>
        simp only
        rw [h s (by unfold Oper.looksAt; rw [hg]; simp [hs])]
  have ho : ∀ x ∈ o.op.operands, ev ρ x = ev ρ' x := fun x hx => ev_congr (fun t ht => h t (by
    unfold Oper.looksAt
    rw [List.mem_append]
    refine .inl (List.mem_filterMap.2 ⟨x, Array.mem_toList_iff.2 hx, ?_⟩)
    rw [ht]))
  unfold YV at *
  rw [← hw, ← vop_congr ho]
  exact hy
theorem Q4t {ρ : Nat → AV} {d : Option Tmp} {x : AV} {l : List Tmp} (h : ∀ t, d = some t → t ∉ l) : ∀ t ∈ l, ρ t = (updo ρ d x) t := by
  intro t ht
  cases d with
  | none => rfl
  | some d =>
    simp only [updo, upd]
    rw [if_neg (fun (e : t = d) => h d rfl (by rw [← e]; exact ht))]
theorem vqOp_put {H : Nat → Hint} {ops : Array Oper} {j : Nat} {oi oj : Oper} {v : AV} (hj : ops[j]? = some oj) (hap : oi.apart ops oj = true) {Q : (Nat → AV) → Prop}
    (hy : YV P H ops σ oi v ρ) (h : vqOp P H ops σ j Q (updo ρ oi.dst v)) : vqOp P H ops σ j (fun ρ' => YV P H ops σ oi v ρ' ∧ Q (updo ρ' oi.dst v)) ρ := by
  obtain ⟨h1, h2, h3⟩ := Oper.apart_spec hap
  unfold vqOp at *
  rw [hj] at h ⊢
  obtain ⟨x, hx, hq⟩ := h
  refine ⟨x, hx.agree (fun t ht => (Q4t h1 t ht).symm), hy.agree (Q4t h3), ?_⟩
  rw [← X1n v x h2]
  exact hq
theorem vAny_first {H : Nat → Hint} {md : Region.Mode} {ops : Array Oper} {Q : (Nat → AV) → Prop} {i : Nat} {oi : Oper} {v : AV} (hi : ops[i]? = some oi) : ∀ (fuel : Nat) (listed : Array Bool) (ρ : Nat → AV),
      (∀ j oj, ops[j]? = some oj → j ≠ i → listed.getD j true = false → (∀ e ∈ oj.after, Region.binds md e = true → e.on ≠ i) → oi.apart ops oj = true) →
      i ∈ Region.ready md ops listed → YV P H ops σ oi v ρ → vAny P H md ops σ Q fuel (listed.setIfInBounds i true) (updo ρ oi.dst v) → vAny P H md ops σ Q (fuel + 1) listed ρ := by
  have self : ∀ {ρ : Nat → AV} {K : (Nat → AV) → Prop}, YV P H ops σ oi v ρ → K (updo ρ oi.dst v) → vqOp P H ops σ i K ρ := fun {ρ K} hy hk => by
    unfold vqOp
    rw [hi]
    exact ⟨v, hy, hk⟩
  intro fuel
  induction fuel with
  | zero =>
    intro listed ρ _ hr hy H'
    refine ⟨fun h => (by rw [h] at hr; cases hr), fun j hj => ?_⟩
    by_cases hji : j = i
    · subst hji; exact self hy H'
    · have := ready_mono hj hji
      rw [H'.1] at this
      cases this
  | succ fuel ih =>
    intro listed ρ hfree hr hy H'
    refine ⟨fun h => (by rw [h] at hr; cases hr), fun j hj => ?_⟩
    by_cases hji : j = i
    · subst hji; exact self hy H'
    · have h1 := H'.2 j (ready_mono hj hji)
      obtain ⟨hjun, oj, hoj, hall⟩ := mem_ready.1 hj
      have hnot : ∀ e ∈ oj.after, Region.binds md e = true → e.on ≠ i := fun e he hb heq => by
        have h1 := hall e he hb
        have h0 := (mem_ready.1 hr).1
        rw [heq] at h1
        rcases Nat.lt_or_ge i listed.size with h' | h'
        · simp [h'] at h0 h1; rw [h0] at h1; cases h1
        · simp [Array.getElem?_eq_none h'] at h1
      have h2 := vqOp_put hoj (hfree j oj hoj hji hjun hnot) hy h1
      have hfree' : ∀ k ok, ops[k]? = some ok → k ≠ i → (listed.setIfInBounds j true).getD k true = false →
          (∀ e ∈ ok.after, Region.binds md e = true → e.on ≠ i) → oi.apart ops ok = true := fun k ok hk hki hun hno => by
        refine hfree k ok hk hki ?_ hno
        by_cases hjk : j = k
        · subst hjk; exact hjun
        · rw [getD_set_ne true hjk] at hun; exact hun
      refine vqOp_mono (fun ρ' h3 => ih (listed.setIfInBounds j true) ρ' hfree' (ready_mono hr (Ne.symm hji)) h3.1 ?_) h2
      rw [Array.setIfInBounds_comm _ _ hji]
      exact h3.2
theorem vAny_lex {H : Nat → Hint} {md : Region.Mode} {ops : Array Oper} {Q : (Nat → AV) → Prop} : ∀ (l : List Oper) (k : Nat) (listed : Array Bool) (ρ : Nat → AV), (∀ j, l[j]? = ops[k + j]?) →
    Region.lexFrom md ops l.length k listed = true → Q3o P H ops σ Q l ρ → vAny P H md ops σ Q l.length listed ρ
  | [], _, _, _, _, hB, h => ⟨by simpa [Region.lexFrom] using hB, h⟩
  | o :: l, k, listed, ρ, hl, hB, h => by
    have h0 : ops[k]? = some o := by simpa using (hl 0).symm
    simp only [List.length_cons, Region.lexFrom, Bool.and_eq_true] at hB
    obtain ⟨⟨hr, hf⟩, hB'⟩ := hB
    unfold Q3o at h
    have hk : ∃ x, YV P H ops σ o x ρ ∧ Q3o P H ops σ Q l (updo ρ o.dst x) := by
      rcases Q7i h with ⟨h1, x, h2, h3⟩ | ⟨h1, h2⟩
      · exact ⟨x, .inl ⟨h1, h2⟩, h3⟩
      · exact ⟨_, .inr ⟨h1, rfl⟩, h2⟩
    obtain ⟨x, hy, hK⟩ := hk
    exact vAny_first h0 l.length listed ρ (Region.free_spec h0 hf) (by simpa using hr) hy
      (vAny_lex l (k + 1) _ _ (fun j => by have := hl (j + 1); simpa [Nat.add_assoc, Nat.add_comm 1 j] using this) hB' hK)
theorem Q2w {κ0 : K} {n : Nat} {ops : Array Oper} {o : Oper} {b : Bool} (h : Fits κ0 κ n ρ σ a) (hw : Q5i ops o.guard ρ = some b) : Region.wanted o (yielded ops a.tmps) = b := by
  have hg : Q8i ops o.guard ρ (fun _ => b = true) (fun _ => b = false) := by
    unfold Q5i at hw
    unfold Q8i
    cases hgd : o.guard with
    | none => rw [hgd] at hw; simp at hw; rw [← hw]
    | some jw =>
      obtain ⟨j, want⟩ := jw
      rw [hgd] at hw
      simp only at hw ⊢
      cases hs : (ops[j]?).bind (·.dst) with
      | none => rw [hs] at hw; cases hw
      | some s =>
        rw [hs] at hw
        simp only at hw ⊢
        split at hw
        · rename_i t ht
          cases hw
          exact ⟨fun e => by simp [e], fun e => by rw [e]; cases want <;> rfl⟩
        · rename_i vs hv
          cases hw
          rfl
        · cases hw
  obtain ⟨ρ', _, ⟨h1, h2⟩ | ⟨h1, h2⟩⟩ := X0v h hg
  · rw [h1, h2]
  · rw [h1, h2]
theorem Q7t {κ0 : K} {n : Nat} {H : Nat → Hint} {md : Region.Mode} {ops : Array Oper} {Q : (Nat → AV) → Prop} {Q' : Exit → Act → World → Prop} (hQ : ∀ κ ρ a, Fits κ0 κ n ρ σ a → Q ρ → Q' .normal a κ.w) (hok : opsOK n ops = true) :
    ∀ (fuel : Nat) (listed : Array Bool) (κ : K) (ρ : Nat → AV) (a : Act), Fits κ0 κ n ρ σ a → vAny P H md ops σ Q fuel listed ρ → wpAny P md ops Q' fuel listed a κ.w
  | 0, _, κ, ρ, a, h, hw => ⟨hw.1, hQ κ ρ a h hw.2⟩
  | fuel + 1, listed, κ, ρ, a, h, hw => by
    refine ⟨fun h0 => hQ κ ρ a h (hw.1 h0), fun i hi => ?_⟩
    have := hw.2 i hi
    unfold vqOp at this
    unfold wpOp
    cases ho : ops[i]? with
    | none => rw [ho] at this; exact Q7t hQ hok fuel _ κ ρ a h this
    | some o =>
      rw [ho] at this
      simp only
      have hd : ∀ t, o.dst = some t → t < n := fun t ht => by
        unfold opsOK at hok
        rw [← Array.all_toList, List.all_eq_true] at hok
        have := hok o (by rw [Array.mem_toList_iff]; exact Array.mem_of_getElem? ho)
        rw [ht] at this
        simpa using this
      obtain ⟨x, hy, hk⟩ := this
      rcases hy with ⟨h1, h2⟩ | ⟨h1, rfl⟩
      · rw [if_pos (Q2w h h1)]
        refine .inl (Q7s h hd (Q9f h.st h.env h2) (fun κ' y v σ' hf' hR => ?_))
        obtain ⟨h5, h6⟩ := hR
        rw [h5, h6] at hf'
        exact Q7t hQ hok fuel _ κ' _ _ hf' hk
      · rw [if_neg (by rw [Q2w h h1]; simp)]
        exact Q7t hQ hok fuel _ κ _ _ (h.put (.refl κ) h.st (.val _) hd) hk
theorem Fits.drew {κ0 : K} {n : Nat} (h : Fits κ0 κ n ρ σ a) : Fits κ0 κ.drew n ρ σ a := ⟨h.le.trans κ.le_drew, h.st.drew, h.env.mono κ.le_drew, h.size, h.defers⟩
end Go.V
namespace Go.V
open Go.RowKit
variable {P : Program} {κ : K} {σ : Sg} {ρ : Nat → AV} {a : Act} {R : AV → Sg → Prop}
structure VW (P : Program) (H : Nat → Hint) (n : Nat) (c : Code) (Q : VX → (Nat → AV) → Sg → Prop) (ρ : Nat → AV) (σ : Sg) : Prop where
  hint : H = H
  run : P.follows .mixedOrders = true → Q6w n c = true → ∀ (κ0 κ : K) (a : Act), Fits κ0 κ n ρ σ a → c.wp P (Lift κ0 n Q) a κ.w
section rules
variable {H : Nat → Hint} {n : Nat} {Q Q' : VX → (Nat → AV) → Sg → Prop}
def sq (k : (Nat → AV) → Sg → Prop) (Q : VX → (Nat → AV) → Sg → Prop) : VX → (Nat → AV) → Sg → Prop
  | .normal => k
  | .exit id => Q (.exit id)
  | .ret => Q .ret
def bq (id : Nat) (Q : VX → (Nat → AV) → Sg → Prop) : VX → (Nat → AV) → Sg → Prop
  | .normal => Q .normal
  | .exit id' => if id' = id then Q .normal else Q (.exit id')
  | .ret => Q .ret
theorem bq_exit (id id' : Nat) : bq id Q (.exit id') = if id' = id then Q .normal else Q (.exit id') := rfl
theorem Lift.mono {κ0 : K} (h : ∀ e ρ σ, Q e ρ σ → Q' e ρ σ) : ∀ e a w, Lift κ0 n Q e a w → Lift κ0 n Q' e a w := by
  intro e a w hq
  cases e with
  | normal => obtain ⟨κ, ρ, σ, h1, h2, h3⟩ := hq; exact ⟨κ, ρ, σ, h1, h2, h _ _ _ h3⟩
  | exit id => obtain ⟨κ, ρ, σ, h1, h2, h3⟩ := hq; exact ⟨κ, ρ, σ, h1, h2, h _ _ _ h3⟩
  | ret => obtain ⟨κ, ρ, σ, h1, h2, h3⟩ := hq; exact ⟨κ, ρ, σ, h1, h2, h _ _ _ h3⟩
  | goto l => exact hq
  | panic ch => exact hq
  | outgrown => exact hq
theorem VW.mono {c : Code} (hw : VW P H n c Q ρ σ) (h : ∀ e ρ σ, Q e ρ σ → Q' e ρ σ) : VW P H n c Q' ρ σ :=
  ⟨rfl, fun hm hok κ0 κ a hf => wp_mono (hw.run hm hok κ0 κ a hf) (Lift.mono h)⟩
theorem VW.weak {c : Code} {ρ' : Nat → AV} (h : ∀ i, ρ' i = ρ i ∨ ρ' i = .junk) (hw : VW P H n c Q ρ' σ) : VW P H n c Q ρ σ :=
  ⟨rfl, fun hm hok κ0 κ a hf => hw.run hm hok κ0 κ a ⟨hf.le, hf.st, fun t => by
    rcases h t with e | e <;> rw [e]
    · exact hf.env t
    · exact .junk _, hf.size, hf.defers⟩⟩
theorem VW.forget {c : Code} {σ' : Sg} (h : σ'.sub σ) (hw : VW P H n c Q ρ σ') : VW P H n c Q ρ σ :=
  ⟨rfl, fun hm hok κ0 κ a hf => hw.run hm hok κ0 κ a ⟨hf.le, hf.st.sub h, hf.env, hf.size, hf.defers⟩⟩
theorem VW.skip (h : Q .normal ρ σ) : VW P H n .skip Q ρ σ := ⟨rfl, fun _ _ _ κ _ hf => wp_skip ⟨κ, ρ, σ, rfl, hf, h⟩⟩
theorem VW.exit {id : Nat} (h : Q (.exit id) ρ σ) : VW P H n (.exit id) Q ρ σ := ⟨rfl, fun _ _ _ κ _ hf => wp_exit ⟨κ, ρ, σ, rfl, hf, h⟩⟩
theorem VW.ret (h : Q .ret ρ σ) : VW P H n .ret Q ρ σ := ⟨rfl, fun _ _ _ κ _ hf => wp_ret ⟨κ, ρ, σ, rfl, hf, h⟩⟩
theorem VW.region {id : Nat} {ops : Array Oper} (h : vops P H ops (Q .normal) ops.toList ρ σ) : VW P H n (.region id ops false) Q ρ σ := by
  refine ⟨rfl, ?_⟩
  intro _ hok κ0 κ a hf
  have hq : ∀ κ ρ σ a, Fits κ0 κ n ρ σ a → Q .normal ρ σ → Lift κ0 n Q .normal a κ.w := fun κ ρ σ a h hw => ⟨κ, ρ, σ, rfl, h, hw⟩
  have := X2p (P := P) (H := H) (Q' := Lift κ0 n Q) hq hok ops.toList 0 κ ρ σ a (fun j => by simp) hf h
  refine wp_region ?_
  have hlist : (List.range ops.toList.length).map (0 + ·) = List.range ops.size := by simp
  rw [hlist] at this
  exact this
theorem VW.draw {id : Nat} {ops : Array Oper} (hB : Region.lexB .any ops = true) (h : Q3o P H ops σ (fun ρ => Q .normal ρ σ) ops.toList ρ) : VW P H n (.region id ops true) Q ρ σ := by
  refine ⟨rfl, ?_⟩
  intro hm hok κ0 κ a hf
  simp only [Region.lexB, Bool.and_eq_true] at hB
  refine wp_region_any hm ?_
  have := vAny_lex (P := P) (H := H) (md := .any) (ops := ops) (σ := σ) ops.toList 0 (Array.replicate ops.size false) ρ (by simp) (by simpa using hB.2) h
  have h2 := Q7t (P := P) (κ0 := κ0) (n := n) (Q' := Lift κ0 n Q) (fun κ ρ a h hw => ⟨κ, ρ, σ, rfl, h, hw⟩) hok _ _ κ.drew ρ a hf.drew this
  simp only [Array.length_toList] at h2
  exact h2
theorem VW.seq {x y : Code} (h : VW P H n x (sq (VW P H n y Q) Q) ρ σ) : VW P H n (.seq x y) Q ρ σ := by
  refine ⟨rfl, ?_⟩
  intro hm hok κ0 κ a hf
  simp only [Q6w, Bool.and_eq_true] at hok
  refine wp_seq (wp_mono (h.run hm hok.1 κ0 κ a hf) (fun e a' w' hq => ?_))
  cases e with
  | normal =>
    obtain ⟨κ', ρ', σ', rfl, hf, hv⟩ := hq
    exact hv.run hm hok.2 κ0 κ' a' hf
  | exit id => exact hq
  | ret => exact hq
  | goto l => exact hq
  | panic ch => exact hq
  | outgrown => exact hq
theorem VW.sr {id : Nat} {ops : Array Oper} {y : Code} (h : vops P H ops (VW P H n y Q) ops.toList ρ σ) : VW P H n (.seq (.region id ops false) y) Q ρ σ := .seq (.region h)
theorem VW.sd {id : Nat} {ops : Array Oper} {y : Code} (hB : Region.lexB .any ops = true) (h : Q3o P H ops σ (fun ρ => VW P H n y Q ρ σ) ops.toList ρ) : VW P H n (.seq (.region id ops true) y) Q ρ σ := .seq (.draw hB h)
theorem VW.cond {c : Operand} {x y : Code} {t : Bool} (hc : ev ρ c = .b t) (h : (t = true → VW P H n x Q ρ σ) ∧ (t = false → VW P H n y Q ρ σ)) : VW P H n (.cond c x y) Q ρ σ := by
  refine ⟨rfl, ?_⟩
  intro hm hok κ0 κ a hf
  simp only [Q6w, Bool.and_eq_true] at hok
  have hr := Q0y hf.st hf.env c
  rw [hc] at hr
  have hv : a.eval c = .bool t := by
    generalize a.eval c = v at hr
    cases hr
    rfl
  exact wp_cond_split hv (fun ht => (h.1 ht).run hm hok.1 κ0 κ a hf) (fun ht => (h.2 ht).run hm hok.2 κ0 κ a hf)
theorem VW.block {id : Nat} {c : Code} (h : VW P H n c (bq id Q) ρ σ) : VW P H n (.block id c) Q ρ σ := by
  refine ⟨rfl, ?_⟩
  intro hm hok κ0 κ a hf
  refine wp_block (wp_mono (h.run hm hok κ0 κ a hf) (fun e a' w' hq => ?_))
  cases e with
  | normal => exact hq
  | exit id' =>
    obtain ⟨κ', ρ', σ', rfl, hf, hv⟩ := hq
    simp only [Exit.inBlock]
    rw [bq_exit] at hv
    by_cases e : id' = id
    · rw [if_pos e] at hv ⊢
      exact ⟨κ', ρ', σ', rfl, hf, hv⟩
    · rw [if_neg e] at hv ⊢
      exact ⟨κ', ρ', σ', rfl, hf, hv⟩
  | ret => exact hq
  | goto l => exact hq
  | panic ch => exact hq
  | outgrown => exact hq
def env : List (Nat × AV) → Nat → AV
  | [], _ => .junk
  | (t, x) :: r, i => if i = t then x else env r i
def Holds (vals : List (Nat × AV)) (ρ : Nat → AV) : Prop := ∀ p ∈ vals, ρ p.1 = p.2
theorem Holds.weak : ∀ {vals : List (Nat × AV)} {ρ : Nat → AV}, Holds vals ρ → ∀ i, env vals i = ρ i ∨ env vals i = .junk
  | [], _, _, _ => .inr rfl
  | (t, x) :: r, ρ, h, i => by
    simp only [env]
    by_cases e : i = t
    · rw [if_pos e, e]; exact .inl (h (t, x) (by simp)).symm
    · rw [if_neg e]; exact Holds.weak (fun p hp => h p (by simp [hp])) i
def At {α : Type} (Inv : α → Prop) (vals : α → List (Nat × AV)) (sg : α → Sg) (ρ : Nat → AV) (σ : Sg) : Prop := ∃ y, Inv y ∧ (sg y).sub σ ∧ Holds (vals y) ρ
theorem VW.cut {α : Type} {x y : Code} (Inv : α → Prop) (vals : α → List (Nat × AV)) (sg : α → Sg) (h : VW P H n x (sq (At Inv vals sg) Q) ρ σ) (h' : ∀ z, Inv z → VW P H n y Q (env (vals z)) (sg z)) : VW P H n (.seq x y) Q ρ σ := by
  refine .seq (h.mono (fun e ρ σ hq => ?_))
  cases e with
  | normal =>
    obtain ⟨z, hz, hs, hv⟩ := hq
    exact ((h' z hz).weak (Holds.weak hv)).forget hs
  | exit id => exact hq
  | ret => exact hq
theorem VW.loop {α : Type} {c : Code} (x : α) (Inv : α → Prop) (vals : α → List (Nat × AV)) (sg : α → Sg) (m : α → Nat) (h0 : Inv x) (hσ : (sg x).sub σ) (hρ : Holds (vals x) ρ)
    (round : ∀ y, Inv y → VW P H n c (sq (fun ρ σ => ∃ z, (Inv z ∧ m z < m y) ∧ (sg z).sub σ ∧ Holds (vals z) ρ) Q) (env (vals y)) (sg y)) : VW P H n (.loop c) Q ρ σ := by
  refine ⟨rfl, ?_⟩
  intro hm hok κ0 κ a hf
  refine wp_loop_ghost (fun k a w => ∃ κ ρ y, κ.w = w ∧ Fits κ0 κ n ρ (sg y) a ∧ Inv y ∧ m y = k ∧ Holds (vals y) ρ) (m x) ⟨κ, ρ, x, rfl, ⟨hf.le, hf.st.sub hσ, hf.env, hf.size, hf.defers⟩, h0, rfl, hρ⟩ ?_
  rintro k a' w' ⟨κ', ρ', y, rfl, hf', hI, rfl, hv⟩
  refine wp_mono (((round y hI).weak (Holds.weak hv)).run hm hok κ0 κ' a' hf') (fun e a'' w'' hq => ?_)
  cases e with
  | normal =>
    obtain ⟨κ2, ρ2, σ2, rfl, hf2, z, ⟨hz, hlt⟩, hs, hv2⟩ := hq
    exact ⟨m z, hlt, κ2, ρ2, z, rfl, ⟨hf2.le, hf2.st.sub hs, hf2.env, hf2.size, hf2.defers⟩, hz, rfl, hv2⟩
  | exit id => exact hq
  | ret => exact hq
  | goto l => exact hq
  | panic ch => exact hq
  | outgrown => exact hq
theorem VW.loop3 {α β γ : Type} {c : Code} (x : α) (y : β) (z : γ) (Inv : α → β → γ → Prop) (vals : α → β → γ → List (Nat × AV)) (sg : α → β → γ → Sg) (m : α → β → γ → Nat) (h0 : Inv x y z) (hσ : (sg x y z).sub σ) (hρ : Holds (vals x y z) ρ)
    (round : ∀ a b d, Inv a b d → VW P H n c (sq (fun ρ σ => ∃ a' b' d', (Inv a' b' d' ∧ m a' b' d' < m a b d) ∧ (sg a' b' d').sub σ ∧ Holds (vals a' b' d') ρ) Q) (env (vals a b d)) (sg a b d)) : VW P H n (.loop c) Q ρ σ :=
  .loop (x, y, z) (fun p => Inv p.1 p.2.1 p.2.2) (fun p => vals p.1 p.2.1 p.2.2) (fun p => sg p.1 p.2.1 p.2.2) (fun p => m p.1 p.2.1 p.2.2) h0 hσ hρ (fun p hp => (round p.1 p.2.1 p.2.2 hp).mono (fun e ρ σ hq => by
    cases e with
    | normal => obtain ⟨a', b', d', h⟩ := hq; exact ⟨(a', b', d'), h⟩
    | exit id => exact hq
    | ret => exact hq))
end rules
def pack : List AV → AV
  | [x] => x
  | xs => .tup xs
def vres (P : Program) (ρ : Nat → AV) (σ : Sg) : List ResultVar → (List AV → Prop) → Prop
  | [], Q => Q []
  | .tmp t :: r, Q => vres P ρ σ r (fun xs => Q (ρ t :: xs))
  | .cell b t :: r, Q => X1i P t (ρ b) σ (fun x => vres P ρ σ r (fun xs => Q (x :: xs)))
def VRet (P : Program) (rs : List ResultVar) (R : AV → Sg → Prop) : VX → (Nat → AV) → Sg → Prop
  | .exit _, _, _ => False
  | _, ρ, σ => vres P ρ σ rs (fun xs => ∃ σ' : Sg, σ'.sub σ ∧ R (pack xs) σ')
theorem pack_rel {xs : List AV} {vs : Array Value} (h : RelRow κ xs vs) : Rel κ (pack xs) (if h : vs.size = 1 then vs[0] else .tuple vs) := by
  have hl := h.1
  unfold pack
  split
  · obtain ⟨v, rfl, hv⟩ := X0b h
    exact hv
  · rename_i hne
    split
    · rename_i h1
      rw [h1] at hl
      match xs, hl with
      | [x], _ => exact absurd rfl (hne x)
    · exact .tup _ _ h.1 h.2
def runRes (tmps : Array Value) : ResultVar → Sem Value
  | .tmp t => pure (tmps.getD t undef)
  | .cell b t => do loadVar t (← asAddr (tmps.getD b undef))
theorem vres_sound {rs : List ResultVar} {Q : List AV → Prop} (h : St κ σ) (hρ : RelEnv κ ρ a.tmps) (hw : vres P ρ σ rs Q) :
    ∃ (vs : List Value) (xs : List AV), (rs.mapM (runRes a.tmps)).run P κ.w = .ok vs κ.w ∧ RelRow κ xs vs.toArray ∧ Q xs := by
  induction rs generalizing Q with
  | nil => exact ⟨[], [], rfl, ⟨rfl, fun i x v hx => by simp at hx⟩, hw⟩
  | cons r rs ih =>
    have cons : ∀ {x : AV} {v : Value} {xs : List AV} {vs : List Value}, Rel κ x v → RelRow κ xs vs.toArray → RelRow κ (x :: xs) (v :: vs).toArray := fun {x v xs vs} hx hr => by
      refine ⟨by have := hr.1; simp at this; simp [this], fun i y u h1 h2 => ?_⟩
      rw [List.getElem?_toArray] at h2
      cases i with
      | zero => simp at h1 h2; subst h1; subst h2; exact hx
      | succ i => exact hr.2 i y u (by simpa using h1) (by rw [List.getElem?_toArray]; simpa using h2)
    cases r with
    | tmp t =>
      obtain ⟨vs, xs, h1, h2, h3⟩ := ih hw
      exact ⟨a.tmps.getD t undef :: vs, ρ t :: xs, by simp only [List.mapM_cons, runRes, Sem.run_bind, Sem.run_pure, Result.andThen, h1], cons (hρ t) h2, h3⟩
    | cell b t =>
      have hb := hρ b
      obtain ⟨ad, u, y, hv, h1, h2, h3⟩ := load_rel h hb hw
      obtain ⟨vs, xs, h4, h5, h6⟩ := ih h3
      exact ⟨u :: vs, y :: xs, by simp only [List.mapM_cons, runRes, Sem.run_bind, Sem.run_pure, Result.andThen, hv, asAddr, h1, h4], cons h2 h5, h6⟩
def Q6o (args : List AV) : Nat → AV := fun i => args.getD i (.val undef)
theorem vcalls {f : FuncId} {fn : Func} {c : Code} {args : List AV} (H : Nat → Hint) (hm : P.follows .mixedOrders = true) (hf : P.funcs[f]? = some fn) (hb : fn.body = some c) (hname : fn.name ≠ "runtime.NumGoroutine")
    (hok : Q6w fn.ntmps c = true) (hn : args.length ≤ fn.ntmps) (hw : VW P H fn.ntmps c (VRet P fn.results.toList R) (Q6o args) σ) : VCalls P f args σ R := by
  refine ⟨fun κ vs hst hargs => ?_⟩
  have hrun : (callFunc f vs).run P κ.w = .ok (.enter f vs) κ.w := by
    simp [callFunc, program, Sem.run, Bind.bind, Sem.bind, hf, hname, hb]
  rw [hrun]
  have hsz : vs.size = args.length := hargs.1.symm
  have henv : RelEnv κ (Q6o args) (vs ++ Array.replicate (fn.ntmps - vs.size) undef) := by
    intro t
    unfold Q6o
    rcases Nat.lt_or_ge t args.length with h | h
    · have h1 : (vs ++ Array.replicate (fn.ntmps - vs.size) undef).getD t undef = vs[t]'(by omega) := by
        rw [Array.getD_eq_getD_getElem?, Array.getElem?_append_left (by omega)]
        simp [show t < vs.size by omega]
      rw [h1, List.getD_eq_getElem?_getD, List.getElem?_eq_getElem h]
      exact hargs.2 t args[t] _ (List.getElem?_eq_getElem h) (by simp [show t < vs.size by omega])
    · have h1 : (vs ++ Array.replicate (fn.ntmps - vs.size) undef).getD t undef = undef := by
        rw [Array.getD_eq_getD_getElem?, Array.getElem?_append_right (by omega)]
        rcases Nat.lt_or_ge (t - vs.size) (fn.ntmps - vs.size) with h2 | h2
        · simp [h2]
        · simp [Nat.not_lt.2 h2]
      rw [h1, List.getD_eq_getElem?_getD, List.getElem?_eq_none h]
      exact .val _
  have hfit : Fits κ κ fn.ntmps (Q6o args) σ { tmps := vs ++ Array.replicate (fn.ntmps - vs.size) undef, defers := [] } :=
    ⟨.refl κ, hst, henv, by simp; omega, rfl⟩
  refine calls_of_wp hf hb (wp_mono (hw.run hm hok κ κ _ hfit) ?_)
  have fin : ∀ (κ' : K) (ρ : Nat → AV) (σ' : Sg) (a : Act), Fits κ κ' fn.ntmps ρ σ' a → vres P ρ σ' fn.results.toList (fun xs => ∃ σ'' : Sg, σ''.sub σ' ∧ R (pack xs) σ'') → a.defers = [] ∧ ∃ v, (results fn a.tmps).run P κ'.w = .ok v κ'.w ∧ PostE κ R (.returned v) κ'.w := by
    intro κ' ρ σ' a hf hv
    refine ⟨hf.defers, ?_⟩
    obtain ⟨us, xs, h1, h2, σ'', h3, h4⟩ := vres_sound hf.st hf.env hv
    refine ⟨if h : us.toArray.size = 1 then us.toArray[0] else .tuple us.toArray, ?_, κ', pack xs, σ'', rfl, hf.le, hf.st.sub h3, pack_rel h2, h4⟩
    have hres : results fn a.tmps = (do let vs ← fn.results.mapM (runRes a.tmps); pure (if h : vs.size = 1 then vs[0] else .tuple vs)) := by
      unfold results
      congr 1
    rw [hres, Sem.run_bind, Array.mapM_eq_mapM_toList, Sem.run_map]
    rw [h1]
    rfl
  intro e a' w' hq
  cases e with
  | normal => obtain ⟨κ', ρ', σ', rfl, hf, hv⟩ := hq; exact fin κ' ρ' σ' a' hf hv
  | ret => obtain ⟨κ', ρ', σ', rfl, hf, hv⟩ := hq; exact fin κ' ρ' σ' a' hf hv
  | exit id => obtain ⟨κ', ρ', σ', rfl, hf, hv⟩ := hq; exact hv.elim
  | goto l => exact hq.elim
  | panic ch => exact hq.elim
  | outgrown => exact hq.elim
theorem X3m {f : FuncId} {fn : Func} {e : Array Value → Sem Value} {args : List AV} (hf : P.funcs[f]? = some fn) (hname : (fn.name == "runtime.NumGoroutine") = false) (hb : fn.body.isNone = true) (hn : Extern.findNext fn = none) (he : Extern.find fn = some e)
    (h : ∀ (κ : K) (vs : Array Value), St κ σ → Q7b κ args vs → ∃ u w', (e vs).run P κ.w = .ok u w' ∧ Post κ R u w') : VCalls P f args σ R := by
  refine ⟨fun κ vs hst hargs => ?_⟩
  rw [run_callFunc_extern hf hname hb hn he]
  obtain ⟨u, w', h1, h2⟩ := h κ vs hst hargs
  rw [h1]
  exact h2
theorem vNoEscape {f : FuncId} {fn : Func} {x : AV} (hf : P.funcs[f]? = some fn) (hname : (fn.name == "runtime.NumGoroutine") = false) (hb : fn.body.isNone = true) (hn : Extern.findNext fn = none) (he : Extern.find fn = some Extern.AbiNoEscape.same) :
    VCalls P f [x] σ (fun y σ' => y = x ∧ σ' = σ) :=
  X3m hf hname hb hn he (fun κ vs hst hargs => by
    obtain ⟨v, rfl, hx⟩ := X0b hargs
    exact ⟨v, κ.w, rfl, Q0h hst hx ⟨rfl, rfl⟩⟩)
def upTo (c : UInt8) (l : List UInt8) : Nat := (l.takeWhile (fun x => x != c)).length
theorem find_upTo (c : UInt8) : ∀ (l : List UInt8) (k : Nat), (List.range' k l.length).find? (fun i => (l[i - k]?).getD 0 == c) = if upTo c l < l.length then some (k + upTo c l) else none
  | [], k => by simp [upTo]
  | x :: l, k => by
    simp only [List.length_cons, List.range'_succ, List.find?_cons, Nat.sub_self, List.getElem?_cons_zero, Option.getD_some]
    by_cases h : x = c
    · subst h
      simp [upTo]
    · have h1 : (x == c) = false := beq_false_of_ne h
      rw [h1]
      have ih := find_upTo c l (k + 1)
      have hc : (List.range' (k + 1) l.length).find? (fun i => ((x :: l)[i - k]?).getD 0 == c) = (List.range' (k + 1) l.length).find? (fun i => (l[i - (k + 1)]?).getD 0 == c) := by
        have : ∀ (m : List Nat), (∀ i ∈ m, k + 1 ≤ i) → m.find? (fun i => ((x :: l)[i - k]?).getD 0 == c) = m.find? (fun i => (l[i - (k + 1)]?).getD 0 == c) := by
          intro m
          induction m with
          | nil => intro _; rfl
          | cons i m ihm =>
            intro hm
            have hi := hm i (by simp)
            rw [List.find?_cons, List.find?_cons, ihm (fun j hj => hm j (by simp [hj]))]
            rw [show i - k = (i - (k + 1)) + 1 by omega, List.getElem?_cons_succ]
        exact this _ (fun i hi => by simp [List.mem_range'_1] at hi; omega)
      simp only [hc, ih]
      have hu : upTo c (x :: l) = upTo c l + 1 := by simp [upTo, List.takeWhile_cons, h]
      rw [hu]
      by_cases hlt : upTo c l < l.length
      · rw [if_pos hlt, if_pos (by omega)]; congr 1; omega
      · rw [if_neg hlt, if_neg (by omega)]
theorem vIndexByte {f : FuncId} {fn : Func} {s : ByteArray} {c : UInt8} (hf : P.funcs[f]? = some fn) (hname : (fn.name == "runtime.NumGoroutine") = false) (hb : fn.body.isNone = true) (hn : Extern.findNext fn = none) (he : Extern.find fn = some Extern.BytealgIndexByte.indexByte) :
    VCalls P f [.s s, .u8 c.toNat] σ (fun y σ' => y = .i (if upTo c s.data.toList < s.size then (upTo c s.data.toList : Nat) else -1) ∧ σ' = σ) :=
  X3m hf hname hb hn he (fun κ vs hst hargs => by
    obtain ⟨u, v, rfl, hx, hy⟩ := Q8u hargs
    cases hx
    cases hy
    refine ⟨_, κ.w, ?_, Q0h hst (.val _) ⟨rfl, rfl⟩⟩
    have hfind : (List.range s.size).find? (fun i => s[i]! == c) = if upTo c s.data.toList < s.size then some (upTo c s.data.toList) else none := by
      have h := find_upTo c s.data.toList 0
      simp only [Nat.zero_add, Nat.sub_zero] at h
      rw [show s.data.toList.length = s.size by simp] at h
      rw [List.range_eq_range', ← h]
      have : ∀ (m : List Nat), (∀ i ∈ m, i < s.size) → m.find? (fun i => s[i]! == c) = m.find? (fun i => (s.data.toList[i]?).getD 0 == c) := by
        intro m
        induction m with
        | nil => intro _; rfl
        | cons i m ihm =>
          intro hm
          have hi := hm i (by simp)
          rw [List.find?_cons, List.find?_cons, ihm (fun j hj => hm j (by simp [hj]))]
          have e1 : s[i]! = s[i] := by simp [hi]
          have e2 : (s.data.toList[i]?).getD 0 = s[i] := by
            rw [List.getElem?_eq_getElem (by simpa using hi)]
            rfl
          rw [e1, e2]
      exact this _ (fun i hi => by simpa [List.mem_range'_1] using hi)
    have hcc : ((c.toNat : Int).toNat).toUInt8 = c := by simp
    have hdef : (Extern.BytealgIndexByte.indexByte #[.string s, .int .u8 c.toNat]).run P κ.w =
        ((match (List.range s.size).find? fun i => s[i]! == ((c.toNat : Int).toNat).toUInt8 with | some i => pure (goInt i) | none => pure (goInt (-1)) : Sem Value)).run P κ.w := rfl
    rw [hdef, hcc, hfind]
    by_cases hlt : upTo c s.data.toList < s.size
    · rw [if_pos hlt, if_pos hlt]; rfl
    · rw [if_neg hlt, if_neg hlt]; rfl)
theorem Done.mono {R R' : AV → Sg → Prop} (h : ∀ x σ', R x σ' → R' x σ') {r : Result Next} (hd : Done P κ R r) : Done P κ R' r := by
  have post : ∀ {v w}, Post κ R v w → Post κ R' v w := fun ⟨κ', x, σ', h1, h2, h3, h4, h5⟩ => ⟨κ', x, σ', h1, h2, h3, h4, h _ _ h5⟩
  cases r with
  | halt x w => exact hd.elim
  | ok nx w =>
    cases nx <;> simp only [Done] at hd ⊢
    case value v => exact post hd
    case skip => exact post hd
    case enter f args =>
      refine hd.mono (fun e w' he => ?_)
      cases e with
      | returned v => exact post he
      | panicked c => exact he.elim
      | outgrown => exact he.elim
    case row r args => exact hd.mono (fun v w' he => post he)
theorem VCalls.mono {f : FuncId} {args : List AV} {R R' : AV → Sg → Prop} (hc : VCalls P f args σ R) (h : ∀ x σ', R x σ' → R' x σ') : VCalls P f args σ R' :=
  ⟨fun κ vs hst hargs => (hc.go κ vs hst hargs).mono h⟩
theorem VCalls.use {f : FuncId} {args : List AV} {X : AV} {S : Sg} {R' : AV → Sg → Prop} (hc : VCalls P f args σ (fun x σ' => x = X ∧ σ' = S)) (h : R' X S) : VCalls P f args σ R' :=
  hc.mono (fun x σ' hh => by obtain ⟨rfl, rfl⟩ := hh; exact h)
end Go.V
