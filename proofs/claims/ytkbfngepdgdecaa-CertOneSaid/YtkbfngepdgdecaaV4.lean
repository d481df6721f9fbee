/- Soundness, part 1: operands, simple operations, loads. -/
import Derived.Test.YtkbfngepdgdecaaV3
namespace Go.V
open Go.RowKit
variable {P : Program} {κ : K} {σ : Sg} {ρ : Nat → AV} {a : Act} {R : AV → Sg → Prop}

def RelEnv (κ : K) (ρ : Nat → AV) (tmps : Array Value) : Prop := ∀ t, Rel κ (ρ t) (tmps.getD t undef)
theorem RelEnv.mono {κ κ' : K} (h : κ.le κ') {tmps : Array Value} (hr : RelEnv κ ρ tmps) : RelEnv κ' ρ tmps := fun t => (hr t).mono h

theorem rel_leafOf (κ : K) (v : Value) : Rel κ (leafOf v) v := by
  unfold leafOf
  split
  · exact .slnil _ trivial
  · exact .val _
theorem relRow_leaves (κ : K) (cs : Array Value) : RelRow κ (cs.toList.map leafOf) cs := by
  refine ⟨by simp, fun i x v h1 h2 => ?_⟩
  rw [List.getElem?_map] at h1
  rw [← Array.getElem?_toList] at h2
  rw [h2] at h1
  cases h1
  exact rel_leafOf κ v
theorem rel_ofValue (κ : K) (v : Value) : Rel κ (ofValue v) v := by
  unfold ofValue
  split
  · exact .agg _ _ (relRow_leaves κ _).1 (relRow_leaves κ _).2
  · exact rel_leafOf κ v
theorem rel_cells {x : AV} {v : Value} (h : Rel κ x v) (hs : x.solid = true) : RelRow κ x.cells v.cells := by
  have one : ∀ {x : AV} {v : Value}, Rel κ x v → x.cells = [x] → v.cells = #[v] → RelRow κ x.cells v.cells := fun {x v} h h1 h2 => by
    rw [h1, h2]
    refine ⟨rfl, fun i y u h3 h4 => ?_⟩
    cases i with
    | zero => simp at h3 h4; subst h3; subst h4; exact h
    | succ i => simp at h3
  cases h with
  | junk => simp [AV.solid] at hs
  | val v =>
    cases v <;> first | exact one (.val _) rfl rfl | simp [AV.solid] at hs
  | agg cs vs hl h => exact ⟨hl, h⟩
  | tup cs vs hl h => exact one (.tup cs vs hl h) rfl rfl
  | slnil k hk => exact one (.slnil k hk) rfl rfl
  | slemp k hk a c => exact one (.slemp k hk a c) rfl rfl
  | sl k es a n c sz f hk hn hc hs' hz hr h => exact one (.sl k es a n c sz f hk hn hc hs' hz hr h) rfl rfl
  | ro cs a f hs' hr h => exact one (.ro cs a f hs' hr h) rfl rfl
  | ref β off b hi h => exact one (.ref β off b hi h) rfl rfl
  | ms β off n sz b hi c h hn hh => exact one (.ms β off n sz b hi c h hn hh) rfl rfl
  | map β b hi h => exact one (.map β b hi h) rfl rfl
  | fn f cs vs hl h => exact one (.fn f cs vs hl h) rfl rfl
  | bp0 τ p => exact one (.bp0 τ p) rfl rfl
  | bp τ es a n hi f hn hs' hμ hlt hr h => exact one (.bp τ es a n hi f hn hs' hμ hlt hr h) rfl rfl
theorem rel_one {x : AV} {v : Value} (h : Rel κ x v) (hs : x.one = true) : v.oneCell' = true := by
  cases h with
  | val v => cases v <;> first | rfl | simp [AV.one] at hs
  | junk => simp [AV.one] at hs
  | agg => simp [AV.one] at hs
  | tup => simp [AV.one] at hs
  | _ => rfl
theorem cells_one {x : AV} {v : Value} (h : RelRow κ x.cells v.cells) (hs : (x.cells.all AV.one) = true) : ∀ u ∈ v.cells.toList, u.oneCell' = true := by
  intro u hu
  obtain ⟨i, hi, rfl⟩ := List.getElem_of_mem hu
  have hi' : i < x.cells.length := by have := h.1; simp at hi; omega
  refine rel_one (h.2 i x.cells[i] _ (List.getElem?_eq_getElem hi') (by rw [← Array.getElem?_toList]; exact List.getElem?_eq_getElem hi)) ?_
  exact List.all_eq_true.1 hs _ (List.getElem_mem hi')

theorem rel_eval (hρ : RelEnv κ ρ a.tmps) (x : Operand) : Rel κ (ev ρ x) (a.eval x) := by
  cases x with
  | tmp t => exact hρ t
  | const v => exact rel_ofValue κ v
  | global g => exact .val _
  | func f => exact .fn f [] #[] rfl (fun i x v h => by simp at h)
theorem relRow_evals (hρ : RelEnv κ ρ a.tmps) (xs : Array Operand) : RelRow κ (xs.toList.map (ev ρ)) (xs.map a.eval) := by
  refine ⟨by simp, fun i x v h1 h2 => ?_⟩
  rw [List.getElem?_map] at h1
  rw [Array.getElem?_map] at h2
  rw [← Array.getElem?_toList] at h2
  cases h3 : xs.toList[i]? with
  | none => rw [h3] at h1; cases h1
  | some o =>
    rw [h3] at h1 h2
    cases h1
    cases h2
    exact rel_eval hρ o
theorem RelRow.append {xs ys : List AV} {us vs : Array Value} (h : RelRow κ xs us) (h' : RelRow κ ys vs) : RelRow κ (xs ++ ys) (us ++ vs) := by
  refine ⟨by simp [h.1, h'.1], fun i x v h1 h2 => ?_⟩
  rcases Nat.lt_or_ge i xs.length with hi | hi
  · rw [List.getElem?_append_left hi] at h1
    rw [Array.getElem?_append_left (by rw [← h.1]; exact hi)] at h2
    exact h.2 i x v h1 h2
  · rw [List.getElem?_append_right hi] at h1
    rw [Array.getElem?_append_right (by rw [← h.1]; exact hi), ← h.1] at h2
    exact h'.2 _ x v h1 h2

theorem post_same {x : AV} {v : Value} (h : St κ σ) (hx : Rel κ x v) (hR : R x σ) : Post κ R v κ.w := ⟨κ, x, σ, rfl, .refl κ, h, hx, hR⟩

theorem run_und {t : TypeId} {d : TypeDesc} (h : P.underlying t = some d) (w : World) : (underlying t).run P w = .ok d w := by
  simp [underlying, program, Sem.run, h, Bind.bind, Sem.bind]
theorem run_tinfo {t : TypeId} {z : Option Value} {n b : Nat} (h : tInfo P t = some (z, n, b)) (w : World) : ∃ i : TypeInfo, (typeInfo t).run P w = .ok i w ∧ i.zero = z ∧ i.size = n ∧ i.bytes = b := by
  unfold tInfo at h
  cases hi : P.info? t with
  | none => rw [hi] at h; cases h
  | some i =>
    rw [hi] at h
    cases h
    refine ⟨i, ?_, rfl, rfl, rfl⟩
    simp [typeInfo, program, Sem.run, hi, Bind.bind, Sem.bind]
theorem run_size {t : TypeId} {z : Option Value} {n b : Nat} (h : tInfo P t = some (z, n, b)) (w : World) : (sizeOf t).run P w = .ok n w := by
  obtain ⟨i, h1, h2, h3, h4⟩ := run_tinfo h w
  simp [sizeOf, h1, h3]
theorem run_zero {t : TypeId} {z : Value} {n b : Nat} (h : tInfo P t = some (some z, n, b)) (w : World) : (zeroValue t).run P w = .ok z w := by
  obtain ⟨i, h1, h2, h3, h4⟩ := run_tinfo h w
  simp [zeroValue, h1, h2]
theorem run_isAgg {t : TypeId} {d : TypeDesc} (h : P.underlying t = some d) (w : World) : (isAgg t).run P w = .ok (isAggD d) w := by
  simp only [isAgg, Sem.run_bind, run_und h, Result.andThen]
  cases d <;> rfl

theorem addr_add {b : Addr} (h : b.spot = none) (n : Nat) : b.add n = ⟨b.block, b.off + n, none⟩ := by
  unfold Addr.add
  split
  · rename_i e; subst e; cases b; simp at h; subst h; rfl
  · rfl

/-- A read of what stands in a row of cells. -/
theorem run_loadVar {t : TypeId} {cs : List AV} {f : Nat → Value} {b : Addr} {n : Nat} {z : Option Value} {by_ : Nat} {d : TypeDesc} (w : World) (ht : tInfo P t = some (z, n, by_)) (hd : P.underlying t = some d)
    (hs : b.spot = none) (hr : ∀ j, j < cs.length → w.cell? ⟨b.block, b.off + j, none⟩ = some (f j)) (h : ∀ (j : Nat) (x : AV), cs[j]? = some x → Rel κ x (f j)) {R' : AV → Prop} (hv : vpart P t cs R') :
    ∃ v x, (loadVar t b).run P w = .ok v w ∧ Rel κ x v ∧ R' x := by
  unfold vpart at hv
  rw [ht, hd] at hv
  simp only at hv
  simp only [loadVar, Sem.run_bind, run_isAgg hd, Result.andThen]
  by_cases hg : isAggD d = true
  · rw [if_pos hg] at hv
    obtain ⟨hn, hv⟩ := hv
    refine ⟨.agg (((List.range n).map f).toArray), .agg (cs.take n), ?_, ?_, hv⟩
    · rw [if_pos hg]
      simp only [Sem.run_bind, run_size ht, Result.andThen]
      rw [run_loadCells w b n f (fun j hj => by rw [addr_add hs]; exact hr j (by omega))]
      rfl
    · refine .agg _ _ (by simp; omega) (fun i x v h1 h2 => ?_)
      have hi : i < n := by
        rcases Nat.lt_or_ge i n with h' | h'
        · exact h'
        · simp [List.getElem?_take, Nat.not_lt.2 h'] at h1
      rw [List.getElem?_take, if_pos hi] at h1
      simp [hi] at h2
      rw [← h2]
      exact h i x h1
  · rw [if_neg hg] at hv
    rw [if_neg hg]
    cases cs with
    | nil => exact hv.elim
    | cons x r =>
      refine ⟨f 0, x, ?_, h 0 x rfl, hv⟩
      have := hr 0 (by simp)
      rw [run_load]
      cases b
      simp at hs this
      subst hs
      simp [this]

theorem cell_of_heap {w : World} {b : Nat} {c : Array Value} {e : TypeId} {fz : Nat × Nat} (h : w.heap[b]? = some (.cells c e fz)) (i : Nat) : w.cell? ⟨b, i, none⟩ = c[i]? := by simp [World.cell?, h]

theorem load_rel {t : TypeId} {x : AV} {v : Value} {R' : AV → Prop} (h : St κ σ) (hx : Rel κ x v) (hv : vload P t x σ R') : ∃ ad u y, v = .pointer (some ad) ∧ (loadVar t ad).run P κ.w = .ok u κ.w ∧ Rel κ y u ∧ R' y := by
  have info : ∀ {cs : List AV} {R' : AV → Prop}, vpart P t cs R' → ∃ z n b d, tInfo P t = some (z, n, b) ∧ P.underlying t = some d := fun {cs R'} hv => by
    unfold vpart at hv
    split at hv
    · rename_i z n b d h1 h2; exact ⟨z, n, b, d, h1, h2⟩
    · exact hv.elim
  cases hx <;> simp only [vload] at hv
  case ro cs b f hs hr hrel =>
    obtain ⟨z, n, by_, d, h1, h2⟩ := info hv
    obtain ⟨u, x, h3, h4, h5⟩ := run_loadVar (κ := κ) κ.w h1 h2 hs (fun j hj => (hr j hj).1) hrel hv
    exact ⟨_, u, x, rfl, h3, h4, h5⟩
  case ref β off b hi hμ =>
    cases hσ : σ β with
    | none => simp [hσ] at hv
    | some o =>
      cases o <;> simp only [hσ] at hv
      case cells ty cs =>
        obtain ⟨z, n, by_, d, h1, h2⟩ := info hv
        obtain ⟨b', lo, hi', g1, g2, g3, g4, c, fz, g5, g6, g7⟩ := h.ob β _ hσ
        rw [hμ] at g1
        cases g1
        have hsz := g7.1
        obtain ⟨u, x, h3, h4, h5⟩ := run_loadVar (κ := κ) (cs := cs.drop off) (b := ⟨b, off, none⟩) (f := fun j => c.getD (off + j) undef) κ.w h1 h2 rfl (fun j hj => by
            simp at hj
            rw [cell_of_heap g5]
            simp [show off + j < c.size by omega]) (fun j x hj => by
            rw [List.getElem?_drop] at hj
            have hj' : off + j < c.size := by
              rcases Nat.lt_or_ge (off + j) cs.length with h' | h'
              · omega
              · simp [List.getElem?_eq_none h'] at hj
            exact g7.2 (off + j) x _ hj (by simp [hj'])) hv
        exact ⟨_, u, x, rfl, h3, h4, h5⟩
      all_goals exact hv.elim
  all_goals exact hv.elim

theorem snd_load {t : TypeId} {x : AV} {v : Value} (h : St κ σ) (hx : Rel κ x v) (hv : vload P t x σ (R · σ)) : ∃ u, (Instr.loadAt t v).run P κ.w = .ok u κ.w ∧ Post κ R u κ.w := by
  obtain ⟨ad, u, y, rfl, h1, h2, h3⟩ := load_rel h hx hv
  exact ⟨u, by simp [Instr.loadAt, Instr.sureAddr, h1], post_same h h2 h3⟩

end Go.V
