/- How the ghost state grows: new blocks, new names, cells written. -/
import Derived.Test.YtkbfngepdgdecaaV2
set_option linter.unusedVariables false
set_option linter.unusedSimpArgs false
namespace Go.V
open Go.RowKit
variable {κ : K} {σ : Sg}

def K.alloc (κ : K) (o : Obj) (m : Nat → Prop) : K := { κ with w := κ.w.alloc o, M := fun b x => κ.M b x ∨ (b = κ.w.heap.size ∧ m x) }
def K.named (κ : K) (β : Nat) (l : Nat × Nat × Nat) : K := { κ with μ := fun x => if x = β then some l else κ.μ x }

theorem K.le_alloc (h : κ.base ≤ κ.w.heap.size) (o : Obj) (m : Nat → Prop) : κ.le (κ.alloc o m) where
  os := rfl
  tape := rfl
  output := rfl
  size := by simp [K.alloc]
  cell b x hb hm := ⟨World.cell?_alloc_lt _ _ _ hb, by
    intro h
    rcases h with h | ⟨h, _⟩
    · exact hm h
    · omega⟩
  base := rfl
  block b hb := Below.heap_alloc _ _ _ (by omega)
  name _ _ h := h

theorem K.le_named {β : Nat} (h : κ.μ β = none) (l : Nat × Nat × Nat) : κ.le (κ.named β l) where
  os := rfl
  tape := rfl
  output := rfl
  size := Nat.le_refl _
  cell _ _ _ hm := ⟨rfl, hm⟩
  base := rfl
  block _ _ := rfl
  name β' l' h' := by
    show (if β' = β then some l else κ.μ β') = some l'
    rw [if_neg (fun e => by rw [e, h] at h'; cases h')]
    exact h'

theorem RelRow.mono {κ κ' : K} (h : κ.le κ') {cs : List AV} {vs : Array Value} (hr : RelRow κ cs vs) : RelRow κ' cs vs :=
  ⟨hr.1, fun i x v h1 h2 => (hr.2 i x v h1 h2).mono h⟩

theorem heap_lt {w : World} {b : Nat} {o : Obj} (h : w.heap[b]? = some o) : b < w.heap.size := by
  rcases Nat.lt_or_ge b w.heap.size with h' | h'
  · exact h'
  · simp [Array.getElem?_eq_none h'] at h

/-- A thing of the store stands as it stood, where its own block does. -/
theorem Ob.ok.keep {κ κ' : K} (hle : κ.le κ') {b lo hi : Nat} {o : Ob} (ho : o.ok κ b lo hi) (hb : κ'.w.heap[b]? = κ.w.heap[b]?) : o.ok κ' b lo hi := by
  cases o with
  | cells t cs =>
    obtain ⟨h1, h2, c, fz, h3, h4, h5⟩ := ho
    exact ⟨h1, h2, c, fz, hb.trans h3, fun i hi => by rw [← h4 i hi]; exact World.frozen?_of_block hb, h5.mono hle⟩
  | tok e =>
    intro hlt
    obtain ⟨c, t, fz, h3, h4, h5, h6⟩ := ho hlt
    exact ⟨c, t, fz, hb.trans h3, h4, fun i h1 h2 => by rw [← h5 i h1 h2]; exact World.frozen?_of_block hb, h6⟩
  | map es =>
    obtain ⟨h1, h2, arr, clock, h3, h4, h5⟩ := ho
    exact ⟨h1, h2, arr, clock, hb.trans h3, h4, fun i k x m h6 h7 => ⟨(h5 i k x m h6 h7).1, (h5 i k x m h6 h7).2.mono hle⟩⟩

theorem Ob.ok.lt {b lo hi : Nat} {o : Ob} (ho : o.ok κ b lo hi) (h : lo < hi) : b < κ.w.heap.size := by
  cases o with
  | cells t cs => obtain ⟨_, _, c, fz, h3, _⟩ := ho; exact heap_lt h3
  | tok e => obtain ⟨c, t, fz, h3, _⟩ := ho h; exact heap_lt h3
  | map es => obtain ⟨_, _, arr, clock, h3, _⟩ := ho; exact heap_lt h3

theorem Ob.ok.keep_alloc {b lo hi : Nat} {o : Ob} (hbas : κ.base ≤ κ.w.heap.size) (ho : o.ok κ b lo hi) (ob : Obj) (m : Nat → Prop) : o.ok (κ.alloc ob m) b lo hi := by
  have hle := K.le_alloc hbas ob m
  have key : ∀ {x : Obj}, κ.w.heap[b]? = some x → (κ.alloc ob m).w.heap[b]? = κ.w.heap[b]? := fun h => Below.heap_alloc _ _ _ (heap_lt h)
  cases o with
  | cells t cs => obtain ⟨_, _, c, fz, h3, _⟩ := id ho; exact ho.keep hle (key h3)
  | tok e =>
    intro hlt
    obtain ⟨c, t, fz, h3, _⟩ := ho hlt
    exact (ho.keep hle (key h3)) hlt
  | map es => obtain ⟨_, _, arr, clock, h3, _⟩ := id ho; exact ho.keep hle (key h3)

theorem St.alloc (h : St κ σ) (o : Obj) (m : Nat → Prop) : St (κ.alloc o m) σ where
  ob β ob hb := by
    obtain ⟨b, lo, hi, h1, h2, h3⟩ := h.ob β ob hb
    exact ⟨b, lo, hi, h1, fun x hx hx' => .inl (h2 x hx hx'), h3.keep_alloc h.bas o m⟩
  apart := h.apart
  fin := h.fin
  mlt b x hm := by
    have hb := h.bas
    rcases hm with hm | ⟨rfl, _⟩
    · have := h.mlt b x hm; simp [K.alloc]; omega
    · simp [K.alloc]; omega
  bas := by have := h.bas; simp [K.alloc]; omega

theorem St.fresh (h : St κ σ) : ∃ β, κ.μ β = none ∧ ∀ σ' : Sg, σ'.sub σ → σ' β = none := by
  obtain ⟨N, hN⟩ := h.fin
  refine ⟨N, hN N (Nat.le_refl _), fun σ' hs => ?_⟩
  cases hb : σ' N with
  | none => rfl
  | some o =>
    obtain ⟨b, lo, hi, h1, _⟩ := h.ob N o (hs _ _ hb)
    rw [hN N (Nat.le_refl _)] at h1
    cases h1

theorem Sg.del_sub (σ : Sg) (β : Nat) : (σ.del β).sub σ := by
  intro x o h
  unfold Sg.del at h
  split at h
  · cases h
  · exact h
theorem Sg.sub_set {σ : Sg} {β : Nat} (h : σ β = none) (o : Ob) : σ.sub (σ.set β o) := by
  intro x o' h'
  unfold Sg.set
  rw [if_neg (fun e => by rw [e, h] at h'; cases h')]
  exact h'
theorem Sg.del_set {σ : Sg} {β : Nat} (h : σ β = none) (o : Ob) : (σ.set β o).del β = σ := by
  funext x
  unfold Sg.del Sg.set
  split
  · rename_i e; rw [e, h]
  · rfl
theorem Sg.set_set (σ : Sg) (β : Nat) (o o' : Ob) : (σ.set β o).set β o' = σ.set β o' := by
  funext x
  unfold Sg.set
  split <;> rfl
theorem Sg.set_same (σ : Sg) (β : Nat) (o : Ob) : (σ.set β o) β = some o := if_pos rfl
theorem Sg.set_other (σ : Sg) {β β' : Nat} (o : Ob) (h : β' ≠ β) : (σ.set β o) β' = σ β' := if_neg h
theorem Sg.set_comm (σ : Sg) {β β' : Nat} (o o' : Ob) (h : β ≠ β') : (σ.set β o).set β' o' = (σ.set β' o').set β o := by
  funext x
  unfold Sg.set
  split
  · rename_i e
    rw [if_neg (fun e' => h (e'.symm.trans e))]
  · rfl
theorem Sg.set_id {σ : Sg} {β : Nat} {o : Ob} (h : σ β = some o) : σ.set β o = σ := by
  funext x
  unfold Sg.set
  split
  · rename_i e; rw [e, h]
  · rfl

/-- A new name for a place that no other name has. -/
theorem St.named (h : St κ σ) {β b lo hi : Nat} {o : Ob} (hf : κ.μ β = none) (hok : o.ok (κ.named β (b, lo, hi)) b lo hi) (hM : ∀ x, lo ≤ x → x < hi → κ.M b x)
    (hap : ∀ β' o' lo' hi', σ β' = some o' → κ.μ β' = some (b, lo', hi') → hi ≤ lo ∨ hi' ≤ lo') : St (κ.named β (b, lo, hi)) (σ.set β o) where
  ob β' ob hb := by
    by_cases e : β' = β
    · subst e
      rw [Sg.set_same] at hb
      cases hb
      exact ⟨b, lo, hi, by simp [K.named], hM, hok⟩
    · rw [Sg.set_other _ _ e] at hb
      obtain ⟨b', lo', hi', h1, h2, h3⟩ := h.ob β' ob hb
      exact ⟨b', lo', hi', by simp only [K.named, if_neg e]; exact h1, h2, h3.keep (K.le_named hf _) rfl⟩
  apart β1 β2 o1 o2 b' lo1 hi1 lo2 hi2 hne h1 h2 h3 h4 := by
    by_cases e1 : β1 = β
    · have e2 : β2 ≠ β := fun e => hne (e1.trans e.symm)
      rw [Sg.set_other _ _ e2] at h2
      simp only [K.named, if_pos e1] at h3
      simp only [K.named, if_neg e2] at h4
      cases h3
      rcases hap β2 o2 lo2 hi2 h2 h4 with h | h <;> omega
    · rw [Sg.set_other _ _ e1] at h1
      simp only [K.named, if_neg e1] at h3
      by_cases e2 : β2 = β
      · simp only [K.named, if_pos e2] at h4
        cases h4
        rcases hap β1 o1 lo1 hi1 h1 h3 with h | h <;> omega
      · rw [Sg.set_other _ _ e2] at h2
        simp only [K.named, if_neg e2] at h4
        exact h.apart β1 β2 o1 o2 b' lo1 hi1 lo2 hi2 hne h1 h2 h3 h4
  fin := by
    obtain ⟨N, hN⟩ := h.fin
    refine ⟨max N (β + 1), fun x hx => ?_⟩
    simp only [K.named]
    rw [if_neg (by omega)]
    exact hN x (by omega)
  mlt := h.mlt
  bas := h.bas

/-- A new block that nobody will write. -/
theorem reads_new (h : St κ σ) {c : Array Value} {e : TypeId} {fz : Nat × Nat} {m : Nat → Prop} {j : Nat} {v : Value} (hv : c[j]? = some v) (hm : ¬ m j) : (κ.alloc (.cells c e fz) m).reads κ.w.heap.size j v := by
  refine ⟨?_, ?_⟩
  · show (κ.w.alloc (.cells c e fz)).cell? _ = _
    simp only [World.cell?, World.alloc, Array.getElem?_push, if_true, Option.isSome_none, Bool.false_eq_true, if_false, hv]
  · intro hh
    rcases hh with hh | ⟨_, hh⟩
    · have := (h.mlt _ _ hh).2; omega
    · exact hm hh

/-- A new object of the store, in a block of its own. -/
theorem St.newObj (h : St κ σ) {β n : Nat} {o : Ob} {x : Obj} (hf : κ.μ β = none)
    (hok : o.ok ((κ.alloc x (· < n)).named β (κ.w.heap.size, 0, n)) κ.w.heap.size 0 n) : St ((κ.alloc x (· < n)).named β (κ.w.heap.size, 0, n)) (σ.set β o) := by
  refine (h.alloc x (· < n)).named hf hok (fun y _ hy => .inr ⟨rfl, hy⟩) (fun β' o' lo' hi' hb hμ => ?_)
  obtain ⟨b', l, u, h1, h2, h3⟩ := h.ob β' o' hb
  rw [show (κ.alloc x (· < n)).μ β' = κ.μ β' from rfl, h1] at hμ
  cases hμ
  by_cases hlt : lo' < hi'
  · have := h3.lt hlt; omega
  · omega

/-- Cells written in the place of one name, which may then be given up in part: what is read elsewhere stays. -/
def K.wrote (κ : K) (b o : Nat) (vs : List Value) (gone : Nat → Prop) : K := { κ with w := κ.w.setCells b o vs, M := fun b' x => κ.M b' x ∧ ¬ (b' = b ∧ gone x) }

theorem setCells_heap_other (b : Nat) : ∀ (vs : List Value) (o : Nat) (w : World) (b' : Nat), b' ≠ b → (w.setCells b o vs).heap[b']? = w.heap[b']?
  | [], _, _, _, _ => rfl
  | v :: r, o, w, b', h => by rw [World.setCells, setCells_heap_other b r (o + 1) _ b' h, Below.heap_setCell _ _ _ _ h]
theorem setCells_size (b : Nat) : ∀ (vs : List Value) (o : Nat) (w : World), (w.setCells b o vs).heap.size = w.heap.size
  | [], _, _ => rfl
  | v :: r, o, w => by rw [World.setCells, setCells_size b r, World.size_setCell]
theorem setCells_os (b : Nat) : ∀ (vs : List Value) (o : Nat) (w : World), (w.setCells b o vs).os = w.os ∧ (w.setCells b o vs).tape = w.tape ∧ (w.setCells b o vs).output = w.output
  | [], _, _ => ⟨rfl, rfl, rfl⟩
  | v :: r, o, w => by rw [World.setCells]; exact setCells_os b r (o + 1) _
theorem setCells_heap (b : Nat) : ∀ (vs : List Value) (o : Nat) (w : World) (c : Array Value) (e : TypeId) (fz : Nat × Nat), w.heap[b]? = some (.cells c e fz) →
    ∃ c', (w.setCells b o vs).heap[b]? = some (.cells c' e fz) ∧ c'.size = c.size
  | [], _, w, c, e, fz, h => ⟨c, h, rfl⟩
  | v :: r, o, w, c, e, fz, h => by
    have h1 : (w.setCell ⟨b, o, none⟩ v).heap[b]? = some (.cells (c.setIfInBounds o v) e fz) := by
      simp [World.setCell, Array.getElem?_modify, h]
    obtain ⟨c', h2, h3⟩ := setCells_heap b r (o + 1) _ _ _ _ h1
    exact ⟨c', by rw [World.setCells]; exact h2, by rw [h3]; simp⟩

theorem K.le_wrote (h : St κ σ) {b o : Nat} {vs : List Value} {gone : Nat → Prop} (hM : ∀ x, o ≤ x → x < o + vs.length → κ.M b x) : κ.le (κ.wrote b o vs gone) where
  os := (setCells_os b vs o κ.w).1
  tape := (setCells_os b vs o κ.w).2.1
  output := (setCells_os b vs o κ.w).2.2
  size := by simp [K.wrote, setCells_size]
  cell b' x hb hm := by
    refine ⟨?_, fun hh => hm hh.1⟩
    refine World.cell?_setCells_out b vs o κ.w _ (fun e _ => ?_)
    simp only at e ⊢
    subst e
    rcases Nat.lt_or_ge x o with hx | hx
    · exact .inl hx
    · rcases Nat.lt_or_ge x (o + vs.length) with hx' | hx'
      · exact absurd (hM x hx hx') hm
      · exact .inr hx'
  base := rfl
  block b' hb := by
    cases vs with
    | nil => rfl
    | cons v r =>
      have := (h.mlt _ _ (hM o (Nat.le_refl _) (by simp))).1
      exact setCells_heap_other b (v :: r) o κ.w b' (by omega)
  name _ _ h := h

theorem St.mlt_wrote (h : St κ σ) {b o : Nat} {vs : List Value} {gone : Nat → Prop} : ∀ b' x, (κ.wrote b o vs gone).M b' x → (κ.wrote b o vs gone).base ≤ b' ∧ b' < (κ.wrote b o vs gone).w.heap.size := by
  intro b' x hm
  have := h.mlt b' x hm.1
  simpa [K.wrote, setCells_size] using this
theorem St.bas_wrote (h : St κ σ) {b o : Nat} {vs : List Value} {gone : Nat → Prop} : (κ.wrote b o vs gone).base ≤ (κ.wrote b o vs gone).w.heap.size := by
  have := h.bas
  simpa [K.wrote, setCells_size] using this

/-- Another name than the one whose block was written: it stands (an empty place says nothing but of an empty row). -/
theorem St.other_wrote (h : St κ σ) {β β' b lo hi o : Nat} {ob ob' : Ob} {vs : List Value} {gone : Nat → Prop} (hne : β ≠ β') (h1 : σ β = some ob) (h2 : σ β' = some ob') (hμ : κ.μ β = some (b, lo, hi)) (hlt : lo < hi)
    (hM : ∀ x, o ≤ x → x < o + vs.length → κ.M b x) (hfit : ∀ c t fz, κ.w.heap[b]? = some (.cells c t fz) → o + vs.length ≤ c.size) (hcell : ∃ c t fz, κ.w.heap[b]? = some (.cells c t fz)) :
    ∃ b1 lo1 hi1, κ.μ β' = some (b1, lo1, hi1) ∧ (∀ x, lo1 ≤ x → x < hi1 → κ.M b1 x ∧ (b1 = b → False)) ∧ ob'.ok (κ.wrote b o vs gone) b1 lo1 hi1 := by
  obtain ⟨b1, lo1, hi1, g1, g2, g3⟩ := h.ob β' ob' h2
  have hle := K.le_wrote h (gone := gone) hM
  refine ⟨b1, lo1, hi1, g1, fun x hx hx' => ⟨g2 x hx hx', fun e => ?_⟩, ?_⟩
  · subst e
    have := h.apart β β' _ _ b1 lo hi lo1 hi1 hne h1 h2 hμ g1
    omega
  · by_cases e : b1 = b
    · subst e
      have hemp := h.apart β β' _ _ b1 lo hi lo1 hi1 hne h1 h2 hμ g1
      obtain ⟨c0, t0, fz0, hc0⟩ := hcell
      cases ob' with
      | cells t cs =>
        obtain ⟨k1, k2, c, fz, k3, k4, k5⟩ := g3
        have hz : c.size = 0 := by rw [← k5.1]; omega
        have hvs : vs = [] := by
          have := hfit _ _ _ k3
          exact List.eq_nil_of_length_eq_zero (by omega)
        subst hvs
        exact Ob.ok.keep (o := .cells t cs) hle ⟨k1, k2, c, fz, k3, k4, k5⟩ rfl
      | tok e' => exact fun hl => absurd hl (by omega)
      | map es =>
        obtain ⟨k1, k2, arr, clock, k3, _⟩ := g3
        rw [hc0] at k3
        cases k3
    · exact g3.keep hle (setCells_heap_other b vs o κ.w b1 e)

/-- Stores into an object. -/
theorem St.store (h : St κ σ) {β b hi off : Nat} {t : TypeId} {cs xs : List AV} {vs : List Value} (hβ : σ β = some (.cells t cs)) (hμ : κ.μ β = some (b, 0, hi)) (hfit : off + xs.length ≤ cs.length)
    (hl : xs.length = vs.length) (hr : ∀ (i : Nat) (x : AV) (v : Value), xs[i]? = some x → vs[i]? = some v → Rel κ x v) :
    κ.le (κ.wrote b off vs fun _ => False) ∧ St (κ.wrote b off vs fun _ => False) (σ.set β (.cells t (splice cs off xs))) ∧
    (∀ j, j < vs.length → (κ.w.cell? ⟨b, off + j, none⟩).isSome = true ∧ κ.w.frozen? ⟨b, off + j, none⟩ = false) := by
  obtain ⟨b', lo, hi', h1, h2, h3, h4, c, fz, h5, h6, h7⟩ := h.ob β _ hβ
  rw [hμ] at h1
  cases h1
  have hsz : c.size = cs.length := h7.1.symm
  have hM : ∀ x, off ≤ x → x < off + vs.length → κ.M b x := fun x _ hx => h2 x (by omega) (by omega)
  have hle := K.le_wrote h (gone := fun _ => False) hM
  have hcell : ∀ j, j < c.size → κ.w.cell? ⟨b, j, none⟩ = c[j]? := fun j hj => by simp [World.cell?, h5]
  refine ⟨hle, ⟨fun β' ob hb => ?_, fun β1 β2 o1 o2 b' lo1 hi1 lo2 hi2 hne g1 g2 g3 g4 => ?_, h.fin, h.mlt_wrote, h.bas_wrote⟩, fun j hj => ⟨?_, h6 _ (by omega)⟩⟩
  · by_cases e' : β' = β
    · subst e'
      rw [Sg.set_same] at hb
      cases hb
      obtain ⟨c', g1, g2⟩ := setCells_heap b vs off κ.w c t fz h5
      refine ⟨b, 0, hi, hμ, fun x hx hx' => ⟨h2 x hx hx', fun hh => hh.2⟩, rfl, ?_, c', fz, g1, fun i _ => ?_, ?_, fun i x v g3 g4 => ?_⟩
      · rw [h4]; simp [splice]; omega
      · have : i < c.size := by omega
        rw [← h6 i this]; exact World.frozen?_setCells b vs off κ.w _
      · rw [g2, hsz]; simp [splice]; omega
      · have hc' : (κ.w.setCells b off vs).cell? ⟨b, i, none⟩ = some v := by simp [World.cell?, g1, g4]
        have hi' : i < cs.length := by
          have : i < c'.size := by
            rcases Nat.lt_or_ge i c'.size with h' | h'
            · exact h'
            · simp [Array.getElem?_eq_none h'] at g4
          omega
        by_cases hin : off ≤ i ∧ i < off + vs.length
        · have g5 := World.cell?_setCells_in b vs off κ.w (fun j hj => by rw [hcell _ (by omega)]; simp [show off + j < c.size by omega]) (i - off) (by omega)
          rw [show off + (i - off) = i by omega, hc'] at g5
          have g6 : xs[i - off]? = some x := by
            unfold splice at g3
            rw [List.append_assoc, List.getElem?_append_right (by simp; omega), List.getElem?_append_left (by simp; omega)] at g3
            rw [show i - (List.take off cs).length = i - off by simp; omega] at g3
            exact g3
          refine (hr (i - off) x v g6 ?_).mono hle
          rw [List.getElem?_eq_getElem (by omega)]
          exact g5.symm
        · have g5 := World.cell?_setCells_out b vs off κ.w ⟨b, i, none⟩ (fun _ _ => by simp only; omega)
          rw [hc', hcell i (by omega)] at g5
          refine (h7.2 i x v ?_ g5.symm).mono hle
          unfold splice at g3
          rcases Nat.lt_or_ge i off with hx | hx
          · rw [List.append_assoc, List.getElem?_append_left (by simp; omega)] at g3
            simpa [List.getElem?_take, hx] using g3
          · rw [List.getElem?_append_right (by simp; omega)] at g3
            rw [← g3, List.getElem?_drop]
            congr 1
            simp
            omega
    · rw [Sg.set_other _ _ e'] at hb
      by_cases hz : 0 < hi
      · obtain ⟨b1, lo1, hi1, g1, g2, g3⟩ := h.other_wrote (gone := fun _ => False) (Ne.symm e') hβ hb hμ hz hM (fun c1 t1 fz1 hc1 => by rw [h5] at hc1; cases hc1; omega) ⟨c, t, fz, h5⟩
        exact ⟨b1, lo1, hi1, g1, fun x hx hx' => ⟨(g2 x hx hx').1, fun hh => hh.2⟩, g3⟩
      · have hvs : vs = [] := List.eq_nil_of_length_eq_zero (by omega)
        subst hvs
        obtain ⟨b1, lo1, hi1, g1, g2, g3⟩ := h.ob β' ob hb
        exact ⟨b1, lo1, hi1, g1, fun x hx hx' => ⟨g2 x hx hx', fun hh => hh.2⟩, g3.keep hle rfl⟩
  · have t' : ∀ {β' o'}, (σ.set β (.cells t (splice cs off xs))) β' = some o' → ∃ o'', σ β' = some o'' := fun {β' o'} g => by
      by_cases e' : β' = β
      · exact ⟨_, e' ▸ hβ⟩
      · rw [Sg.set_other _ _ e'] at g; exact ⟨_, g⟩
    obtain ⟨o1', t1⟩ := t' g1
    obtain ⟨o2', t2⟩ := t' g2
    exact h.apart β1 β2 o1' o2' b' lo1 hi1 lo2 hi2 hne t1 t2 g3 g4
  · rw [hcell _ (by omega)]
    simp [show off + j < c.size by omega]

/-- The room behind a slice, written in part: what was written is from now on to be read alone. -/
theorem St.appendIn (h : St κ σ) {t τ b lo hi : Nat} {e : Option TypeId} {vs : List Value} (ht : σ t = some (.tok e)) (hμ : κ.μ t = some (b, lo, hi)) (hfit : lo + vs.length < hi) (hf : κ.μ τ = none) :
    κ.le ((κ.wrote b lo vs fun x => lo ≤ x ∧ x < lo + vs.length).named τ (b, lo + vs.length, hi)) ∧
    St ((κ.wrote b lo vs fun x => lo ≤ x ∧ x < lo + vs.length).named τ (b, lo + vs.length, hi)) ((σ.del t).set τ (.tok e)) ∧
    (∀ j, j < vs.length → (κ.w.cell? ⟨b, lo + j, none⟩).isSome = true ∧ κ.w.frozen? ⟨b, lo + j, none⟩ = false) ∧
    (∀ j (hj : j < vs.length), (κ.wrote b lo vs fun x => lo ≤ x ∧ x < lo + vs.length).reads b (lo + j) vs[j]) := by
  obtain ⟨b', lo', hi', h1, h2, h3⟩ := h.ob t _ ht
  rw [hμ] at h1
  cases h1
  obtain ⟨c, ty, fz, k1, k2, k3, k4⟩ := h3 (by omega)
  have hM : ∀ x, lo ≤ x → x < lo + vs.length → κ.M b x := fun x hx hx' => h2 x hx (by omega)
  have hle := K.le_wrote h (gone := fun x => lo ≤ x ∧ x < lo + vs.length) hM
  have hcells : ∀ j, j < vs.length → (κ.w.cell? ⟨b, lo + j, none⟩).isSome = true ∧ κ.w.frozen? ⟨b, lo + j, none⟩ = false := fun j hj => by
    refine ⟨?_, k3 _ (by omega) (by omega)⟩
    simp [World.cell?, k1, show lo + j < c.size by omega]
  have hst : St (κ.wrote b lo vs fun x => lo ≤ x ∧ x < lo + vs.length) (σ.del t) := by
    refine ⟨fun β' ob hb => ?_, fun β1 β2 o1 o2 b' lo1 hi1 lo2 hi2 hne g1 g2 g3 g4 => h.apart β1 β2 o1 o2 b' lo1 hi1 lo2 hi2 hne (Sg.del_sub _ _ _ _ g1) (Sg.del_sub _ _ _ _ g2) g3 g4, h.fin, h.mlt_wrote, h.bas_wrote⟩
    have hne : β' ≠ t := fun e => by subst e; simp [Sg.del] at hb
    have hb' := Sg.del_sub _ _ _ _ hb
    obtain ⟨b1, lo1, hi1, g1, g2, g3⟩ := h.other_wrote (gone := fun x => lo ≤ x ∧ x < lo + vs.length) (Ne.symm hne) ht hb' hμ (by omega) hM (fun c1 t1 fz1 hc1 => by rw [k1] at hc1; cases hc1; omega) ⟨c, ty, fz, k1⟩
    exact ⟨b1, lo1, hi1, g1, fun x hx hx' => ⟨(g2 x hx hx').1, fun hh => (g2 x hx hx').2 hh.1⟩, g3⟩
  refine ⟨hle.trans (K.le_named (κ := κ.wrote b lo vs _) hf _), ?_, hcells, fun j hj => ⟨?_, fun hh => hh.2 ⟨rfl, by omega, by omega⟩⟩⟩
  · refine hst.named hf ?_ (fun x hx hx' => ⟨h2 x (by omega) hx', fun hh => by have := hh.2; omega⟩) (fun β' o' lo' hi' hb hμ' => ?_)
    · intro hlt
      obtain ⟨c', g4, g5⟩ := setCells_heap b vs lo κ.w c ty fz k1
      exact ⟨c', ty, fz, g4, by omega, fun i k1 k2 => by rw [← k3 i (by omega) (by omega)]; exact World.frozen?_setCells b vs lo κ.w _, fun t' ht' => ⟨(k4 t' ht').1, by have := (k4 t' ht').2; omega⟩⟩
    · have hne : β' ≠ t := fun e => by subst e; simp [Sg.del] at hb
      rcases h.apart t β' _ _ b lo hi lo' hi' (Ne.symm hne) ht (Sg.del_sub _ _ _ _ hb) hμ hμ' with g | g <;> omega
  · exact World.cell?_setCells_in b vs lo κ.w (fun j hj => (hcells j hj).1) j hj

/-- A new block whose cells from lo on may be written. -/
theorem St.newTok (h : St κ σ) {τ lo : Nat} {c : Array Value} {t : TypeId} {fz : Nat × Nat} {e : Option TypeId} (hc : lo ≤ c.size) (hfz : ∀ i, i < c.size → ¬ (fz.1 ≤ i ∧ i < fz.2)) (he : ∀ t', e = some t' → t' = t ∧ fz.1 = fz.2) (hf : κ.μ τ = none) :
    κ.le ((κ.alloc (.cells c t fz) (fun x => lo ≤ x ∧ x < c.size + 1)).named τ (κ.w.heap.size, lo, c.size + 1)) ∧ St ((κ.alloc (.cells c t fz) (fun x => lo ≤ x ∧ x < c.size + 1)).named τ (κ.w.heap.size, lo, c.size + 1)) (σ.set τ (.tok e)) := by
  have hle := K.le_alloc h.bas (.cells c t fz) (fun x => lo ≤ x ∧ x < c.size + 1)
  refine ⟨hle.trans (K.le_named (κ := κ.alloc _ _) hf _), (h.alloc _ _).named hf ?_ (fun x hx hx' => .inr ⟨rfl, hx, hx'⟩) (fun β' o' lo' hi' hb hμ => ?_)⟩
  · intro hlt
    refine ⟨c, t, fz, ?_, rfl, fun i h1 h2 => ?_, fun t' ht' => ⟨(he t' ht').1, .inl (he t' ht').2⟩⟩
    · show (κ.w.heap.push _)[κ.w.heap.size]? = _
      simp
    · have := hfz i h2
      show (κ.w.alloc _).frozen? _ = _
      obtain ⟨f1, f2⟩ := fz
      simp only [World.frozen?, World.alloc, Array.getElem?_push, if_true]
      simp only at this
      simp
      omega
  · obtain ⟨b', l, u, h1, h2, h3⟩ := h.ob β' o' hb
    rw [show (κ.alloc (.cells c t fz) (fun x => lo ≤ x ∧ x < c.size + 1)).μ β' = κ.μ β' from rfl, h1] at hμ
    cases hμ
    by_cases hlt : lo' < hi'
    · have := h3.lt hlt; omega
    · omega

/-- A map written: the one block of its own. -/
theorem St.setMap (h : St κ σ) {β b hi : Nat} {es es' : List (Value × AV)} {arr : Array MapEntry} {clock : Nat} (hβ : σ β = some (.map es)) (hμ : κ.μ β = some (b, 0, hi))
    (hl : es'.length = arr.size) (hr : ∀ (i : Nat) (k : Value) (x : AV) (m : MapEntry), es'[i]? = some (k, x) → arr[i]? = some m → m.key = k ∧ Rel κ x m.val) :
    κ.le { κ with w := { κ.w with heap := κ.w.heap.setIfInBounds b (.map arr clock) } } ∧ St { κ with w := { κ.w with heap := κ.w.heap.setIfInBounds b (.map arr clock) } } (σ.set β (.map es')) := by
  obtain ⟨b', lo, hi', h1, h2, h3, h4, arr0, clock0, h5, h6⟩ := h.ob β _ hβ
  rw [hμ] at h1
  cases h1
  subst h4
  have hM : κ.M b 0 := h2 0 (by omega) (by omega)
  have hother : ∀ b', b' ≠ b → (κ.w.heap.setIfInBounds b (.map arr clock))[b']? = κ.w.heap[b']? := fun b' hb => by
    rw [Array.getElem?_setIfInBounds_ne (Ne.symm hb)]
  have hb := heap_lt h5
  have hself : (κ.w.heap.setIfInBounds b (.map arr clock))[b]? = some (.map arr clock) := by simp [hb]
  have hle : κ.le { κ with w := { κ.w with heap := κ.w.heap.setIfInBounds b (.map arr clock) } } := by
    refine ⟨rfl, rfl, rfl, by simp, fun b' x hb' hm => ⟨?_, hm⟩, rfl, fun b' hb' => hother b' (fun e => ?_), fun _ _ g => g⟩
    · by_cases e : b' = b
      · subst e
        simp [World.cell?, hself, h5]
      · exact World.cell?_of_block (w := κ.w) (hother b' e)
    · have := (h.mlt _ _ hM).1
      omega
  refine ⟨hle, ⟨fun β' ob hob => ?_, fun β1 β2 o1 o2 b' lo1 hi1 lo2 hi2 hne g1 g2 g3 g4 => ?_, h.fin, fun b' x hm => by have := h.mlt b' x hm; simpa using this, by have := h.bas; simpa using this⟩⟩
  · by_cases e : β' = β
    · subst e
      rw [Sg.set_same] at hob
      cases hob
      exact ⟨b, 0, 1, hμ, h2, rfl, rfl, arr, clock, hself, hl, fun i k x m g1 g2 => ⟨(hr i k x m g1 g2).1, (hr i k x m g1 g2).2.mono hle⟩⟩
    · rw [Sg.set_other _ _ e] at hob
      obtain ⟨b1, lo1, hi1, g1, g2, g3⟩ := h.ob β' ob hob
      refine ⟨b1, lo1, hi1, g1, g2, ?_⟩
      by_cases eb : b1 = b
      · subst eb
        cases ob with
        | cells t cs => obtain ⟨_, _, c, fz, k, _⟩ := g3; rw [h5] at k; cases k
        | tok e2 =>
          intro hlt
          obtain ⟨c, e', fz, k, _⟩ := g3 hlt
          rw [h5] at k
          cases k
        | map es2 =>
          obtain ⟨k1, k2, _⟩ := g3
          have := h.apart β β' _ _ b1 0 1 lo1 hi1 (Ne.symm e) hβ hob hμ g1
          omega
      · exact g3.keep hle (hother b1 eb)
  · have t : ∀ {β' o'}, (σ.set β (.map es')) β' = some o' → ∃ o'', σ β' = some o'' := fun {β' o'} g => by
      by_cases e' : β' = β
      · exact ⟨_, e' ▸ hβ⟩
      · rw [Sg.set_other _ _ e'] at g; exact ⟨_, g⟩
    obtain ⟨o1', t1⟩ := t g1
    obtain ⟨o2', t2⟩ := t g2
    exact h.apart β1 β2 o1' o2' b' lo1 hi1 lo2 hi2 hne t1 t2 g3 g4

def K.drew (κ : K) : K := { κ with w := κ.w.drew }
theorem K.le_drew (κ : K) : κ.le κ.drew := ⟨rfl, rfl, rfl, Nat.le_refl _, fun _ _ _ hm => ⟨rfl, hm⟩, rfl, fun _ _ => rfl, fun _ _ h => h⟩
theorem St.drew (h : St κ σ) : St κ.drew σ :=
  ⟨fun β o hb => by obtain ⟨b, lo, hi, h1, h2, h3⟩ := h.ob β o hb; exact ⟨b, lo, hi, h1, h2, h3.keep κ.le_drew rfl⟩, h.apart, h.fin, h.mlt, h.bas⟩

/-- A name with no place at all. -/
theorem St.noRoom (h : St κ σ) {τ : Nat} (e : Option TypeId) (hf : κ.μ τ = none) : κ.le (κ.named τ (0, 0, 0)) ∧ St (κ.named τ (0, 0, 0)) (σ.set τ (.tok e)) :=
  ⟨K.le_named hf _, h.named hf (fun hlt => absurd hlt (by omega)) (fun x hx hx' => absurd hx' (by omega)) (fun _ _ _ _ _ _ => by omega)⟩

end Go.V
