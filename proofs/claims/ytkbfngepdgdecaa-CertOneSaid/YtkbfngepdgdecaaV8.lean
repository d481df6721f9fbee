/- Soundness, part 5: append, copy. -/
import Derived.Test.YtkbfngepdgdecaaV7
import Derived.Laws.AppendOwn
namespace Go.V
open Go.RowKit
variable {P : Program} {κ : K} {σ : Sg} {ρ : Nat → AV} {a : Act} {R : AV → Sg → Prop}

theorem flatten_length {sz : Nat} : ∀ {es : List (List AV)}, (∀ e ∈ es, e.length = sz) → es.flatten.length = es.length * sz
  | [], _ => by simp
  | e :: es, h => by
    rw [List.flatten_cons, List.length_append, flatten_length (fun x hx => h x (by simp [hx])), h e (by simp), List.length_cons, Nat.succ_mul]
    omega
theorem flatten_get {sz : Nat} : ∀ {es : List (List AV)}, (∀ e ∈ es, e.length = sz) → ∀ i j e, es[i]? = some e → j < sz → es.flatten[i * sz + j]? = e[j]?
  | [], _, i, j, e, he, _ => by simp at he
  | x :: es, h, 0, j, e, he, hj => by
    simp at he
    subst he
    rw [List.flatten_cons, Nat.zero_mul, Nat.zero_add, List.getElem?_append_left (by rw [h x (by simp)]; exact hj)]
  | x :: es, h, i + 1, j, e, he, hj => by
    simp at he
    rw [List.flatten_cons, List.getElem?_append_right (by rw [h x (by simp), Nat.succ_mul]; omega), h x (by simp)]
    rw [show (i + 1) * sz + j - sz = i * sz + j by rw [Nat.succ_mul]; omega]
    exact flatten_get (fun y hy => h y (by simp [hy])) i j e he hj

/-- A slice seen cell by cell. -/
theorem rel_of_flat {k : Own} {es : List (List AV)} {b : Addr} {n c sz : Nat} {g : Nat → Value} (hk : k.ok κ b n c sz) (hn : n = es.length) (hc : n ≤ c) (hs : b.spot = none) (hz : ∀ e ∈ es, e.length = sz)
    (hr : ∀ t, t < n * sz → κ.reads b.block (b.off + t) (g t)) (hrel : ∀ t x, es.flatten[t]? = some x → Rel κ x (g t)) : Rel κ (.sl k es) (.slice (some b) n c) := by
  refine .sl k es b n c sz (fun i j => g (i * sz + j)) hk hn hc hs (fun i e he => hz e (List.mem_of_getElem? he)) (fun i j hi hj => ?_) (fun i j e x he hx => ?_)
  · have : (i + 1) * sz ≤ n * sz := Nat.mul_le_mul_right _ hi
    rw [Nat.succ_mul] at this
    have := hr (i * sz + j) (by omega)
    simpa [Nat.add_assoc] using this
  · have hj : j < sz := by
      rw [← hz e (List.mem_of_getElem? he)]
      rcases Nat.lt_or_ge j e.length with h' | h'
      · exact h'
      · simp [List.getElem?_eq_none h'] at hx
    refine hrel _ _ ?_
    rw [flatten_get hz i j e he hj]
    exact hx
def Own.size (k : Own) (d : Nat) : Nat := match k with | .tok _ s => s | _ => d
theorem Own.ok_size {k : Own} {b : Addr} {n c s d : Nat} (h : k.ok κ b n c s) : k.ok κ b n c (k.size d) := by
  cases k <;> first | exact h | exact ⟨rfl, by have h1 := h.1; subst h1; exact h.2⟩
theorem flat_of_rel {k : Own} {es : List (List AV)} {v : Value} {sz : Nat} (h : Rel κ (.sl k es) v) (hz : ∀ e ∈ es, e.length = sz) :
    (v = .slice none 0 0 ∧ es = [] ∧ k.maybeNil) ∨ (∃ a c, v = .slice (some a) 0 c ∧ es = [] ∧ (k = .view ∨ k = .any)) ∨ ∃ (b : Addr) (n c : Nat) (g : Nat → Value), v = .slice (some b) n c ∧ k.ok κ b n c (k.size sz) ∧ n = es.length ∧ n ≤ c ∧ b.spot = none ∧ (∀ t, t < n * sz → κ.reads b.block (b.off + t) (g t)) ∧ (∀ t x, es.flatten[t]? = some x → Rel κ x (g t)) := by
  cases h with
  | slnil _ hk => exact .inl ⟨rfl, rfl, hk⟩
  | slemp _ hk a c => exact .inr (.inl ⟨a, c, rfl, rfl, hk⟩)
  | sl _ _ b n c s f hk hn hc hs hz' hr hrel =>
    right
    right
    cases es with
    | nil =>
      simp at hn
      exact ⟨b, n, c, fun _ => undef, rfl, Own.ok_size hk, by simp [hn], hc, hs, fun t ht => by simp [hn] at ht, fun t x hx => by simp at hx⟩
    | cons e0 r =>
      have hsz : s = sz := by rw [← hz e0 (by simp)]; exact (hz' 0 e0 rfl).symm
      subst hsz
      refine ⟨b, n, c, fun t => f (t / s) (t % s), rfl, Own.ok_size hk, hn, hc, hs, fun t ht => ?_, fun t x hx => ?_⟩
      · have hs0 : 0 < s := by
          rcases Nat.eq_zero_or_pos s with h0 | h0
          · subst h0; simp at ht
          · exact h0
        have h1 : t / s < n := Nat.div_lt_of_lt_mul (by rw [Nat.mul_comm]; exact ht)
        have h2 := hr (t / s) (t % s) h1 (Nat.mod_lt _ hs0)
        have h3 : t / s * s + t % s = t := by rw [Nat.mul_comm]; exact Nat.div_add_mod t s
        rw [Nat.add_assoc, h3] at h2
        exact h2
      · have hlt : t < (e0 :: r).flatten.length := by
          rcases Nat.lt_or_ge t (e0 :: r).flatten.length with h' | h'
          · exact h'
          · rw [List.getElem?_eq_none h'] at hx; cases hx
        rw [flatten_length hz] at hlt
        have hs0 : 0 < s := by
          rcases Nat.eq_zero_or_pos s with h0 | h0
          · subst h0; simp at hlt
          · exact h0
        have h1 : t / s < (e0 :: r).length := Nat.div_lt_of_lt_mul (by rw [Nat.mul_comm]; exact hlt)
        have h3 : t / s * s + t % s = t := by rw [Nat.mul_comm]; exact Nat.div_add_mod t s
        have h4 := flatten_get hz (t / s) (t % s) _ (List.getElem?_eq_getElem h1) (Nat.mod_lt _ hs0)
        rw [h3, hx] at h4
        exact hrel _ _ _ _ (List.getElem?_eq_getElem h1) h4.symm

theorem range_map_get {m i : Nat} {g : Nat → Value} {v : Value} (h : ((List.range m).map g)[i]? = some v) : i < m ∧ g i = v := by
  rw [List.getElem?_map] at h
  rcases Nat.lt_or_ge i m with hi | hi
  · rw [List.getElem?_eq_getElem (by simpa using hi)] at h
    simp at h
    exact ⟨hi, h⟩
  · rw [List.getElem?_eq_none (by simpa using hi)] at h
    cases h

/-- What is appended or copied: its cells. -/
theorem src_of {tx : TypeId} {y : AV} {v : Value} {ys : List (List AV)} {sz : Nat} (hy : Rel κ y v) (he : elems y = some ys) (hz : ∀ e ∈ ys, e.length = sz ∧ (e.all AV.one) = true)
    (hk : (∃ e', P.underlying tx = some (.slice e')) ∨ P.underlying tx = some .string) : ∃ news : List Value, Src P sz tx v ys.length news κ.w ∧ RelRow κ ys.flatten news.toArray := by
  have h1 : ∀ e ∈ ys, e.length = sz := fun e he => (hz e he).1
  have none_ : ys = [] → (∀ w', (Builtin.lenOf v).run P w' = .ok 0 w') → (∀ w', (Builtin.firstCells sz 0 v).run P w' = .ok #[] w') → ∃ news : List Value, Src P sz tx v ys.length news κ.w ∧ RelRow κ ys.flatten news.toArray := fun e h2 h3 => by
    subst e
    exact ⟨[], ⟨hk, h2, h3 _, h3 _, by simp, fun u hu => by cases hu⟩, rfl, fun i x v hx => by simp at hx⟩
  cases y <;> simp only [elems] at he
  case sl k es =>
    cases he
    rcases flat_of_rel hy h1 with ⟨rfl, h2, _⟩ | ⟨a, c, rfl, h2, _⟩ | ⟨b, n, c, g, rfl, hko, hn, hc, hs, hr, hrel⟩
    · exact none_ h2 (fun _ => rfl) (fun _ => rfl)
    · exact none_ h2 (fun _ => rfl) (fun w' => by simp only [Builtin.firstCells, Nat.zero_mul]; exact run_loadCells w' a 0 (fun _ => undef) (fun j hj => absurd hj (by omega)))
    · have hld : ∀ w', (∀ t, t < n * sz → w'.cell? ⟨b.block, b.off + t, none⟩ = some (g t)) → (Builtin.firstCells sz n (.slice (some b) n c)).run P w' = .ok ((List.range (n * sz)).map g).toArray w' := fun w' hw => by
        simp only [Builtin.firstCells]
        exact run_loadCells w' b (n * sz) g (fun j hj => by rw [addr_add hs]; exact hw j hj)
      have hrow : RelRow κ ys.flatten ((List.range (n * sz)).map g).toArray := by
        refine ⟨by rw [flatten_length h1]; simp [hn], fun i x v hx hv => ?_⟩
        rw [List.getElem?_toArray] at hv
        obtain ⟨_, rfl⟩ := range_map_get hv
        exact hrel i x hx
      refine ⟨(List.range (n * sz)).map g, ⟨hk, fun _ => by rw [← hn]; rfl, by rw [← hn]; exact hld _ (fun t ht => (hr t ht).1), by rw [← hn]; exact hld _ (fun t ht => (hr t ht).1), by simp [hn], fun u hu => ?_⟩, hrow⟩
      obtain ⟨i, hi, rfl⟩ := List.getElem_of_mem hu
      have hi' : i < ys.flatten.length := by rw [hrow.1]; simpa using hi
      refine rel_one (hrow.2 i ys.flatten[i] _ (List.getElem?_eq_getElem hi') (by rw [← Array.getElem?_toList]; exact List.getElem?_eq_getElem hi)) ?_
      obtain ⟨e, he1, he2⟩ := List.mem_flatten.1 (List.getElem_mem hi')
      exact List.all_eq_true.1 (hz e he1).2 _ he2
  case val v' =>
    cases v' <;> simp at he
    case string s =>
      subst he
      cases hy
      by_cases h0 : bytesAV s = []
      · have hs0 : s.size = 0 := by
          unfold bytesAV at h0
          have := congrArg List.length h0
          simpa using this
        refine none_ h0 (fun w' => by simp [Builtin.lenOf, hs0]) (fun w' => ?_)
        simp [Builtin.firstCells]
      · obtain ⟨e, he⟩ := List.exists_mem_of_ne_nil _ h0
        have hs1 : sz = 1 := by
          rw [← h1 e he]
          unfold bytesAV at he
          obtain ⟨b, _, rfl⟩ := List.mem_map.1 he
          rfl
        subst hs1
        have hlen : (bytesAV s).length = s.size := by unfold bytesAV; rw [List.length_map, Array.length_toList]; rfl
        have hrow : RelRow κ (bytesAV s).flatten (byteCells s).toArray := by
          have hfl : (bytesAV s).flatten = s.data.toList.map fun b => AV.u8 b.toNat := by
            unfold bytesAV
            induction s.data.toList with
            | nil => rfl
            | cons b r ih => simp [ih]
          rw [hfl]
          refine ⟨by simp [byteCells], fun i x v hx hv => ?_⟩
          rw [List.getElem?_map] at hx
          rw [List.getElem?_toArray] at hv
          unfold byteCells at hv
          rw [List.getElem?_map] at hv
          cases hb : s.data.toList[i]? with
          | none => rw [hb] at hx; cases hx
          | some b => rw [hb] at hx hv; cases hx; cases hv; exact .val _
        exact ⟨byteCells s, ⟨hk, fun _ => by rw [hlen]; rfl, by rw [hlen]; exact firstCells_string s _, by rw [hlen]; exact firstCells_string s _, by rw [byteCells_length, Nat.mul_one, hlen], fun u hu => by
          obtain ⟨_, _, rfl⟩ := List.mem_map.1 hu
          rfl⟩, hrow⟩
  all_goals cases he

theorem zeroCells_size (z : Array Value) (n : Nat) : (Builtin.zeroCells z n).size = n * z.size := by simp [Builtin.zeroCells]

theorem zero_size (z : Value) : z.cells.size = (zeroCellsOf z).length := by
  unfold zeroCellsOf
  cases z <;> first
    | (simp [ofValue, Value.cells, AV.cells]; done)
    | rfl
    | (rename_i a b c; cases a <;> first | rfl | (cases b <;> first | rfl | (cases c <;> rfl)))

theorem snd_append {t tx ty e : TypeId} {x y : AV} {u v : Value} (h : St κ σ) (hx : Rel κ x u) (hy : Rel κ y v) (ht : P.underlying t = some (.slice e))
    (hk : (∃ e', P.underlying tx = some (.slice e')) ∨ P.underlying tx = some .string) (hw : vappend P e x y σ R) :
    ∃ r w', (Builtin.append_ #[t, tx] ty #[u, v]).run P κ.w = .ok r w' ∧ Post κ R r w' := by
  unfold vappend at hw
  split at hw
  · rename_i z sz by_ k es ys hi hel
    obtain ⟨⟨hz0, hb, h62, hzx, hzy⟩, hw⟩ := hw
    obtain ⟨news, hsrc, hnews⟩ := src_of hy hel hzy hk
    obtain ⟨i, hi1, hi2, hi3, hi4⟩ := run_tinfo hi κ.w
    have hinf : P.info? e = some i := by
      unfold tInfo at hi
      cases hh : P.info? e with
      | none => rw [hh] at hi; cases hi
      | some j =>
        simp [typeInfo, program, Sem.run, hh, Bind.bind, Sem.bind] at hi1
        rw [hi1]
    have hsz : i.size = sz := hi3
    have hzsize : z.cells.size = sz := by rw [zero_size, hz0]
    have hzes : ∀ e ∈ es ++ ys, e.length = sz := fun e he => by
      rcases List.mem_append.1 he with he | he
      · exact hzx e he
      · exact (hzy e he).1
    have hnl : news.length = ys.length * sz := hsrc.newsLen
    -- a new row
    have grow : ∀ (σ0 : Sg) (ot : Option TypeId), St κ σ0 → (ot = none ∨ ot = some e) → (∀ τ, σ τ = none → R (.sl (.tok τ sz) (es ++ ys)) (σ0.set τ (.tok ot))) → ∀ (base : Option Addr) (n c : Nat) (olds : List Value), n = es.length → olds.length = n * sz → RelRow κ es.flatten olds.toArray →
        (Builtin.firstCells sz n (.slice base n c)).run P κ.w.drew = .ok olds.toArray κ.w.drew → c < n + ys.length →
        ∃ r w', (Builtin.append_ #[t, tx] ty #[.slice base n c, v]).run P κ.w = .ok r w' ∧ Post κ R r w' := by
      intro σ0 ot h0 hot hR base n c olds hn hol hor hold hlt
      have hrun := run_append_grow_src (P := P) κ.w t tx ty e i z ht hinf hi2 base n c olds (by rw [hsz]; exact hold) v ys.length news (by rw [hsz]; exact hsrc) hlt (by omega) (by
        have := Go.nextslicecap_le (need := n + ys.length) (old := c) hlt
        have h2 : Builtin.nextslicecap (n + ys.length) c * i.bytes ≤ 2 * (n + ys.length) * i.bytes := Nat.mul_le_mul_right _ this
        rw [hi4] at h2 ⊢
        rw [hn] at h2 ⊢
        omega)
      have hge := grownCap_ge κ.w (n + ys.length) c e
      generalize grownCap κ.w (n + ys.length) c e = nc at hrun hge
      generalize hC : ((olds ++ news).toArray ++ Builtin.zeroCells z.cells (nc - (n + ys.length))) = C at hrun
      have hCs : C.size = nc * sz := by
        rw [← hC]
        simp only [Array.size_append, List.size_toArray, List.length_append, zeroCells_size, hol, hnl, hzsize]
        rw [← Nat.add_mul, ← Nat.add_mul]
        congr 1
        omega
      obtain ⟨τ, hτ, hτ'⟩ := h.drew.fresh
      have hlo : (n + ys.length) * sz ≤ nc * sz := Nat.mul_le_mul_right _ hge
      obtain ⟨g1, g2⟩ := h0.drew.newTok (c := C) (t := e) (fz := (0, 0)) (e := ot) (lo := (n + ys.length) * sz) (τ := τ) (by omega) (fun i _ => by simp) (fun t' ht' => by
        rcases hot with rfl | rfl
        · cases ht'
        · cases ht'; exact ⟨rfl, rfl⟩) hτ
      refine ⟨_, _, hrun, ⟨_, _, _, ?_, κ.le_drew.trans g1, g2, ?_, hR τ (hτ' σ (.refl σ))⟩⟩
      · rfl
      · refine rel_of_flat (sz := sz) (g := fun t => C.getD t undef) ⟨rfl, ?_⟩ (by simp [hn]) hge rfl hzes (fun t ht => ?_) (fun t x hx => ?_)
        · simp [K.named, K.drew, hCs]
        · have htC : t < C.size := by omega
          have := reads_new h0.drew (c := C) (e := e) (fz := (0, 0)) (m := fun x => (n + ys.length) * sz ≤ x ∧ x < C.size + 1) (j := t) (v := C.getD t undef) (by simp [htC]) (by omega)
          show K.reads _ κ.w.heap.size (0 + t) _
          rw [Nat.zero_add]
          exact this
        · rw [List.flatten_append] at hx
          have hrow := (hor.append hnews)
          have hlt' : t < (es.flatten ++ ys.flatten).length := by
            rcases Nat.lt_or_ge t (es.flatten ++ ys.flatten).length with h' | h'
            · exact h'
            · rw [List.getElem?_eq_none h'] at hx; cases hx
          rw [hrow.1] at hlt'
          have hCt : C[t]? = (olds.toArray ++ news.toArray)[t]? := by
            rw [← hC, ← List.append_toArray]
            rw [Array.getElem?_append_left (by simpa using hlt')]
          refine ((hrow.2 t x (C.getD t undef) hx ?_).mono κ.le_drew).mono g1
          rw [← hCt]
          have : t < C.size := by
            rw [← hC]
            simp at hlt'
            simp
            omega
          simp [this]
    have room : ∀ (b : Addr) (n c : Nat), b.spot = none → n + ys.length ≤ c → (∀ j, j < news.length → (κ.w.cell? ⟨b.block, b.off + n * sz + j, none⟩).isSome = true) → (∀ j, j < news.length → κ.w.frozen? ⟨b.block, b.off + n * sz + j, none⟩ = false) →
        (Builtin.append_ #[t, tx] ty #[.slice (some b) n c, v]).run P κ.w = .ok (.slice (some b) (n + ys.length) c) (κ.w.setCells b.block (b.off + n * sz) news) := by
      intro b n c hs hle h1 h2
      obtain ⟨bb, bo, bs⟩ := b
      simp only at hs
      subst hs
      have := run_append_room_src (P := P) κ.w t tx ty e i ht hinf bb bo n c v ys.length news (by rw [hsz]; exact hsrc) hle (by rw [hsz]; exact h1) (by rw [hsz]; exact h2)
      rw [hsz] at this
      exact this
    have olds : ∀ (b : Addr) (n c : Nat) (g : Nat → Value), n = es.length → b.spot = none → (∀ t, t < n * sz → κ.reads b.block (b.off + t) (g t)) → (∀ t x, es.flatten[t]? = some x → Rel κ x (g t)) →
        ((List.range (n * sz)).map g).length = n * sz ∧ RelRow κ es.flatten ((List.range (n * sz)).map g).toArray ∧ (Builtin.firstCells sz n (.slice (some b) n c)).run P κ.w.drew = .ok ((List.range (n * sz)).map g).toArray κ.w.drew := by
      intro b n c g hn hs hr hrel
      refine ⟨by simp, ⟨by rw [flatten_length hzx]; simp [hn], fun i x v hx hv => ?_⟩, ?_⟩
      · rw [List.getElem?_toArray] at hv
        obtain ⟨_, rfl⟩ := range_map_get hv
        exact hrel i x hx
      · simp only [Builtin.firstCells]
        exact run_loadCells κ.w.drew b (n * sz) g (fun j hj => by rw [addr_add hs]; exact (hr j hj).1)
    have nilcase : ∀ (σ0 : Sg) (ot : Option TypeId), St κ σ0 → (ot = none ∨ ot = some e) → (∀ τ, σ τ = none → R (.sl (.tok τ sz) (es ++ ys)) (σ0.set τ (.tok ot))) → es = [] → ∃ r w', (Builtin.append_ #[t, tx] ty #[.slice none 0 0, v]).run P κ.w = .ok r w' ∧ Post κ R r w' := by
      intro σ0 ot h0 hot hR hes
      by_cases hys : ys = []
      · have hl : ys.length = 0 := by rw [hys]; rfl
        have hs0 := hsrc
        rw [hl] at hs0
        obtain ⟨τ, hτ, hτ'⟩ := h.fresh
        obtain ⟨g1, g2⟩ := h0.noRoom ot hτ
        refine ⟨.slice none 0 0, κ.w, ?_, ⟨_, _, _, ?_, g1, g2, ?_, hR τ (hτ' σ (.refl σ))⟩⟩
        · rcases hs0.kind with ⟨e', hk'⟩ | hk' <;> simp [Builtin.append_, run_und ht, run_und hk', sizeOf, typeInfo, hinf, hs0.len, hsz, hs0.cells]
        · rfl
        · subst hys
          subst hes
          exact .slnil _ trivial
      · refine grow σ0 ot h0 hot hR none 0 0 [] (by simp [hes]) (by simp) (by subst hes; exact ⟨rfl, fun i x v hx => by simp at hx⟩) rfl ?_
        have : 0 < ys.length := List.length_pos_iff.2 hys
        omega
    rcases flat_of_rel hx hzx with ⟨rfl, hes, hmn⟩ | ⟨_, _, rfl, hes, hkk⟩ | ⟨b, n, c, g, rfl, hko, hn, hc, hs, hr, hrel⟩
    · cases k <;> simp only at hw
      case nil => exact nilcase σ (some e) h (.inr rfl) hw hes
      case full => exact hmn.elim
      case tok t' s =>
        obtain ⟨_, hw⟩ := hw
        split at hw
        · rename_i ot _
          exact nilcase (σ.del t') ot (h.sub (Sg.del_sub σ t')) hw.1 hw.2 hes
        · exact hw.elim
    · rcases hkk with rfl | rfl <;> exact hw.elim
    · obtain ⟨ho1, ho2, ho3⟩ := olds b n c g hn hs hr hrel
      cases k <;> simp only at hw
      case nil => exact hko.elim
      case full =>
        have hcn : c = n := hko
        by_cases hys : ys = []
        · subst hcn
          have hl : ys.length = 0 := by rw [hys]; rfl
          have hnil : news = [] := List.eq_nil_of_length_eq_zero (by rw [hnl, hl, Nat.zero_mul])
          refine ⟨_, _, room b c c hs (by omega) (fun j hj => by simp [hnil] at hj) (fun j hj => by simp [hnil] at hj), ?_⟩
          rw [hnil, hl]
          refine ⟨κ, _, σ, rfl, .refl κ, h, ?_, hw.1 hys⟩
          exact rel_of_flat (sz := sz) (k := .full) (show c + 0 = c + 0 from rfl) hn (Nat.le_refl _) hs hzx hr hrel
        · have : 0 < ys.length := List.length_pos_iff.2 hys
          exact grow σ (some e) h (.inr rfl) (hw.2 hys) (some b) n c _ hn ho1 ho2 ho3 (by omega)
      case tok t' s =>
        obtain ⟨rfl, hw⟩ := hw
        split at hw
        · rename_i ot hst
          obtain ⟨hot, hw⟩ := hw
          by_cases hroom : n + ys.length ≤ c
          · have hμ := hko.2
            have hko1 : (Own.tok t' s).size s = s := rfl
            rw [hko1] at hμ
            obtain ⟨τ, hτ, hτ'⟩ := h.fresh
            have hle : b.off + n * s + news.length < b.off + c * s + 1 := by
              rw [hnl, Nat.add_assoc, ← Nat.add_mul]
              have := Nat.mul_le_mul_right s hroom
              omega
            obtain ⟨g1, g2, g3, g4⟩ := h.appendIn (τ := τ) (vs := news) hst hμ hle hτ
            refine ⟨_, _, room b n c hs hroom (fun j hj => (g3 j hj).1) (fun j hj => (g3 j hj).2), ⟨_, _, _, ?_, g1, g2, ?_, hw τ (hτ' _ (.refl _))⟩⟩
            · rfl
            · refine rel_of_flat (sz := s) (g := fun t => if t < n * s then g t else news.getD (t - n * s) undef) ⟨rfl, ?_⟩ (by simp [hn]) hroom hs hzes (fun t ht => ?_) (fun t x hx => ?_)
              · simp only [K.named, if_true]
                rw [hnl, Nat.add_assoc, ← Nat.add_mul]
              · by_cases hlt : t < n * s
                · rw [if_pos hlt]
                  exact (hr t hlt).mono g1
                · rw [if_neg hlt]
                  rw [Nat.add_mul] at ht
                  have hj : t - n * s < news.length := by rw [hnl]; omega
                  have := g4 (t - n * s) hj
                  rw [show b.off + n * s + (t - n * s) = b.off + t by omega] at this
                  rw [show news.getD (t - n * s) undef = news[t - n * s] by simp [hj]]
                  exact this
              · rw [List.flatten_append] at hx
                have hfl := flatten_length hzx
                by_cases hlt : t < n * s
                · rw [if_pos hlt]
                  rw [List.getElem?_append_left (by rw [hfl, ← hn]; exact hlt)] at hx
                  exact (hrel t x hx).mono g1
                · rw [if_neg hlt]
                  rw [List.getElem?_append_right (by rw [hfl, ← hn]; omega), hfl, ← hn] at hx
                  have hj : t - n * s < news.length := by
                    have := hnews.1
                    simp only [List.size_toArray] at this
                    rw [← this]
                    rcases Nat.lt_or_ge (t - n * s) ys.flatten.length with h' | h'
                    · exact h'
                    · rw [List.getElem?_eq_none h'] at hx; cases hx
                  exact (hnews.2 _ x _ hx (by simp [hj])).mono g1
          · exact grow (σ.del t') ot (h.sub (Sg.del_sub σ t')) hot hw (some b) n c _ hn ho1 ho2 ho3 (by omega)
        · exact hw.elim
  · exact hw.elim

end Go.V
