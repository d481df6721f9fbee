/- Soundness, part 2: stores, boxes, addresses, fields, indexes. -/
import Derived.Test.YtkbfngepdgdecaaV4
namespace Go.V
open Go.RowKit
variable {P : Program} {κ : K} {σ : Sg} {ρ : Nat → AV} {a : Act} {R : AV → Sg → Prop}

theorem snd_store {t : TypeId} {x y : AV} {u v : Value} (h : St κ σ) (hx : Rel κ x u) (hy : Rel κ y v) {R' : Sg → Prop} (hv : vstore P t x y σ R') :
    ∃ κ' σ', (Instr.storeAt t u v).run P κ.w = .ok () κ'.w ∧ κ.le κ' ∧ St κ' σ' ∧ R' σ' := by
  cases hx <;> simp only [vstore] at hv
  case ref β off b hi hμ =>
    cases ht : tInfo P t with
    | none => simp [ht] at hv
    | some i =>
      obtain ⟨z, n, by_⟩ := i
      simp only [ht] at hv
      cases hσ : σ β with
      | none => simp [hσ] at hv
      | some o =>
        cases o <;> simp only [hσ] at hv
        case cells ty cs =>
          obtain ⟨⟨h1, h2, h3, h4⟩, hR⟩ := hv
          have hc := rel_cells hy h1
          obtain ⟨g1, g2, g3⟩ := h.store (xs := y.cells) (vs := v.cells.toList) hσ hμ (off := off) (by omega) (by simpa using hc.1) (fun i x u k1 k2 => hc.2 i x u k1 (by rw [← Array.getElem?_toList]; exact k2))
          refine ⟨_, _, ?_, g1, g2, hR⟩
          simp only [Instr.storeAt, Instr.sureAddr, storeVar, Sem.run_bind, Sem.run_pure, Result.andThen, run_size ht]
          have : v.cells.size = n := by rw [← hc.1]; exact h2
          simp only [this, ne_eq, not_true_eq_false, if_false]
          rw [run_storeCells_cells b off v.cells.toList 0 κ.w (fun j hj => (g3 j hj).1) (fun j hj => (g3 j hj).2) (fun u hu => cells_one hc h4 u hu)]
          simp [K.wrote]
        all_goals exact hv.elim
  all_goals exact hv.elim

/-- A variable made. -/
theorem snd_box {e : TypeId} {H : Hint} {x : AV} {v : Value} (h : St κ σ) (hc : RelRow κ x.cells v.cells) (hv : vbox e H x σ R) :
    ∃ u w', (Instr.box e v).run P κ.w = .ok u w' ∧ Post κ R u w' := by
  refine ⟨.pointer (some ⟨κ.w.heap.size, 0, none⟩), κ.w.alloc (.cells v.cells e), by simp [Instr.box, newVar, newRow, newObj, Sem.run], ?_⟩
  have obj : (∀ β, σ β = none → R (.ref β 0) (σ.set β (.cells e x.cells))) → Post κ R (.pointer (some ⟨κ.w.heap.size, 0, none⟩)) (κ.w.alloc (.cells v.cells e)) := fun hv => by
    obtain ⟨β, hβ, hβ'⟩ := h.fresh
    have hle := (K.le_alloc h.bas (.cells v.cells e) (· < x.cells.length)).trans (K.le_named (κ := κ.alloc _ _) (β := β) hβ (κ.w.heap.size, 0, x.cells.length))
    refine ⟨_, _, _, ?_, hle, h.newObj (x := .cells v.cells e) hβ ?_, ?_, hv β (hβ' σ (.refl σ))⟩
    · rfl
    · refine ⟨rfl, rfl, v.cells, (0, 0), ?_, fun i _ => ?_, hc.mono hle⟩
      · show (κ.w.heap.push _)[κ.w.heap.size]? = _
        simp
      · show (κ.w.alloc _).frozen? _ = _
        simp
    · refine .ref β 0 _ x.cells.length ?_
      simp [K.named]
  have roc : R (.ro x.cells) σ → Post κ R (.pointer (some ⟨κ.w.heap.size, 0, none⟩)) (κ.w.alloc (.cells v.cells e)) := fun hv => by
    have hle := K.le_alloc h.bas (.cells v.cells e) (fun _ => False)
    refine ⟨κ.alloc (.cells v.cells e) (fun _ => False), _, σ, rfl, hle, h.alloc _ _, ?_, hv⟩
    refine .ro _ _ (fun j => v.cells.getD j undef) rfl (fun j hj => ?_) (fun j y hj => ?_)
    · have hj' : j < v.cells.size := by rw [← hc.1]; exact hj
      have := reads_new h (e := e) (fz := (0, 0)) (m := fun _ => False) (c := v.cells) (j := j) (v := v.cells.getD j undef) (by simp [hj']) (fun f => f)
      simpa using this
    · have hj' : j < v.cells.size := by
        rw [← hc.1]
        rcases Nat.lt_or_ge j x.cells.length with h' | h'
        · exact h'
        · simp [List.getElem?_eq_none h'] at hj
      exact (hc.2 j y _ hj (by simp [hj'])).mono hle
  cases H
  · exact obj hv
  · exact roc hv
  · exact obj hv

theorem snd_alloc {e : TypeId} {H : Hint} {z : Value} {n b : Nat} (ht : tInfo P e = some (some z, n, b)) (h : St κ σ) (hv : vbox e H (ofValue z) σ R) :
    ∃ u w', (Instr.alloc e true (.tuple #[])).run P κ.w = .ok u w' ∧ Post κ R u w' := by
  have hc : RelRow κ (ofValue z).cells z.cells := by
    cases z <;> first
      | exact relRow_leaves κ _
      | (refine ⟨?_, fun i x v h1 h2 => ?_⟩
         · simp only [ofValue, leafOf]; (try split) <;> rfl
         · have hcells : ∀ (y : AV), (∀ cs, y ≠ .agg cs) → y.cells = [y] := fun y hy => by cases y <;> first | rfl | exact absurd rfl (hy _)
           cases i with
           | zero =>
             simp only [Value.cells] at h2
             simp only [ofValue] at h1
             rw [hcells _ (fun cs => by unfold leafOf; split <;> simp)] at h1
             cases h1
             cases h2
             exact rel_leafOf κ _
           | succ i => simp [Value.cells] at h2)
  obtain ⟨u, w', h1, h2⟩ := snd_box (P := P) (e := e) h hc hv
  refine ⟨u, w', ?_, h2⟩
  rw [← h1]
  simp only [Instr.alloc, Instr.box, Sem.run_bind, run_zero ht, Result.andThen]

theorem fieldPlace_run {b : Addr} {fd : Field} {z : Option Value} {n by_ : Nat} (hs : b.spot = none) (ht : tInfo P fd.type = some (z, n, by_)) (hn : n ≠ 0) (w : World) :
    (fieldPlace b fd).run P w = .ok ⟨b.block, b.off + fd.offset, none⟩ w := by
  simp [fieldPlace, run_size ht, hn, addr_add hs]

theorem snd_fieldAddr {s : TypeId} {x : AV} {v : Value} {f : Nat} (h : St κ σ) (hx : Rel κ x v) (hv : vfieldAddr P s x f (R · σ)) : ∃ u, (Instr.fieldAt s v f).run P κ.w = .ok u κ.w ∧ Post κ R u κ.w := by
  unfold vfieldAddr at hv
  split at hv
  · rename_i fs hd
    split at hv
    · rename_i fd hf
      split at hv
      · rename_i z n by_ ht
        obtain ⟨hn, hv⟩ := hv
        cases hx <;> simp only at hv
        case ro cs b g hs hr hrel =>
          refine ⟨.pointer (some ⟨b.block, b.off + fd.offset, none⟩), ?_, post_same h (.ro _ _ (fun j => g (fd.offset + j)) rfl (fun j hj => ?_) (fun j y hj => ?_)) hv⟩
          · simp only [Instr.fieldAt, Sem.run_bind, run_und hd, Result.andThen, hf, Instr.sureAddr, Sem.run_pure, fieldPlace_run hs ht hn]
          · simp at hj
            have := hr (fd.offset + j) (by omega)
            rw [← Nat.add_assoc] at this
            exact this
          · rw [List.getElem?_drop] at hj
            exact hrel _ _ hj
        case ref β off b hi hμ =>
          refine ⟨.pointer (some ⟨b, off + fd.offset, none⟩), ?_, post_same h (.ref β _ b hi hμ) hv⟩
          simp only [Instr.fieldAt, Sem.run_bind, run_und hd, Result.andThen, hf, Instr.sureAddr, Sem.run_pure]
          rw [fieldPlace_run (b := ⟨b, off, none⟩) rfl ht hn]
        all_goals exact hv.elim
      · exact hv.elim
    · exact hv.elim
  · exact hv.elim

/-- A value read out of a struct or an array. -/
theorem run_part {t : TypeId} {cs : List AV} {vs : Array Value} {off : Nat} (hc : RelRow κ cs vs) (w : World) {R' : AV → Prop} (hv : vpart P t (cs.drop off) R') :
    ∃ v x, (part t vs off).run P w = .ok v w ∧ Rel κ x v ∧ R' x := by
  unfold vpart at hv
  split at hv
  · rename_i z n b d ht hd
    simp only [part, Sem.run_bind, run_isAgg hd, Result.andThen]
    by_cases hg : isAggD d = true
    · rw [if_pos hg] at hv
      obtain ⟨hn, hv⟩ := hv
      refine ⟨.agg (vs.extract off (off + n)), .agg ((cs.drop off).take n), by simp [hg, run_size ht], ?_, hv⟩
      have hl := hc.1
      simp at hn
      refine .agg _ _ (by simp; omega) (fun i x v h1 h2 => ?_)
      have hi : i < n := by
        rcases Nat.lt_or_ge i n with h' | h'
        · exact h'
        · simp [List.getElem?_take, Nat.not_lt.2 h'] at h1
      rw [List.getElem?_take, if_pos hi, List.getElem?_drop] at h1
      refine hc.2 (off + i) x v h1 ?_
      rw [Array.getElem?_extract] at h2
      split at h2
      · exact h2
      · cases h2
    · rw [if_neg hg] at hv
      cases hcs : cs.drop off with
      | nil => rw [hcs] at hv; exact hv.elim
      | cons x r =>
        rw [hcs] at hv
        have h1 : cs[off]? = some x := by
          have := congrArg (·[0]?) hcs
          simpa [List.getElem?_drop] using this
        have ho : off < vs.size := by
          rw [← hc.1]
          rcases Nat.lt_or_ge off cs.length with h' | h'
          · exact h'
          · simp [List.getElem?_eq_none h'] at h1
        refine ⟨vs[off], x, by simp [hg, ho], hc.2 off x _ h1 (by simp [ho]), hv⟩
  · exact hv.elim

theorem snd_field {s : TypeId} {x : AV} {v : Value} {f : Nat} (h : St κ σ) (hx : Rel κ x v) (hv : vfield P s x f (R · σ)) : ∃ u, (Instr.field s v f).run P κ.w = .ok u κ.w ∧ Post κ R u κ.w := by
  unfold vfield at hv
  split at hv
  · rename_i fs cs hd
    split at hv
    · rename_i fd hf
      cases hx with
      | agg cs vs hl hrel =>
        obtain ⟨u, y, h1, h2, h3⟩ := run_part (κ := κ) (vs := vs) ⟨hl, hrel⟩ κ.w hv
        refine ⟨u, ?_, post_same h h2 h3⟩
        simp only [Instr.field, Sem.run_bind, run_und hd, Result.andThen, hf, asAgg, Sem.run_pure, h1]
    · exact hv.elim
  · exact hv.elim

theorem snd_indexAddr {t : TypeId} {x i : AV} {v j : Value} (h : St κ σ) (hx : Rel κ x v) (hi : Rel κ i j) (hv : vindexAddr P t x i (R · σ)) : ∃ u, (Instr.indexAt t v j).run P κ.w = .ok u κ.w ∧ Post κ R u κ.w := by
  unfold vindexAddr at hv
  split at hv
  · rename_i e k es kk n hd
    split at hv
    · rename_i z s by_ ht
      obtain ⟨⟨h0, hlt, hlen⟩, hv⟩ := hv
      have hgd : es.getD n.toNat [] = es[n.toNat] := by simp [List.getD_eq_getElem?_getD, List.getElem?_eq_getElem hlt]
      rw [hgd] at hlen hv
      cases hi
      cases hx with
      | slnil => simp at hlt
      | slemp => simp at hlt
      | sl _ _ b m c sz f hk hn hc hs hz hr hrel =>
        have hsz : s = sz := by rw [← hlen]; exact hz _ _ (List.getElem?_eq_getElem hlt)
        subst hsz
        refine ⟨.pointer (some ⟨b.block, b.off + n.toNat * s, none⟩), ?_, post_same h (.ro _ _ (f n.toNat) rfl (fun j hj => ?_) (fun j y hj => ?_)) hv⟩
        · have hlt' : n < (m : Int) := by omega
          simp only [Instr.indexAt, asIntOf, Sem.run_bind, Sem.run_pure, Result.andThen, run_und hd]
          simp [run_size ht, h0, hlt', addr_add hs]
        · exact hr _ _ (by omega) (by omega)
        · exact hrel _ _ _ _ (List.getElem?_eq_getElem hlt) hj
    · exact hv.elim
  · rename_i e β off k sz kk n hd
    obtain ⟨⟨h0, hlt, z, b_, ht⟩, hv⟩ := hv
    cases hi
    cases hx with
    | ms _ _ _ _ b hi c hμ hn hh =>
      refine ⟨.pointer (some ⟨b, off + n.toNat * sz, none⟩), ?_, post_same h (.ref β _ b hi hμ) hv⟩
      simp only [Instr.indexAt, asIntOf, Sem.run_bind, Sem.run_pure, Result.andThen, run_und hd]
      simp [run_size ht, h0, hlt, addr_add (b := ⟨b, off, none⟩) rfl]
  · rename_i n e cs kk m hd
    split at hv
    · rename_i z s by_ ht
      obtain ⟨⟨h0, hlt, hn⟩, hv⟩ := hv
      cases hi
      cases hx with
      | ro _ b f hs hr hrel =>
        refine ⟨.pointer (some ⟨b.block, b.off + m.toNat * s, none⟩), ?_, post_same h (.ro _ _ (fun j => f (m.toNat * s + j)) rfl (fun j hj => ?_) (fun j y hj => ?_)) hv⟩
        · simp only [Instr.indexAt, asIntOf, Sem.run_bind, Sem.run_pure, Result.andThen, run_und hd, Instr.sureAddr]
          simp [run_size ht, h0, hlt, addr_add hs]
        · simp at hj
          have := hr (m.toNat * s + j) (by omega)
          rw [← Nat.add_assoc] at this
          exact this
        · rw [List.getElem?_drop] at hj
          exact hrel _ _ hj
    · exact hv.elim
  · rename_i n e β off kk m hd
    split at hv
    · rename_i z s by_ ht
      obtain ⟨⟨h0, hlt, hn⟩, hv⟩ := hv
      cases hi
      cases hx with
      | ref _ _ b hi hμ =>
        refine ⟨.pointer (some ⟨b, off + m.toNat * s, none⟩), ?_, post_same h (.ref β _ b hi hμ) hv⟩
        simp only [Instr.indexAt, asIntOf, Sem.run_bind, Sem.run_pure, Result.andThen, run_und hd, Instr.sureAddr]
        simp [run_size ht, h0, hlt, addr_add (b := ⟨b, off, none⟩) rfl]
    · exact hv.elim
  · exact hv.elim

theorem snd_index {t : TypeId} {x i : AV} {v j : Value} (h : St κ σ) (hx : Rel κ x v) (hi : Rel κ i j) (hv : vindex P t x i (R · σ)) : ∃ u, (Instr.index t v j).run P κ.w = .ok u κ.w ∧ Post κ R u κ.w := by
  unfold vindex at hv
  split at hv
  · rename_i s k n hd
    obtain ⟨⟨h0, hlt⟩, hv⟩ := hv
    cases hi
    cases hx
    have hgd : byteAt s n.toNat = s[n.toNat]'hlt := by
      unfold byteAt
      rw [Array.getElem?_eq_getElem (show n.toNat < s.data.size from hlt)]
      rfl
    rw [hgd] at hv
    refine ⟨.int .u8 (s[n.toNat]'hlt).toNat, ?_, post_same h (.val _) hv⟩
    simp only [Instr.index, asIntOf, Sem.run_bind, Sem.run_pure, Result.andThen, run_und hd]
    have : s[n.toNat]? = some (s[n.toNat]'hlt) := by simp [hlt]
    simp [h0, hlt]
  · rename_i n e cs k m hd
    split at hv
    · rename_i z s by_ ht
      obtain ⟨⟨h0, hlt⟩, hv⟩ := hv
      cases hi
      cases hx with
      | agg _ vs hl hrel =>
        obtain ⟨u, y, h1, h2, h3⟩ := run_part (κ := κ) (vs := vs) ⟨hl, hrel⟩ κ.w hv
        refine ⟨u, ?_, post_same h h2 h3⟩
        simp only [Instr.index, asIntOf, Sem.run_bind, Sem.run_pure, Result.andThen, run_und hd]
        simp [h0, hlt, run_size ht, h1]
    · exact hv.elim
  · exact hv.elim

end Go.V
