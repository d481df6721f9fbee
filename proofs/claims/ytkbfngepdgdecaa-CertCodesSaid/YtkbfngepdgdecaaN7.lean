/- Part 7 of the proof: C24, C25, C14, C26. -/
import Derived.Test.YtkbfngepdgdecaaN6
import Derived.Test.YtkbfngepdgdecaaN5

set_option linter.unusedSimpArgs false
set_option linter.unusedVariables false
namespace Go.Cert
open Go.V
/-- What each signed: who, the token of the row, the texts. -/
abbrev Ts := List (Int × Nat × List ByteArray)
def strs (l : List ByteArray) : List (List AV) := l.map fun s => [AV.s s]
def esOf (ts : Ts) : List (Value × AV) := ts.map fun t => (.int .i64 t.1, .sl (.tok t.2.1 1) (strs t.2.2))
def getT (w : Int) : Ts → Option (Nat × List ByteArray)
  | [] => none
  | t :: r => if w = t.1 then some t.2 else getT w r
def putT (w : Int) (τ : Nat) (l : List ByteArray) : Ts → Ts
  | [] => [(w, τ, l)]
  | t :: r => if w = t.1 then (t.1, τ, l) :: r else t :: putT w τ l r
theorem strs_app (a b : List ByteArray) : strs a ++ strs b = strs (a ++ b) := by simp [strs]
theorem strs_len (a : List ByteArray) : (strs a).length = a.length := by simp [strs]
theorem strs_all (a : List ByteArray) : allLen (strs a) 1 = True := by
  refine eq_true (fun e he => ?_)
  obtain ⟨b, _, rfl⟩ := List.mem_map.1 he
  rfl
def rowT : Option (Nat × List ByteArray) → AV
  | some (τ, l) => .sl (.tok τ 1) (strs l)
  | none => .sl .nil []
theorem find_T (w : Int) : ∀ ts : Ts, vfind (.int .i64 w) (esOf ts) = some ((getT w ts).map fun x => .sl (.tok x.1 1) (strs x.2))
  | [] => rfl
  | t :: r => by
    have ih := find_T w r
    unfold esOf at ih ⊢
    rw [List.map_cons, vfind, getT]
    by_cases h : w = t.1
    · simp [vkeyEq, h]
    · simp only [vkeyEq, h, decide_false, if_false]
      exact ih
theorem put_T (w : Int) (τ : Nat) (l : List ByteArray) : ∀ ts : Ts, vput (.int .i64 w) (.sl (.tok τ 1) (strs l)) (esOf ts) = esOf (putT w τ l ts)
  | [] => rfl
  | t :: r => by
    have ih := put_T w τ l r
    unfold esOf at ih ⊢
    rw [List.map_cons, vput, putT]
    by_cases h : w = t.1
    · simp [vkeyEq, h]
    · simp only [vkeyEq, h, decide_false, if_false]
      rw [ih]
      simp
theorem fit_T (w : Int) (ts : Ts) : KeysFit (.int .i64 w) (esOf ts) := by
  intro k x hk q a q' b h1 h2
  obtain ⟨t, _, ht⟩ := List.mem_map.1 hk
  cases ht
  cases h1
  cases h2
  rfl
def toks (ts : Ts) : List Nat := ts.map (·.2.1)
theorem get_mem {w : Int} {τ : Nat} {l : List ByteArray} : ∀ {ts : Ts}, getT w ts = some (τ, l) → τ ∈ toks ts
  | [], h => by cases h
  | t :: r, h => by
    rw [getT] at h
    split at h
    · rw [show τ = t.2.1 from by rw [Option.some.inj h]]; simp [toks]
    · have := get_mem h
      unfold toks at this ⊢
      exact List.mem_cons_of_mem _ this
/-- A row that is new: its token is one more. -/
theorem put_new {w : Int} {τ : Nat} {l : List ByteArray} : ∀ {ts : Ts}, getT w ts = none → toks (putT w τ l ts) = toks ts ++ [τ]
  | [], _ => rfl
  | t :: r, h => by
    rw [getT] at h
    split at h
    · cases h
    · rename_i hw
      rw [putT, if_neg hw]
      have := put_new (τ := τ) (l := l) h
      unfold toks at this ⊢
      rw [List.map_cons, this]
      rfl
/-- A row that was there: its token is another. -/
theorem put_old {w : Int} {τ τ' : Nat} {l l' : List ByteArray} : ∀ {ts : Ts}, getT w ts = some (τ, l) → (toks ts).Nodup → τ' ∉ toks ts → (toks (putT w τ' l' ts)).Nodup ∧ (∀ x, x ∈ toks (putT w τ' l' ts) ↔ x = τ' ∨ (x ∈ toks ts ∧ x ≠ τ))
  | [], h, _, _ => by cases h
  | t :: r, h, hn, hf => by
    have hn' : t.2.1 ∉ toks r ∧ (toks r).Nodup := List.nodup_cons.1 hn
    have hf' : τ' ≠ t.2.1 ∧ τ' ∉ toks r := ⟨fun e => hf (by rw [e]; exact List.mem_cons_self ..), fun e => hf (List.mem_cons_of_mem _ e)⟩
    rw [getT] at h
    split at h
    · rename_i hw
      have h1 : t.2.1 = τ := by rw [Option.some.inj h]
      rw [putT, if_pos hw]
      refine ⟨List.nodup_cons.2 ⟨hf'.2, hn'.2⟩, fun x => ?_⟩
      show x ∈ τ' :: toks r ↔ x = τ' ∨ (x ∈ t.2.1 :: toks r ∧ x ≠ τ)
      rw [← h1]
      constructor
      · intro hx
        rcases List.mem_cons.1 hx with rfl | hx
        · exact .inl rfl
        · exact .inr ⟨List.mem_cons_of_mem _ hx, fun e => hn'.1 (e ▸ hx)⟩
      · rintro (rfl | ⟨hx, hne⟩)
        · exact List.mem_cons_self ..
        · rcases List.mem_cons.1 hx with e | hx
          · exact absurd e hne
          · exact List.mem_cons_of_mem _ hx
    · rename_i hw
      obtain ⟨ih1, ih2⟩ := put_old (l' := l') h hn'.2 hf'.2
      have hτ : τ ∈ toks r := get_mem h
      have hne : t.2.1 ≠ τ := fun e => hn'.1 (e ▸ hτ)
      rw [putT, if_neg hw]
      refine ⟨List.nodup_cons.2 ⟨fun hm => ?_, ih1⟩, fun x => ?_⟩
      · rcases (ih2 _).1 hm with e | ⟨h1, _⟩
        · exact hf'.1 e.symm
        · exact hn'.1 h1
      · show x ∈ t.2.1 :: toks (putT w τ' l' r) ↔ x = τ' ∨ (x ∈ t.2.1 :: toks r ∧ x ≠ τ)
        rw [List.mem_cons, List.mem_cons, ih2]
        constructor
        · rintro (rfl | h1 | ⟨h1, h2⟩)
          · exact .inr ⟨.inl rfl, hne⟩
          · exact .inl h1
          · exact .inr ⟨.inr h1, h2⟩
        · rintro (h1 | ⟨rfl | h1, h2⟩)
          · exact .inr (.inl h1)
          · exact .inl rfl
          · exact .inr (.inr ⟨h1, h2⟩)
/-- The row of all pairs: nil, or its own. -/
def VT (pv : Ps) : Option Nat → AV
  | none => .sl .nil []
  | some τ => .sl (.tok τ 2) (pairsA pv)
end Go.Cert
namespace Go.Proofs.Ytkbfngepdgdecaa
open Go Go.V Go.Cert
/-- A registry: the names it owns. -/
structure Reg (σ : Sg) (ρ : Nat) (own : List Nat) (ps : Ps) (m1 m2 : Nat) (pv : Ps) (tv : Option Nat) (ts : Ts) : Prop where
  own_eq : own = ρ :: m1 :: m2 :: (tv.toList ++ toks ts)
  at0 : σ ρ = some (.cells 94 [.map m1, VT pv tv, .map m2])
  at1 : σ m1 = some (.map (knownM ps))
  at2 : σ m2 = some (.map (esOf ts))
  ne : m1 ≠ m2
  atv : ∀ τ, tv = some τ → σ τ = some (.tok (some 77)) ∧ τ ∉ toks ts
  ats : ∀ τ, τ ∈ toks ts → σ τ = some (.tok (some 9))
  nd : (toks ts).Nodup
  pl : pv.length ≤ ps.length ∧ ∀ w τ l, getT w ts = some (τ, l) → l.length ≤ ps.length
theorem upd90 {m : Nat} {w : Int} {l : List UInt8} {ps : Ps} {σ : Sg} {R : Sg → Prop} (h : σ m = some (.map (knownM ps))) (hn : (w, l) ∉ ps) (hR : R (σ.set m (.map (knownM (ps ++ [(w, l)]))))) : vmapUpdate Try.prog 90 (.map m) (.agg [.i w, .s (bs l)]) (.b true) σ R := by
  unfold vmapUpdate
  simp only [Try.underlying90, allV, h, Option.map_some]
  refine ⟨⟨keyOK_V w l, ?_⟩, ?_⟩
  · have := find_known (w, l) ps
    unfold keyV at this
    rw [this, if_neg hn]
  · have : knownM (ps ++ [(w, l)]) = knownM ps ++ [(.agg #[.int .i64 w, .string (bs l)], AV.b true)] := by simp [knownM, keyV]
    rw [this] at hR
    exact hR
theorem look91 {m : Nat} {w : Int} {ts : Ts} {σ : Sg} {R : AV → Prop} (h : σ m = some (.map (esOf ts))) (hR : R (rowT (getT w ts))) : vlookup Try.prog 91 (.map m) (.i w) false σ R := by
  unfold vlookup
  simp only [Try.underlying91, Try.underlying3, h, info110]
  refine ⟨fit_T w ts, ?_⟩
  rw [find_T]
  cases hg : getT w ts with
  | none => rw [hg] at hR; exact hR
  | some x => rw [hg] at hR; exact hR
theorem upd91 {m : Nat} {w : Int} {τ : Nat} {l : List ByteArray} {ts : Ts} {σ : Sg} {R : Sg → Prop} (h : σ m = some (.map (esOf ts))) (hR : R (σ.set m (.map (esOf (putT w τ l ts))))) : vmapUpdate Try.prog 91 (.map m) (.i w) (.sl (.tok τ 1) (strs l)) σ R := by
  unfold vmapUpdate
  simp only [Try.underlying91, Try.underlying3, h]
  refine ⟨⟨fit_T w ts, by rw [find_T]; simp⟩, ?_⟩
  rw [put_T]
  exact hR
theorem get_put (w : Int) (y : Nat) (l' : List ByteArray) (w' : Int) : ∀ ts : Ts, getT w' (putT w y l' ts) = if w' = w then some (y, l') else getT w' ts
  | [] => rfl
  | t :: r => by
    have ih := get_put w y l' w' r
    rw [putT]
    by_cases h : w = t.1
    · rw [if_pos h, getT, getT]
      by_cases h2 : w' = w
      · rw [if_pos h2, if_pos (h2.trans h)]
      · rw [if_neg h2, if_neg (fun e => h2 (e.trans h.symm)), if_neg (fun e => h2 (e.trans h.symm))]
    · rw [if_neg h, getT, getT, ih]
      by_cases h2 : w' = t.1
      · rw [if_pos h2, if_pos h2, if_neg (fun e => h (e.symm.trans h2))]
      · rw [if_neg h2, if_neg h2]
def nextL (w : Int) (b : ByteArray) (ts : Ts) : List ByteArray := match getT w ts with
  | none => [b]
  | some (_, l0) => l0 ++ [b]
theorem reg_new {σ σ' : Sg} {ρ m1 m2 x y : Nat} {own : List Nat} {ps pv : Ps} {tv : Option Nat} {ts : Ts} {w : Int} {l : List UInt8} (pw : Ps) (hpw : pw.length ≤ ps.length) (hR : Reg σ ρ own ps m1 m2 pv tv ts)
    (h0 : σ' ρ = some (.cells 94 [.map m1, VT (pw ++ [(w, l)]) (some x), .map m2])) (h1 : σ' m1 = some (.map (knownM (ps ++ [(w, l)])))) (h2 : σ' m2 = some (.map (esOf (putT w y (nextL w (bs l) ts) ts))))
    (hx : σ' x = some (.tok (some 77))) (hxn : σ x = none) (hy : σ' y = some (.tok (some 9))) (hyo : y ∉ toks ts) (hyn : σ y = none ∨ tv = some y)
    (hto : ∀ t, t ∈ toks ts → (∀ l0, getT w ts ≠ some (t, l0)) → σ' t = σ t) (hfr : ∀ β, β ∉ own → σ β ≠ none → σ' β = σ β) :
    ∃ own' pv' tv' ts', Reg σ' ρ own' (ps ++ [(w, l)]) m1 m2 pv' tv' ts' ∧ Only own own' σ σ' := by
  have hxt : x ∉ toks ts := fun h => by rw [hR.ats x h] at hxn; cases hxn
  have hxy : x ≠ y := fun e => by rw [e, hy] at hx; cases hx
  have hmem : (toks (putT w y (nextL w (bs l) ts) ts)).Nodup ∧ ∀ t, t ∈ toks (putT w y (nextL w (bs l) ts) ts) → t = y ∨ (t ∈ toks ts ∧ σ' t = some (.tok (some 9))) := by
    cases hg : getT w ts with
    | none =>
      rw [put_new hg]
      refine ⟨List.nodup_append.2 ⟨hR.nd, by simp, fun a ha b hb => by
        have : b = y := by simpa using hb
        subst this
        exact fun e => hyo (e ▸ ha)⟩, fun t ht => ?_⟩
      rcases List.mem_append.1 ht with h | h
      · exact .inr ⟨h, by rw [hto t h (fun l0 e => by rw [hg] at e; cases e), hR.ats t h]⟩
      · exact .inl (by simpa using h)
    | some z =>
      obtain ⟨τ0, l0⟩ := z
      obtain ⟨g1, g2⟩ := put_old (l' := nextL w (bs l) ts) hg hR.nd hyo
      refine ⟨g1, fun t ht => ?_⟩
      rcases (g2 t).1 ht with h | ⟨h, hn⟩
      · exact .inl h
      · exact .inr ⟨h, by rw [hto t h (fun l1 e => by rw [hg] at e; cases e; exact hn rfl), hR.ats t h]⟩
  refine ⟨_, pw ++ [(w, l)], some x, putT w y (nextL w (bs l) ts) ts, ⟨rfl, h0, h1, h2, hR.ne, ?_, ?_, hmem.1, ?_, ?_⟩, ?_, ?_⟩
  · intro τ hτ
    cases hτ
    refine ⟨hx, fun h => ?_⟩
    rcases hmem.2 x h with h | h
    · exact hxy h
    · exact hxt h.1
  · intro t ht
    rcases hmem.2 t ht with rfl | h
    · exact hy
    · exact h.2
  · simp [hpw]
  · intro w' τ l1 hg
    rw [get_put] at hg
    have hp := hR.pl.2
    split at hg
    · cases hg
      rw [List.length_append, nextL]
      cases hq : getT w ts with
      | none => simp
      | some z =>
        have := hp w z.1 z.2 hq
        simpa using this
    · have := hp w' τ l1 hg
      simp; omega
  · exact hfr
  · intro β hβ
    rw [hR.own_eq]
    rcases List.mem_cons.1 hβ with rfl | hβ
    · exact .inl (by simp)
    rcases List.mem_cons.1 hβ with rfl | hβ
    · exact .inl (by simp)
    rcases List.mem_cons.1 hβ with rfl | hβ
    · exact .inl (by simp)
    rcases List.mem_append.1 hβ with hβ | hβ
    · have : β = x := by simpa using hβ
      subst this
      exact .inr hxn
    · rcases hmem.2 β hβ with rfl | h
      · rcases hyn with h | h
        · exact .inr h
        · exact .inl (by simp [h])
      · exact .inl (by simp [h.1])
theorem fresh_del {σ : Sg} {m τ y : Nat} {a : Ob} (h : ((σ.set m a).del τ) y = none) : y = τ ∨ (y ≠ m ∧ σ y = none) := by
  unfold Sg.del Sg.set at h
  by_cases e : y = τ
  · exact .inl e
  · rw [if_neg e] at h
    by_cases e2 : y = m
    · rw [if_pos e2] at h; cases h
    · rw [if_neg e2] at h; exact .inr ⟨e2, h⟩
theorem own_out {σ : Sg} {ρ m1 m2 : Nat} {own : List Nat} {ps pv : Ps} {tv : Option Nat} {ts : Ts} (hR : Reg σ ρ own ps m1 m2 pv tv ts) {β : Nat} (h : β ∉ own) : β ≠ ρ ∧ β ≠ m1 ∧ β ≠ m2 ∧ (∀ τ, tv = some τ → β ≠ τ) ∧ ∀ τ l w, getT w ts = some (τ, l) → β ≠ τ := by
  rw [hR.own_eq] at h
  simp only [List.mem_cons, List.mem_append, not_or] at h
  obtain ⟨h1, h2, h3, h4, h5⟩ := h
  refine ⟨h1, h2, h3, fun τ e e2 => h4 (by rw [e, e2]; simp), fun τ l w hg e => h5 (by rw [e]; exact get_mem hg)⟩
end Go.Proofs.Ytkbfngepdgdecaa

set_option linter.unusedSimpArgs false
set_option linter.unusedVariables false
namespace Go.Cert
open Go.V
theorem keep2 {ρ m : Nat} {S σ' : Sg} {o : Ob} (h : Keep (fun β => β = ρ ∨ β = m) S σ') (hS : S ρ = some o) : σ' ρ = some o := (h ρ (.inl rfl)).trans hS
theorem keep2' {ρ m : Nat} {S σ' : Sg} {o : Ob} (h : Keep (fun β => β = ρ ∨ β = m) S σ') (hS : S m = some o) : σ' m = some o := (h m (.inr rfl)).trans hS
theorem A1 {σ : Sg} {m1 m2 x ρ : Nat} {o a b c : Ob} (h : σ m2 = some o) (hn : m1 ≠ m2) (hx : σ x = none) (hr : ρ ≠ m2) : (((σ.set m1 a).set x b).set ρ c) m2 = some o := by
  rw [Sg.set_other _ _ (Ne.symm hr), Sg.set_other _ _ (fun e => by rw [e, hx] at h; cases h), Sg.set_other _ _ (Ne.symm hn), h]
theorem strs1 (l0 : List ByteArray) (b : ByteArray) : strs l0 ++ [[AV.val (.string b)]] = strs (l0 ++ [b]) := by simp [strs]
end Go.Cert
namespace Go.Proofs.Ytkbfngepdgdecaa
open Go Go.V Go.Cert
set_option maxHeartbeats 1000000 in
set_option maxRecDepth 100000 in
theorem t42y (ρ m1 m2 : Nat) (V : AV) (ps : Ps) (w : Int) (l : List UInt8) (σ : Sg) (hρ : σ ρ = some (.cells 94 [.map m1, V, .map m2])) (hm : σ m1 = some (.map (knownM ps))) (hy : (w, l) ∈ ps) : VCalls Try.prog 42 [.ref ρ 0, .agg [.i w, .s (bs l)]] σ (fun x σ' => σ' = σ) := by
  have hd : decide ((w, l) ∈ ps) = true := decide_eq_true hy
  (refine vfun (fun _ => .ro) mixed Try.func42 (by kernel_rfl) ?_; simp only [bodyOf, Try.f42, Option.getD_some])
  repeat' (first | with_reducible rfl | exact .inr trivial | with_reducible apply And.intro | with_reducible apply vqx_step | with_reducible apply vqm_step | with_reducible refine vkp_free (by decide +kernel) ?_ | with_reducible intro _ | ((first | (with_reducible first | refine .rs ?_ | refine .ds (by kernel_rfl) ?_ | refine .dg (by kernel_rfl) ?_ | refine .rg ?_ | refine .ite ?_ | refine .ret ?_ | refine .skip ?_ | refine .exit ?_ | refine .scope ?_ | refine .seq (.label ?_) | refine .block ?_ | refine .seq ?_)); (try simp only [vO, vQ, ↓vP, vE, vS, vB, vL, vF, vM, vN, vbs_full, Nat.reduceEqDiff, Nat.reduceAdd, Nat.reduceLeDiff, ne_eq, not_false_eq_true, Nat.reduceMul, Nat.reduceSub, Int.toNat_zero, Int.reduceToNat, Try.underlying3, info3, Try.underlying34, info34, Try.underlying4, info4, Try.underlying9, info9, Try.underlying5, info5, Try.underlying90, info90, Try.underlying93, Try.underlying94, info94, Try.underlying76, Try.underlying77, info77, Try.underlying30, hρ, hd, vT])) | ((simp (disch := first | assumption | (apply Go.Cert.ne_of2; assumption; assumption) | (apply Go.Cert.ne_ob; assumption; assumption; (intro e; cases e; done)) | omega) only [w64, w8, tg_eq, Go.V.n1, Go.V.n2, Go.V.nn, Int.tdiv_eq_ediv_of_nonneg, Sg.set_same, Sg.set_ne, Sg.set_ne', Sg.del_ne, Sg.del_ne']); (try simp only [vO, vQ, ↓vP, vE, vS, vB, vL, vF, vM, vN, vbs_full, Nat.reduceEqDiff, Nat.reduceAdd, Nat.reduceLeDiff, ne_eq, not_false_eq_true, Nat.reduceMul, Nat.reduceSub, Int.toNat_zero, Int.reduceToNat, Try.underlying3, info3, Try.underlying34, info34, Try.underlying4, info4, Try.underlying9, info9, Try.underlying5, info5, Try.underlying90, info90, Try.underlying93, Try.underlying94, info94, Try.underlying76, Try.underlying77, info77, Try.underlying30, hρ, hd, vT])) | ((with_reducible refine look90 hm ?_); (try simp only [vO, vQ, ↓vP, vE, vS, vB, vL, vF, vM, vN, vbs_full, Nat.reduceEqDiff, Nat.reduceAdd, Nat.reduceLeDiff, ne_eq, not_false_eq_true, Nat.reduceMul, Nat.reduceSub, Int.toNat_zero, Int.reduceToNat, Try.underlying3, info3, Try.underlying34, info34, Try.underlying4, info4, Try.underlying9, info9, Try.underlying5, info5, Try.underlying90, info90, Try.underlying93, Try.underlying94, info94, Try.underlying76, Try.underlying77, info77, Try.underlying30, hρ, hd, vT])) | with_reducible refine vfresh_set ?_ | with_reducible refine vfresh_intro (fun _ _ => ?_) | with_reducible refine vif_intro (fun _ => ?_) (fun _ => ?_) | omega | ((with_reducible first | refine vop_at ?_ | refine vops_at ?_ | refine vquiet_at ?_ | refine vmix_at ?_ | refine Holds_at ?_); simp only [vO, vQ, ↓vP, vE, vS, vB, vL, vF, vM, vN, vbs_full, Nat.reduceEqDiff, Nat.reduceAdd, Nat.reduceLeDiff, ne_eq, not_false_eq_true, Nat.reduceMul, Nat.reduceSub, Int.toNat_zero, Int.reduceToNat, Try.underlying3, info3, Try.underlying34, info34, Try.underlying4, info4, Try.underlying9, info9, Try.underlying5, info5, Try.underlying90, info90, Try.underlying93, Try.underlying94, info94, Try.underlying76, Try.underlying77, info77, Try.underlying30, hρ, hd, vT]))
  all_goals exact ⟨_, .refl _, rfl⟩
set_option maxHeartbeats 1000000 in
set_option maxRecDepth 100000 in
theorem t42n (ρ m1 m2 : Nat) (tv : Option Nat) (pv : Ps) (own : List Nat) (ts : Ts) (ps : Ps) (w : Int) (l : List UInt8) (σ : Sg) (hR : Reg σ ρ own ps m1 m2 pv tv ts) (hy : (w, l) ∉ ps) (hlen : ps.length ≤ 2 ^ 32) : VCalls Try.prog 42 [.ref ρ 0, .agg [.i w, .s (bs l)]] σ (fun x σ' => ∃ own' pv' tv' ts', Reg σ' ρ own' (ps ++ [(w, l)]) m1 m2 pv' tv' ts' ∧ Only own own' σ σ') := by
  have hd : decide ((w, l) ∈ ps) = false := decide_eq_false hy
  have hρ := hR.at0
  have hm := hR.at1
  have hne : ρ ≠ m1 := fun e => by rw [e, hm] at hρ; cases hρ
  have hρ1 : ∀ o, (σ.set m1 o) ρ = some (.cells 94 [.map m1, VT pv tv, .map m2]) := fun o => by rw [Sg.set_other _ _ hne, hρ]
  have hm2 := hR.at2
  have hne2 : ρ ≠ m2 := fun e => by rw [e, hm2] at hρ; cases hρ
  have hn12 := hR.ne
  have hpl := hR.pl
  cases tv with
  | none =>
    cases hg : getT w ts with
    | none =>
      (refine vfun (fun _ => .ro) mixed Try.func42 (by kernel_rfl) ?_; simp only [bodyOf, Try.f42, Option.getD_some])
      repeat' (first | with_reducible rfl | exact .inr trivial | with_reducible apply And.intro | with_reducible apply vqx_step | with_reducible apply vqm_step | with_reducible refine vkp_free (by decide +kernel) ?_ | with_reducible intro _ | ((with_reducible refine .dms (fun β => β = ρ) [(0, false), (1, false), (2, false), (3, false), (4, false), (5, true)] (by decide) (by decide +kernel) ?_); (simp only [vO, vQ, ↓vP, vE, vS, vB, vL, vF, vM, vN, vbs_full, Nat.reduceEqDiff, Nat.reduceAdd, Nat.reduceLeDiff, ne_eq, not_false_eq_true, Nat.reduceMul, Nat.reduceSub, Int.toNat_zero, Int.reduceToNat, Try.underlying3, info3, Try.underlying34, info34, Try.underlying4, info4, Try.underlying9, info9, Try.underlying5, info5, Try.underlying90, info90, Try.underlying91, Try.underlying92, info92, Try.underlying93, Try.underlying94, info94, Try.underlying76, Try.underlying77, info77, Try.underlying30, info91, Try.underlying110, info110, hρ, hd, hρ1, vown2_ro, VT, hg, rowT, hd, vT])) | ((with_reducible refine .dms (fun β => β = ρ) [(0, false), (1, false), (2, false), (3, false), (4, false), (5, false), (6, false), (7, true), (8, true), (9, false), (10, true)] (by decide) (by decide +kernel) ?_); (simp only [vO, vQ, ↓vP, vE, vS, vB, vL, vF, vM, vN, vbs_full, Nat.reduceEqDiff, Nat.reduceAdd, Nat.reduceLeDiff, ne_eq, not_false_eq_true, Nat.reduceMul, Nat.reduceSub, Int.toNat_zero, Int.reduceToNat, Try.underlying3, info3, Try.underlying34, info34, Try.underlying4, info4, Try.underlying9, info9, Try.underlying5, info5, Try.underlying90, info90, Try.underlying91, Try.underlying92, info92, Try.underlying93, Try.underlying94, info94, Try.underlying76, Try.underlying77, info77, Try.underlying30, info91, Try.underlying110, info110, hρ, hd, hρ1, vown2_ro, VT, hg, rowT, hd, vT])) | ((with_reducible refine .dm (fun β => β = ρ ∨ β = m2) [(0, false), (1, false), (2, false), (3, false), (4, false), (5, false), (6, false), (7, false), (8, false), (9, false), (10, false), (11, false), (12, false), (13, false), (14, false), (15, false), (16, true), (17, true)] (by decide) (by decide +kernel) ?_); (simp only [vO, vQ, ↓vP, vE, vS, vB, vL, vF, vM, vN, vbs_full, Nat.reduceEqDiff, Nat.reduceAdd, Nat.reduceLeDiff, ne_eq, not_false_eq_true, Nat.reduceMul, Nat.reduceSub, Int.toNat_zero, Int.reduceToNat, Try.underlying3, info3, Try.underlying34, info34, Try.underlying4, info4, Try.underlying9, info9, Try.underlying5, info5, Try.underlying90, info90, Try.underlying91, Try.underlying92, info92, Try.underlying93, Try.underlying94, info94, Try.underlying76, Try.underlying77, info77, Try.underlying30, info91, Try.underlying110, info110, hρ, hd, hρ1, vown2_ro, VT, hg, rowT, hd, vT])) | ((first | (with_reducible first | refine .rs ?_ | refine .ds (by kernel_rfl) ?_ | refine .dg (by kernel_rfl) ?_ | refine .rg ?_ | refine .ite ?_ | refine .ret ?_ | refine .skip ?_ | refine .exit ?_ | refine .scope ?_ | refine .seq (.label ?_) | refine .block ?_ | refine .seq ?_)); (try simp only [vO, vQ, ↓vP, vE, vS, vB, vL, vF, vM, vN, vbs_full, Nat.reduceEqDiff, Nat.reduceAdd, Nat.reduceLeDiff, ne_eq, not_false_eq_true, Nat.reduceMul, Nat.reduceSub, Int.toNat_zero, Int.reduceToNat, Try.underlying3, info3, Try.underlying34, info34, Try.underlying4, info4, Try.underlying9, info9, Try.underlying5, info5, Try.underlying90, info90, Try.underlying91, Try.underlying92, info92, Try.underlying93, Try.underlying94, info94, Try.underlying76, Try.underlying77, info77, Try.underlying30, info91, Try.underlying110, info110, hρ, hd, hρ1, vown2_ro, VT, hg, rowT, hd, vT])) | ((simp (disch := first | assumption | (apply Go.Cert.ne_of2; assumption; assumption) | (apply Go.Cert.ne_ob; assumption; assumption; (intro e; cases e; done)) | omega) only [w64, w8, tg_eq, Go.V.n1, Go.V.n2, Go.V.nn, Int.tdiv_eq_ediv_of_nonneg, Sg.set_same, Sg.set_ne, Sg.set_ne', Sg.del_ne, Sg.del_ne']); (try simp only [vO, vQ, ↓vP, vE, vS, vB, vL, vF, vM, vN, vbs_full, Nat.reduceEqDiff, Nat.reduceAdd, Nat.reduceLeDiff, ne_eq, not_false_eq_true, Nat.reduceMul, Nat.reduceSub, Int.toNat_zero, Int.reduceToNat, Try.underlying3, info3, Try.underlying34, info34, Try.underlying4, info4, Try.underlying9, info9, Try.underlying5, info5, Try.underlying90, info90, Try.underlying91, Try.underlying92, info92, Try.underlying93, Try.underlying94, info94, Try.underlying76, Try.underlying77, info77, Try.underlying30, info91, Try.underlying110, info110, hρ, hd, hρ1, vown2_ro, VT, hg, rowT, hd, vT])) | ((with_reducible refine look90 hm ?_); (try simp only [vO, vQ, ↓vP, vE, vS, vB, vL, vF, vM, vN, vbs_full, Nat.reduceEqDiff, Nat.reduceAdd, Nat.reduceLeDiff, ne_eq, not_false_eq_true, Nat.reduceMul, Nat.reduceSub, Int.toNat_zero, Int.reduceToNat, Try.underlying3, info3, Try.underlying34, info34, Try.underlying4, info4, Try.underlying9, info9, Try.underlying5, info5, Try.underlying90, info90, Try.underlying91, Try.underlying92, info92, Try.underlying93, Try.underlying94, info94, Try.underlying76, Try.underlying77, info77, Try.underlying30, info91, Try.underlying110, info110, hρ, hd, hρ1, vown2_ro, VT, hg, rowT, hd, vT])) | ((with_reducible refine upd90 (by assumption) hy ?_); (try simp only [vO, vQ, ↓vP, vE, vS, vB, vL, vF, vM, vN, vbs_full, Nat.reduceEqDiff, Nat.reduceAdd, Nat.reduceLeDiff, ne_eq, not_false_eq_true, Nat.reduceMul, Nat.reduceSub, Int.toNat_zero, Int.reduceToNat, Try.underlying3, info3, Try.underlying34, info34, Try.underlying4, info4, Try.underlying9, info9, Try.underlying5, info5, Try.underlying90, info90, Try.underlying91, Try.underlying92, info92, Try.underlying93, Try.underlying94, info94, Try.underlying76, Try.underlying77, info77, Try.underlying30, info91, Try.underlying110, info110, hρ, hd, hρ1, vown2_ro, VT, hg, rowT, hd, vT])) | (((refine vlo_at (keepAt (by assumption) hρ) ?_)); (try simp only [vO, vQ, ↓vP, vE, vS, vB, vL, vF, vM, vN, vbs_full, Nat.reduceEqDiff, Nat.reduceAdd, Nat.reduceLeDiff, ne_eq, not_false_eq_true, Nat.reduceMul, Nat.reduceSub, Int.toNat_zero, Int.reduceToNat, Try.underlying3, info3, Try.underlying34, info34, Try.underlying4, info4, Try.underlying9, info9, Try.underlying5, info5, Try.underlying90, info90, Try.underlying91, Try.underlying92, info92, Try.underlying93, Try.underlying94, info94, Try.underlying76, Try.underlying77, info77, Try.underlying30, info91, Try.underlying110, info110, hρ, hd, hρ1, vown2_ro, VT, hg, rowT, hd, vT])) | (((refine vlo_at (keepAt (by assumption) (hρ1 _)) ?_)); (try simp only [vO, vQ, ↓vP, vE, vS, vB, vL, vF, vM, vN, vbs_full, Nat.reduceEqDiff, Nat.reduceAdd, Nat.reduceLeDiff, ne_eq, not_false_eq_true, Nat.reduceMul, Nat.reduceSub, Int.toNat_zero, Int.reduceToNat, Try.underlying3, info3, Try.underlying34, info34, Try.underlying4, info4, Try.underlying9, info9, Try.underlying5, info5, Try.underlying90, info90, Try.underlying91, Try.underlying92, info92, Try.underlying93, Try.underlying94, info94, Try.underlying76, Try.underlying77, info77, Try.underlying30, info91, Try.underlying110, info110, hρ, hd, hρ1, vown2_ro, VT, hg, rowT, hd, vT])) | (((refine vkp_keep (by intro β h; first | (rcases h with h | h <;> subst h <;> (simp (disch := first | assumption | (apply Go.Cert.ne_of2; assumption; assumption) | (apply Go.Cert.ne_ob; assumption; assumption; (intro e; cases e; done)) | omega) only [Sg.set_same, Sg.set_ne, Sg.set_ne', Sg.del_ne, Sg.del_ne'])) | (subst h; (simp (disch := first | assumption | (apply Go.Cert.ne_of2; assumption; assumption) | (apply Go.Cert.ne_ob; assumption; assumption; (intro e; cases e; done)) | omega) only [Sg.set_same, Sg.set_ne, Sg.set_ne', Sg.del_ne, Sg.del_ne']))) ?_)); (try simp only [vO, vQ, ↓vP, vE, vS, vB, vL, vF, vM, vN, vbs_full, Nat.reduceEqDiff, Nat.reduceAdd, Nat.reduceLeDiff, ne_eq, not_false_eq_true, Nat.reduceMul, Nat.reduceSub, Int.toNat_zero, Int.reduceToNat, Try.underlying3, info3, Try.underlying34, info34, Try.underlying4, info4, Try.underlying9, info9, Try.underlying5, info5, Try.underlying90, info90, Try.underlying91, Try.underlying92, info92, Try.underlying93, Try.underlying94, info94, Try.underlying76, Try.underlying77, info77, Try.underlying30, info91, Try.underlying110, info110, hρ, hd, hρ1, vown2_ro, VT, hg, rowT, hd, vT])) | (((refine vlo_at (keep2 (by assumption) (Sg.set_same _ _ _)) ?_)); (try simp only [vO, vQ, ↓vP, vE, vS, vB, vL, vF, vM, vN, vbs_full, Nat.reduceEqDiff, Nat.reduceAdd, Nat.reduceLeDiff, ne_eq, not_false_eq_true, Nat.reduceMul, Nat.reduceSub, Int.toNat_zero, Int.reduceToNat, Try.underlying3, info3, Try.underlying34, info34, Try.underlying4, info4, Try.underlying9, info9, Try.underlying5, info5, Try.underlying90, info90, Try.underlying91, Try.underlying92, info92, Try.underlying93, Try.underlying94, info94, Try.underlying76, Try.underlying77, info77, Try.underlying30, info91, Try.underlying110, info110, hρ, hd, hρ1, vown2_ro, VT, hg, rowT, hd, vT])) | (((refine look91 (keep2' (by assumption) (by first | assumption | ((simp (disch := first | assumption | (apply Go.Cert.ne_of2; assumption; assumption) | (apply Go.Cert.ne_ob; assumption; assumption; (intro e; cases e; done)) | omega) only [Sg.set_same, Sg.set_ne, Sg.set_ne', Sg.del_ne, Sg.del_ne']); first | done | rfl | assumption))) ?_)); (try simp only [vO, vQ, ↓vP, vE, vS, vB, vL, vF, vM, vN, vbs_full, Nat.reduceEqDiff, Nat.reduceAdd, Nat.reduceLeDiff, ne_eq, not_false_eq_true, Nat.reduceMul, Nat.reduceSub, Int.toNat_zero, Int.reduceToNat, Try.underlying3, info3, Try.underlying34, info34, Try.underlying4, info4, Try.underlying9, info9, Try.underlying5, info5, Try.underlying90, info90, Try.underlying91, Try.underlying92, info92, Try.underlying93, Try.underlying94, info94, Try.underlying76, Try.underlying77, info77, Try.underlying30, info91, Try.underlying110, info110, hρ, hd, hρ1, vown2_ro, VT, hg, rowT, hd, vT])) | (((refine upd91 (l := [bs l]) (by first | assumption | ((simp (disch := first | assumption | (apply Go.Cert.ne_of2; assumption; assumption) | (apply Go.Cert.ne_ob; assumption; assumption; (intro e; cases e; done)) | omega) only [Sg.set_same, Sg.set_ne, Sg.set_ne', Sg.del_ne, Sg.del_ne']); first | done | rfl | assumption)) ?_)); (try simp only [vO, vQ, ↓vP, vE, vS, vB, vL, vF, vM, vN, vbs_full, Nat.reduceEqDiff, Nat.reduceAdd, Nat.reduceLeDiff, ne_eq, not_false_eq_true, Nat.reduceMul, Nat.reduceSub, Int.toNat_zero, Int.reduceToNat, Try.underlying3, info3, Try.underlying34, info34, Try.underlying4, info4, Try.underlying9, info9, Try.underlying5, info5, Try.underlying90, info90, Try.underlying91, Try.underlying92, info92, Try.underlying93, Try.underlying94, info94, Try.underlying76, Try.underlying77, info77, Try.underlying30, info91, Try.underlying110, info110, hρ, hd, hρ1, vown2_ro, VT, hg, rowT, hd, vT])) | with_reducible refine vfresh_set ?_ | with_reducible refine vfresh_intro (fun _ _ => ?_) | with_reducible refine vif_intro (fun _ => ?_) (fun _ => ?_) | omega | ((with_reducible first | refine vop_at ?_ | refine vops_at ?_ | refine vquiet_at ?_ | refine vmix_at ?_ | refine Holds_at ?_); simp only [vO, vQ, ↓vP, vE, vS, vB, vL, vF, vM, vN, vbs_full, Nat.reduceEqDiff, Nat.reduceAdd, Nat.reduceLeDiff, ne_eq, not_false_eq_true, Nat.reduceMul, Nat.reduceSub, Int.toNat_zero, Int.reduceToNat, Try.underlying3, info3, Try.underlying34, info34, Try.underlying4, info4, Try.underlying9, info9, Try.underlying5, info5, Try.underlying90, info90, Try.underlying91, Try.underlying92, info92, Try.underlying93, Try.underlying94, info94, Try.underlying76, Try.underlying77, info77, Try.underlying30, info91, Try.underlying110, info110, hρ, hd, hρ1, vown2_ro, VT, hg, rowT, hd, vT]))
      rename_i x hx g1 y hy1 g2 g3 g4
      have hyn : σ y = none ∨ ((none : Option Nat) = some y) := .inl hy1
      have g2' : y ≠ m1 := ne_of2' hy1 hm
      have hy2 : y ≠ m2 := ne_of2' hy1 hm2
      have hyt : y ∉ toks ts := fun h => by rw [hR.ats y h] at hy1; cases hy1
      have hx0 : x ≠ ρ := ne_of2' hx hρ
      have hx2 : x ≠ m2 := ne_of2' hx hm2
      have hnext : nextL w (bs l) ts = [bs l] := by unfold nextL; rw [hg]
      refine ⟨_, .refl _, reg_new (x := x) (y := y) [] (Nat.zero_le _) hR ?_ ?_ ?_ ?_ hx ?_ hyt hyn ?_ ?_⟩
      · (simp (disch := first | assumption | (apply Go.Cert.ne_of2; assumption; assumption) | (apply Go.Cert.ne_ob; assumption; assumption; (intro e; cases e; done)) | omega) only [Sg.set_same, Sg.set_ne, Sg.set_ne', Sg.del_ne, Sg.del_ne']); rfl
      · (simp (disch := first | assumption | (apply Go.Cert.ne_of2; assumption; assumption) | (apply Go.Cert.ne_ob; assumption; assumption; (intro e; cases e; done)) | omega) only [Sg.set_same, Sg.set_ne, Sg.set_ne', Sg.del_ne, Sg.del_ne'])
      · rw [hnext]; (simp (disch := first | assumption | (apply Go.Cert.ne_of2; assumption; assumption) | (apply Go.Cert.ne_ob; assumption; assumption; (intro e; cases e; done)) | omega) only [Sg.set_same, Sg.set_ne, Sg.set_ne', Sg.del_ne, Sg.del_ne'])
      · (simp (disch := first | assumption | (apply Go.Cert.ne_of2; assumption; assumption) | (apply Go.Cert.ne_ob; assumption; assumption; (intro e; cases e; done)) | omega) only [Sg.set_same, Sg.set_ne, Sg.set_ne', Sg.del_ne, Sg.del_ne'])
      · (simp (disch := first | assumption | (apply Go.Cert.ne_of2; assumption; assumption) | (apply Go.Cert.ne_ob; assumption; assumption; (intro e; cases e; done)) | omega) only [Sg.set_same, Sg.set_ne, Sg.set_ne', Sg.del_ne, Sg.del_ne'])
      · intro t ht hl0
        have e0 : t ≠ ρ := ne_ob (hR.ats t ht) hρ (fun e => by cases e)
        have e1 : t ≠ m1 := ne_ob (hR.ats t ht) hm (fun e => by cases e)
        have e2 : t ≠ m2 := ne_ob (hR.ats t ht) hm2 (fun e => by cases e)
        have e3 : t ≠ x := ne_of (hR.ats t ht) hx
        have e4 : t ≠ y := fun e => hyt (e ▸ ht)
        (simp (disch := first | assumption | (apply Go.Cert.ne_of2; assumption; assumption) | (apply Go.Cert.ne_ob; assumption; assumption; (intro e; cases e; done)) | omega) only [Sg.set_same, Sg.set_ne, Sg.set_ne', Sg.del_ne, Sg.del_ne'])
      · intro β hβ hb
        obtain ⟨e0, e1, e2, e3, e4⟩ := own_out hR hβ
        have e5 : β ≠ x := fun e => hb (by rw [e]; exact hx)
        have e6 : β ≠ y := fun e => hb (by rw [e]; exact hy1)
        (simp (disch := first | assumption | (apply Go.Cert.ne_of2; assumption; assumption) | (apply Go.Cert.ne_ob; assumption; assumption; (intro e; cases e; done)) | omega) only [Sg.set_same, Sg.set_ne, Sg.set_ne', Sg.del_ne, Sg.del_ne'])
    | some y =>
      obtain ⟨τ0, l0⟩ := y
      have hτ0 := hR.ats τ0 (get_mem hg)
      have hl0 := hpl.2 w τ0 l0 hg
      have r0 : τ0 ≠ ρ := ne_ob hτ0 hρ (fun e => by cases e)
      have r1 : τ0 ≠ m1 := ne_ob hτ0 hm (fun e => by cases e)
      have r2 : τ0 ≠ m2 := ne_ob hτ0 hm2 (fun e => by cases e)
      (refine vfun (fun _ => .ro) mixed Try.func42 (by kernel_rfl) ?_; simp only [bodyOf, Try.f42, Option.getD_some])
      repeat' (first | with_reducible rfl | exact .inr trivial | with_reducible apply And.intro | with_reducible apply vqx_step | with_reducible apply vqm_step | with_reducible refine vkp_free (by decide +kernel) ?_ | with_reducible intro _ | ((with_reducible refine .dms (fun β => β = ρ) [(0, false), (1, false), (2, false), (3, false), (4, false), (5, true)] (by decide) (by decide +kernel) ?_); (simp only [vO, vQ, ↓vP, vE, vS, vB, vL, vF, vM, vN, vbs_full, Nat.reduceEqDiff, Nat.reduceAdd, Nat.reduceLeDiff, ne_eq, not_false_eq_true, Nat.reduceMul, Nat.reduceSub, Int.toNat_zero, Int.reduceToNat, Try.underlying3, info3, Try.underlying34, info34, Try.underlying4, info4, Try.underlying9, info9, Try.underlying5, info5, Try.underlying90, info90, Try.underlying91, Try.underlying92, info92, Try.underlying93, Try.underlying94, info94, Try.underlying76, Try.underlying77, info77, Try.underlying30, info91, Try.underlying110, info110, hρ, hd, hρ1, vown2_ro, VT, hg, rowT, strs_len, strs_all, hτ0, vT])) | ((with_reducible refine .dms (fun β => β = ρ) [(0, false), (1, false), (2, false), (3, false), (4, false), (5, false), (6, false), (7, true), (8, true), (9, false), (10, true)] (by decide) (by decide +kernel) ?_); (simp only [vO, vQ, ↓vP, vE, vS, vB, vL, vF, vM, vN, vbs_full, Nat.reduceEqDiff, Nat.reduceAdd, Nat.reduceLeDiff, ne_eq, not_false_eq_true, Nat.reduceMul, Nat.reduceSub, Int.toNat_zero, Int.reduceToNat, Try.underlying3, info3, Try.underlying34, info34, Try.underlying4, info4, Try.underlying9, info9, Try.underlying5, info5, Try.underlying90, info90, Try.underlying91, Try.underlying92, info92, Try.underlying93, Try.underlying94, info94, Try.underlying76, Try.underlying77, info77, Try.underlying30, info91, Try.underlying110, info110, hρ, hd, hρ1, vown2_ro, VT, hg, rowT, strs_len, strs_all, hτ0, vT])) | ((with_reducible refine .dm (fun β => β = ρ ∨ β = m2) [(0, false), (1, false), (2, false), (3, false), (4, false), (5, false), (6, false), (7, false), (8, false), (9, false), (10, false), (11, false), (12, false), (13, false), (14, false), (15, false), (16, true), (17, true)] (by decide) (by decide +kernel) ?_); (simp only [vO, vQ, ↓vP, vE, vS, vB, vL, vF, vM, vN, vbs_full, Nat.reduceEqDiff, Nat.reduceAdd, Nat.reduceLeDiff, ne_eq, not_false_eq_true, Nat.reduceMul, Nat.reduceSub, Int.toNat_zero, Int.reduceToNat, Try.underlying3, info3, Try.underlying34, info34, Try.underlying4, info4, Try.underlying9, info9, Try.underlying5, info5, Try.underlying90, info90, Try.underlying91, Try.underlying92, info92, Try.underlying93, Try.underlying94, info94, Try.underlying76, Try.underlying77, info77, Try.underlying30, info91, Try.underlying110, info110, hρ, hd, hρ1, vown2_ro, VT, hg, rowT, strs_len, strs_all, hτ0, vT])) | ((first | (with_reducible first | refine .rs ?_ | refine .ds (by kernel_rfl) ?_ | refine .dg (by kernel_rfl) ?_ | refine .rg ?_ | refine .ite ?_ | refine .ret ?_ | refine .skip ?_ | refine .exit ?_ | refine .scope ?_ | refine .seq (.label ?_) | refine .block ?_ | refine .seq ?_)); (try simp only [vO, vQ, ↓vP, vE, vS, vB, vL, vF, vM, vN, vbs_full, Nat.reduceEqDiff, Nat.reduceAdd, Nat.reduceLeDiff, ne_eq, not_false_eq_true, Nat.reduceMul, Nat.reduceSub, Int.toNat_zero, Int.reduceToNat, Try.underlying3, info3, Try.underlying34, info34, Try.underlying4, info4, Try.underlying9, info9, Try.underlying5, info5, Try.underlying90, info90, Try.underlying91, Try.underlying92, info92, Try.underlying93, Try.underlying94, info94, Try.underlying76, Try.underlying77, info77, Try.underlying30, info91, Try.underlying110, info110, hρ, hd, hρ1, vown2_ro, VT, hg, rowT, strs_len, strs_all, hτ0, vT])) | ((simp (disch := first | assumption | (apply Go.Cert.ne_of2; assumption; assumption) | (apply Go.Cert.ne_ob; assumption; assumption; (intro e; cases e; done)) | omega) only [w64, w8, tg_eq, Go.V.n1, Go.V.n2, Go.V.nn, Int.tdiv_eq_ediv_of_nonneg, Sg.set_same, Sg.set_ne, Sg.set_ne', Sg.del_ne, Sg.del_ne']); (try simp only [vO, vQ, ↓vP, vE, vS, vB, vL, vF, vM, vN, vbs_full, Nat.reduceEqDiff, Nat.reduceAdd, Nat.reduceLeDiff, ne_eq, not_false_eq_true, Nat.reduceMul, Nat.reduceSub, Int.toNat_zero, Int.reduceToNat, Try.underlying3, info3, Try.underlying34, info34, Try.underlying4, info4, Try.underlying9, info9, Try.underlying5, info5, Try.underlying90, info90, Try.underlying91, Try.underlying92, info92, Try.underlying93, Try.underlying94, info94, Try.underlying76, Try.underlying77, info77, Try.underlying30, info91, Try.underlying110, info110, hρ, hd, hρ1, vown2_ro, VT, hg, rowT, strs_len, strs_all, hτ0, vT])) | ((with_reducible refine look90 hm ?_); (try simp only [vO, vQ, ↓vP, vE, vS, vB, vL, vF, vM, vN, vbs_full, Nat.reduceEqDiff, Nat.reduceAdd, Nat.reduceLeDiff, ne_eq, not_false_eq_true, Nat.reduceMul, Nat.reduceSub, Int.toNat_zero, Int.reduceToNat, Try.underlying3, info3, Try.underlying34, info34, Try.underlying4, info4, Try.underlying9, info9, Try.underlying5, info5, Try.underlying90, info90, Try.underlying91, Try.underlying92, info92, Try.underlying93, Try.underlying94, info94, Try.underlying76, Try.underlying77, info77, Try.underlying30, info91, Try.underlying110, info110, hρ, hd, hρ1, vown2_ro, VT, hg, rowT, strs_len, strs_all, hτ0, vT])) | ((with_reducible refine upd90 (by assumption) hy ?_); (try simp only [vO, vQ, ↓vP, vE, vS, vB, vL, vF, vM, vN, vbs_full, Nat.reduceEqDiff, Nat.reduceAdd, Nat.reduceLeDiff, ne_eq, not_false_eq_true, Nat.reduceMul, Nat.reduceSub, Int.toNat_zero, Int.reduceToNat, Try.underlying3, info3, Try.underlying34, info34, Try.underlying4, info4, Try.underlying9, info9, Try.underlying5, info5, Try.underlying90, info90, Try.underlying91, Try.underlying92, info92, Try.underlying93, Try.underlying94, info94, Try.underlying76, Try.underlying77, info77, Try.underlying30, info91, Try.underlying110, info110, hρ, hd, hρ1, vown2_ro, VT, hg, rowT, strs_len, strs_all, hτ0, vT])) | (((refine vlo_at (keepAt (by assumption) hρ) ?_)); (try simp only [vO, vQ, ↓vP, vE, vS, vB, vL, vF, vM, vN, vbs_full, Nat.reduceEqDiff, Nat.reduceAdd, Nat.reduceLeDiff, ne_eq, not_false_eq_true, Nat.reduceMul, Nat.reduceSub, Int.toNat_zero, Int.reduceToNat, Try.underlying3, info3, Try.underlying34, info34, Try.underlying4, info4, Try.underlying9, info9, Try.underlying5, info5, Try.underlying90, info90, Try.underlying91, Try.underlying92, info92, Try.underlying93, Try.underlying94, info94, Try.underlying76, Try.underlying77, info77, Try.underlying30, info91, Try.underlying110, info110, hρ, hd, hρ1, vown2_ro, VT, hg, rowT, strs_len, strs_all, hτ0, vT])) | (((refine vlo_at (keepAt (by assumption) (hρ1 _)) ?_)); (try simp only [vO, vQ, ↓vP, vE, vS, vB, vL, vF, vM, vN, vbs_full, Nat.reduceEqDiff, Nat.reduceAdd, Nat.reduceLeDiff, ne_eq, not_false_eq_true, Nat.reduceMul, Nat.reduceSub, Int.toNat_zero, Int.reduceToNat, Try.underlying3, info3, Try.underlying34, info34, Try.underlying4, info4, Try.underlying9, info9, Try.underlying5, info5, Try.underlying90, info90, Try.underlying91, Try.underlying92, info92, Try.underlying93, Try.underlying94, info94, Try.underlying76, Try.underlying77, info77, Try.underlying30, info91, Try.underlying110, info110, hρ, hd, hρ1, vown2_ro, VT, hg, rowT, strs_len, strs_all, hτ0, vT])) | (((refine vkp_keep (by intro β h; first | (rcases h with h | h <;> subst h <;> (simp (disch := first | assumption | (apply Go.Cert.ne_of2; assumption; assumption) | (apply Go.Cert.ne_ob; assumption; assumption; (intro e; cases e; done)) | omega) only [Sg.set_same, Sg.set_ne, Sg.set_ne', Sg.del_ne, Sg.del_ne'])) | (subst h; (simp (disch := first | assumption | (apply Go.Cert.ne_of2; assumption; assumption) | (apply Go.Cert.ne_ob; assumption; assumption; (intro e; cases e; done)) | omega) only [Sg.set_same, Sg.set_ne, Sg.set_ne', Sg.del_ne, Sg.del_ne']))) ?_)); (try simp only [vO, vQ, ↓vP, vE, vS, vB, vL, vF, vM, vN, vbs_full, Nat.reduceEqDiff, Nat.reduceAdd, Nat.reduceLeDiff, ne_eq, not_false_eq_true, Nat.reduceMul, Nat.reduceSub, Int.toNat_zero, Int.reduceToNat, Try.underlying3, info3, Try.underlying34, info34, Try.underlying4, info4, Try.underlying9, info9, Try.underlying5, info5, Try.underlying90, info90, Try.underlying91, Try.underlying92, info92, Try.underlying93, Try.underlying94, info94, Try.underlying76, Try.underlying77, info77, Try.underlying30, info91, Try.underlying110, info110, hρ, hd, hρ1, vown2_ro, VT, hg, rowT, strs_len, strs_all, hτ0, vT])) | (((refine vlo_at (keep2 (by assumption) (Sg.set_same _ _ _)) ?_)); (try simp only [vO, vQ, ↓vP, vE, vS, vB, vL, vF, vM, vN, vbs_full, Nat.reduceEqDiff, Nat.reduceAdd, Nat.reduceLeDiff, ne_eq, not_false_eq_true, Nat.reduceMul, Nat.reduceSub, Int.toNat_zero, Int.reduceToNat, Try.underlying3, info3, Try.underlying34, info34, Try.underlying4, info4, Try.underlying9, info9, Try.underlying5, info5, Try.underlying90, info90, Try.underlying91, Try.underlying92, info92, Try.underlying93, Try.underlying94, info94, Try.underlying76, Try.underlying77, info77, Try.underlying30, info91, Try.underlying110, info110, hρ, hd, hρ1, vown2_ro, VT, hg, rowT, strs_len, strs_all, hτ0, vT])) | (((refine look91 (keep2' (by assumption) (by first | assumption | ((simp (disch := first | assumption | (apply Go.Cert.ne_of2; assumption; assumption) | (apply Go.Cert.ne_ob; assumption; assumption; (intro e; cases e; done)) | omega) only [Sg.set_same, Sg.set_ne, Sg.set_ne', Sg.del_ne, Sg.del_ne']); first | done | rfl | assumption))) ?_)); (try simp only [vO, vQ, ↓vP, vE, vS, vB, vL, vF, vM, vN, vbs_full, Nat.reduceEqDiff, Nat.reduceAdd, Nat.reduceLeDiff, ne_eq, not_false_eq_true, Nat.reduceMul, Nat.reduceSub, Int.toNat_zero, Int.reduceToNat, Try.underlying3, info3, Try.underlying34, info34, Try.underlying4, info4, Try.underlying9, info9, Try.underlying5, info5, Try.underlying90, info90, Try.underlying91, Try.underlying92, info92, Try.underlying93, Try.underlying94, info94, Try.underlying76, Try.underlying77, info77, Try.underlying30, info91, Try.underlying110, info110, hρ, hd, hρ1, vown2_ro, VT, hg, rowT, strs_len, strs_all, hτ0, vT])) | ((with_reducible rw [strs1]); (try simp only [vO, vQ, ↓vP, vE, vS, vB, vL, vF, vM, vN, vbs_full, Nat.reduceEqDiff, Nat.reduceAdd, Nat.reduceLeDiff, ne_eq, not_false_eq_true, Nat.reduceMul, Nat.reduceSub, Int.toNat_zero, Int.reduceToNat, Try.underlying3, info3, Try.underlying34, info34, Try.underlying4, info4, Try.underlying9, info9, Try.underlying5, info5, Try.underlying90, info90, Try.underlying91, Try.underlying92, info92, Try.underlying93, Try.underlying94, info94, Try.underlying76, Try.underlying77, info77, Try.underlying30, info91, Try.underlying110, info110, hρ, hd, hρ1, vown2_ro, VT, hg, rowT, strs_len, strs_all, hτ0, vT])) | (((refine upd91 (l := l0 ++ [bs l]) (by first | assumption | ((simp (disch := first | assumption | (apply Go.Cert.ne_of2; assumption; assumption) | (apply Go.Cert.ne_ob; assumption; assumption; (intro e; cases e; done)) | omega) only [Sg.set_same, Sg.set_ne, Sg.set_ne', Sg.del_ne, Sg.del_ne']); first | done | rfl | assumption)) ?_)); (try simp only [vO, vQ, ↓vP, vE, vS, vB, vL, vF, vM, vN, vbs_full, Nat.reduceEqDiff, Nat.reduceAdd, Nat.reduceLeDiff, ne_eq, not_false_eq_true, Nat.reduceMul, Nat.reduceSub, Int.toNat_zero, Int.reduceToNat, Try.underlying3, info3, Try.underlying34, info34, Try.underlying4, info4, Try.underlying9, info9, Try.underlying5, info5, Try.underlying90, info90, Try.underlying91, Try.underlying92, info92, Try.underlying93, Try.underlying94, info94, Try.underlying76, Try.underlying77, info77, Try.underlying30, info91, Try.underlying110, info110, hρ, hd, hρ1, vown2_ro, VT, hg, rowT, strs_len, strs_all, hτ0, vT])) | with_reducible refine vfresh_set ?_ | with_reducible refine vfresh_intro (fun _ _ => ?_) | with_reducible refine vif_intro (fun _ => ?_) (fun _ => ?_) | omega | ((with_reducible first | refine vop_at ?_ | refine vops_at ?_ | refine vquiet_at ?_ | refine vmix_at ?_ | refine Holds_at ?_); simp only [vO, vQ, ↓vP, vE, vS, vB, vL, vF, vM, vN, vbs_full, Nat.reduceEqDiff, Nat.reduceAdd, Nat.reduceLeDiff, ne_eq, not_false_eq_true, Nat.reduceMul, Nat.reduceSub, Int.toNat_zero, Int.reduceToNat, Try.underlying3, info3, Try.underlying34, info34, Try.underlying4, info4, Try.underlying9, info9, Try.underlying5, info5, Try.underlying90, info90, Try.underlying91, Try.underlying92, info92, Try.underlying93, Try.underlying94, info94, Try.underlying76, Try.underlying77, info77, Try.underlying30, info91, Try.underlying110, info110, hρ, hd, hρ1, vown2_ro, VT, hg, rowT, strs_len, strs_all, hτ0, vT]))
      rename_i x hx g1 y hy1 g2 g3 g4
      have hyn : σ y = none ∨ ((none : Option Nat) = some y) := .inl hy1
      have g2' : y ≠ m1 := ne_of2' hy1 hm
      have hy2 : y ≠ m2 := ne_of2' hy1 hm2
      have hyt : y ∉ toks ts := fun h => by rw [hR.ats y h] at hy1; cases hy1
      have hx0 : x ≠ ρ := ne_of2' hx hρ
      have hx2 : x ≠ m2 := ne_of2' hx hm2
      have hxτ0 : x ≠ τ0 := ne_of2' hx hτ0
      have hyτ0 : y ≠ τ0 := fun e => hyt (e ▸ get_mem hg)
      have hnext : nextL w (bs l) ts = l0 ++ [bs l] := by unfold nextL; rw [hg]
      refine ⟨_, .refl _, reg_new (x := x) (y := y) [] (Nat.zero_le _) hR ?_ ?_ ?_ ?_ hx ?_ hyt hyn ?_ ?_⟩
      · (simp (disch := first | assumption | (apply Go.Cert.ne_of2; assumption; assumption) | (apply Go.Cert.ne_ob; assumption; assumption; (intro e; cases e; done)) | omega) only [Sg.set_same, Sg.set_ne, Sg.set_ne', Sg.del_ne, Sg.del_ne']); rfl
      · (simp (disch := first | assumption | (apply Go.Cert.ne_of2; assumption; assumption) | (apply Go.Cert.ne_ob; assumption; assumption; (intro e; cases e; done)) | omega) only [Sg.set_same, Sg.set_ne, Sg.set_ne', Sg.del_ne, Sg.del_ne'])
      · rw [hnext]; (simp (disch := first | assumption | (apply Go.Cert.ne_of2; assumption; assumption) | (apply Go.Cert.ne_ob; assumption; assumption; (intro e; cases e; done)) | omega) only [Sg.set_same, Sg.set_ne, Sg.set_ne', Sg.del_ne, Sg.del_ne'])
      · (simp (disch := first | assumption | (apply Go.Cert.ne_of2; assumption; assumption) | (apply Go.Cert.ne_ob; assumption; assumption; (intro e; cases e; done)) | omega) only [Sg.set_same, Sg.set_ne, Sg.set_ne', Sg.del_ne, Sg.del_ne'])
      · (simp (disch := first | assumption | (apply Go.Cert.ne_of2; assumption; assumption) | (apply Go.Cert.ne_ob; assumption; assumption; (intro e; cases e; done)) | omega) only [Sg.set_same, Sg.set_ne, Sg.set_ne', Sg.del_ne, Sg.del_ne'])
      · intro t ht hl0
        have e0 : t ≠ ρ := ne_ob (hR.ats t ht) hρ (fun e => by cases e)
        have e1 : t ≠ m1 := ne_ob (hR.ats t ht) hm (fun e => by cases e)
        have e2 : t ≠ m2 := ne_ob (hR.ats t ht) hm2 (fun e => by cases e)
        have e3 : t ≠ x := ne_of (hR.ats t ht) hx
        have e4 : t ≠ y := fun e => hyt (e ▸ ht)
        have e6 : t ≠ τ0 := fun e => hl0 l0 (by rw [hg, e])
        (simp (disch := first | assumption | (apply Go.Cert.ne_of2; assumption; assumption) | (apply Go.Cert.ne_ob; assumption; assumption; (intro e; cases e; done)) | omega) only [Sg.set_same, Sg.set_ne, Sg.set_ne', Sg.del_ne, Sg.del_ne'])
      · intro β hβ hb
        obtain ⟨e0, e1, e2, e3, e4⟩ := own_out hR hβ
        have e5 : β ≠ x := fun e => hb (by rw [e]; exact hx)
        have e6 : β ≠ y := fun e => hb (by rw [e]; exact hy1)
        have e8 := e4 τ0 l0 w hg
        (simp (disch := first | assumption | (apply Go.Cert.ne_of2; assumption; assumption) | (apply Go.Cert.ne_ob; assumption; assumption; (intro e; cases e; done)) | omega) only [Sg.set_same, Sg.set_ne, Sg.set_ne', Sg.del_ne, Sg.del_ne'])
  | some τ =>
    obtain ⟨hτ, hτt⟩ := hR.atv τ rfl
    have q0 : τ ≠ ρ := ne_ob hτ hρ (fun e => by cases e)
    have q1 : τ ≠ m1 := ne_ob hτ hm (fun e => by cases e)
    have q2 : τ ≠ m2 := ne_ob hτ hm2 (fun e => by cases e)
    have hS2 : ((σ.set m1 (.map (knownM (ps ++ [(w, l)])))).del τ) m2 = some (.map (esOf ts)) := (by first | assumption | ((simp (disch := first | assumption | (apply Go.Cert.ne_of2; assumption; assumption) | (apply Go.Cert.ne_ob; assumption; assumption; (intro e; cases e; done)) | omega) only [Sg.set_same, Sg.set_ne, Sg.set_ne', Sg.del_ne, Sg.del_ne']); first | done | rfl | assumption))
    have hSρ : ((σ.set m1 (.map (knownM (ps ++ [(w, l)])))).del τ) ρ = some (.cells 94 [.map m1, VT pv (some τ), .map m2]) := (by first | assumption | ((simp (disch := first | assumption | (apply Go.Cert.ne_of2; assumption; assumption) | (apply Go.Cert.ne_ob; assumption; assumption; (intro e; cases e; done)) | omega) only [Sg.set_same, Sg.set_ne, Sg.set_ne', Sg.del_ne, Sg.del_ne']); first | done | rfl | assumption))
    cases hg : getT w ts with
    | none =>
      (refine vfun (fun _ => .ro) mixed Try.func42 (by kernel_rfl) ?_; simp only [bodyOf, Try.f42, Option.getD_some])
      repeat' (first | with_reducible rfl | exact .inr trivial | with_reducible apply And.intro | with_reducible apply vqx_step | with_reducible apply vqm_step | with_reducible refine vkp_free (by decide +kernel) ?_ | with_reducible intro _ | ((with_reducible refine .dms (fun β => β = ρ) [(0, false), (1, false), (2, false), (3, false), (4, false), (5, true)] (by decide) (by decide +kernel) ?_); (simp only [vO, vQ, ↓vP, vE, vS, vB, vL, vF, vM, vN, vbs_full, Nat.reduceEqDiff, Nat.reduceAdd, Nat.reduceLeDiff, ne_eq, not_false_eq_true, Nat.reduceMul, Nat.reduceSub, Int.toNat_zero, Int.reduceToNat, Try.underlying3, info3, Try.underlying34, info34, Try.underlying4, info4, Try.underlying9, info9, Try.underlying5, info5, Try.underlying90, info90, Try.underlying91, Try.underlying92, info92, Try.underlying93, Try.underlying94, info94, Try.underlying76, Try.underlying77, info77, Try.underlying30, info91, Try.underlying110, info110, hρ, hd, hρ1, vown2_ro, VT, hg, rowT, pairsA_len, pairsA_all, hτ, vT])) | ((with_reducible refine .dms (fun β => β = ρ) [(0, false), (1, false), (2, false), (3, false), (4, false), (5, false), (6, false), (7, true), (8, true), (9, false), (10, true)] (by decide) (by decide +kernel) ?_); (simp only [vO, vQ, ↓vP, vE, vS, vB, vL, vF, vM, vN, vbs_full, Nat.reduceEqDiff, Nat.reduceAdd, Nat.reduceLeDiff, ne_eq, not_false_eq_true, Nat.reduceMul, Nat.reduceSub, Int.toNat_zero, Int.reduceToNat, Try.underlying3, info3, Try.underlying34, info34, Try.underlying4, info4, Try.underlying9, info9, Try.underlying5, info5, Try.underlying90, info90, Try.underlying91, Try.underlying92, info92, Try.underlying93, Try.underlying94, info94, Try.underlying76, Try.underlying77, info77, Try.underlying30, info91, Try.underlying110, info110, hρ, hd, hρ1, vown2_ro, VT, hg, rowT, pairsA_len, pairsA_all, hτ, vT])) | ((with_reducible refine .dm (fun β => β = ρ ∨ β = m2) [(0, false), (1, false), (2, false), (3, false), (4, false), (5, false), (6, false), (7, false), (8, false), (9, false), (10, false), (11, false), (12, false), (13, false), (14, false), (15, false), (16, true), (17, true)] (by decide) (by decide +kernel) ?_); (simp only [vO, vQ, ↓vP, vE, vS, vB, vL, vF, vM, vN, vbs_full, Nat.reduceEqDiff, Nat.reduceAdd, Nat.reduceLeDiff, ne_eq, not_false_eq_true, Nat.reduceMul, Nat.reduceSub, Int.toNat_zero, Int.reduceToNat, Try.underlying3, info3, Try.underlying34, info34, Try.underlying4, info4, Try.underlying9, info9, Try.underlying5, info5, Try.underlying90, info90, Try.underlying91, Try.underlying92, info92, Try.underlying93, Try.underlying94, info94, Try.underlying76, Try.underlying77, info77, Try.underlying30, info91, Try.underlying110, info110, hρ, hd, hρ1, vown2_ro, VT, hg, rowT, pairsA_len, pairsA_all, hτ, vT])) | ((first | (with_reducible first | refine .rs ?_ | refine .ds (by kernel_rfl) ?_ | refine .dg (by kernel_rfl) ?_ | refine .rg ?_ | refine .ite ?_ | refine .ret ?_ | refine .skip ?_ | refine .exit ?_ | refine .scope ?_ | refine .seq (.label ?_) | refine .block ?_ | refine .seq ?_)); (try simp only [vO, vQ, ↓vP, vE, vS, vB, vL, vF, vM, vN, vbs_full, Nat.reduceEqDiff, Nat.reduceAdd, Nat.reduceLeDiff, ne_eq, not_false_eq_true, Nat.reduceMul, Nat.reduceSub, Int.toNat_zero, Int.reduceToNat, Try.underlying3, info3, Try.underlying34, info34, Try.underlying4, info4, Try.underlying9, info9, Try.underlying5, info5, Try.underlying90, info90, Try.underlying91, Try.underlying92, info92, Try.underlying93, Try.underlying94, info94, Try.underlying76, Try.underlying77, info77, Try.underlying30, info91, Try.underlying110, info110, hρ, hd, hρ1, vown2_ro, VT, hg, rowT, pairsA_len, pairsA_all, hτ, vT])) | ((simp (disch := first | assumption | (apply Go.Cert.ne_of2; assumption; assumption) | (apply Go.Cert.ne_ob; assumption; assumption; (intro e; cases e; done)) | omega) only [w64, w8, tg_eq, Go.V.n1, Go.V.n2, Go.V.nn, Int.tdiv_eq_ediv_of_nonneg, Sg.set_same, Sg.set_ne, Sg.set_ne', Sg.del_ne, Sg.del_ne']); (try simp only [vO, vQ, ↓vP, vE, vS, vB, vL, vF, vM, vN, vbs_full, Nat.reduceEqDiff, Nat.reduceAdd, Nat.reduceLeDiff, ne_eq, not_false_eq_true, Nat.reduceMul, Nat.reduceSub, Int.toNat_zero, Int.reduceToNat, Try.underlying3, info3, Try.underlying34, info34, Try.underlying4, info4, Try.underlying9, info9, Try.underlying5, info5, Try.underlying90, info90, Try.underlying91, Try.underlying92, info92, Try.underlying93, Try.underlying94, info94, Try.underlying76, Try.underlying77, info77, Try.underlying30, info91, Try.underlying110, info110, hρ, hd, hρ1, vown2_ro, VT, hg, rowT, pairsA_len, pairsA_all, hτ, vT])) | ((with_reducible refine look90 hm ?_); (try simp only [vO, vQ, ↓vP, vE, vS, vB, vL, vF, vM, vN, vbs_full, Nat.reduceEqDiff, Nat.reduceAdd, Nat.reduceLeDiff, ne_eq, not_false_eq_true, Nat.reduceMul, Nat.reduceSub, Int.toNat_zero, Int.reduceToNat, Try.underlying3, info3, Try.underlying34, info34, Try.underlying4, info4, Try.underlying9, info9, Try.underlying5, info5, Try.underlying90, info90, Try.underlying91, Try.underlying92, info92, Try.underlying93, Try.underlying94, info94, Try.underlying76, Try.underlying77, info77, Try.underlying30, info91, Try.underlying110, info110, hρ, hd, hρ1, vown2_ro, VT, hg, rowT, pairsA_len, pairsA_all, hτ, vT])) | ((with_reducible refine upd90 (by assumption) hy ?_); (try simp only [vO, vQ, ↓vP, vE, vS, vB, vL, vF, vM, vN, vbs_full, Nat.reduceEqDiff, Nat.reduceAdd, Nat.reduceLeDiff, ne_eq, not_false_eq_true, Nat.reduceMul, Nat.reduceSub, Int.toNat_zero, Int.reduceToNat, Try.underlying3, info3, Try.underlying34, info34, Try.underlying4, info4, Try.underlying9, info9, Try.underlying5, info5, Try.underlying90, info90, Try.underlying91, Try.underlying92, info92, Try.underlying93, Try.underlying94, info94, Try.underlying76, Try.underlying77, info77, Try.underlying30, info91, Try.underlying110, info110, hρ, hd, hρ1, vown2_ro, VT, hg, rowT, pairsA_len, pairsA_all, hτ, vT])) | (((refine vlo_at (keepAt (by assumption) hρ) ?_)); (try simp only [vO, vQ, ↓vP, vE, vS, vB, vL, vF, vM, vN, vbs_full, Nat.reduceEqDiff, Nat.reduceAdd, Nat.reduceLeDiff, ne_eq, not_false_eq_true, Nat.reduceMul, Nat.reduceSub, Int.toNat_zero, Int.reduceToNat, Try.underlying3, info3, Try.underlying34, info34, Try.underlying4, info4, Try.underlying9, info9, Try.underlying5, info5, Try.underlying90, info90, Try.underlying91, Try.underlying92, info92, Try.underlying93, Try.underlying94, info94, Try.underlying76, Try.underlying77, info77, Try.underlying30, info91, Try.underlying110, info110, hρ, hd, hρ1, vown2_ro, VT, hg, rowT, pairsA_len, pairsA_all, hτ, vT])) | (((refine vlo_at (keepAt (by assumption) (hρ1 _)) ?_)); (try simp only [vO, vQ, ↓vP, vE, vS, vB, vL, vF, vM, vN, vbs_full, Nat.reduceEqDiff, Nat.reduceAdd, Nat.reduceLeDiff, ne_eq, not_false_eq_true, Nat.reduceMul, Nat.reduceSub, Int.toNat_zero, Int.reduceToNat, Try.underlying3, info3, Try.underlying34, info34, Try.underlying4, info4, Try.underlying9, info9, Try.underlying5, info5, Try.underlying90, info90, Try.underlying91, Try.underlying92, info92, Try.underlying93, Try.underlying94, info94, Try.underlying76, Try.underlying77, info77, Try.underlying30, info91, Try.underlying110, info110, hρ, hd, hρ1, vown2_ro, VT, hg, rowT, pairsA_len, pairsA_all, hτ, vT])) | (((refine vkp_keep (by intro β h; first | (rcases h with h | h <;> subst h <;> (simp (disch := first | assumption | (apply Go.Cert.ne_of2; assumption; assumption) | (apply Go.Cert.ne_ob; assumption; assumption; (intro e; cases e; done)) | omega) only [Sg.set_same, Sg.set_ne, Sg.set_ne', Sg.del_ne, Sg.del_ne'])) | (subst h; (simp (disch := first | assumption | (apply Go.Cert.ne_of2; assumption; assumption) | (apply Go.Cert.ne_ob; assumption; assumption; (intro e; cases e; done)) | omega) only [Sg.set_same, Sg.set_ne, Sg.set_ne', Sg.del_ne, Sg.del_ne']))) ?_)); (try simp only [vO, vQ, ↓vP, vE, vS, vB, vL, vF, vM, vN, vbs_full, Nat.reduceEqDiff, Nat.reduceAdd, Nat.reduceLeDiff, ne_eq, not_false_eq_true, Nat.reduceMul, Nat.reduceSub, Int.toNat_zero, Int.reduceToNat, Try.underlying3, info3, Try.underlying34, info34, Try.underlying4, info4, Try.underlying9, info9, Try.underlying5, info5, Try.underlying90, info90, Try.underlying91, Try.underlying92, info92, Try.underlying93, Try.underlying94, info94, Try.underlying76, Try.underlying77, info77, Try.underlying30, info91, Try.underlying110, info110, hρ, hd, hρ1, vown2_ro, VT, hg, rowT, pairsA_len, pairsA_all, hτ, vT])) | (((refine vlo_at (keep2 (by assumption) (Sg.set_same _ _ _)) ?_)); (try simp only [vO, vQ, ↓vP, vE, vS, vB, vL, vF, vM, vN, vbs_full, Nat.reduceEqDiff, Nat.reduceAdd, Nat.reduceLeDiff, ne_eq, not_false_eq_true, Nat.reduceMul, Nat.reduceSub, Int.toNat_zero, Int.reduceToNat, Try.underlying3, info3, Try.underlying34, info34, Try.underlying4, info4, Try.underlying9, info9, Try.underlying5, info5, Try.underlying90, info90, Try.underlying91, Try.underlying92, info92, Try.underlying93, Try.underlying94, info94, Try.underlying76, Try.underlying77, info77, Try.underlying30, info91, Try.underlying110, info110, hρ, hd, hρ1, vown2_ro, VT, hg, rowT, pairsA_len, pairsA_all, hτ, vT])) | (((refine look91 (keep2' (by assumption) (by first | assumption | ((simp (disch := first | assumption | (apply Go.Cert.ne_of2; assumption; assumption) | (apply Go.Cert.ne_ob; assumption; assumption; (intro e; cases e; done)) | omega) only [Sg.set_same, Sg.set_ne, Sg.set_ne', Sg.del_ne, Sg.del_ne']); first | done | rfl | assumption))) ?_)); (try simp only [vO, vQ, ↓vP, vE, vS, vB, vL, vF, vM, vN, vbs_full, Nat.reduceEqDiff, Nat.reduceAdd, Nat.reduceLeDiff, ne_eq, not_false_eq_true, Nat.reduceMul, Nat.reduceSub, Int.toNat_zero, Int.reduceToNat, Try.underlying3, info3, Try.underlying34, info34, Try.underlying4, info4, Try.underlying9, info9, Try.underlying5, info5, Try.underlying90, info90, Try.underlying91, Try.underlying92, info92, Try.underlying93, Try.underlying94, info94, Try.underlying76, Try.underlying77, info77, Try.underlying30, info91, Try.underlying110, info110, hρ, hd, hρ1, vown2_ro, VT, hg, rowT, pairsA_len, pairsA_all, hτ, vT])) | (((refine upd91 (l := [bs l]) (by first | assumption | ((simp (disch := first | assumption | (apply Go.Cert.ne_of2; assumption; assumption) | (apply Go.Cert.ne_ob; assumption; assumption; (intro e; cases e; done)) | omega) only [Sg.set_same, Sg.set_ne, Sg.set_ne', Sg.del_ne, Sg.del_ne']); first | done | rfl | assumption)) ?_)); (try simp only [vO, vQ, ↓vP, vE, vS, vB, vL, vF, vM, vN, vbs_full, Nat.reduceEqDiff, Nat.reduceAdd, Nat.reduceLeDiff, ne_eq, not_false_eq_true, Nat.reduceMul, Nat.reduceSub, Int.toNat_zero, Int.reduceToNat, Try.underlying3, info3, Try.underlying34, info34, Try.underlying4, info4, Try.underlying9, info9, Try.underlying5, info5, Try.underlying90, info90, Try.underlying91, Try.underlying92, info92, Try.underlying93, Try.underlying94, info94, Try.underlying76, Try.underlying77, info77, Try.underlying30, info91, Try.underlying110, info110, hρ, hd, hρ1, vown2_ro, VT, hg, rowT, pairsA_len, pairsA_all, hτ, vT])) | with_reducible refine vfresh_set ?_ | with_reducible refine vfresh_intro (fun _ _ => ?_) | with_reducible refine vif_intro (fun _ => ?_) (fun _ => ?_) | omega | ((with_reducible first | refine vop_at ?_ | refine vops_at ?_ | refine vquiet_at ?_ | refine vmix_at ?_ | refine Holds_at ?_); simp only [vO, vQ, ↓vP, vE, vS, vB, vL, vF, vM, vN, vbs_full, Nat.reduceEqDiff, Nat.reduceAdd, Nat.reduceLeDiff, ne_eq, not_false_eq_true, Nat.reduceMul, Nat.reduceSub, Int.toNat_zero, Int.reduceToNat, Try.underlying3, info3, Try.underlying34, info34, Try.underlying4, info4, Try.underlying9, info9, Try.underlying5, info5, Try.underlying90, info90, Try.underlying91, Try.underlying92, info92, Try.underlying93, Try.underlying94, info94, Try.underlying76, Try.underlying77, info77, Try.underlying30, info91, Try.underlying110, info110, hρ, hd, hρ1, vown2_ro, VT, hg, rowT, pairsA_len, pairsA_all, hτ, vT]))
      rename_i x hx g1 y hy1 g3 g4
      have hyd := fresh_del hy1
      have hyn : σ y = none ∨ (some τ = some y) := hyd.elim (fun e => .inr (by rw [e])) (fun e => .inl e.2)
      have g2' : y ≠ m1 := hyd.elim (fun e => by rw [e]; exact q1) (fun e => e.1)
      have hy2 : y ≠ m2 := ne_of2' hy1 hS2
      have hyt : y ∉ toks ts := hyd.elim (fun e => by rw [e]; exact hτt) (fun e h => by rw [hR.ats y h] at e; cases e.2)
      have hx0 : x ≠ ρ := ne_of2' hx hρ
      have hx2 : x ≠ m2 := ne_of2' hx hm2
      have hxτ : x ≠ τ := ne_of2' hx hτ
      have hnext : nextL w (bs l) ts = [bs l] := by unfold nextL; rw [hg]
      refine ⟨_, .refl _, reg_new (x := x) (y := y) pv hpl.1 hR ?_ ?_ ?_ ?_ hx ?_ hyt hyn ?_ ?_⟩
      · (simp (disch := first | assumption | (apply Go.Cert.ne_of2; assumption; assumption) | (apply Go.Cert.ne_ob; assumption; assumption; (intro e; cases e; done)) | omega) only [Sg.set_same, Sg.set_ne, Sg.set_ne', Sg.del_ne, Sg.del_ne']); rw [VT, ← pairsA_app]; rfl
      · (simp (disch := first | assumption | (apply Go.Cert.ne_of2; assumption; assumption) | (apply Go.Cert.ne_ob; assumption; assumption; (intro e; cases e; done)) | omega) only [Sg.set_same, Sg.set_ne, Sg.set_ne', Sg.del_ne, Sg.del_ne'])
      · rw [hnext]; (simp (disch := first | assumption | (apply Go.Cert.ne_of2; assumption; assumption) | (apply Go.Cert.ne_ob; assumption; assumption; (intro e; cases e; done)) | omega) only [Sg.set_same, Sg.set_ne, Sg.set_ne', Sg.del_ne, Sg.del_ne'])
      · (simp (disch := first | assumption | (apply Go.Cert.ne_of2; assumption; assumption) | (apply Go.Cert.ne_ob; assumption; assumption; (intro e; cases e; done)) | omega) only [Sg.set_same, Sg.set_ne, Sg.set_ne', Sg.del_ne, Sg.del_ne'])
      · (simp (disch := first | assumption | (apply Go.Cert.ne_of2; assumption; assumption) | (apply Go.Cert.ne_ob; assumption; assumption; (intro e; cases e; done)) | omega) only [Sg.set_same, Sg.set_ne, Sg.set_ne', Sg.del_ne, Sg.del_ne'])
      · intro t ht hl0
        have e0 : t ≠ ρ := ne_ob (hR.ats t ht) hρ (fun e => by cases e)
        have e1 : t ≠ m1 := ne_ob (hR.ats t ht) hm (fun e => by cases e)
        have e2 : t ≠ m2 := ne_ob (hR.ats t ht) hm2 (fun e => by cases e)
        have e3 : t ≠ x := ne_of (hR.ats t ht) hx
        have e4 : t ≠ y := fun e => hyt (e ▸ ht)
        have e5 : t ≠ τ := fun e => hτt (e ▸ ht)
        (simp (disch := first | assumption | (apply Go.Cert.ne_of2; assumption; assumption) | (apply Go.Cert.ne_ob; assumption; assumption; (intro e; cases e; done)) | omega) only [Sg.set_same, Sg.set_ne, Sg.set_ne', Sg.del_ne, Sg.del_ne'])
      · intro β hβ hb
        obtain ⟨e0, e1, e2, e3, e4⟩ := own_out hR hβ
        have e5 : β ≠ x := fun e => hb (by rw [e]; exact hx)
        have e7 := e3 τ rfl
        have e6 : β ≠ y := fun e => hyd.elim (fun e' => e7 (e.trans e')) (fun e' => hb (by rw [e]; exact e'.2))
        (simp (disch := first | assumption | (apply Go.Cert.ne_of2; assumption; assumption) | (apply Go.Cert.ne_ob; assumption; assumption; (intro e; cases e; done)) | omega) only [Sg.set_same, Sg.set_ne, Sg.set_ne', Sg.del_ne, Sg.del_ne'])
    | some y =>
      obtain ⟨τ0, l0⟩ := y
      have hτ0 := hR.ats τ0 (get_mem hg)
      have hne0 : τ ≠ τ0 := fun e => hτt (e ▸ get_mem hg)
      have hl0 := hpl.2 w τ0 l0 hg
      have r0 : τ0 ≠ ρ := ne_ob hτ0 hρ (fun e => by cases e)
      have r1 : τ0 ≠ m1 := ne_ob hτ0 hm (fun e => by cases e)
      have r2 : τ0 ≠ m2 := ne_ob hτ0 hm2 (fun e => by cases e)
      have hS0 : ((σ.set m1 (.map (knownM (ps ++ [(w, l)])))).del τ) τ0 = some (.tok (some 9)) := (by first | assumption | ((simp (disch := first | assumption | (apply Go.Cert.ne_of2; assumption; assumption) | (apply Go.Cert.ne_ob; assumption; assumption; (intro e; cases e; done)) | omega) only [Sg.set_same, Sg.set_ne, Sg.set_ne', Sg.del_ne, Sg.del_ne']); first | done | rfl | assumption))
      (refine vfun (fun _ => .ro) mixed Try.func42 (by kernel_rfl) ?_; simp only [bodyOf, Try.f42, Option.getD_some])
      repeat' (first | with_reducible rfl | exact .inr trivial | with_reducible apply And.intro | with_reducible apply vqx_step | with_reducible apply vqm_step | with_reducible refine vkp_free (by decide +kernel) ?_ | with_reducible intro _ | ((with_reducible refine .dms (fun β => β = ρ) [(0, false), (1, false), (2, false), (3, false), (4, false), (5, true)] (by decide) (by decide +kernel) ?_); (simp only [vO, vQ, ↓vP, vE, vS, vB, vL, vF, vM, vN, vbs_full, Nat.reduceEqDiff, Nat.reduceAdd, Nat.reduceLeDiff, ne_eq, not_false_eq_true, Nat.reduceMul, Nat.reduceSub, Int.toNat_zero, Int.reduceToNat, Try.underlying3, info3, Try.underlying34, info34, Try.underlying4, info4, Try.underlying9, info9, Try.underlying5, info5, Try.underlying90, info90, Try.underlying91, Try.underlying92, info92, Try.underlying93, Try.underlying94, info94, Try.underlying76, Try.underlying77, info77, Try.underlying30, info91, Try.underlying110, info110, hρ, hd, hρ1, vown2_ro, VT, hg, rowT, pairsA_len, pairsA_all, strs_len, strs_all, hτ, hτ0, vT])) | ((with_reducible refine .dms (fun β => β = ρ) [(0, false), (1, false), (2, false), (3, false), (4, false), (5, false), (6, false), (7, true), (8, true), (9, false), (10, true)] (by decide) (by decide +kernel) ?_); (simp only [vO, vQ, ↓vP, vE, vS, vB, vL, vF, vM, vN, vbs_full, Nat.reduceEqDiff, Nat.reduceAdd, Nat.reduceLeDiff, ne_eq, not_false_eq_true, Nat.reduceMul, Nat.reduceSub, Int.toNat_zero, Int.reduceToNat, Try.underlying3, info3, Try.underlying34, info34, Try.underlying4, info4, Try.underlying9, info9, Try.underlying5, info5, Try.underlying90, info90, Try.underlying91, Try.underlying92, info92, Try.underlying93, Try.underlying94, info94, Try.underlying76, Try.underlying77, info77, Try.underlying30, info91, Try.underlying110, info110, hρ, hd, hρ1, vown2_ro, VT, hg, rowT, pairsA_len, pairsA_all, strs_len, strs_all, hτ, hτ0, vT])) | ((with_reducible refine .dm (fun β => β = ρ ∨ β = m2) [(0, false), (1, false), (2, false), (3, false), (4, false), (5, false), (6, false), (7, false), (8, false), (9, false), (10, false), (11, false), (12, false), (13, false), (14, false), (15, false), (16, true), (17, true)] (by decide) (by decide +kernel) ?_); (simp only [vO, vQ, ↓vP, vE, vS, vB, vL, vF, vM, vN, vbs_full, Nat.reduceEqDiff, Nat.reduceAdd, Nat.reduceLeDiff, ne_eq, not_false_eq_true, Nat.reduceMul, Nat.reduceSub, Int.toNat_zero, Int.reduceToNat, Try.underlying3, info3, Try.underlying34, info34, Try.underlying4, info4, Try.underlying9, info9, Try.underlying5, info5, Try.underlying90, info90, Try.underlying91, Try.underlying92, info92, Try.underlying93, Try.underlying94, info94, Try.underlying76, Try.underlying77, info77, Try.underlying30, info91, Try.underlying110, info110, hρ, hd, hρ1, vown2_ro, VT, hg, rowT, pairsA_len, pairsA_all, strs_len, strs_all, hτ, hτ0, vT])) | ((first | (with_reducible first | refine .rs ?_ | refine .ds (by kernel_rfl) ?_ | refine .dg (by kernel_rfl) ?_ | refine .rg ?_ | refine .ite ?_ | refine .ret ?_ | refine .skip ?_ | refine .exit ?_ | refine .scope ?_ | refine .seq (.label ?_) | refine .block ?_ | refine .seq ?_)); (try simp only [vO, vQ, ↓vP, vE, vS, vB, vL, vF, vM, vN, vbs_full, Nat.reduceEqDiff, Nat.reduceAdd, Nat.reduceLeDiff, ne_eq, not_false_eq_true, Nat.reduceMul, Nat.reduceSub, Int.toNat_zero, Int.reduceToNat, Try.underlying3, info3, Try.underlying34, info34, Try.underlying4, info4, Try.underlying9, info9, Try.underlying5, info5, Try.underlying90, info90, Try.underlying91, Try.underlying92, info92, Try.underlying93, Try.underlying94, info94, Try.underlying76, Try.underlying77, info77, Try.underlying30, info91, Try.underlying110, info110, hρ, hd, hρ1, vown2_ro, VT, hg, rowT, pairsA_len, pairsA_all, strs_len, strs_all, hτ, hτ0, vT])) | ((simp (disch := first | assumption | (apply Go.Cert.ne_of2; assumption; assumption) | (apply Go.Cert.ne_ob; assumption; assumption; (intro e; cases e; done)) | omega) only [w64, w8, tg_eq, Go.V.n1, Go.V.n2, Go.V.nn, Int.tdiv_eq_ediv_of_nonneg, Sg.set_same, Sg.set_ne, Sg.set_ne', Sg.del_ne, Sg.del_ne']); (try simp only [vO, vQ, ↓vP, vE, vS, vB, vL, vF, vM, vN, vbs_full, Nat.reduceEqDiff, Nat.reduceAdd, Nat.reduceLeDiff, ne_eq, not_false_eq_true, Nat.reduceMul, Nat.reduceSub, Int.toNat_zero, Int.reduceToNat, Try.underlying3, info3, Try.underlying34, info34, Try.underlying4, info4, Try.underlying9, info9, Try.underlying5, info5, Try.underlying90, info90, Try.underlying91, Try.underlying92, info92, Try.underlying93, Try.underlying94, info94, Try.underlying76, Try.underlying77, info77, Try.underlying30, info91, Try.underlying110, info110, hρ, hd, hρ1, vown2_ro, VT, hg, rowT, pairsA_len, pairsA_all, strs_len, strs_all, hτ, hτ0, vT])) | ((with_reducible refine look90 hm ?_); (try simp only [vO, vQ, ↓vP, vE, vS, vB, vL, vF, vM, vN, vbs_full, Nat.reduceEqDiff, Nat.reduceAdd, Nat.reduceLeDiff, ne_eq, not_false_eq_true, Nat.reduceMul, Nat.reduceSub, Int.toNat_zero, Int.reduceToNat, Try.underlying3, info3, Try.underlying34, info34, Try.underlying4, info4, Try.underlying9, info9, Try.underlying5, info5, Try.underlying90, info90, Try.underlying91, Try.underlying92, info92, Try.underlying93, Try.underlying94, info94, Try.underlying76, Try.underlying77, info77, Try.underlying30, info91, Try.underlying110, info110, hρ, hd, hρ1, vown2_ro, VT, hg, rowT, pairsA_len, pairsA_all, strs_len, strs_all, hτ, hτ0, vT])) | ((with_reducible refine upd90 (by assumption) hy ?_); (try simp only [vO, vQ, ↓vP, vE, vS, vB, vL, vF, vM, vN, vbs_full, Nat.reduceEqDiff, Nat.reduceAdd, Nat.reduceLeDiff, ne_eq, not_false_eq_true, Nat.reduceMul, Nat.reduceSub, Int.toNat_zero, Int.reduceToNat, Try.underlying3, info3, Try.underlying34, info34, Try.underlying4, info4, Try.underlying9, info9, Try.underlying5, info5, Try.underlying90, info90, Try.underlying91, Try.underlying92, info92, Try.underlying93, Try.underlying94, info94, Try.underlying76, Try.underlying77, info77, Try.underlying30, info91, Try.underlying110, info110, hρ, hd, hρ1, vown2_ro, VT, hg, rowT, pairsA_len, pairsA_all, strs_len, strs_all, hτ, hτ0, vT])) | (((refine vlo_at (keepAt (by assumption) hρ) ?_)); (try simp only [vO, vQ, ↓vP, vE, vS, vB, vL, vF, vM, vN, vbs_full, Nat.reduceEqDiff, Nat.reduceAdd, Nat.reduceLeDiff, ne_eq, not_false_eq_true, Nat.reduceMul, Nat.reduceSub, Int.toNat_zero, Int.reduceToNat, Try.underlying3, info3, Try.underlying34, info34, Try.underlying4, info4, Try.underlying9, info9, Try.underlying5, info5, Try.underlying90, info90, Try.underlying91, Try.underlying92, info92, Try.underlying93, Try.underlying94, info94, Try.underlying76, Try.underlying77, info77, Try.underlying30, info91, Try.underlying110, info110, hρ, hd, hρ1, vown2_ro, VT, hg, rowT, pairsA_len, pairsA_all, strs_len, strs_all, hτ, hτ0, vT])) | (((refine vlo_at (keepAt (by assumption) (hρ1 _)) ?_)); (try simp only [vO, vQ, ↓vP, vE, vS, vB, vL, vF, vM, vN, vbs_full, Nat.reduceEqDiff, Nat.reduceAdd, Nat.reduceLeDiff, ne_eq, not_false_eq_true, Nat.reduceMul, Nat.reduceSub, Int.toNat_zero, Int.reduceToNat, Try.underlying3, info3, Try.underlying34, info34, Try.underlying4, info4, Try.underlying9, info9, Try.underlying5, info5, Try.underlying90, info90, Try.underlying91, Try.underlying92, info92, Try.underlying93, Try.underlying94, info94, Try.underlying76, Try.underlying77, info77, Try.underlying30, info91, Try.underlying110, info110, hρ, hd, hρ1, vown2_ro, VT, hg, rowT, pairsA_len, pairsA_all, strs_len, strs_all, hτ, hτ0, vT])) | (((refine vkp_keep (by intro β h; first | (rcases h with h | h <;> subst h <;> (simp (disch := first | assumption | (apply Go.Cert.ne_of2; assumption; assumption) | (apply Go.Cert.ne_ob; assumption; assumption; (intro e; cases e; done)) | omega) only [Sg.set_same, Sg.set_ne, Sg.set_ne', Sg.del_ne, Sg.del_ne'])) | (subst h; (simp (disch := first | assumption | (apply Go.Cert.ne_of2; assumption; assumption) | (apply Go.Cert.ne_ob; assumption; assumption; (intro e; cases e; done)) | omega) only [Sg.set_same, Sg.set_ne, Sg.set_ne', Sg.del_ne, Sg.del_ne']))) ?_)); (try simp only [vO, vQ, ↓vP, vE, vS, vB, vL, vF, vM, vN, vbs_full, Nat.reduceEqDiff, Nat.reduceAdd, Nat.reduceLeDiff, ne_eq, not_false_eq_true, Nat.reduceMul, Nat.reduceSub, Int.toNat_zero, Int.reduceToNat, Try.underlying3, info3, Try.underlying34, info34, Try.underlying4, info4, Try.underlying9, info9, Try.underlying5, info5, Try.underlying90, info90, Try.underlying91, Try.underlying92, info92, Try.underlying93, Try.underlying94, info94, Try.underlying76, Try.underlying77, info77, Try.underlying30, info91, Try.underlying110, info110, hρ, hd, hρ1, vown2_ro, VT, hg, rowT, pairsA_len, pairsA_all, strs_len, strs_all, hτ, hτ0, vT])) | (((refine vlo_at (keep2 (by assumption) (Sg.set_same _ _ _)) ?_)); (try simp only [vO, vQ, ↓vP, vE, vS, vB, vL, vF, vM, vN, vbs_full, Nat.reduceEqDiff, Nat.reduceAdd, Nat.reduceLeDiff, ne_eq, not_false_eq_true, Nat.reduceMul, Nat.reduceSub, Int.toNat_zero, Int.reduceToNat, Try.underlying3, info3, Try.underlying34, info34, Try.underlying4, info4, Try.underlying9, info9, Try.underlying5, info5, Try.underlying90, info90, Try.underlying91, Try.underlying92, info92, Try.underlying93, Try.underlying94, info94, Try.underlying76, Try.underlying77, info77, Try.underlying30, info91, Try.underlying110, info110, hρ, hd, hρ1, vown2_ro, VT, hg, rowT, pairsA_len, pairsA_all, strs_len, strs_all, hτ, hτ0, vT])) | (((refine look91 (keep2' (by assumption) (by first | assumption | ((simp (disch := first | assumption | (apply Go.Cert.ne_of2; assumption; assumption) | (apply Go.Cert.ne_ob; assumption; assumption; (intro e; cases e; done)) | omega) only [Sg.set_same, Sg.set_ne, Sg.set_ne', Sg.del_ne, Sg.del_ne']); first | done | rfl | assumption))) ?_)); (try simp only [vO, vQ, ↓vP, vE, vS, vB, vL, vF, vM, vN, vbs_full, Nat.reduceEqDiff, Nat.reduceAdd, Nat.reduceLeDiff, ne_eq, not_false_eq_true, Nat.reduceMul, Nat.reduceSub, Int.toNat_zero, Int.reduceToNat, Try.underlying3, info3, Try.underlying34, info34, Try.underlying4, info4, Try.underlying9, info9, Try.underlying5, info5, Try.underlying90, info90, Try.underlying91, Try.underlying92, info92, Try.underlying93, Try.underlying94, info94, Try.underlying76, Try.underlying77, info77, Try.underlying30, info91, Try.underlying110, info110, hρ, hd, hρ1, vown2_ro, VT, hg, rowT, pairsA_len, pairsA_all, strs_len, strs_all, hτ, hτ0, vT])) | ((with_reducible rw [strs1]); (try simp only [vO, vQ, ↓vP, vE, vS, vB, vL, vF, vM, vN, vbs_full, Nat.reduceEqDiff, Nat.reduceAdd, Nat.reduceLeDiff, ne_eq, not_false_eq_true, Nat.reduceMul, Nat.reduceSub, Int.toNat_zero, Int.reduceToNat, Try.underlying3, info3, Try.underlying34, info34, Try.underlying4, info4, Try.underlying9, info9, Try.underlying5, info5, Try.underlying90, info90, Try.underlying91, Try.underlying92, info92, Try.underlying93, Try.underlying94, info94, Try.underlying76, Try.underlying77, info77, Try.underlying30, info91, Try.underlying110, info110, hρ, hd, hρ1, vown2_ro, VT, hg, rowT, pairsA_len, pairsA_all, strs_len, strs_all, hτ, hτ0, vT])) | (((refine upd91 (l := l0 ++ [bs l]) (by first | assumption | ((simp (disch := first | assumption | (apply Go.Cert.ne_of2; assumption; assumption) | (apply Go.Cert.ne_ob; assumption; assumption; (intro e; cases e; done)) | omega) only [Sg.set_same, Sg.set_ne, Sg.set_ne', Sg.del_ne, Sg.del_ne']); first | done | rfl | assumption)) ?_)); (try simp only [vO, vQ, ↓vP, vE, vS, vB, vL, vF, vM, vN, vbs_full, Nat.reduceEqDiff, Nat.reduceAdd, Nat.reduceLeDiff, ne_eq, not_false_eq_true, Nat.reduceMul, Nat.reduceSub, Int.toNat_zero, Int.reduceToNat, Try.underlying3, info3, Try.underlying34, info34, Try.underlying4, info4, Try.underlying9, info9, Try.underlying5, info5, Try.underlying90, info90, Try.underlying91, Try.underlying92, info92, Try.underlying93, Try.underlying94, info94, Try.underlying76, Try.underlying77, info77, Try.underlying30, info91, Try.underlying110, info110, hρ, hd, hρ1, vown2_ro, VT, hg, rowT, pairsA_len, pairsA_all, strs_len, strs_all, hτ, hτ0, vT])) | with_reducible refine vfresh_set ?_ | with_reducible refine vfresh_intro (fun _ _ => ?_) | with_reducible refine vif_intro (fun _ => ?_) (fun _ => ?_) | omega | ((with_reducible first | refine vop_at ?_ | refine vops_at ?_ | refine vquiet_at ?_ | refine vmix_at ?_ | refine Holds_at ?_); simp only [vO, vQ, ↓vP, vE, vS, vB, vL, vF, vM, vN, vbs_full, Nat.reduceEqDiff, Nat.reduceAdd, Nat.reduceLeDiff, ne_eq, not_false_eq_true, Nat.reduceMul, Nat.reduceSub, Int.toNat_zero, Int.reduceToNat, Try.underlying3, info3, Try.underlying34, info34, Try.underlying4, info4, Try.underlying9, info9, Try.underlying5, info5, Try.underlying90, info90, Try.underlying91, Try.underlying92, info92, Try.underlying93, Try.underlying94, info94, Try.underlying76, Try.underlying77, info77, Try.underlying30, info91, Try.underlying110, info110, hρ, hd, hρ1, vown2_ro, VT, hg, rowT, pairsA_len, pairsA_all, strs_len, strs_all, hτ, hτ0, vT]))
      rename_i x hx g1 y hy1 g3 g4
      have hyd := fresh_del hy1
      have hyn : σ y = none ∨ (some τ = some y) := hyd.elim (fun e => .inr (by rw [e])) (fun e => .inl e.2)
      have g2' : y ≠ m1 := hyd.elim (fun e => by rw [e]; exact q1) (fun e => e.1)
      have hy2 : y ≠ m2 := ne_of2' hy1 hS2
      have hyt : y ∉ toks ts := hyd.elim (fun e => by rw [e]; exact hτt) (fun e h => by rw [hR.ats y h] at e; cases e.2)
      have hx0 : x ≠ ρ := ne_of2' hx hρ
      have hx2 : x ≠ m2 := ne_of2' hx hm2
      have hxτ : x ≠ τ := ne_of2' hx hτ
      have hxτ0 : x ≠ τ0 := ne_of2' hx hτ0
      have hyτ0 : y ≠ τ0 := fun e => hyt (e ▸ get_mem hg)
      have hnext : nextL w (bs l) ts = l0 ++ [bs l] := by unfold nextL; rw [hg]
      refine ⟨_, .refl _, reg_new (x := x) (y := y) pv hpl.1 hR ?_ ?_ ?_ ?_ hx ?_ hyt hyn ?_ ?_⟩
      · (simp (disch := first | assumption | (apply Go.Cert.ne_of2; assumption; assumption) | (apply Go.Cert.ne_ob; assumption; assumption; (intro e; cases e; done)) | omega) only [Sg.set_same, Sg.set_ne, Sg.set_ne', Sg.del_ne, Sg.del_ne']); rw [VT, ← pairsA_app]; rfl
      · (simp (disch := first | assumption | (apply Go.Cert.ne_of2; assumption; assumption) | (apply Go.Cert.ne_ob; assumption; assumption; (intro e; cases e; done)) | omega) only [Sg.set_same, Sg.set_ne, Sg.set_ne', Sg.del_ne, Sg.del_ne'])
      · rw [hnext]; (simp (disch := first | assumption | (apply Go.Cert.ne_of2; assumption; assumption) | (apply Go.Cert.ne_ob; assumption; assumption; (intro e; cases e; done)) | omega) only [Sg.set_same, Sg.set_ne, Sg.set_ne', Sg.del_ne, Sg.del_ne'])
      · (simp (disch := first | assumption | (apply Go.Cert.ne_of2; assumption; assumption) | (apply Go.Cert.ne_ob; assumption; assumption; (intro e; cases e; done)) | omega) only [Sg.set_same, Sg.set_ne, Sg.set_ne', Sg.del_ne, Sg.del_ne'])
      · (simp (disch := first | assumption | (apply Go.Cert.ne_of2; assumption; assumption) | (apply Go.Cert.ne_ob; assumption; assumption; (intro e; cases e; done)) | omega) only [Sg.set_same, Sg.set_ne, Sg.set_ne', Sg.del_ne, Sg.del_ne'])
      · intro t ht hl0
        have e0 : t ≠ ρ := ne_ob (hR.ats t ht) hρ (fun e => by cases e)
        have e1 : t ≠ m1 := ne_ob (hR.ats t ht) hm (fun e => by cases e)
        have e2 : t ≠ m2 := ne_ob (hR.ats t ht) hm2 (fun e => by cases e)
        have e3 : t ≠ x := ne_of (hR.ats t ht) hx
        have e4 : t ≠ y := fun e => hyt (e ▸ ht)
        have e5 : t ≠ τ := fun e => hτt (e ▸ ht)
        have e6 : t ≠ τ0 := fun e => hl0 l0 (by rw [hg, e])
        (simp (disch := first | assumption | (apply Go.Cert.ne_of2; assumption; assumption) | (apply Go.Cert.ne_ob; assumption; assumption; (intro e; cases e; done)) | omega) only [Sg.set_same, Sg.set_ne, Sg.set_ne', Sg.del_ne, Sg.del_ne'])
      · intro β hβ hb
        obtain ⟨e0, e1, e2, e3, e4⟩ := own_out hR hβ
        have e5 : β ≠ x := fun e => hb (by rw [e]; exact hx)
        have e7 := e3 τ rfl
        have e6 : β ≠ y := fun e => hyd.elim (fun e' => e7 (e.trans e')) (fun e' => hb (by rw [e]; exact e'.2))
        have e8 := e4 τ0 l0 w hg
        (simp (disch := first | assumption | (apply Go.Cert.ne_of2; assumption; assumption) | (apply Go.Cert.ne_ob; assumption; assumption; (intro e; cases e; done)) | omega) only [Sg.set_same, Sg.set_ne, Sg.set_ne', Sg.del_ne, Sg.del_ne'])
end Go.Proofs.Ytkbfngepdgdecaa

set_option linter.unusedSimpArgs false
set_option linter.unusedVariables false
namespace Go.Cert
open Go.V
theorem S6 {s : Sg} {ρ x : Nat} {c o2 : Ob} (hx : x ≠ ρ) : ((s.set ρ c).set x o2) ρ = some c := by rw [Sg.set_other _ _ (Ne.symm hx), Sg.set_same]
theorem S7 {s : Sg} {ρ x : Nat} {c c' o2 : Ob} (hx : x ≠ ρ) : ((s.set ρ c').set x o2).sub (((s.set ρ c).set x o2).set ρ c') := by
  intro β v h
  unfold Sg.set at *
  by_cases h1 : β = ρ
  · subst h1
    simpa [Ne.symm hx] using h
  · simpa [h1] using h
end Go.Cert
namespace Go.Proofs.Ytkbfngepdgdecaa
open Go Go.V Go.Cert
set_option maxHeartbeats 1000000 in
set_option maxRecDepth 100000 in
theorem t32n (s : Sg) (ρ : Nat) (k' : Own) (w : Int) (l : List UInt8) (hs : signOK w l) (hρ : s ρ = none) :
    VCalls Try.prog 32 [.ref ρ 0, .i w, .sl k' (bytesL l)] (s.set ρ (.cells 97 [.sl .nil []])) (fun x σ' => x = .i 0 ∧ ∃ τ', s τ' = none ∧ τ' ≠ ρ ∧ σ' = (s.set ρ (.cells 97 [.sl (.tok τ' 2) (pairsA [(w, l)])])).set τ' (.tok (some 100))) := by
  obtain ⟨hs1, hs2, hs3⟩ := hs
  have h56 := t56 ρ [] .nil k' w l (s.set ρ (.cells 97 [.sl .nil []])) (by simp) (Sg.set_same _ _ _)
  have hat : (s.set ρ (.cells 97 [.sl .nil []])) ρ = some (.cells 97 [.sl .nil []]) := Sg.set_same _ _ _
  (refine vfun (fun _ => .no) mixed Try.func32 (by kernel_rfl) ?_; simp only [bodyOf, Try.f32, Option.getD_some])
  repeat' (first | with_reducible rfl | exact .inr trivial | with_reducible apply And.intro | with_reducible apply vqx_step | with_reducible apply vqm_step | with_reducible refine vkp_free (by decide +kernel) ?_ | with_reducible intro _ | ((with_reducible refine .dm (fun β => β = ρ) [(0, false), (1, false), (2, false), (3, false), (4, false), (5, false), (6, false), (7, false), (8, false), (9, false), (10, true), (11, true), (12, false), (13, true)] (by decide) (by decide +kernel) ?_); (simp only [vO, vQ, ↓vP, vE, vS, vB, vL, vF, vM, vN, vbs_full, Nat.reduceEqDiff, Nat.reduceAdd, Nat.reduceLeDiff, ne_eq, not_false_eq_true, Nat.reduceMul, Nat.reduceSub, Int.toNat_zero, Int.reduceToNat, Try.underlying3, info3, Try.underlying34, info34, Try.underlying9, info9, Try.underlying5, info5, Try.underlying35, info35, Try.underlying95, info95, Try.underlying96, Try.underlying97, info97, Try.underlying99, Try.underlying100, info100, pairsA_len, pairsA_all, nadd, nadd1, nadd2, nadd3, n1add, n2add, vT])) | ((first | (with_reducible first | refine .rs ?_ | refine .ds (by kernel_rfl) ?_ | refine .dg (by kernel_rfl) ?_ | refine .rg ?_ | refine .ite ?_ | refine .ret ?_ | refine .skip ?_ | refine .exit ?_ | refine .scope ?_ | refine .seq (.label ?_) | refine .block ?_ | refine .seq ?_)); (try simp only [vO, vQ, ↓vP, vE, vS, vB, vL, vF, vM, vN, vbs_full, Nat.reduceEqDiff, Nat.reduceAdd, Nat.reduceLeDiff, ne_eq, not_false_eq_true, Nat.reduceMul, Nat.reduceSub, Int.toNat_zero, Int.reduceToNat, Try.underlying3, info3, Try.underlying34, info34, Try.underlying9, info9, Try.underlying5, info5, Try.underlying35, info35, Try.underlying95, info95, Try.underlying96, Try.underlying97, info97, Try.underlying99, Try.underlying100, info100, pairsA_len, pairsA_all, nadd, nadd1, nadd2, nadd3, n1add, n2add, vT])) | ((simp (disch := first | assumption | omega) only [w64, w8, tg_eq, n1, n2, nn, Int.tdiv_eq_ediv_of_nonneg, Sg.set_same, Sg.set_ne, Sg.set_ne', Sg.del_ne, Sg.del_ne']); (try simp only [vO, vQ, ↓vP, vE, vS, vB, vL, vF, vM, vN, vbs_full, Nat.reduceEqDiff, Nat.reduceAdd, Nat.reduceLeDiff, ne_eq, not_false_eq_true, Nat.reduceMul, Nat.reduceSub, Int.toNat_zero, Int.reduceToNat, Try.underlying3, info3, Try.underlying34, info34, Try.underlying9, info9, Try.underlying5, info5, Try.underlying35, info35, Try.underlying95, info95, Try.underlying96, Try.underlying97, info97, Try.underlying99, Try.underlying100, info100, pairsA_len, pairsA_all, nadd, nadd1, nadd2, nadd3, n1add, n2add, vT])) | ((((with_reducible refine h56.mono ?_); rintro _ σ' ⟨rfl, rfl⟩)); (try simp only [vO, vQ, ↓vP, vE, vS, vB, vL, vF, vM, vN, vbs_full, Nat.reduceEqDiff, Nat.reduceAdd, Nat.reduceLeDiff, ne_eq, not_false_eq_true, Nat.reduceMul, Nat.reduceSub, Int.toNat_zero, Int.reduceToNat, Try.underlying3, info3, Try.underlying34, info34, Try.underlying9, info9, Try.underlying5, info5, Try.underlying35, info35, Try.underlying95, info95, Try.underlying96, Try.underlying97, info97, Try.underlying99, Try.underlying100, info100, pairsA_len, pairsA_all, nadd, nadd1, nadd2, nadd3, n1add, n2add, vT])) | ((with_reducible refine ⟨bs l, (bs_bytesAV l).symm, ?_⟩); (try simp only [vO, vQ, ↓vP, vE, vS, vB, vL, vF, vM, vN, vbs_full, Nat.reduceEqDiff, Nat.reduceAdd, Nat.reduceLeDiff, ne_eq, not_false_eq_true, Nat.reduceMul, Nat.reduceSub, Int.toNat_zero, Int.reduceToNat, Try.underlying3, info3, Try.underlying34, info34, Try.underlying9, info9, Try.underlying5, info5, Try.underlying35, info35, Try.underlying95, info95, Try.underlying96, Try.underlying97, info97, Try.underlying99, Try.underlying100, info100, pairsA_len, pairsA_all, nadd, nadd1, nadd2, nadd3, n1add, n2add, vT])) | (((refine vlo_at (keepAt (by assumption) hat) ?_)); (try simp only [vO, vQ, ↓vP, vE, vS, vB, vL, vF, vM, vN, vbs_full, Nat.reduceEqDiff, Nat.reduceAdd, Nat.reduceLeDiff, ne_eq, not_false_eq_true, Nat.reduceMul, Nat.reduceSub, Int.toNat_zero, Int.reduceToNat, Try.underlying3, info3, Try.underlying34, info34, Try.underlying9, info9, Try.underlying5, info5, Try.underlying35, info35, Try.underlying95, info95, Try.underlying96, Try.underlying97, info97, Try.underlying99, Try.underlying100, info100, pairsA_len, pairsA_all, nadd, nadd1, nadd2, nadd3, n1add, n2add, vT])) | (((refine vst_at (S6 (by assumption)) ?_)); (try simp only [vO, vQ, ↓vP, vE, vS, vB, vL, vF, vM, vN, vbs_full, Nat.reduceEqDiff, Nat.reduceAdd, Nat.reduceLeDiff, ne_eq, not_false_eq_true, Nat.reduceMul, Nat.reduceSub, Int.toNat_zero, Int.reduceToNat, Try.underlying3, info3, Try.underlying34, info34, Try.underlying9, info9, Try.underlying5, info5, Try.underlying35, info35, Try.underlying95, info95, Try.underlying96, Try.underlying97, info97, Try.underlying99, Try.underlying100, info100, pairsA_len, pairsA_all, nadd, nadd1, nadd2, nadd3, n1add, n2add, vT])) | ((with_reducible refine vkp_free (by decide +kernel) ?_); (try simp only [vO, vQ, ↓vP, vE, vS, vB, vL, vF, vM, vN, vbs_full, Nat.reduceEqDiff, Nat.reduceAdd, Nat.reduceLeDiff, ne_eq, not_false_eq_true, Nat.reduceMul, Nat.reduceSub, Int.toNat_zero, Int.reduceToNat, Try.underlying3, info3, Try.underlying34, info34, Try.underlying9, info9, Try.underlying5, info5, Try.underlying35, info35, Try.underlying95, info95, Try.underlying96, Try.underlying97, info97, Try.underlying99, Try.underlying100, info100, pairsA_len, pairsA_all, nadd, nadd1, nadd2, nadd3, n1add, n2add, vT])) | (((refine vkp_keep (by intro β h; subst h; first | rfl | simp (disch := first | assumption | omega) only [Sg.set_ne, Sg.set_ne', Sg.del_ne, Sg.del_ne']) ?_)); (try simp only [vO, vQ, ↓vP, vE, vS, vB, vL, vF, vM, vN, vbs_full, Nat.reduceEqDiff, Nat.reduceAdd, Nat.reduceLeDiff, ne_eq, not_false_eq_true, Nat.reduceMul, Nat.reduceSub, Int.toNat_zero, Int.reduceToNat, Try.underlying3, info3, Try.underlying34, info34, Try.underlying9, info9, Try.underlying5, info5, Try.underlying35, info35, Try.underlying95, info95, Try.underlying96, Try.underlying97, info97, Try.underlying99, Try.underlying100, info100, pairsA_len, pairsA_all, nadd, nadd1, nadd2, nadd3, n1add, n2add, vT])) | with_reducible refine vfresh_set ?_ | with_reducible refine vfresh_intro (fun _ _ => ?_) | with_reducible refine vif_intro (fun _ => ?_) (fun _ => ?_) | omega | ((with_reducible first | refine vop_at ?_ | refine vops_at ?_ | refine vquiet_at ?_ | refine vmix_at ?_ | refine Holds_at ?_); simp only [vO, vQ, ↓vP, vE, vS, vB, vL, vF, vM, vN, vbs_full, Nat.reduceEqDiff, Nat.reduceAdd, Nat.reduceLeDiff, ne_eq, not_false_eq_true, Nat.reduceMul, Nat.reduceSub, Int.toNat_zero, Int.reduceToNat, Try.underlying3, info3, Try.underlying34, info34, Try.underlying9, info9, Try.underlying5, info5, Try.underlying35, info35, Try.underlying95, info95, Try.underlying96, Try.underlying97, info97, Try.underlying99, Try.underlying100, info100, pairsA_len, pairsA_all, nadd, nadd1, nadd2, nadd3, n1add, n2add, vT]))
  · exact absurd ‹(w, l) ∈ []› (List.not_mem_nil)
  · rename_i x hx hxρ
    exact ⟨_, S7 hxρ, x, hx, hxρ, rfl⟩
end Go.Proofs.Ytkbfngepdgdecaa

set_option linter.unusedSimpArgs false
set_option linter.unusedVariables false
namespace Go.Proofs.Ytkbfngepdgdecaa
open Go Go.V Go.Cert
instance (w : Int) (l : List UInt8) : Decidable (signOK w l) := by unfold signOK; infer_instance
/-- What signing comes to: nothing, where it may not be. -/
def addS (ps : Ps) (w : Int) (l : List UInt8) : Ps := if signOK w l then add ps w l else ps
def RegA (σ : Sg) (ρ : Nat) (own : List Nat) (ps : Ps) : Prop := ∃ m1 m2 pv tv ts, Reg σ ρ own ps m1 m2 pv tv ts
theorem onlyR (own : List Nat) (σ : Sg) : Only own own σ σ := ⟨fun _ _ _ => rfl, fun _ h => .inl h⟩
theorem addS_len (ps : Ps) (w : Int) (l : List UInt8) : (addS ps w l).length ≤ ps.length + 1 := by
  unfold addS add
  split
  · split <;> simp
  · omega
set_option maxHeartbeats 1000000 in
set_option maxRecDepth 100000 in
theorem t19 (ρ : Nat) (own : List Nat) (ps : Ps) (k : Own) (w : Int) (l : List UInt8) (σ : Sg) (hR : RegA σ ρ own ps) (hlen : ps.length ≤ 2 ^ 32) : VCalls Try.prog 19 [.ref ρ 0, .i w, .sl k (bytesL l)] σ (fun x σ' => ∃ own', RegA σ' ρ own' (addS ps w l) ∧ Only own own' σ σ') := by
  obtain ⟨m1, m2, pv, tv, ts, hR⟩ := hR
  by_cases hs : signOK w l
  · obtain ⟨hs1, hs2, hs3⟩ := id hs
    have h42 : VCalls Try.prog 42 [.ref ρ 0, .agg [.i w, .s (bs l)]] σ (fun x σ' => ∃ own', RegA σ' ρ own' (addS ps w l) ∧ Only own own' σ σ') := by
      rw [addS, if_pos hs, add]
      by_cases hy : (w, l) ∈ ps
      · rw [if_pos hy]
        exact (t42y ρ m1 m2 _ ps w l σ hR.at0 hR.at1 hy).mono fun x σ' h => ⟨own, by rw [h]; exact ⟨_, _, _, _, _, hR⟩, by rw [h]; exact onlyR _ _⟩
      · rw [if_neg hy]
        exact (t42n ρ m1 m2 tv pv own ts ps w l σ hR hy hlen).mono fun x σ' h => by
          obtain ⟨own', pv', tv', ts', h1, h2⟩ := h
          exact ⟨own', ⟨_, _, _, _, _, h1⟩, h2⟩
    (refine vfun (fun _ => .no) mixed Try.func19 (by kernel_rfl) ?_; simp only [bodyOf, Try.f19, Option.getD_some])
    repeat' (first | with_reducible rfl | exact .inr trivial | with_reducible apply And.intro | with_reducible apply vqx_step | with_reducible apply vqm_step | with_reducible refine vkp_free (by decide +kernel) ?_ | with_reducible intro _ | ((first | (with_reducible first | refine .rs ?_ | refine .ds (by kernel_rfl) ?_ | refine .dg (by kernel_rfl) ?_ | refine .rg ?_ | refine .ite ?_ | refine .ret ?_ | refine .skip ?_ | refine .exit ?_ | refine .scope ?_ | refine .seq (.label ?_) | refine .block ?_ | refine .seq ?_)); (try simp only [vO, vQ, ↓vP, vE, vS, vB, vL, vF, vM, vN, vbs_full, Nat.reduceEqDiff, Nat.reduceAdd, Nat.reduceLeDiff, ne_eq, not_false_eq_true, Nat.reduceMul, Nat.reduceSub, Int.toNat_zero, Int.reduceToNat, Try.underlying3, info3, Try.underlying34, info34, Try.underlying9, info9, Try.underlying5, info5, Try.underlying35, info35, Try.underlying77, info77, bytesL_len, vT])) | ((simp (disch := first | assumption | (apply Go.Cert.ne_of2; assumption; assumption) | (apply Go.Cert.ne_ob; assumption; assumption; (intro e; cases e; done)) | omega) only [w64, w8, tg_eq, Go.V.n1, Go.V.n2, Go.V.nn, Int.tdiv_eq_ediv_of_nonneg, Sg.set_same, Sg.set_ne, Sg.set_ne', Sg.del_ne, Sg.del_ne']); (try simp only [vO, vQ, ↓vP, vE, vS, vB, vL, vF, vM, vN, vbs_full, Nat.reduceEqDiff, Nat.reduceAdd, Nat.reduceLeDiff, ne_eq, not_false_eq_true, Nat.reduceMul, Nat.reduceSub, Int.toNat_zero, Int.reduceToNat, Try.underlying3, info3, Try.underlying34, info34, Try.underlying9, info9, Try.underlying5, info5, Try.underlying35, info35, Try.underlying77, info77, bytesL_len, vT])) | ((with_reducible refine ⟨bs l, (bs_bytesAV l).symm, ?_⟩); (try simp only [vO, vQ, ↓vP, vE, vS, vB, vL, vF, vM, vN, vbs_full, Nat.reduceEqDiff, Nat.reduceAdd, Nat.reduceLeDiff, ne_eq, not_false_eq_true, Nat.reduceMul, Nat.reduceSub, Int.toNat_zero, Int.reduceToNat, Try.underlying3, info3, Try.underlying34, info34, Try.underlying9, info9, Try.underlying5, info5, Try.underlying35, info35, Try.underlying77, info77, bytesL_len, vT])) | ((((with_reducible refine h42.mono ?_); rintro _ σ' hx)); (try simp only [vO, vQ, ↓vP, vE, vS, vB, vL, vF, vM, vN, vbs_full, Nat.reduceEqDiff, Nat.reduceAdd, Nat.reduceLeDiff, ne_eq, not_false_eq_true, Nat.reduceMul, Nat.reduceSub, Int.toNat_zero, Int.reduceToNat, Try.underlying3, info3, Try.underlying34, info34, Try.underlying9, info9, Try.underlying5, info5, Try.underlying35, info35, Try.underlying77, info77, bytesL_len, vT])) | with_reducible refine vfresh_set ?_ | with_reducible refine vfresh_intro (fun _ _ => ?_) | with_reducible refine vif_intro (fun _ => ?_) (fun _ => ?_) | omega | ((with_reducible first | refine vop_at ?_ | refine vops_at ?_ | refine vquiet_at ?_ | refine vmix_at ?_ | refine Holds_at ?_); simp only [vO, vQ, ↓vP, vE, vS, vB, vL, vF, vM, vN, vbs_full, Nat.reduceEqDiff, Nat.reduceAdd, Nat.reduceLeDiff, ne_eq, not_false_eq_true, Nat.reduceMul, Nat.reduceSub, Int.toNat_zero, Int.reduceToNat, Try.underlying3, info3, Try.underlying34, info34, Try.underlying9, info9, Try.underlying5, info5, Try.underlying35, info35, Try.underlying77, info77, bytesL_len, vT]))
    all_goals exact ⟨_, .refl _, hx⟩
  · have hn : addS ps w l = ps := if_neg hs
    rw [hn]
    (refine vfun (fun _ => .no) mixed Try.func19 (by kernel_rfl) ?_; simp only [bodyOf, Try.f19, Option.getD_some])
    repeat' (first | with_reducible rfl | exact .inr trivial | with_reducible apply And.intro | with_reducible apply vqx_step | with_reducible apply vqm_step | with_reducible refine vkp_free (by decide +kernel) ?_ | with_reducible intro _ | ((first | (with_reducible first | refine .rs ?_ | refine .ds (by kernel_rfl) ?_ | refine .dg (by kernel_rfl) ?_ | refine .rg ?_ | refine .ite ?_ | refine .ret ?_ | refine .skip ?_ | refine .exit ?_ | refine .scope ?_ | refine .seq (.label ?_) | refine .block ?_ | refine .seq ?_)); (try simp only [vO, vQ, ↓vP, vE, vS, vB, vL, vF, vM, vN, vbs_full, Nat.reduceEqDiff, Nat.reduceAdd, Nat.reduceLeDiff, ne_eq, not_false_eq_true, Nat.reduceMul, Nat.reduceSub, Int.toNat_zero, Int.reduceToNat, Try.underlying3, info3, Try.underlying34, info34, Try.underlying9, info9, Try.underlying5, info5, Try.underlying35, info35, Try.underlying77, info77, bytesL_len, vT])) | ((simp (disch := first | assumption | (apply Go.Cert.ne_of2; assumption; assumption) | (apply Go.Cert.ne_ob; assumption; assumption; (intro e; cases e; done)) | omega) only [w64, w8, tg_eq, Go.V.n1, Go.V.n2, Go.V.nn, Int.tdiv_eq_ediv_of_nonneg, Sg.set_same, Sg.set_ne, Sg.set_ne', Sg.del_ne, Sg.del_ne']); (try simp only [vO, vQ, ↓vP, vE, vS, vB, vL, vF, vM, vN, vbs_full, Nat.reduceEqDiff, Nat.reduceAdd, Nat.reduceLeDiff, ne_eq, not_false_eq_true, Nat.reduceMul, Nat.reduceSub, Int.toNat_zero, Int.reduceToNat, Try.underlying3, info3, Try.underlying34, info34, Try.underlying9, info9, Try.underlying5, info5, Try.underlying35, info35, Try.underlying77, info77, bytesL_len, vT])) | ((with_reducible refine ⟨bs l, (bs_bytesAV l).symm, ?_⟩); (try simp only [vO, vQ, ↓vP, vE, vS, vB, vL, vF, vM, vN, vbs_full, Nat.reduceEqDiff, Nat.reduceAdd, Nat.reduceLeDiff, ne_eq, not_false_eq_true, Nat.reduceMul, Nat.reduceSub, Int.toNat_zero, Int.reduceToNat, Try.underlying3, info3, Try.underlying34, info34, Try.underlying9, info9, Try.underlying5, info5, Try.underlying35, info35, Try.underlying77, info77, bytesL_len, vT])) | with_reducible refine vfresh_set ?_ | with_reducible refine vfresh_intro (fun _ _ => ?_) | with_reducible refine vif_intro (fun _ => ?_) (fun _ => ?_) | omega | ((with_reducible first | refine vop_at ?_ | refine vops_at ?_ | refine vquiet_at ?_ | refine vmix_at ?_ | refine Holds_at ?_); simp only [vO, vQ, ↓vP, vE, vS, vB, vL, vF, vM, vN, vbs_full, Nat.reduceEqDiff, Nat.reduceAdd, Nat.reduceLeDiff, ne_eq, not_false_eq_true, Nat.reduceMul, Nat.reduceSub, Int.toNat_zero, Int.reduceToNat, Try.underlying3, info3, Try.underlying34, info34, Try.underlying9, info9, Try.underlying5, info5, Try.underlying35, info35, Try.underlying77, info77, bytesL_len, vT]))
    all_goals first | exact ⟨_, .refl _, own, ⟨_, _, _, _, _, hR⟩, onlyR _ _⟩ | (exfalso; exact hs ⟨by omega, by omega, by omega⟩)
/-- The reference's registry. -/
structure RegB (σ : Sg) (ρ : Nat) (own : List Nat) (ps : Ps) (tv : Option Nat) : Prop where
  own_eq : own = ρ :: tv.toList
  at0 : σ ρ = some (.cells 97 [match tv with | none => .sl .nil [] | some τ => .sl (.tok τ 2) (pairsA ps)])
  atv : ∀ τ, tv = some τ → σ τ = some (.tok (some 100))
  emp : tv = none → ps = []
def RegC (σ : Sg) (ρ : Nat) (own : List Nat) (ps : Ps) : Prop := ∃ tv, RegB σ ρ own ps tv
theorem RegC.at (σ : Sg) (ρ : Nat) (own : List Nat) (ps : Ps) (h : RegC σ ρ own ps) : ∃ k, σ ρ = some (.cells 97 [.sl k (pairsA ps)]) := by
  obtain ⟨tv, h⟩ := h
  cases tv with
  | none => rw [h.emp rfl]; exact ⟨.nil, h.at0⟩
  | some τ => exact ⟨_, h.at0⟩
theorem back2 {σ : Sg} {ρ τ : Nat} {a b : Ob} (hρ : σ ρ = some a) (hτ : σ τ = some b) (hn : τ ≠ ρ) : ((((σ.del ρ).del τ).set ρ a).set τ b) = σ := by
  funext x
  unfold Sg.set Sg.del
  by_cases h1 : x = τ
  · rw [if_pos h1, h1, hτ]
  · rw [if_neg h1]
    by_cases h2 : x = ρ
    · rw [if_pos h2, h2, hρ]
    · rw [if_neg h2, if_neg h1, if_neg h2]
theorem back1 {σ : Sg} {ρ : Nat} {a : Ob} (hρ : σ ρ = some a) : ((σ.del ρ).set ρ a) = σ := by
  funext x
  unfold Sg.set Sg.del
  by_cases h2 : x = ρ
  · rw [if_pos h2, h2, hρ]
  · rw [if_neg h2, if_neg h2]
set_option maxHeartbeats 1000000 in
set_option maxRecDepth 100000 in
theorem t32r (ρ : Nat) (k : Own) (w : Int) (l : List UInt8) (σ : Sg) (hs : ¬ signOK w l) : VCalls Try.prog 32 [.ref ρ 0, .i w, .sl k (bytesL l)] σ (fun x σ' => σ' = σ) := by
  (refine vfun (fun _ => .no) mixed Try.func32 (by kernel_rfl) ?_; simp only [bodyOf, Try.f32, Option.getD_some])
  repeat' (first | with_reducible rfl | exact .inr trivial | with_reducible apply And.intro | with_reducible apply vqx_step | with_reducible apply vqm_step | with_reducible refine vkp_free (by decide +kernel) ?_ | with_reducible intro _ | ((first | (with_reducible first | refine .rs ?_ | refine .ds (by kernel_rfl) ?_ | refine .dg (by kernel_rfl) ?_ | refine .rg ?_ | refine .ite ?_ | refine .ret ?_ | refine .skip ?_ | refine .exit ?_ | refine .scope ?_ | refine .seq (.label ?_) | refine .block ?_ | refine .seq ?_)); (try simp only [vO, vQ, ↓vP, vE, vS, vB, vL, vF, vM, vN, vbs_full, Nat.reduceEqDiff, Nat.reduceAdd, Nat.reduceLeDiff, ne_eq, not_false_eq_true, Nat.reduceMul, Nat.reduceSub, Int.toNat_zero, Int.reduceToNat, Try.underlying3, info3, Try.underlying34, info34, Try.underlying9, info9, Try.underlying5, info5, Try.underlying35, info35, Try.underlying77, info77, bytesL_len, vT])) | ((simp (disch := first | assumption | (apply Go.Cert.ne_of2; assumption; assumption) | (apply Go.Cert.ne_ob; assumption; assumption; (intro e; cases e; done)) | omega) only [w64, w8, tg_eq, Go.V.n1, Go.V.n2, Go.V.nn, Int.tdiv_eq_ediv_of_nonneg, Sg.set_same, Sg.set_ne, Sg.set_ne', Sg.del_ne, Sg.del_ne']); (try simp only [vO, vQ, ↓vP, vE, vS, vB, vL, vF, vM, vN, vbs_full, Nat.reduceEqDiff, Nat.reduceAdd, Nat.reduceLeDiff, ne_eq, not_false_eq_true, Nat.reduceMul, Nat.reduceSub, Int.toNat_zero, Int.reduceToNat, Try.underlying3, info3, Try.underlying34, info34, Try.underlying9, info9, Try.underlying5, info5, Try.underlying35, info35, Try.underlying77, info77, bytesL_len, vT])) | with_reducible refine vfresh_set ?_ | with_reducible refine vfresh_intro (fun _ _ => ?_) | with_reducible refine vif_intro (fun _ => ?_) (fun _ => ?_) | omega | ((with_reducible first | refine vop_at ?_ | refine vops_at ?_ | refine vquiet_at ?_ | refine vmix_at ?_ | refine Holds_at ?_); simp only [vO, vQ, ↓vP, vE, vS, vB, vL, vF, vM, vN, vbs_full, Nat.reduceEqDiff, Nat.reduceAdd, Nat.reduceLeDiff, ne_eq, not_false_eq_true, Nat.reduceMul, Nat.reduceSub, Int.toNat_zero, Int.reduceToNat, Try.underlying3, info3, Try.underlying34, info34, Try.underlying9, info9, Try.underlying5, info5, Try.underlying35, info35, Try.underlying77, info77, bytesL_len, vT]))
  all_goals first | exact ⟨_, .refl _, rfl⟩ | (exfalso; exact hs ⟨by omega, by omega, by omega⟩)
theorem t32c (ρ : Nat) (own : List Nat) (ps : Ps) (k : Own) (w : Int) (l : List UInt8) (σ : Sg) (hR : RegC σ ρ own ps) (hlen : ps.length ≤ 2 ^ 32) : VCalls Try.prog 32 [.ref ρ 0, .i w, .sl k (bytesL l)] σ (fun x σ' => ∃ own', RegC σ' ρ own' (addS ps w l) ∧ Only own own' σ σ') := by
  obtain ⟨tv, hR⟩ := hR
  by_cases hs : signOK w l
  · rw [addS, if_pos hs]
    cases tv with
    | none =>
      have h := t32n (σ.del ρ) ρ k w l hs (if_pos rfl)
      have hat := hR.at0
      simp only at hat
      rw [back1 hat] at h
      refine h.mono fun x σ' hx => ?_
      obtain ⟨_, τ', h1, h2, rfl⟩ := hx
      have h1' : σ τ' = none := by unfold Sg.del at h1; rwa [if_neg h2] at h1
      have hps := hR.emp rfl
      subst hps
      refine ⟨[ρ, τ'], ⟨some τ', rfl, ?_, ?_, fun e => by cases e⟩, ?_, ?_⟩
      · rw [Sg.set_other _ _ (Ne.symm h2), Sg.set_same]
        rfl
      · intro τ e; cases e; rw [Sg.set_same]
      · intro β hβ hb
        rw [hR.own_eq] at hβ
        have e1 : β ≠ ρ := by simpa using hβ
        have e2 : β ≠ τ' := fun e => hb (by rw [e]; exact h1')
        rw [Sg.set_other _ _ e2, Sg.set_other _ _ e1]
        exact if_neg e1
      · intro β hβ
        rw [hR.own_eq]
        rcases List.mem_cons.1 hβ with rfl | hβ
        · exact .inl (by simp)
        · have : β = τ' := by simpa using hβ
          exact .inr (by rw [this]; exact h1')
    | some τ =>
      have hτ := hR.atv τ rfl
      have hat := hR.at0
      simp only at hat
      have hn : τ ≠ ρ := ne_ob hτ hat (fun e => by cases e)
      have h := t32 ((σ.del ρ).del τ) ρ τ ps k w l hlen hs (by unfold Sg.del; simp) (by unfold Sg.del; simp) hn
      rw [back2 hat hτ hn] at h
      refine h.mono fun x σ' hx => ?_
      obtain ⟨_, τ', h1, h2, rfl⟩ := hx
      have h1' : τ' = τ ∨ σ τ' = none := by
        unfold Sg.del at h1
        by_cases e : τ' = τ
        · exact .inl e
        · rw [if_neg e, if_neg h2] at h1; exact .inr h1
      refine ⟨[ρ, τ'], ⟨some τ', rfl, ?_, ?_, fun e => by cases e⟩, ?_, ?_⟩
      · rw [Sg.set_other _ _ (Ne.symm h2), Sg.set_same]
      · intro τ e; cases e; rw [Sg.set_same]
      · intro β hβ hb
        rw [hR.own_eq] at hβ
        have e1 : β ≠ ρ ∧ β ≠ τ := by simpa using hβ
        have e2 : β ≠ τ' := fun e => h1'.elim (fun h => e1.2 (e.trans h)) (fun h => hb (by rw [e]; exact h))
        rw [Sg.set_other _ _ e2, Sg.set_other _ _ e1.1]
        unfold Sg.del
        rw [if_neg e1.2, if_neg e1.1]
      · intro β hβ
        rw [hR.own_eq]
        rcases List.mem_cons.1 hβ with rfl | hβ
        · exact .inl (by simp)
        · have : β = τ' := by simpa using hβ
          rcases h1' with h | h
          · exact .inl (by rw [this, h]; simp)
          · exact .inr (by rw [this]; exact h)
  · rw [addS, if_neg hs]
    exact (t32r ρ k w l σ hs).mono fun x σ' h => ⟨own, by rw [h]; exact ⟨tv, hR⟩, by rw [h]; exact onlyR _ _⟩
end Go.Proofs.Ytkbfngepdgdecaa
