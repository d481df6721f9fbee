/- Part 4 of the proof: V15, L1, L3, V19, V22. -/
import Derived.Test.YtjdapkelojdefaaGreatDoorN3

set_option linter.all false
namespace Go.V
open Go.RowKit
variable {P : Program} {H : Nat → Hint} {ops : Array Oper} {M : Sg → Sg → Prop} {ρ : Nat → AV} {σ : Sg}
def mfree (md : Region.Mode) (ops : Array Oper) (all : List (Nat × Bool)) (i : Nat) : Bool :=
  all.all fun p => p.2 || (match ops[i]? with | some o => o.after.toList.any fun e => Region.binds md e && e.on == p.1 | none => false)
def QS (P : Program) (H : Nat → Hint) (ops : Array Oper) (M : Sg → Sg → Prop) (σ : Sg) (o : Oper) (x : AV) (ρ : Nat → AV) : Prop := ∀ σ', M σ σ' → YV P H ops σ' o x ρ
def mOp (P : Program) (H : Nat → Hint) (md : Region.Mode) (ops : Array Oper) (M : Sg → Sg → Prop) (all : List (Nat × Bool)) (i : Nat) (Q : (Nat → AV) → Sg → Prop) (ρ : Nat → AV) (σ : Sg) : Prop :=
  match ops[i]? with
  | none => Q ρ σ
  | some o => (∃ x, QS P H ops M σ o x ρ ∧ Q (updo ρ o.dst x) σ) ∨
    (Q8c ops o.guard ρ = some true ∧ ∃ O : AV → Sg → Prop, vop P (H (o.dst.getD 0)) ρ o.type o.op σ O ∧ ∀ y σ', O y σ' → (mfree md ops all i = false → M σ σ') ∧ Q (updo ρ o.dst y) σ')
theorem mOp_mono {md : Region.Mode} {all : List (Nat × Bool)} {i : Nat} {Q Q' : (Nat → AV) → Sg → Prop} (h : ∀ ρ σ, Q ρ σ → Q' ρ σ) (hh : mOp P H md ops M all i Q ρ σ) : mOp P H md ops M all i Q' ρ σ := by
  unfold mOp at *
  split
  · rename_i ho; rw [ho] at hh; exact h _ _ hh
  · rename_i o ho
    rw [ho] at hh
    rcases hh with ⟨x, h1, h2⟩ | ⟨h0, O, h1, h2⟩
    · exact .inl ⟨x, h1, h _ _ h2⟩
    · exact .inr ⟨h0, O, h1, fun y σ' hy => ⟨(h2 y σ' hy).1, h _ _ (h2 y σ' hy).2⟩⟩
def mAny (P : Program) (H : Nat → Hint) (md : Region.Mode) (ops : Array Oper) (M : Sg → Sg → Prop) (all : List (Nat × Bool)) (Q : (Nat → AV) → Sg → Prop) : Nat → Array Bool → (Nat → AV) → Sg → Prop
  | 0, listed, ρ, σ => Region.ready md ops listed = [] ∧ Q ρ σ
  | fuel + 1, listed, ρ, σ => (Region.ready md ops listed = [] → Q ρ σ) ∧ ∀ i ∈ Region.ready md ops listed, mOp P H md ops M all i (mAny P H md ops M all Q fuel (listed.setIfInBounds i true)) ρ σ
theorem vwants_agree {o : Oper} {ρ' : Nat → AV} (h : ∀ t ∈ o.looksAt ops, ρ t = ρ' t) : Q8c ops o.guard ρ = Q8c ops o.guard ρ' := by
  unfold Q8c
  cases hg : o.guard with
  | none => rfl
  | some jw =>
    obtain ⟨j, want⟩ := jw
    simp only
    cases hs : (ops[j]?).bind (·.dst) with
    | none => rfl
    | some s =>
      simp only
      rw [h s (by unfold Oper.looksAt; rw [hg]; simp [hs])]
theorem ops_agree {o : Oper} {ρ' : Nat → AV} (h : ∀ t ∈ o.looksAt ops, ρ t = ρ' t) : ∀ x ∈ o.op.operands, ev ρ x = ev ρ' x := fun x hx => ev_congr (fun t ht => h t (by
  unfold Oper.looksAt
  rw [List.mem_append]
  refine .inl (List.mem_filterMap.2 ⟨x, Array.mem_toList_iff.2 hx, ?_⟩)
  rw [ht]))
theorem mOp_put {md : Region.Mode} {all : List (Nat × Bool)} (ht : ∀ a b c, M a b → M b c → M a c) {i j : Nat} {oi oj : Oper} {v : AV} (hi : (i, false) ∈ all) (hj : ops[j]? = some oj) (hap : oi.apart ops oj = true)
    (hno : ∀ e ∈ oj.after, Region.binds md e = true → e.on ≠ i) {Q : (Nat → AV) → Sg → Prop}
    (hy : QS P H ops M σ oi v ρ) (h : mOp P H md ops M all j Q (updo ρ oi.dst v) σ) : mOp P H md ops M all j (fun ρ' σ' => QS P H ops M σ' oi v ρ' ∧ Q (updo ρ' oi.dst v) σ') ρ σ := by
  obtain ⟨h1, h2, h3⟩ := Oper.apart_spec hap
  have hf : mfree md ops all j = false := by
    cases hh : mfree md ops all j with
    | false => rfl
    | true =>
      unfold mfree at hh
      have := List.all_eq_true.1 hh _ hi
      rw [hj] at this
      simp only [Bool.false_or, List.any_eq_true, Bool.and_eq_true, beq_iff_eq] at this
      obtain ⟨e, he, hb, hon⟩ := this
      exact absurd hon (hno e (Array.mem_toList_iff.1 he) hb)
  unfold mOp at *
  rw [hj] at h ⊢
  rcases h with ⟨x, hx, hq⟩ | ⟨h0, O, hO, hq⟩
  · refine .inl ⟨x, fun σ' hM => (hx σ' hM).agree (fun t ht => (Q7b h1 t ht).symm), fun σ' hM => (hy σ' hM).agree (Q7b h3), ?_⟩
    rw [← X6h v x h2]
    exact hq
  · have ha : ∀ t ∈ oj.looksAt ops, updo ρ oi.dst v t = ρ t := fun t ht => (Q7b h1 t ht).symm
    refine .inr ⟨by rw [← vwants_agree ha]; exact h0, O, by rw [← vop_congr (ops_agree ha)]; exact hO, fun y σ' hy' => ?_⟩
    have hM := (hq y σ' hy').1 hf
    refine ⟨fun _ => hM, fun σ'' hM' => (hy σ'' (ht _ _ _ hM hM')).agree (Q7b h3), ?_⟩
    rw [← X6h v y h2]
    exact (hq y σ' hy').2
theorem mAny_first {md : Region.Mode} {all : List (Nat × Bool)} (ht : ∀ a b c, M a b → M b c → M a c) {Q : (Nat → AV) → Sg → Prop} {i : Nat} {oi : Oper} {v : AV} (hia : (i, false) ∈ all) (hi : ops[i]? = some oi) : ∀ (fuel : Nat) (listed : Array Bool) (ρ : Nat → AV) (σ : Sg),
      (∀ j oj, ops[j]? = some oj → j ≠ i → listed.getD j true = false → (∀ e ∈ oj.after, Region.binds md e = true → e.on ≠ i) → oi.apart ops oj = true) →
      i ∈ Region.ready md ops listed → QS P H ops M σ oi v ρ → mAny P H md ops M all Q fuel (listed.setIfInBounds i true) (updo ρ oi.dst v) σ → mAny P H md ops M all Q (fuel + 1) listed ρ σ := by
  have self : ∀ {ρ : Nat → AV} {σ : Sg} {K : (Nat → AV) → Sg → Prop}, QS P H ops M σ oi v ρ → K (updo ρ oi.dst v) σ → mOp P H md ops M all i K ρ σ := fun {ρ σ K} hy hk => by
    unfold mOp
    rw [hi]
    exact .inl ⟨v, hy, hk⟩
  intro fuel
  induction fuel with
  | zero =>
    intro listed ρ σ _ hr hy H'
    refine ⟨fun h => (by rw [h] at hr; cases hr), fun j hj => ?_⟩
    by_cases hji : j = i
    · subst hji; exact self hy H'
    · have := ready_mono hj hji
      rw [H'.1] at this
      cases this
  | succ fuel ih =>
    intro listed ρ σ hfree hr hy H'
    refine ⟨fun h => (by rw [h] at hr; cases hr), fun j hj => ?_⟩
    by_cases hji : j = i
    · subst hji; exact self hy H'
    · have h1 := H'.2 j (ready_mono hj hji)
      obtain ⟨hjun, oj, hoj, hall⟩ := mem_ready.1 hj
      have hnot : ∀ e ∈ oj.after, Region.binds md e = true → e.on ≠ i := fun e he hb heq => by
        have h1 := hall e he hb
        have h0 := (mem_ready.1 hr).1
        rw [heq] at h1
        rcases Nat.lt_or_ge i listed.size with h' | h'
        · simp [h'] at h0 h1; rw [h0] at h1; cases h1
        · simp [Array.getElem?_eq_none h'] at h1
      have h2 := mOp_put ht hia hoj (hfree j oj hoj hji hjun hnot) hnot hy h1
      have hfree' : ∀ k ok, ops[k]? = some ok → k ≠ i → (listed.setIfInBounds j true).getD k true = false →
          (∀ e ∈ ok.after, Region.binds md e = true → e.on ≠ i) → oi.apart ops ok = true := fun k ok hk hki hun hno => by
        refine hfree k ok hk hki ?_ hno
        by_cases hjk : j = k
        · subst hjk; exact hjun
        · rw [getD_set_ne true hjk] at hun; exact hun
      refine mOp_mono (fun ρ' σ' h3 => ih (listed.setIfInBounds j true) ρ' σ' hfree' (ready_mono hr (Ne.symm hji)) h3.1 ?_) h2
      rw [Array.setIfInBounds_comm _ _ hji]
      exact h3.2
def mixB (md : Region.Mode) (ops : Array Oper) : List (Nat × Bool) → Array Bool → Bool
  | [], listed => (Region.ready md ops listed).isEmpty
  | (i, e) :: r, listed => (ops[i]?).isSome && (if e then Region.ready md ops listed == [i] else (Region.ready md ops listed).contains i && Region.free md ops listed i) && mixB md ops r (listed.setIfInBounds i true)
def vqm (P : Program) (H : Hint) (M : Sg → Sg → Prop) (ρ : Nat → AV) (ty : TypeId) (o : Op) (σ : Sg) (K : AV → Prop) : Prop := ∃ x, (∀ σ', M σ σ' → vop P H ρ ty o σ' (fun y σ'' => y = x ∧ σ'' = σ')) ∧ K x
def vmx (P : Program) (H : Nat → Hint) (ops : Array Oper) (M : Sg → Sg → Prop) (o : Option Oper) (e fr : Bool) (ρ : Nat → AV) (σ : Sg) (K : (Nat → AV) → Sg → Prop) : Prop :=
  match o with
  | none => False
  | some o => if e then X1z ops o.guard ρ (fun ρ => vop P (H (o.dst.getD 0)) ρ o.type o.op σ fun y σ' => (fr = false → M σ σ') ∧ K (updo ρ o.dst y) σ') (fun ρ => K (updo ρ o.dst (.val undef)) σ)
    else X1z ops o.guard ρ (fun ρ => vqm P (H (o.dst.getD 0)) M ρ o.type o.op σ fun x => K (updo ρ o.dst x) σ) (fun ρ => K (updo ρ o.dst (.val undef)) σ)
def vmix (P : Program) (H : Nat → Hint) (ops : Array Oper) (M : Sg → Sg → Prop) (fr : Nat → Bool) (Q : (Nat → AV) → Sg → Prop) : List (Nat × Bool) → (Nat → AV) → Sg → Prop
  | [], ρ, σ => Q ρ σ
  | (i, e) :: r, ρ, σ => vmx P H ops M (ops[i]?) e (fr i) ρ σ (vmix P H ops M fr Q r)
theorem mAny_mix {md : Region.Mode} {all : List (Nat × Bool)} (ht : ∀ a b c, M a b → M b c → M a c) {Q : (Nat → AV) → Sg → Prop} : ∀ (l : List (Nat × Bool)) (listed : Array Bool) (ρ : Nat → AV) (σ : Sg), (∀ p ∈ l, p ∈ all) →
    mixB md ops l listed = true → vmix P H ops M (mfree md ops all) Q l ρ σ → mAny P H md ops M all Q l.length listed ρ σ
  | [], _, _, _, _, hB, h => ⟨by simpa [mixB] using hB, h⟩
  | (i, e) :: l, listed, ρ, σ, hl, hB, h => by
    simp only [mixB, Bool.and_eq_true] at hB
    obtain ⟨⟨hs, hr⟩, hB'⟩ := hB
    obtain ⟨o, ho⟩ := Option.isSome_iff_exists.1 hs
    unfold vmix vmx at h
    rw [ho] at h
    simp only at h
    have ih := fun ρ' σ' => mAny_mix ht (Q := Q) l (listed.setIfInBounds i true) ρ' σ' (fun p hp => hl p (List.mem_cons_of_mem _ hp)) hB'
    cases e with
    | true =>
      rw [if_pos rfl] at h hr
      have hr' : Region.ready md ops listed = [i] := by simpa using hr
      refine ⟨fun h0 => (by rw [hr'] at h0; cases h0), fun j hj => ?_⟩
      rw [hr'] at hj
      obtain rfl : j = i := by simpa using hj
      unfold mOp
      rw [ho]
      rcases X0v h with ⟨h1, h2⟩ | ⟨h1, h2⟩
      · exact .inr ⟨h1, _, h2, fun y σ' hy => ⟨hy.1, ih _ _ hy.2⟩⟩
      · exact .inl ⟨.val undef, fun _ _ => .inr ⟨h1, rfl⟩, ih _ _ h2⟩
    | false =>
      rw [if_neg (by simp)] at h hr
      simp only [Bool.and_eq_true] at hr
      obtain ⟨hr1, hf⟩ := hr
      have hk : ∃ x, QS P H ops M σ o x ρ ∧ vmix P H ops M (mfree md ops all) Q l (updo ρ o.dst x) σ := by
        rcases X0v h with ⟨h1, x, h2, h3⟩ | ⟨h1, h2⟩
        · exact ⟨x, fun σ' hM => .inl ⟨h1, h2 σ' hM⟩, h3⟩
        · exact ⟨_, fun _ _ => .inr ⟨h1, rfl⟩, h2⟩
      obtain ⟨x, hy, hK⟩ := hk
      exact mAny_first ht (hl _ (List.mem_cons_self ..)) ho l.length listed ρ σ (Region.free_spec ho hf) (by simpa using hr1) hy (ih _ _ hK)
theorem Q9e {md : Region.Mode} {all : List (Nat × Bool)} (hrf : ∀ a, M a a) {κ0 : K} {n : Nat} {Q : (Nat → AV) → Sg → Prop} {Q' : Exit → Act → World → Prop} (hQ : ∀ κ ρ σ a, Fits κ0 κ n ρ σ a → Q ρ σ → Q' .normal a κ.w) (hok : opsOK n ops = true) :
    ∀ (fuel : Nat) (listed : Array Bool) (κ : K) (ρ : Nat → AV) (σ : Sg) (a : Act), Fits κ0 κ n ρ σ a → mAny P H md ops M all Q fuel listed ρ σ → wpAny P md ops Q' fuel listed a κ.w
  | 0, _, κ, ρ, σ, a, h, hw => ⟨hw.1, hQ κ ρ σ a h hw.2⟩
  | fuel + 1, listed, κ, ρ, σ, a, h, hw => by
    refine ⟨fun h0 => hQ κ ρ σ a h (hw.1 h0), fun i hi => ?_⟩
    have := hw.2 i hi
    unfold mOp at this
    unfold wpOp
    cases ho : ops[i]? with
    | none => rw [ho] at this; exact Q9e hrf hQ hok fuel _ κ ρ σ a h this
    | some o =>
      rw [ho] at this
      simp only
      have hd : ∀ t, o.dst = some t → t < n := fun t ht => by
        unfold opsOK at hok
        rw [← Array.all_toList, List.all_eq_true] at hok
        have := hok o (by rw [Array.mem_toList_iff]; exact Array.mem_of_getElem? ho)
        rw [ht] at this
        simpa using this
      rcases this with ⟨x, hy, hk⟩ | ⟨h1, O, hO, hk⟩
      · rcases hy σ (hrf σ) with ⟨h1, h2⟩ | ⟨h1, rfl⟩
        · rw [if_pos (Q4c h h1)]
          refine .inl (X1l h hd (X2w h.st h.env h2) (fun κ' y v σ' hf' hR => ?_))
          obtain ⟨h5, h6⟩ := hR
          rw [h5, h6] at hf'
          exact Q9e hrf hQ hok fuel _ κ' _ _ _ hf' hk
        · rw [if_neg (by rw [Q4c h h1]; simp)]
          exact Q9e hrf hQ hok fuel _ κ _ _ _ (h.put (.refl κ) h.st (.val _) hd) hk
      · rw [if_pos (Q4c h h1)]
        exact .inl (X1l h hd (X2w h.st h.env hO) (fun κ' y v σ' hf' hR => Q9e hrf hQ hok fuel _ κ' _ _ _ hf' (hk y σ' hR).2))
def Keep (N : Nat → Prop) (σ σ' : Sg) : Prop := ∀ β, N β → σ' β = σ β
theorem VW.dm {n : Nat} {Q : VX → (Nat → AV) → Sg → Prop} {id : Nat} {l : List Oper} (N : Nat → Prop) (π : List (Nat × Bool)) (hl : π.length = l.length) (hB : mixB .any l.toArray π (Array.replicate l.length false) = true)
    (h : vmix P H l.toArray (Keep N) (mfree .any l.toArray π) (Q .normal) π ρ σ) : VW P H n (.region id l.toArray true) Q ρ σ := by
  refine ⟨rfl, ?_⟩
  intro hm hok κ0 κ a hf
  refine wp_region_any hm ?_
  have htr : ∀ a b c, Keep N a b → Keep N b c → Keep N a c := fun a b c h1 h2 β hβ => (h2 β hβ).trans (h1 β hβ)
  have := mAny_mix (P := P) (H := H) (md := .any) (all := π) htr π _ ρ σ (fun p hp => hp) hB h
  have h2 := Q9e (P := P) (κ0 := κ0) (n := n) (Q' := Lift κ0 n Q) (fun a β _ => rfl) (fun κ ρ σ a h hw => ⟨κ, ρ, σ, rfl, h, hw⟩) hok _ _ κ.drew ρ σ a hf.drew this
  have e : l.toArray.size = l.length := by simp
  rw [hl] at h2
  rw [e]
  exact h2
theorem VW.dms {n : Nat} {Q : VX → (Nat → AV) → Sg → Prop} {id : Nat} {l : List Oper} {y : Code} (N : Nat → Prop) (π : List (Nat × Bool)) (hl : π.length = l.length) (hB : mixB .any l.toArray π (Array.replicate l.length false) = true)
    (h : vmix P H l.toArray (Keep N) (mfree .any l.toArray π) (VW P H n y Q) π ρ σ) : VW P H n (.seq (.region id l.toArray true) y) Q ρ σ := .seq (.dm N π hl hB h)
@[congr] theorem vmix_congr {fr : Nat → Bool} {Q : (Nat → AV) → Sg → Prop} {π : List (Nat × Bool)} {ρ ρ' : Nat → AV} {σ σ' : Sg} (h : tg ρ = ρ') (h2 : σ = σ') : vmix P H ops M fr Q π ρ σ = vmix P H ops M fr Q π ρ' σ' := by unfold tg at h; rw [h, h2]
@[congr] theorem vqm_congr {H : Hint} {ty ty' : TypeId} {o : Op} {K : AV → Prop} (h : tg ty = ty') : vqm P H M ρ ty o σ K = vqm P H M ρ ty' o σ K := by unfold tg at h; rw [h]
theorem Q0b {H : Hint} {ty : TypeId} {o : Op} {K : AV → Prop} {x : AV} (h : ∀ σ', M σ σ' → vop P H ρ ty o σ' (fun y σ'' => y = x ∧ σ'' = σ')) (hk : K x) : vqm P H M ρ ty o σ K := ⟨x, h, hk⟩
theorem Q3g {fr : Nat → Bool} {Q : (Nat → AV) → Sg → Prop} {π : List (Nat × Bool)} (h : vmix P H ops M fr Q π ρ σ) : vmix P H ops M fr Q π ρ σ := h
def vmy (P : Program) (H : Nat → Hint) (ops : Array Oper) (M : Sg → Sg → Prop) (o : Option Oper) (e : Bool) (i : Nat) (fr : Nat → Bool) (ρ : Nat → AV) (σ : Sg) (K : (Nat → AV) → Sg → Prop) : Prop := vmx P H ops M o e (fr i) ρ σ K
@[congr] theorem vmy_congr {fr : Nat → Bool} {o o' : Option Oper} {e : Bool} {i : Nat} {K : (Nat → AV) → Sg → Prop} (h : tg o = o') : vmy P H ops M o e i fr ρ σ K = vmy P H ops M o' e i fr ρ σ K := by unfold tg at h; rw [h]
def vkp (M : Sg → Sg → Prop) (fr : Nat → Bool) (i : Nat) (σ σ' : Sg) (X : Prop) : Prop := (fr i = false → M σ σ') ∧ X
@[congr] theorem vkp_congr {fr : Nat → Bool} {i : Nat} {X : Prop} {σ' σ'' : Sg} (h : tg σ' = σ'') : vkp M fr i σ σ' X = vkp M fr i σ σ'' X := by unfold tg at h; rw [h]
theorem Q0c {fr : Nat → Bool} {i : Nat} {X : Prop} {σ' : Sg} (hf : fr i = true) (h : X) : vkp M fr i σ σ' X := ⟨fun e => (by rw [hf] at e; cases e), h⟩
theorem Q0j {N : Nat → Prop} {fr : Nat → Bool} {i : Nat} {X : Prop} {σ' : Sg} (hm : ∀ β, N β → σ' β = σ β) (h : X) : vkp (Keep N) fr i σ σ' X := ⟨fun _ => hm, h⟩
theorem vM (fr : Nat → Bool) (Q : (Nat → AV) → Sg → Prop) :
    (∀ (ρ : Nat → AV) (σ : Sg), vmix P H ops M fr Q [] ρ σ = Q ρ σ) ∧
    (∀ (i : Nat) (e : Bool) (r : List (Nat × Bool)) (ρ : Nat → AV) (σ : Sg), vmix P H ops M fr Q ((i, e) :: r) ρ σ = vmy P H ops M (ops[i]?) e i fr ρ σ (vmix P H ops M fr Q r)) := ⟨fun _ _ => rfl, fun _ _ _ _ _ => rfl⟩
theorem vN (fr : Nat → Bool) (K : (Nat → AV) → Sg → Prop) :
    (∀ (i : Nat) (d : Option Tmp) (o : Op) (t : TypeId) (pos : String) (af : Array Edge) (ρ : Nat → AV) (σ : Sg), vmy P H ops M (some ⟨d, o, t, pos, af, none⟩) true i fr ρ σ K = vop P (H (d.getD 0)) ρ t o σ fun y σ' => vkp M fr i σ σ' (K (updo ρ d y) σ')) ∧
    (∀ (i : Nat) (d : Option Tmp) (o : Op) (t : TypeId) (pos : String) (af : Array Edge) (j : Nat) (w : Bool) (ρ : Nat → AV) (σ : Sg), vmy P H ops M (some ⟨d, o, t, pos, af, some (j, w)⟩) true i fr ρ σ K = vgs ((ops[j]?).bind (·.dst)) ρ w (fun ρ => vop P (H (d.getD 0)) ρ t o σ fun y σ' => vkp M fr i σ σ' (K (updo ρ d y) σ')) (fun ρ => K (updo ρ d (.val undef)) σ)) ∧
    (∀ (i : Nat) (d : Option Tmp) (o : Op) (t : TypeId) (pos : String) (af : Array Edge) (ρ : Nat → AV) (σ : Sg), vmy P H ops M (some ⟨d, o, t, pos, af, none⟩) false i fr ρ σ K = vqm P (H (d.getD 0)) M ρ t o σ fun x => K (updo ρ d x) σ) ∧
    (∀ (i : Nat) (d : Option Tmp) (o : Op) (t : TypeId) (pos : String) (af : Array Edge) (j : Nat) (w : Bool) (ρ : Nat → AV) (σ : Sg), vmy P H ops M (some ⟨d, o, t, pos, af, some (j, w)⟩) false i fr ρ σ K = vgs ((ops[j]?).bind (·.dst)) ρ w (fun ρ => vqm P (H (d.getD 0)) M ρ t o σ fun x => K (updo ρ d x) σ) (fun ρ => K (updo ρ d (.val undef)) σ)) := by
  refine ⟨?_, ?_, ?_, ?_⟩ <;> intros <;> rfl
def AVw (x x' : AV) : Prop := ∀ (κ : K) (v : Value), Rel κ x v → Rel κ x' v
theorem AVw.refl (x : AV) : AVw x x := fun _ _ h => h
theorem AVw.any (k : Own) (es : List (List AV)) : AVw (.sl k es) (.sl .any es) := fun κ v h => by
  cases h with
  | slnil k hk => exact .slnil _ trivial
  | slemp k hk a c => exact .slemp _ (.inr rfl) a c
  | sl k es a n c sz f hk hn hc hs hz hr h => exact .sl .any es a n c sz f trivial hn hc hs hz hr h
theorem AVw.tup2 {a a' b b' : AV} (ha : AVw a a') (hb : AVw b b') : AVw (.tup [a, b]) (.tup [a', b']) := fun κ v h => by
  cases h with
  | tup cs vs hl h =>
    refine .tup _ vs hl (fun i x u h1 h2 => ?_)
    match i with
    | 0 => simp at h1; subst h1; exact ha κ u (h 0 a u rfl h2)
    | 1 => simp at h1; subst h1; exact hb κ u (h 1 b u rfl h2)
    | i + 2 => simp at h1
theorem Post.weak {R R' : AV → Sg → Prop} (h : ∀ x σ', R x σ' → ∃ x', AVw x x' ∧ R' x' σ') {κ : K} {v : Value} {w : World} (hp : Post κ R v w) : Post κ R' v w := by
  obtain ⟨κ', x, σ', h1, h2, h3, h4, h5⟩ := hp
  obtain ⟨x', h6, h7⟩ := h x σ' h5
  exact ⟨κ', x', σ', h1, h2, h3, h6 κ' v h4, h7⟩
theorem VCalls.weak {f : FuncId} {args : List AV} {R R' : AV → Sg → Prop} (hc : VCalls P f args σ R) (h : ∀ x σ', R x σ' → ∃ x', AVw x x' ∧ R' x' σ') : VCalls P f args σ R' := by
  refine ⟨fun κ vs hst hr => ?_⟩
  have hd := hc.go κ vs hst hr
  revert hd
  generalize (callFunc f vs).run P κ.w = r
  intro hd
  cases r with
  | halt x w => exact hd.elim
  | ok nx w =>
    cases nx <;> simp only [Done] at hd ⊢
    case value v => exact Post.weak h hd
    case skip => exact Post.weak h hd
    case enter f args =>
      refine hd.mono (fun e w' he => ?_)
      cases e with
      | returned v => exact Post.weak h he
      | panicked c => exact he.elim
      | outgrown => exact he.elim
    case row r args => exact hd.mono (fun v w' he => Post.weak h he)
theorem vL :
    (∀ {α β : Type} (f : α → β) (a : α) (l : List α), List.map f (a :: l) = f a :: List.map f l) ∧
    (∀ {α β : Type} (f : α → β), List.map f [] = []) ∧
    (∀ {α : Type} (l : List α) (i : Nat), l.toArray[i]? = l[i]?) ∧
    (∀ {α : Type} (a : α) (l : List α) (i : Nat), (a :: l)[i + 1]? = l[i]?) ∧
    (∀ {α : Type} (a : α) (l : List α), (a :: l)[0]? = some a) ∧
    (∀ {α β : Type} (a : α) (f : α → Option β), (some a).bind f = f a) ∧
    (∀ {α β : Type} (a : α) (f : α → β), (some a).map f = some (f a)) ∧
    (∀ {α β : Type} (f : α → β), (none : Option α).map f = none) ∧
    (∀ {α : Type} (a b : α), (some a).getD b = a) ∧
    (∀ {α : Type} (l : List α), [] ++ l = l) ∧
    (∀ {α : Type} (a : α) (l m : List α), a :: l ++ m = a :: (l ++ m)) ∧
    (∀ {α : Type} (l : List α), l ++ [] = l) ∧
    (∀ {α : Type} (a : α) (l : List α), (a :: l).length = l.length + 1) ∧
    (∀ {α : Type}, ([] : List α).length = 0) ∧
    (∀ {α : Type} (l : List α), l.drop 0 = l) ∧
    (∀ {α : Type} (i : Nat) (a : α) (l : List α), (a :: l).drop (i + 1) = l.drop i) ∧
    (∀ {α : Type} (i : Nat) (a : α) (l : List α), (a :: l).take (i + 1) = a :: l.take i) ∧
    (∀ {α : Type} (l : List α), l.take 0 = []) ∧
    (∀ n : Nat, ((n : Nat) : Int).toNat = n) ∧
    (∀ n : Nat, 0 + n = n) ∧
    (∀ n : Nat, n + 0 = n) ∧
    (∀ b : Bool, (b && true) = b) ∧
    (∀ b : Bool, (true && b) = b) ∧
    (∀ {α : Type} (a : α), id a = a) ∧
    (∀ {α : Type} (p : α → Bool), [].all p = true) ∧
    (∀ {α : Type} (p : α → Bool) (a : α) (l : List α), (a :: l).all p = (p a && l.all p)) ∧
    (∀ {α : Type} (a : α), (some a).isSome = true) ∧
    (∀ {α : Type}, (none : Option α).isSome = false) ∧
    (∀ (σ : Sg) (β : Nat) (o : Ob), (σ.set β o) β = some o) ∧
    (∀ (σ : Sg) (β : Nat) (o o' : Ob), (σ.set β o).set β o' = σ.set β o') := by
  refine ⟨?_, ?_, ?_, ?_, ?_, ?_, ?_, ?_, ?_, ?_, ?_, ?_, ?_, ?_, ?_, ?_, ?_, ?_, ?_, ?_, ?_, ?_, ?_, ?_, ?_, ?_, ?_, ?_, ?_, ?_⟩
  all_goals intros
  all_goals first
    | rfl
    | (simp; done)
    | exact Sg.set_same _ _ _
    | exact Sg.set_set _ _ _ _
theorem vif_ff (t : Bool) (X Y : Prop) : vif (t = false) X Y = vif (t = true) Y X := by
  rw [show (t = false) = (¬ t = true) from by simp, vif_not]
theorem vF :
    (∀ (ρ : Nat → AV), Holds [] ρ = True) ∧
    (∀ (t : Nat) (x : AV) (r : List (Nat × AV)) (ρ : Nat → AV), Holds ((t, x) :: r) ρ = (ρ t = x ∧ Holds r ρ)) ∧
    (∀ (s k : Nat), FF s k [] = True) ∧
    (∀ (s k i : Nat) (x : AV) (r : List (Nat × AV)), FF s k ((i, x) :: r) = (i = k ∧ x.cells.length = s ∧ FF s (k + 1) r)) ∧
    (∀ (e : TypeId) (s : Nat) (es : List (List AV)) (σ : Sg) (R : AV → Sg → Prop), X2x .no e s es σ R = R (.sl .full es) σ) ∧
    (∀ (e : TypeId) (s : Nat) (es : List (List AV)) (σ : Sg) (R : AV → Sg → Prop), X2x .obj e s es σ R = (Q2k σ fun τ => R (.sl (.tok τ s) es) (σ.set τ (.tok (some e))))) ∧
    (∀ (t : Bool) (X Y : Prop), vif (t = false) X Y = vif (t = true) Y X) :=
  ⟨Holds_nil, Holds_cons, FF_nil, FF_cons, vown2_no, vown2_obj, vif_ff⟩
end Go.V
namespace Go.V
def bs (l : List UInt8) : ByteArray := ⟨l.toArray⟩
theorem X6i (s : ByteArray) : bs s.data.toList = s := ByteArray.ext (by simp [bs])
theorem Q6g (l : List UInt8) : (bs l).size = l.length := by simp [bs, ByteArray.size]
theorem Q7h (l : List UInt8) : (bs l).data.toList = l := by simp [bs]
theorem bs_byteAt (l : List UInt8) (i : Nat) : X4x (bs l) i = l.getD i 0 := by
  unfold X4x bs
  simp [List.getD_eq_getElem?_getD]
theorem Q7i {l : List UInt8} {k : Nat} (h : k < l.length) : l.getD k 0 = l[k] := by simp [List.getD_eq_getElem?_getD, List.getElem?_eq_getElem h]
theorem bs_inj {l m : List UInt8} (h : bs l = bs m) : l = m := by rw [← Q7h l, h, Q7h]
theorem bs_sEq (l m : List UInt8) : sEq (bs l) (bs m) = decide (l = m) := by
  unfold sEq
  by_cases h : l = m
  · subst h; simp
  · rw [decide_eq_false h, decide_eq_false (fun e => h (bs_inj e))]
theorem bs_append (l m : List UInt8) : bs l ++ bs m = bs (l ++ m) := by
  apply ByteArray.ext
  simp [bs]
theorem bs_extract (l : List UInt8) (i j : Nat) : (bs l).extract i j = bs ((l.take j).drop i) := by
  apply ByteArray.ext
  apply Array.toList_inj.1
  simp [bs, ByteArray.data_extract, List.drop_take]
theorem bs_fold (l : List UInt8) : ByteArray.mk l.toArray = bs l := rfl
theorem bs_bytes (l : List UInt8) : Q1d (bs l) = l.map fun b => [AV.u8 b.toNat] := by unfold Q1d; rw [Q7h]
def Q4n (l : List UInt8) : List (List AV) := l.map fun b => [AV.u8 b.toNat]
theorem X8k (l : List UInt8) : Q1d (bs l) = Q4n l := bs_bytes l
theorem bytesL_len (l : List UInt8) : (Q4n l).length = l.length := by simp [Q4n]
theorem bytesL_app (a b : List UInt8) : Q4n a ++ Q4n b = Q4n (a ++ b) := by simp [Q4n]
theorem bytesL_all (l : List UInt8) : Q1t (Q4n l) 1 = True := by
  refine eq_true (fun e he => ?_)
  obtain ⟨b, _, rfl⟩ := List.mem_map.1 he
  rfl
theorem bytesL_one (l : List UInt8) : Q5b (Q4n l) 1 = True := by
  refine eq_true (fun e he => ?_)
  obtain ⟨b, _, rfl⟩ := List.mem_map.1 he
  exact ⟨rfl, rfl⟩
theorem X6j (b : UInt8) : [[AV.u8 b.toNat]] = Q4n [b] := rfl
def pre (p : UInt8 → Bool) (l : List UInt8) : Nat := (l.takeWhile p).length
theorem X6k (p : UInt8 → Bool) (l : List UInt8) : pre p l ≤ l.length := (List.takeWhile_prefix p).length_le
theorem X9u {p : UInt8 → Bool} {l : List UInt8} {k : Nat} (h : k < l.length) : pre p (l.drop k) = if p (l.getD k 0) = true then 1 + pre p (l.drop (k + 1)) else 0 := by
  rw [Q7i h]
  rw [List.drop_eq_getElem_cons h]
  unfold pre
  rw [List.takeWhile_cons]
  split <;> simp [Nat.add_comm]
theorem pre_yes {p : UInt8 → Bool} {l : List UInt8} {k : Nat} (h : k < l.length) (hp : p (l.getD k 0) = true) : pre p (l.drop k) = 1 + pre p (l.drop (k + 1)) := by rw [X9u h, if_pos hp]
def Q1m (m l : List UInt8) : Bool := decide (l.take m.length = m)
theorem Q8d {m l : List UInt8} (h : l.length < m.length) : Q1m m l = false := by
  unfold Q1m
  rw [decide_eq_false]
  intro e
  have := congrArg List.length e
  simp at this
  omega
theorem b_eq {p q : Bool} (h : p = true ↔ q = true) : AV.b p = AV.b q := by
  congr 2
  cases p <;> cases q <;> simp_all
theorem i_eq {m n : Int} (h : m = n) : AV.i m = AV.i n := by rw [h]
theorem n1 (i : Nat) : ((i : Int) + 1).toNat = i + 1 := by omega
theorem n2 (i : Nat) : ((i : Int) + 2).toNat = i + 2 := by omega
theorem nn (i j : Nat) : ((i : Int) + (j : Int)).toNat = i + j := by omega
theorem Sg.sub.set_fresh {σ S : Sg} {x : Nat} {o : Ob} (h : σ.sub S) (hx : σ x = none) : σ.sub (S.set x o) := fun y p hy => by
  unfold Sg.set
  by_cases e : y = x
  · subst e; rw [hx] at hy; cases hy
  · rw [if_neg e]; exact h y p hy
theorem Sg.sub.del_fresh {σ S : Sg} {x : Nat} (h : σ.sub S) (hx : σ x = none) : σ.sub (S.del x) := fun y p hy => by
  unfold Sg.del
  by_cases e : y = x
  · subst e; rw [hx] at hy; cases hy
  · rw [if_neg e]; exact h y p hy
theorem Sg.sub.set_both {σ S : Sg} {x : Nat} {o : Ob} (h : σ.sub S) : (σ.set x o).sub (S.set x o) := fun y p hy => by
  unfold Sg.set at *
  by_cases e : y = x
  · rw [if_pos e] at hy ⊢; exact hy
  · rw [if_neg e] at hy ⊢; exact h y p hy
theorem Sg.set_none {σ : Sg} {x τ : Nat} {o : Ob} (h : σ τ = none) (hne : τ ≠ x) : (σ.set x o) τ = none := by rw [Sg.set_other _ _ hne]; exact h
theorem Sg.of_set_none {σ : Sg} {x τ : Nat} {o : Ob} (h : (σ.set x o) τ = none) : τ ≠ x ∧ σ τ = none := by
  by_cases e : τ = x
  · subst e; rw [Sg.set_same] at h; cases h
  · rw [Sg.set_other _ _ e] at h; exact ⟨e, h⟩
def Grown (e sz : Nat) (es : List (List AV)) (σ : Sg) (V : AV) (S : Sg) : Prop :=
  (es = [] ∧ V = .sl .nil [] ∧ S = σ) ∨ ∃ τ, σ τ = none ∧ V = .sl (.tok τ sz) es ∧ S = σ.set τ (.tok (some e))
theorem Grown.nil (e sz : Nat) (σ : Sg) : Grown e sz [] σ (.sl .nil []) σ := .inl ⟨rfl, rfl, rfl⟩
theorem Grown.tok {e sz : Nat} {es : List (List AV)} {σ : Sg} {τ : Nat} (h : σ τ = none) : Grown e sz es σ (.sl (.tok τ sz) es) (σ.set τ (.tok (some e))) := .inr ⟨τ, h, rfl, rfl⟩
theorem VW.loop4 {P : Program} {H : Nat → Hint} {n : Nat} {Q : VX → (Nat → AV) → Sg → Prop} {ρ : Nat → AV} {σ : Sg} {α β γ δ : Type} {c : Code} (x : α) (y : β) (z : γ) (u : δ) (Inv : α → β → γ → δ → Prop) (vals : α → β → γ → δ → List (Nat × AV)) (sg : α → β → γ → δ → Sg) (m : α → β → γ → δ → Nat) (h0 : Inv x y z u) (hσ : (sg x y z u).sub σ) (hρ : Holds (vals x y z u) ρ)
    (round : ∀ a b d e, Inv a b d e → VW P H n c (sq (fun ρ σ => ∃ a' b' d' e', (Inv a' b' d' e' ∧ m a' b' d' e' < m a b d e) ∧ (sg a' b' d' e').sub σ ∧ Holds (vals a' b' d' e') ρ) Q) (env (vals a b d e)) (sg a b d e)) : VW P H n (.loop c) Q ρ σ :=
  .loop (x, y, z, u) (fun p => Inv p.1 p.2.1 p.2.2.1 p.2.2.2) (fun p => vals p.1 p.2.1 p.2.2.1 p.2.2.2) (fun p => sg p.1 p.2.1 p.2.2.1 p.2.2.2) (fun p => m p.1 p.2.1 p.2.2.1 p.2.2.2) h0 hσ hρ (fun p hp => (round p.1 p.2.1 p.2.2.1 p.2.2.2 hp).mono (fun e ρ σ hq => by
    cases e with
    | normal => obtain ⟨a', b', d', e', h⟩ := hq; exact ⟨(a', b', d', e'), h⟩
    | exit id => exact hq
    | ret => exact hq))
theorem nadd (i j : Nat) : (i : Int) + (j : Int) = ((i + j : Nat) : Int) := by omega
theorem X8a (i : Nat) : (i : Int) + 1 = ((i + 1 : Nat) : Int) := by omega
theorem X8b (i : Nat) : (i : Int) + 2 = ((i + 2 : Nat) : Int) := by omega
theorem X8c (i : Nat) : (i : Int) + 3 = ((i + 3 : Nat) : Int) := by omega
theorem X8d (i : Nat) : 1 + (i : Int) = ((1 + i : Nat) : Int) := by omega
theorem X8e (i : Nat) : 2 + (i : Int) = ((2 + i : Nat) : Int) := by omega
theorem vT :
    (∀ (l : List UInt8), Q1d (bs l) = Q4n l) ∧
    (∀ (l : List UInt8), (Q4n l).length = l.length) ∧
    (∀ (a b : List UInt8), Q4n a ++ Q4n b = Q4n (a ++ b)) ∧
    (∀ (l : List UInt8), Q1t (Q4n l) 1 = True) ∧
    (∀ (l : List UInt8), Q5b (Q4n l) 1 = True) ∧
    (∀ (l : List UInt8), (bs l).size = l.length) ∧
    (∀ (l : List UInt8) (i j : Nat), (bs l).extract i j = bs ((l.take j).drop i)) ∧
    (∀ (l m : List UInt8), sEq (bs l) (bs m) = decide (l = m)) ∧
    (∀ (l m : List UInt8), bs l ++ bs m = bs (l ++ m)) ∧
    (∀ (l : List UInt8) (i : Nat), X4x (bs l) i = l.getD i 0) ∧
    (∀ (l : List UInt8), ByteArray.mk l.toArray = bs l) ∧
    (∀ {α : Type} (l : List α), l.take l.length = l) :=
  ⟨X8k, bytesL_len, bytesL_app, bytesL_all, bytesL_one, Q6g, bs_extract, bs_sEq, bs_append, bs_byteAt, bs_fold, fun _ => List.take_length⟩
end Go.V
namespace Go.Lex
open Go.V
def Q2g (c : UInt8) : Bool := (decide (97 ≤ c.toNat) && decide (c.toNat ≤ 122)) || decide (c.toNat = 95)
def Q1j (c : UInt8) : Bool := decide (65 ≤ c.toNat) && decide (c.toNat ≤ 90)
def Q1z (c : UInt8) : Bool := decide (48 ≤ c.toNat) && decide (c.toNat ≤ 57)
def Q3h (c : UInt8) : Bool := Q2g c || Q1z c
def ws (c : UInt8) : Bool := c == 9 || c == 10 || c == 13 || c == 32
def Q8r : List UInt8 → Nat
  | [] => 0
  | c :: r => if ws c then 1 else if Q1m [45, 45] (c :: r) then pre (· != 10) (c :: r) else 0
theorem X2y (l : List UInt8) : Q8r l ≤ l.length := by
  unfold Q8r
  split
  · simp
  · split
    · simp
    · split
      · exact X6k _ _
      · simp
def Q0t (l : List UInt8) : Nat := if h : Q8r l = 0 then 0 else Q8r l + Q0t (l.drop (Q8r l))
termination_by l.length
decreasing_by
  have := X2y l
  have : l ≠ [] := fun e => h (by rw [e]; rfl)
  have := List.length_pos_iff.2 this
  simp
  omega
theorem Q3n {l : List UInt8} (h : Q8r l = 0) : Q0t l = 0 := by rw [Q0t, dif_pos h]
theorem Q2q {l : List UInt8} (h : Q8r l ≠ 0) : Q0t l = Q8r l + Q0t (l.drop (Q8r l)) := by rw [Q0t, dif_neg h]
theorem X0w (l : List UInt8) : Q0t l ≤ l.length := by
  by_cases h : Q8r l = 0
  · rw [Q3n h]; exact Nat.zero_le _
  · rw [Q2q h]
    have h1 := X2y l
    have h2 := X0w (l.drop (Q8r l))
    simp at h2
    omega
termination_by l.length
decreasing_by
  have := X2y l
  have : l ≠ [] := fun e => h (by rw [e]; rfl)
  have := List.length_pos_iff.2 this
  simp
  omega
theorem ws_iff (c : UInt8) : ws c = true ↔ c.toNat = 9 ∨ c.toNat = 10 ∨ c.toNat = 13 ∨ c.toNat = 32 := by
  have h : ∀ k : UInt8, (c = k) ↔ c.toNat = k.toNat := fun k => ⟨fun e => by rw [e], fun e => UInt8.toNat_inj.1 e⟩
  simp [ws, h, or_assoc]
theorem dd_iff (l : List UInt8) : Q1m [45, 45] l = true ↔ (l[0]?).map (·.toNat) = some 45 ∧ (l[1]?).map (·.toNat) = some 45 := by
  have h : ∀ c : UInt8, (c = 45) ↔ c.toNat = 45 := fun c => ⟨fun e => by rw [e]; rfl, fun e => UInt8.toNat_inj.1 e⟩
  match l with
  | [] => simp [Q1m]
  | [a] => simp [Q1m]
  | a :: b :: r => simp [Q1m, h]
theorem X2z {l : List UInt8} {k : Nat} (h : k < l.length) : Q8r (l.drop k) = if ws (l.getD k 0) then 1 else if Q1m [45, 45] (l.drop k) then pre (· != 10) (l.drop k) else 0 := by
  rw [Q7i h, List.drop_eq_getElem_cons h]
  rfl
theorem pre_dd {l : List UInt8} (h : Q1m [45, 45] l = true) : 2 ≤ l.length ∧ pre (· != 10) l = 2 + pre (· != 10) (l.drop 2) := by
  match l with
  | [] => simp [Q1m] at h
  | [a] => simp [Q1m] at h
  | a :: b :: r =>
    simp [Q1m] at h
    obtain ⟨rfl, rfl⟩ := h
    refine ⟨by simp, ?_⟩
    simp [pre, List.takeWhile_cons]
    omega
def num : List UInt8 → Nat → Option Nat
  | [], n => some n
  | c :: r, n => if 9223372036854775807 < 10 * n + (c.toNat - 48) then none else num r (10 * n + (c.toNat - 48))
theorem num_end {l : List UInt8} {k n : Nat} (h : l.length ≤ k) : num (l.drop k) n = some n := by rw [List.drop_of_length_le h]; rfl
theorem num_over {l : List UInt8} {k n : Nat} (h : k < l.length) (ho : 9223372036854775807 < 10 * n + ((l.getD k 0).toNat - 48)) : num (l.drop k) n = none := by
  rw [Q7i h] at ho
  rw [List.drop_eq_getElem_cons h]
  exact if_pos ho
theorem num_step {l : List UInt8} {k n : Nat} (h : k < l.length) (ho : ¬ 9223372036854775807 < 10 * n + ((l.getD k 0).toNat - 48)) : num (l.drop k) n = num (l.drop (k + 1)) (10 * n + ((l.getD k 0).toNat - 48)) := by
  rw [Q7i h] at ho ⊢
  rw [List.drop_eq_getElem_cons h]
  exact if_neg ho
end Go.Lex
namespace Go.V
open Go.RowKit
variable {P : Program}
theorem VCalls.arg1 {f : FuncId} {x x' : AV} {r : List AV} {σ : Sg} {R : AV → Sg → Prop} (h : AVw x x') (hc : VCalls P f (x' :: r) σ R) : VCalls P f (x :: r) σ R := by
  refine ⟨fun κ vs hst hr => hc.go κ vs hst ?_⟩
  refine ⟨hr.1, fun i y v h1 h2 => ?_⟩
  cases i with
  | zero => simp at h1; subst h1; exact h κ v (hr.2 0 x v (by simp) h2)
  | succ i => exact hr.2 (i + 1) y v (by simpa using h1) h2
end Go.V
namespace Go.V
open Go.RowKit
variable {P : Program}
theorem Post.le {κ κ' : K} (h : κ.le κ') {R : AV → Sg → Prop} {v : Value} {w : World} (hp : Post κ' R v w) : Post κ R v w := by
  obtain ⟨k, x, s, h1, h2, h3, h4, h5⟩ := hp
  exact ⟨k, x, s, h1, h.trans h2, h3, h4, h5⟩
theorem VCalls.ghost {f : FuncId} {args : List AV} {σ : Sg} {R : AV → Sg → Prop} (h : ∀ κ, St κ σ → ∃ κ' σ', κ.le κ' ∧ κ'.w = κ.w ∧ St κ' σ' ∧ VCalls P f args σ' R) : VCalls P f args σ R := by
  refine ⟨fun κ vs hst hr => ?_⟩
  obtain ⟨κ', σ', hle, hw, hst', hc⟩ := h κ hst
  have hd := hc.go κ' vs hst' ⟨hr.1, fun i x v h1 h2 => (hr.2 i x v h1 h2).mono hle⟩
  rw [hw] at hd
  revert hd
  generalize (callFunc f vs).run P κ.w = r
  intro hd
  cases r with
  | halt x w => exact hd.elim
  | ok nx w =>
    cases nx <;> simp only [Done] at hd ⊢
    case value v => exact Post.le hle hd
    case skip => exact Post.le hle hd
    case enter f args =>
      refine hd.mono (fun e w' he => ?_)
      cases e with
      | returned v => exact Post.le hle he
      | panicked c => exact he.elim
      | outgrown => exact he.elim
    case row r args => exact hd.mono (fun v w' he => Post.le hle he)
theorem St.seen {κ : K} {σ : Sg} (h : St κ σ) {ω : Nat} {t : TypeId} {cs : List AV} {i τ sz : Nat} (hω : σ ω = some (.cells t cs)) (hi : cs[i]? = some (.sl .nil [])) : St κ (σ.set ω (.cells t (cs.set i (.sl (.tok τ sz) [])))) where
  ob β o hb := by
    by_cases e : β = ω
    · subst e
      rw [Sg.set_same] at hb
      cases hb
      obtain ⟨b, lo, hi', h1, h2, h3⟩ := h.ob β _ hω
      refine ⟨b, lo, hi', h1, h2, ?_⟩
      obtain ⟨g1, g2, c, fz, g3, g4, g5, g6⟩ := h3
      refine ⟨g1, by rw [List.length_set]; exact g2, c, fz, g3, g4, by rw [List.length_set]; exact g5, fun j x v hx hv => ?_⟩
      rw [List.getElem?_set] at hx
      by_cases hj : i = j
      · subst hj
        have hr := g6 i _ v hi hv
        have hlt : i < cs.length := (List.getElem?_eq_some_iff.1 hi).1
        rw [if_pos rfl, if_pos hlt] at hx
        cases hx
        cases hr with
        | slnil k hk => exact .slnil _ trivial
        | slemp k hk a c => rcases hk with hk | hk <;> cases hk
        | sl k es a n c sz f hk => exact hk.elim
      · rw [if_neg hj] at hx
        exact g6 j x v hx hv
    · rw [Sg.set_other _ _ e] at hb
      exact h.ob β o hb
  apart β β' o o' b lo hi lo' hi' hne h1 h2 h3 h4 := by
    have get : ∀ β o, (σ.set ω (.cells t (cs.set i (.sl (.tok τ sz) [])))) β = some o → ∃ o, σ β = some o := fun β o hb => by
      by_cases e : β = ω
      · subst e; exact ⟨_, hω⟩
      · rw [Sg.set_other _ _ e] at hb; exact ⟨_, hb⟩
    obtain ⟨p, hp⟩ := get β o h1
    obtain ⟨q, hq⟩ := get β' o' h2
    exact h.apart β β' p q b lo hi lo' hi' hne hp hq h3 h4
  fin := h.fin
  mlt := h.mlt
  bas := h.bas
  glob := h.glob
theorem VCalls.tok0 {f : FuncId} {args : List AV} {σ : Sg} {R : AV → Sg → Prop} {ω : Nat} {t e : TypeId} {cs : List AV} (i sz : Nat) (hω : σ ω = some (.cells t cs)) (hi : cs[i]? = some (.sl .nil []))
    (hc : ∀ τ, σ τ = none → τ ≠ ω → VCalls P f args ((σ.set τ (.tok (some e))).set ω (.cells t (cs.set i (.sl (.tok τ sz) [])))) R) : VCalls P f args σ R := by
  refine VCalls.ghost (fun κ hst => ?_)
  obtain ⟨τ, hτ, hτ'⟩ := hst.fresh
  have hτσ := hτ' σ (.refl σ)
  have hne : τ ≠ ω := fun e => by subst e; rw [hτσ] at hω; cases hω
  obtain ⟨hle, hs⟩ := hst.noRoom (some e) hτ
  refine ⟨_, _, hle, rfl, hs.seen (τ := τ) (sz := sz) (i := i) (ω := ω) (t := t) (cs := cs) ?_ hi, hc τ hτσ hne⟩
  rw [Sg.set_other _ _ hne.symm]
  exact hω
theorem Q7j (e : TypeId) (s : Nat) (es : List (List AV)) (σ : Sg) (R : AV → Sg → Prop) : X2x .ro e s es σ R = R (.sl .full es) σ := rfl
theorem Q4d {c : Prop} [Decidable c] {a b : Hint} (h : c) (e : TypeId) (s : Nat) (es : List (List AV)) (σ : Sg) (R : AV → Sg → Prop) : X2x (if c then a else b) e s es σ R = X2x a e s es σ R := by rw [if_pos h]
theorem Q4e {c : Prop} [Decidable c] {a b : Hint} (h : ¬ c) (e : TypeId) (s : Nat) (es : List (List AV)) (σ : Sg) (R : AV → Sg → Prop) : X2x (if c then a else b) e s es σ R = X2x b e s es σ R := by rw [if_neg h]
end Go.V
