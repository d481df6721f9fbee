/- Rows of operations, statements, functions. -/
import Derived.Test.YtkbfngepdgdecaaV10
import Derived.Deep.Quiet
namespace Go.V
open Go.RowKit
variable {P : Program} {κ : K} {σ : Sg} {ρ : Nat → AV} {a : Act} {R : AV → Sg → Prop}

inductive VX | normal | exit (id : Nat) | ret

/-- Is an operation carried out? R: what then; S: what if not. -/
def vguard (ops : Array Oper) (g : Option (Nat × Bool)) (ρ : Nat → AV) (T F : (Nat → AV) → Prop) : Prop :=
  match g with
  | none => T ρ
  | some (j, want) => match (ops[j]?).bind (·.dst) with
    | some s => match ρ s with
      | .val (.bool t) => (t = want → T (upd ρ s (.b want))) ∧ (t = !want → F (upd ρ s (.b !want)))
      | .val (.tuple _) => F ρ
      | _ => False
    | none => False

def vops (P : Program) (H : Nat → Hint) (ops : Array Oper) (Q : (Nat → AV) → Sg → Prop) : List Oper → (Nat → AV) → Sg → Prop
  | [], ρ, σ => Q ρ σ
  | o :: rest, ρ, σ => vguard ops o.guard ρ (fun ρ => vop P (H (o.dst.getD 0)) ρ o.type o.op σ fun x σ' => vops P H ops Q rest (updo ρ o.dst x) σ') (fun ρ => vops P H ops Q rest (updo ρ o.dst (.val undef)) σ)

/-- A row whose order is drawn, every operation of which leaves the store as it is. -/
def vquiet (P : Program) (H : Nat → Hint) (ops : Array Oper) (σ : Sg) (Q : (Nat → AV) → Prop) : List Oper → (Nat → AV) → Prop
  | [], ρ => Q ρ
  | o :: rest, ρ => vguard ops o.guard ρ (fun ρ => ∃ x, vop P (H (o.dst.getD 0)) ρ o.type o.op σ (fun y σ' => y = x ∧ σ' = σ) ∧ vquiet P H ops σ Q rest (updo ρ o.dst x)) (fun ρ => vquiet P H ops σ Q rest (updo ρ o.dst (.val undef)))

def opsOK (n : Nat) (ops : Array Oper) : Bool := ops.all fun o => match o.dst with | some d => decide (d < n) | none => true
def codeOK (n : Nat) : Code → Bool
  | .region _ ops _ => opsOK n ops
  | .seq x y => codeOK n x && codeOK n y
  | .cond _ x y => codeOK n x && codeOK n y
  | .block _ c => codeOK n c
  | .loop c => codeOK n c
  | .scope c => codeOK n c
  | _ => true

structure Fits (κ0 κ : K) (n : Nat) (ρ : Nat → AV) (σ : Sg) (a : Act) : Prop where
  le : κ0.le κ
  st : St κ σ
  env : RelEnv κ ρ a.tmps
  size : a.tmps.size = n
  defers : a.defers = []

def Lift (κ0 : K) (n : Nat) (Q : VX → (Nat → AV) → Sg → Prop) : Exit → Act → World → Prop
  | .normal, a, w => ∃ κ ρ σ, κ.w = w ∧ Fits κ0 κ n ρ σ a ∧ Q .normal ρ σ
  | .exit id, a, w => ∃ κ ρ σ, κ.w = w ∧ Fits κ0 κ n ρ σ a ∧ Q (.exit id) ρ σ
  | .ret, a, w => ∃ κ ρ σ, κ.w = w ∧ Fits κ0 κ n ρ σ a ∧ Q .ret ρ σ
  | _, _, _ => False

theorem RelEnv.put {κ : K} {ρ : Nat → AV} {a : Act} (h : RelEnv κ ρ a.tmps) {d : Option Tmp} {x : AV} {v : Value} (hx : Rel κ x v) (hd : ∀ t, d = some t → t < a.tmps.size) : RelEnv κ (updo ρ d x) (a.put d v).tmps := by
  cases d with
  | none => exact h
  | some d =>
    intro t
    have hlt := hd d rfl
    simp only [updo, upd, Act.put]
    by_cases e : t = d
    · subst e
      rw [if_pos rfl]
      simp [hlt, hx]
    · rw [if_neg e]
      have := h t
      simpa [Array.getElem?_setIfInBounds_ne (Ne.symm e)] using this
theorem put_size (a : Act) (d : Option Tmp) (v : Value) : (a.put d v).tmps.size = a.tmps.size := by cases d <;> simp [Act.put]
theorem put_defers (a : Act) (d : Option Tmp) (v : Value) : (a.put d v).defers = a.defers := by cases d <;> rfl

theorem Fits.put {κ0 κ κ' : K} {n : Nat} {ρ : Nat → AV} {σ σ' : Sg} {a : Act} (h : Fits κ0 κ n ρ σ a) (hle : κ.le κ') (hst : St κ' σ') {d : Option Tmp} {x : AV} {v : Value} (hx : Rel κ' x v) (hd : ∀ t, d = some t → t < n) :
    Fits κ0 κ' n (updo ρ d x) σ' (a.put d v) :=
  ⟨h.le.trans hle, hst, (h.env.mono hle).put hx (fun t ht => by rw [h.size]; exact hd t ht), by rw [put_size]; exact h.size, by rw [put_defers]; exact h.defers⟩

theorem Fits.upd {κ0 κ : K} {n : Nat} {ρ : Nat → AV} {σ : Sg} {a : Act} (h : Fits κ0 κ n ρ σ a) {s : Nat} {x : AV} (hx : Rel κ x (a.tmps.getD s undef)) : Fits κ0 κ n (upd ρ s x) σ a :=
  ⟨h.le, h.st, fun t => by
    unfold V.upd
    by_cases e : t = s
    · rw [if_pos e, e]; exact hx
    · rw [if_neg e]; exact h.env t, h.size, h.defers⟩

/-- The guard, held against the model's. -/
theorem vguard_sound {κ0 : K} {n : Nat} {ops : Array Oper} {o : Oper} {T F : (Nat → AV) → Prop} (h : Fits κ0 κ n ρ σ a) (hw : vguard ops o.guard ρ T F) :
    ∃ ρ', Fits κ0 κ n ρ' σ a ∧ ((Region.wanted o (yielded ops a.tmps) = true ∧ T ρ') ∨ (Region.wanted o (yielded ops a.tmps) = false ∧ F ρ')) := by
  unfold vguard at hw
  unfold Region.wanted
  cases hg : o.guard with
  | none =>
    rw [hg] at hw
    exact ⟨ρ, h, .inl ⟨rfl, hw⟩⟩
  | some jw =>
    obtain ⟨j, want⟩ := jw
    rw [hg] at hw
    simp only at hw ⊢
    cases hs : (ops[j]?).bind (·.dst) with
    | none => rw [hs] at hw; exact hw.elim
    | some s =>
      rw [hs] at hw
      simp only at hw
      have hrel := h.env s
      have hy : yielded ops a.tmps j = (match a.tmps[s]? with | some (.bool b) => some b | _ => none) := by
        unfold yielded
        rw [hs]
        rfl
      split at hw
      · rename_i t hρs
        rw [hρs] at hrel
        have hv : a.tmps.getD s undef = .bool t := by
          generalize a.tmps.getD s undef = v at hrel
          cases hrel
          rfl
        have hget : a.tmps[s]? = some (.bool t) := by
          cases hh : a.tmps[s]? with
          | none => rw [Array.getD_eq_getD_getElem?, hh] at hv; simp [undef] at hv
          | some v => rw [Array.getD_eq_getD_getElem?, hh] at hv; simp at hv; rw [hv]
        rw [hy, hget]
        by_cases e : t = want
        · subst e
          refine ⟨_, h.upd (s := s) (x := .b t) (by rw [hv]; exact .val _), .inl ⟨by simp, hw.1 rfl⟩⟩
        · have e' : t = !want := by cases t <;> cases want <;> simp_all
          subst e'
          refine ⟨_, h.upd (s := s) (x := .b !want) (by rw [hv]; exact .val _), .inr ⟨by cases want <;> rfl, hw.2 rfl⟩⟩
      · rename_i vs hρs
        rw [hρs] at hrel
        have hv : a.tmps.getD s undef = .tuple vs := by
          generalize a.tmps.getD s undef = v at hrel
          cases hrel
          rfl
        refine ⟨ρ, h, .inr ⟨?_, hw⟩⟩
        rw [hy]
        cases hh : a.tmps[s]? with
        | none => rfl
        | some v => rw [Array.getD_eq_getD_getElem?, hh] at hv; simp at hv; rw [hv]; rfl
      · exact hw.elim

/-- What an operation comes to, as the model's 'wp' has it. -/
theorem wp_of_done {κ0 : K} {n : Nat} {o : Oper} {next : Act → World → Prop} {Q : Exit → Act → World → Prop} (h : Fits κ0 κ n ρ σ a) (hd : ∀ t, o.dst = some t → t < n) (hw : Done P κ R ((execOp a.eval o).run P κ.w))
    (hn : ∀ (κ' : K) (x : AV) (v : Value) (σ' : Sg), Fits κ0 κ' n (updo ρ o.dst x) σ' (a.put o.dst v) → R x σ' → next (a.put o.dst v) κ'.w) : o.wp P a κ.w next Q := by
  have post : ∀ {v : Value} {w' : World}, Post κ R v w' → next (a.put o.dst v) w' := fun {v w'} hp => by
    obtain ⟨κ', x, σ', rfl, h1, h2, h3, h4⟩ := hp
    exact hn κ' x v σ' (h.put h1 h2 h3 hd) h4
  unfold Oper.wp
  generalize (execOp a.eval o).run P κ.w = r at hw
  cases r with
  | halt x w' => exact hw.elim
  | ok nx w' =>
    cases nx <;> simp only [Done] at hw <;> simp only [Oper.upon]
    case value v => exact post hw
    case skip => exact post hw
    case enter f args =>
      refine Calls.mono hw (fun e w'' he => ?_)
      cases e with
      | returned v => exact post he
      | panicked c => exact he.elim
      | outgrown => exact he.elim
    case row r args => exact Rows.mono hw (fun v w'' he => post he)

theorem vops_sound {κ0 : K} {n : Nat} {H : Nat → Hint} {ops : Array Oper} {Q : (Nat → AV) → Sg → Prop} {Q' : Exit → Act → World → Prop} (hQ : ∀ κ ρ σ a, Fits κ0 κ n ρ σ a → Q ρ σ → Q' .normal a κ.w) (hok : opsOK n ops = true) :
    ∀ (l : List Oper) (k : Nat) (κ : K) (ρ : Nat → AV) (σ : Sg) (a : Act), (∀ j, l[j]? = ops[k + j]?) → Fits κ0 κ n ρ σ a → vops P H ops Q l ρ σ → wpOps P ops Q' ((List.range l.length).map (k + ·)) a κ.w
  | [], _, κ, ρ, σ, a, _, h, hw => hQ κ ρ σ a h hw
  | o :: l, k, κ, ρ, σ, a, hl, h, hw => by
    have h0 : ops[k]? = some o := by simpa using (hl 0).symm
    have hd : ∀ t, o.dst = some t → t < n := fun t ht => by
      unfold opsOK at hok
      rw [← Array.all_toList, List.all_eq_true] at hok
      have := hok o (by rw [Array.mem_toList_iff]; exact Array.mem_of_getElem? h0)
      rw [ht] at this
      simpa using this
    have ih := fun κ ρ σ a => vops_sound (H := H) hQ hok l (k + 1) κ ρ σ a (fun j => by have := hl (j + 1); simpa [Nat.add_assoc, Nat.add_comm 1 j] using this)
    have hlist : (List.range (o :: l).length).map (k + ·) = k :: (List.range l.length).map (k + 1 + ·) := by
      rw [List.length_cons, List.range_succ_eq_map, List.map_cons, List.map_map]
      congr 1
      apply List.map_congr_left
      intro j _
      simp
      omega
    rw [hlist]
    simp only [wpOps, h0]
    unfold vops at hw
    obtain ⟨ρ', hf, ⟨hwt, hT⟩ | ⟨hwt, hF⟩⟩ := vguard_sound h hw
    · rw [if_pos hwt]
      exact .inl (wp_of_done hf hd (vop_sound hf.st hf.env hT) (fun κ' x v σ' hf' hR => ih κ' _ σ' _ hf' hR))
    · rw [if_neg (by rw [hwt]; simp)]
      exact ih κ _ σ _ (hf.put (.refl κ) hf.st (.val _) hd) hF

/-! ### A row whose order is drawn -/
def vwants (ops : Array Oper) (g : Option (Nat × Bool)) (ρ : Nat → AV) : Option Bool :=
  match g with
  | none => some true
  | some (j, want) => match (ops[j]?).bind (·.dst) with
    | some s => match ρ s with
      | .val (.bool t) => some (t == want)
      | .val (.tuple _) => some false
      | _ => none
    | none => none

theorem upd_same {ρ : Nat → AV} {s : Nat} {x : AV} (h : ρ s = x) : upd ρ s x = ρ := by
  funext t
  unfold upd
  split
  · rename_i e; rw [e, h]
  · rfl

theorem vguard_cases {ops : Array Oper} {g : Option (Nat × Bool)} {T F : (Nat → AV) → Prop} (h : vguard ops g ρ T F) : (vwants ops g ρ = some true ∧ T ρ) ∨ (vwants ops g ρ = some false ∧ F ρ) := by
  unfold vguard at h
  unfold vwants
  cases g with
  | none => exact .inl ⟨rfl, h⟩
  | some jw =>
    obtain ⟨j, want⟩ := jw
    simp only at h ⊢
    cases hs : (ops[j]?).bind (·.dst) with
    | none => rw [hs] at h; exact h.elim
    | some s =>
      rw [hs] at h
      simp only at h ⊢
      split at h
      · rename_i t ht
        by_cases e : t = want
        · subst e
          rw [upd_same ht] at h
          exact .inl ⟨by simp, h.1 rfl⟩
        · have e' : t = !want := by cases t <;> cases want <;> simp_all
          rw [← e', upd_same ht] at h
          exact .inr ⟨by simp [e], h.2 rfl⟩
      · rename_i vs hv
        exact .inr ⟨rfl, h⟩
      · exact h.elim

def YV (P : Program) (H : Nat → Hint) (ops : Array Oper) (σ : Sg) (o : Oper) (x : AV) (ρ : Nat → AV) : Prop :=
  (vwants ops o.guard ρ = some true ∧ vop P (H (o.dst.getD 0)) ρ o.type o.op σ (fun y σ' => y = x ∧ σ' = σ)) ∨ (vwants ops o.guard ρ = some false ∧ x = .val undef)

theorem ev_congr {ρ ρ' : Nat → AV} {x : Operand} (h : ∀ t, x = .tmp t → ρ t = ρ' t) : ev ρ x = ev ρ' x := by
  cases x <;> simp only [ev]
  exact h _ rfl

theorem vop_congr {H : Hint} {ρ ρ' : Nat → AV} {ty : TypeId} {o : Op} (h : ∀ x ∈ o.operands, ev ρ x = ev ρ' x) : vop P H ρ ty o σ R = vop P H ρ' ty o σ R := by
  cases o <;> simp only [vop]
  case move x => rw [h x (by simp [Op.operands])]
  case assign x => rw [h x (by simp [Op.operands])]
  case pick c x y => rw [h c (by simp [Op.operands]), h x (by simp [Op.operands]), h y (by simp [Op.operands])]
  case box e x => rw [h x (by simp [Op.operands])]
  case build t parts =>
    rw [show (parts.toList.map fun p => (p.1, ev ρ p.2)) = parts.toList.map fun p => (p.1, ev ρ' p.2) from List.map_congr_left (fun p hp => by rw [h p.2 (by simp only [Op.operands, List.mem_toArray, List.mem_map]; exact ⟨p, hp, rfl⟩)])]
  case buildSlice t len parts =>
    rw [show (parts.toList.map fun p => (p.1, ev ρ p.2)) = parts.toList.map fun p => (p.1, ev ρ' p.2) from List.map_congr_left (fun p hp => by rw [h p.2 (by simp only [Op.operands, List.mem_toArray, List.mem_map]; exact ⟨p, hp, rfl⟩)])]
  case load t x => rw [h x (by simp [Op.operands])]
  case store t x y => rw [h x (by simp [Op.operands]), h y (by simp [Op.operands])]
  case nilCheck x => rw [h x (by simp [Op.operands])]
  case binOp op t x y u => rw [h x (by simp [Op.operands]), h y (by simp [Op.operands])]
  case unOp op t x => rw [h x (by simp [Op.operands])]
  case convert s d x => rw [h x (by simp [Op.operands])]
  case makeFunc fn first captured =>
    cases fn <;> simp only
    rw [show captured.toList.map (ev ρ) = captured.toList.map (ev ρ') from List.map_congr_left (fun p hp => h p (by simp only [Op.operands, Array.mem_append]; exact .inr (Array.mem_toList_iff.1 hp)))]
  case makeMap t r => cases r <;> simp only
  case makeSlice t l c => rw [h l (by simp [Op.operands]), h c (by simp [Op.operands])]
  case slice t x lo hi mx =>
    rw [h x (by simp [Op.operands])]
    have ho : ∀ (y : Option Operand), (∀ z, y = some z → ev ρ z = ev ρ' z) → y.map (ev ρ) = y.map (ev ρ') := fun y hy => by
      cases y with
      | none => rfl
      | some z => simp [hy z rfl]
    rw [ho lo (fun z hz => h z (by simp [Op.operands, hz])), ho hi (fun z hz => h z (by simp [Op.operands, hz])), ho mx (fun z hz => h z (by simp [Op.operands, hz]))]
  case fieldAddr s x f => rw [h x (by simp [Op.operands])]
  case field s x f => rw [h x (by simp [Op.operands])]
  case indexAddr t x i => rw [h x (by simp [Op.operands]), h i (by simp [Op.operands])]
  case index t x i => rw [h x (by simp [Op.operands]), h i (by simp [Op.operands])]
  case lookup t m k ok => rw [h m (by simp [Op.operands]), h k (by simp [Op.operands])]
  case mapUpdate t m k x => rw [h m (by simp [Op.operands]), h k (by simp [Op.operands]), h x (by simp [Op.operands])]
  case extract x ix => rw [h x (by simp [Op.operands])]
  case call c =>
    obtain ⟨callee, args, ats⟩ := c
    have ha : args.toList.map (ev ρ) = args.toList.map (ev ρ') := List.map_congr_left (fun p hp => h p (by simp only [Op.operands, Call.operands, Array.mem_append]; exact .inr (Array.mem_toList_iff.1 hp)))
    have hm : ∀ p ∈ args.toList, ev ρ p = ev ρ' p := fun p hp => h p (by simp only [Op.operands, Call.operands, Array.mem_append]; exact .inr (Array.mem_toList_iff.1 hp))
    unfold vcall
    cases callee with
    | value f =>
      simp only
      rw [h f (by simp [Op.operands, Call.operands]), ha]
    | invoke r m => rfl
    | builtin b =>
      simp only
      rw [ha]

def vqOp (P : Program) (H : Nat → Hint) (ops : Array Oper) (σ : Sg) (i : Nat) (Q : (Nat → AV) → Prop) (ρ : Nat → AV) : Prop :=
  match ops[i]? with
  | none => Q ρ
  | some o => ∃ x, YV P H ops σ o x ρ ∧ Q (updo ρ o.dst x)
theorem vqOp_mono {H : Nat → Hint} {ops : Array Oper} {i : Nat} {Q Q' : (Nat → AV) → Prop} (h : ∀ ρ, Q ρ → Q' ρ) (hh : vqOp P H ops σ i Q ρ) : vqOp P H ops σ i Q' ρ := by
  unfold vqOp at *
  split
  · rename_i ho; rw [ho] at hh; exact h _ hh
  · rename_i o ho
    rw [ho] at hh
    obtain ⟨x, h1, h2⟩ := hh
    exact ⟨x, h1, h _ h2⟩
def vAny (P : Program) (H : Nat → Hint) (md : Region.Mode) (ops : Array Oper) (σ : Sg) (Q : (Nat → AV) → Prop) : Nat → Array Bool → (Nat → AV) → Prop
  | 0, listed, ρ => Region.ready md ops listed = [] ∧ Q ρ
  | fuel + 1, listed, ρ => (Region.ready md ops listed = [] → Q ρ) ∧ ∀ i ∈ Region.ready md ops listed, vqOp P H ops σ i (vAny P H md ops σ Q fuel (listed.setIfInBounds i true)) ρ

theorem updo_comm {ρ : Nat → AV} {x y : Option Tmp} (u v : AV) (h : ∀ d, x = some d → y ≠ some d) : updo (updo ρ x u) y v = updo (updo ρ y v) x u := by
  cases x with
  | none => rfl
  | some d =>
    cases y with
    | none => rfl
    | some e =>
      have hne : d ≠ e := fun he => h d rfl (he ▸ rfl)
      funext t
      simp only [updo, upd]
      by_cases h1 : t = d
      · rw [if_pos h1, if_neg (fun h2 => hne (h1.symm.trans h2)), if_pos h1]
      · rw [if_neg h1]
        by_cases h2 : t = e
        · rw [if_pos h2, if_neg h1]
        · rw [if_neg h2, if_neg h1]

theorem YV.agree {H : Nat → Hint} {ops : Array Oper} {o : Oper} {x : AV} {ρ' : Nat → AV} (h : ∀ t ∈ o.looksAt ops, ρ t = ρ' t) (hy : YV P H ops σ o x ρ) : YV P H ops σ o x ρ' := by
  have hw : vwants ops o.guard ρ = vwants ops o.guard ρ' := by
    unfold vwants
    cases hg : o.guard with
    | none => rfl
    | some jw =>
      obtain ⟨j, want⟩ := jw
      simp only
      cases hs : (ops[j]?).bind (·.dst) with
      | none => rfl
      | some s =>
        simp only
        rw [h s (by unfold Oper.looksAt; rw [hg]; simp [hs])]
  have ho : ∀ x ∈ o.op.operands, ev ρ x = ev ρ' x := fun x hx => ev_congr (fun t ht => h t (by
    unfold Oper.looksAt
    rw [List.mem_append]
    refine .inl (List.mem_filterMap.2 ⟨x, Array.mem_toList_iff.2 hx, ?_⟩)
    rw [ht]))
  unfold YV at *
  rw [← hw, ← vop_congr ho]
  exact hy

theorem updo_agree {ρ : Nat → AV} {d : Option Tmp} {x : AV} {l : List Tmp} (h : ∀ t, d = some t → t ∉ l) : ∀ t ∈ l, ρ t = (updo ρ d x) t := by
  intro t ht
  cases d with
  | none => rfl
  | some d =>
    simp only [updo, upd]
    rw [if_neg (fun (e : t = d) => h d rfl (by rw [← e]; exact ht))]

theorem vqOp_put {H : Nat → Hint} {ops : Array Oper} {j : Nat} {oi oj : Oper} {v : AV} (hj : ops[j]? = some oj) (hap : oi.apart ops oj = true) {Q : (Nat → AV) → Prop}
    (hy : YV P H ops σ oi v ρ) (h : vqOp P H ops σ j Q (updo ρ oi.dst v)) : vqOp P H ops σ j (fun ρ' => YV P H ops σ oi v ρ' ∧ Q (updo ρ' oi.dst v)) ρ := by
  obtain ⟨h1, h2, h3⟩ := Oper.apart_spec hap
  unfold vqOp at *
  rw [hj] at h ⊢
  obtain ⟨x, hx, hq⟩ := h
  refine ⟨x, hx.agree (fun t ht => (updo_agree h1 t ht).symm), hy.agree (updo_agree h3), ?_⟩
  rw [← updo_comm v x h2]
  exact hq

theorem vAny_first {H : Nat → Hint} {md : Region.Mode} {ops : Array Oper} {Q : (Nat → AV) → Prop} {i : Nat} {oi : Oper} {v : AV} (hi : ops[i]? = some oi) : ∀ (fuel : Nat) (listed : Array Bool) (ρ : Nat → AV),
      (∀ j oj, ops[j]? = some oj → j ≠ i → listed.getD j true = false → (∀ e ∈ oj.after, Region.binds md e = true → e.on ≠ i) → oi.apart ops oj = true) →
      i ∈ Region.ready md ops listed → YV P H ops σ oi v ρ → vAny P H md ops σ Q fuel (listed.setIfInBounds i true) (updo ρ oi.dst v) → vAny P H md ops σ Q (fuel + 1) listed ρ := by
  have self : ∀ {ρ : Nat → AV} {K : (Nat → AV) → Prop}, YV P H ops σ oi v ρ → K (updo ρ oi.dst v) → vqOp P H ops σ i K ρ := fun {ρ K} hy hk => by
    unfold vqOp
    rw [hi]
    exact ⟨v, hy, hk⟩
  intro fuel
  induction fuel with
  | zero =>
    intro listed ρ _ hr hy H'
    refine ⟨fun h => (by rw [h] at hr; cases hr), fun j hj => ?_⟩
    by_cases hji : j = i
    · subst hji; exact self hy H'
    · have := ready_mono hj hji
      rw [H'.1] at this
      cases this
  | succ fuel ih =>
    intro listed ρ hfree hr hy H'
    refine ⟨fun h => (by rw [h] at hr; cases hr), fun j hj => ?_⟩
    by_cases hji : j = i
    · subst hji; exact self hy H'
    · have h1 := H'.2 j (ready_mono hj hji)
      obtain ⟨hjun, oj, hoj, hall⟩ := mem_ready.1 hj
      have hnot : ∀ e ∈ oj.after, Region.binds md e = true → e.on ≠ i := fun e he hb heq => by
        have h1 := hall e he hb
        have h0 := (mem_ready.1 hr).1
        rw [heq] at h1
        rcases Nat.lt_or_ge i listed.size with h' | h'
        · simp [h'] at h0 h1; rw [h0] at h1; cases h1
        · simp [Array.getElem?_eq_none h'] at h1
      have h2 := vqOp_put hoj (hfree j oj hoj hji hjun hnot) hy h1
      have hfree' : ∀ k ok, ops[k]? = some ok → k ≠ i → (listed.setIfInBounds j true).getD k true = false →
          (∀ e ∈ ok.after, Region.binds md e = true → e.on ≠ i) → oi.apart ops ok = true := fun k ok hk hki hun hno => by
        refine hfree k ok hk hki ?_ hno
        by_cases hjk : j = k
        · subst hjk; exact hjun
        · rw [getD_set_ne true hjk] at hun; exact hun
      refine vqOp_mono (fun ρ' h3 => ih (listed.setIfInBounds j true) ρ' hfree' (ready_mono hr (Ne.symm hji)) h3.1 ?_) h2
      rw [Array.setIfInBounds_comm _ _ hji]
      exact h3.2

theorem vAny_lex {H : Nat → Hint} {md : Region.Mode} {ops : Array Oper} {Q : (Nat → AV) → Prop} : ∀ (l : List Oper) (k : Nat) (listed : Array Bool) (ρ : Nat → AV), (∀ j, l[j]? = ops[k + j]?) →
    Region.lexFrom md ops l.length k listed = true → vquiet P H ops σ Q l ρ → vAny P H md ops σ Q l.length listed ρ
  | [], _, _, _, _, hB, h => ⟨by simpa [Region.lexFrom] using hB, h⟩
  | o :: l, k, listed, ρ, hl, hB, h => by
    have h0 : ops[k]? = some o := by simpa using (hl 0).symm
    simp only [List.length_cons, Region.lexFrom, Bool.and_eq_true] at hB
    obtain ⟨⟨hr, hf⟩, hB'⟩ := hB
    unfold vquiet at h
    have hk : ∃ x, YV P H ops σ o x ρ ∧ vquiet P H ops σ Q l (updo ρ o.dst x) := by
      rcases vguard_cases h with ⟨h1, x, h2, h3⟩ | ⟨h1, h2⟩
      · exact ⟨x, .inl ⟨h1, h2⟩, h3⟩
      · exact ⟨_, .inr ⟨h1, rfl⟩, h2⟩
    obtain ⟨x, hy, hK⟩ := hk
    exact vAny_first h0 l.length listed ρ (Region.free_spec h0 hf) (by simpa using hr) hy
      (vAny_lex l (k + 1) _ _ (fun j => by have := hl (j + 1); simpa [Nat.add_assoc, Nat.add_comm 1 j] using this) hB' hK)

theorem wanted_of_wants {κ0 : K} {n : Nat} {ops : Array Oper} {o : Oper} {b : Bool} (h : Fits κ0 κ n ρ σ a) (hw : vwants ops o.guard ρ = some b) : Region.wanted o (yielded ops a.tmps) = b := by
  have hg : vguard ops o.guard ρ (fun _ => b = true) (fun _ => b = false) := by
    unfold vwants at hw
    unfold vguard
    cases hgd : o.guard with
    | none => rw [hgd] at hw; simp at hw; rw [← hw]
    | some jw =>
      obtain ⟨j, want⟩ := jw
      rw [hgd] at hw
      simp only at hw ⊢
      cases hs : (ops[j]?).bind (·.dst) with
      | none => rw [hs] at hw; cases hw
      | some s =>
        rw [hs] at hw
        simp only at hw ⊢
        split at hw
        · rename_i t ht
          cases hw
          exact ⟨fun e => by simp [e], fun e => by rw [e]; cases want <;> rfl⟩
        · rename_i vs hv
          cases hw
          rfl
        · cases hw
  obtain ⟨ρ', _, ⟨h1, h2⟩ | ⟨h1, h2⟩⟩ := vguard_sound h hg
  · rw [h1, h2]
  · rw [h1, h2]

theorem vAny_sound {κ0 : K} {n : Nat} {H : Nat → Hint} {md : Region.Mode} {ops : Array Oper} {Q : (Nat → AV) → Prop} {Q' : Exit → Act → World → Prop} (hQ : ∀ κ ρ a, Fits κ0 κ n ρ σ a → Q ρ → Q' .normal a κ.w) (hok : opsOK n ops = true) :
    ∀ (fuel : Nat) (listed : Array Bool) (κ : K) (ρ : Nat → AV) (a : Act), Fits κ0 κ n ρ σ a → vAny P H md ops σ Q fuel listed ρ → wpAny P md ops Q' fuel listed a κ.w
  | 0, _, κ, ρ, a, h, hw => ⟨hw.1, hQ κ ρ a h hw.2⟩
  | fuel + 1, listed, κ, ρ, a, h, hw => by
    refine ⟨fun h0 => hQ κ ρ a h (hw.1 h0), fun i hi => ?_⟩
    have := hw.2 i hi
    unfold vqOp at this
    unfold wpOp
    cases ho : ops[i]? with
    | none => rw [ho] at this; exact vAny_sound hQ hok fuel _ κ ρ a h this
    | some o =>
      rw [ho] at this
      simp only
      have hd : ∀ t, o.dst = some t → t < n := fun t ht => by
        unfold opsOK at hok
        rw [← Array.all_toList, List.all_eq_true] at hok
        have := hok o (by rw [Array.mem_toList_iff]; exact Array.mem_of_getElem? ho)
        rw [ht] at this
        simpa using this
      obtain ⟨x, hy, hk⟩ := this
      rcases hy with ⟨h1, h2⟩ | ⟨h1, rfl⟩
      · rw [if_pos (wanted_of_wants h h1)]
        refine .inl (wp_of_done h hd (vop_sound h.st h.env h2) (fun κ' y v σ' hf' hR => ?_))
        obtain ⟨h5, h6⟩ := hR
        rw [h5, h6] at hf'
        exact vAny_sound hQ hok fuel _ κ' _ _ hf' hk
      · rw [if_neg (by rw [wanted_of_wants h h1]; simp)]
        exact vAny_sound hQ hok fuel _ κ _ _ (h.put (.refl κ) h.st (.val _) hd) hk

theorem Fits.drew {κ0 : K} {n : Nat} (h : Fits κ0 κ n ρ σ a) : Fits κ0 κ.drew n ρ σ a := ⟨h.le.trans κ.le_drew, h.st.drew, h.env.mono κ.le_drew, h.size, h.defers⟩

end Go.V
