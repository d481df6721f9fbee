/- Statements and functions; loops. -/
import Derived.Test.YtkbfngepdgdecaaV11
import Derived.Scope
import Derived.Laws.Externs
set_option linter.unusedVariables false
set_option linter.unusedSimpArgs false
namespace Go.V
open Go.RowKit
variable {P : Program} {κ : K} {σ : Sg} {ρ : Nat → AV} {a : Act} {R : AV → Sg → Prop}

/-- A statement, from every state of memory that fits: the triple. -/
structure VW (P : Program) (H : Nat → Hint) (n : Nat) (c : Code) (Q : VX → (Nat → AV) → Sg → Prop) (ρ : Nat → AV) (σ : Sg) : Prop where
  hint : H = H
  run : P.follows .mixedOrders = true → codeOK n c = true → ∀ (κ0 κ : K) (a : Act), Fits κ0 κ n ρ σ a → c.wp P (Lift κ0 n Q) a κ.w

section rules
variable {H : Nat → Hint} {n : Nat} {Q Q' : VX → (Nat → AV) → Sg → Prop}

def sq (k : (Nat → AV) → Sg → Prop) (Q : VX → (Nat → AV) → Sg → Prop) : VX → (Nat → AV) → Sg → Prop
  | .normal => k
  | .exit id => Q (.exit id)
  | .ret => Q .ret
def bq (id : Nat) (Q : VX → (Nat → AV) → Sg → Prop) : VX → (Nat → AV) → Sg → Prop
  | .normal => Q .normal
  | .exit id' => if id' = id then Q .normal else Q (.exit id')
  | .ret => Q .ret
theorem sq_normal (k : (Nat → AV) → Sg → Prop) : sq k Q .normal = k := rfl
theorem sq_exit (k : (Nat → AV) → Sg → Prop) (id : Nat) : sq k Q (.exit id) = Q (.exit id) := rfl
theorem sq_ret (k : (Nat → AV) → Sg → Prop) : sq k Q .ret = Q .ret := rfl
theorem bq_normal (id : Nat) : bq id Q .normal = Q .normal := rfl
theorem bq_ret (id : Nat) : bq id Q .ret = Q .ret := rfl
theorem bq_exit (id id' : Nat) : bq id Q (.exit id') = if id' = id then Q .normal else Q (.exit id') := rfl
theorem bq_same (id : Nat) : bq id Q (.exit id) = Q .normal := if_pos rfl

theorem Lift.mono {κ0 : K} (h : ∀ e ρ σ, Q e ρ σ → Q' e ρ σ) : ∀ e a w, Lift κ0 n Q e a w → Lift κ0 n Q' e a w := by
  intro e a w hq
  cases e with
  | normal => obtain ⟨κ, ρ, σ, h1, h2, h3⟩ := hq; exact ⟨κ, ρ, σ, h1, h2, h _ _ _ h3⟩
  | exit id => obtain ⟨κ, ρ, σ, h1, h2, h3⟩ := hq; exact ⟨κ, ρ, σ, h1, h2, h _ _ _ h3⟩
  | ret => obtain ⟨κ, ρ, σ, h1, h2, h3⟩ := hq; exact ⟨κ, ρ, σ, h1, h2, h _ _ _ h3⟩
  | goto l => exact hq
  | panic ch => exact hq
  | outgrown => exact hq

theorem VW.mono {c : Code} (hw : VW P H n c Q ρ σ) (h : ∀ e ρ σ, Q e ρ σ → Q' e ρ σ) : VW P H n c Q' ρ σ :=
  ⟨rfl, fun hm hok κ0 κ a hf => wp_mono (hw.run hm hok κ0 κ a hf) (Lift.mono h)⟩
theorem VW.weak {c : Code} {ρ' : Nat → AV} (h : ∀ i, ρ' i = ρ i ∨ ρ' i = .junk) (hw : VW P H n c Q ρ' σ) : VW P H n c Q ρ σ :=
  ⟨rfl, fun hm hok κ0 κ a hf => hw.run hm hok κ0 κ a ⟨hf.le, hf.st, fun t => by
    rcases h t with e | e <;> rw [e]
    · exact hf.env t
    · exact .junk _, hf.size, hf.defers⟩⟩
theorem VW.forget {c : Code} {σ' : Sg} (h : σ'.sub σ) (hw : VW P H n c Q ρ σ') : VW P H n c Q ρ σ :=
  ⟨rfl, fun hm hok κ0 κ a hf => hw.run hm hok κ0 κ a ⟨hf.le, hf.st.sub h, hf.env, hf.size, hf.defers⟩⟩
theorem VW.skip (h : Q .normal ρ σ) : VW P H n .skip Q ρ σ := ⟨rfl, fun _ _ _ κ _ hf => wp_skip ⟨κ, ρ, σ, rfl, hf, h⟩⟩
theorem VW.label {l : Nat} (h : Q .normal ρ σ) : VW P H n (.label l) Q ρ σ := ⟨rfl, fun _ _ _ κ _ hf => wp_label ⟨κ, ρ, σ, rfl, hf, h⟩⟩
theorem VW.exit {id : Nat} (h : Q (.exit id) ρ σ) : VW P H n (.exit id) Q ρ σ := ⟨rfl, fun _ _ _ κ _ hf => wp_exit ⟨κ, ρ, σ, rfl, hf, h⟩⟩
theorem VW.ret (h : Q .ret ρ σ) : VW P H n .ret Q ρ σ := ⟨rfl, fun _ _ _ κ _ hf => wp_ret ⟨κ, ρ, σ, rfl, hf, h⟩⟩
theorem VW.region {id : Nat} {ops : Array Oper} (h : vops P H ops (Q .normal) ops.toList ρ σ) : VW P H n (.region id ops false) Q ρ σ := by
  refine ⟨rfl, ?_⟩
  intro _ hok κ0 κ a hf
  have hq : ∀ κ ρ σ a, Fits κ0 κ n ρ σ a → Q .normal ρ σ → Lift κ0 n Q .normal a κ.w := fun κ ρ σ a h hw => ⟨κ, ρ, σ, rfl, h, hw⟩
  have := vops_sound (P := P) (H := H) (Q' := Lift κ0 n Q) hq hok ops.toList 0 κ ρ σ a (fun j => by simp) hf h
  refine wp_region ?_
  have hlist : (List.range ops.toList.length).map (0 + ·) = List.range ops.size := by simp
  rw [hlist] at this
  exact this
theorem VW.draw {id : Nat} {ops : Array Oper} (hB : Region.lexB .any ops = true) (h : vquiet P H ops σ (fun ρ => Q .normal ρ σ) ops.toList ρ) : VW P H n (.region id ops true) Q ρ σ := by
  refine ⟨rfl, ?_⟩
  intro hm hok κ0 κ a hf
  simp only [Region.lexB, Bool.and_eq_true] at hB
  refine wp_region_any hm ?_
  have := vAny_lex (P := P) (H := H) (md := .any) (ops := ops) (σ := σ) ops.toList 0 (Array.replicate ops.size false) ρ (by simp) (by simpa using hB.2) h
  have h2 := vAny_sound (P := P) (κ0 := κ0) (n := n) (Q' := Lift κ0 n Q) (fun κ ρ a h hw => ⟨κ, ρ, σ, rfl, h, hw⟩) hok _ _ κ.drew ρ a hf.drew this
  simp only [Array.length_toList] at h2
  exact h2
theorem VW.seq {x y : Code} (h : VW P H n x (sq (VW P H n y Q) Q) ρ σ) : VW P H n (.seq x y) Q ρ σ := by
  refine ⟨rfl, ?_⟩
  intro hm hok κ0 κ a hf
  simp only [codeOK, Bool.and_eq_true] at hok
  refine wp_seq (wp_mono (h.run hm hok.1 κ0 κ a hf) (fun e a' w' hq => ?_))
  cases e with
  | normal =>
    obtain ⟨κ', ρ', σ', rfl, hf, hv⟩ := hq
    exact hv.run hm hok.2 κ0 κ' a' hf
  | exit id => exact hq
  | ret => exact hq
  | goto l => exact hq
  | panic ch => exact hq
  | outgrown => exact hq
theorem VW.sr {id : Nat} {ops : Array Oper} {y : Code} (h : vops P H ops (VW P H n y Q) ops.toList ρ σ) : VW P H n (.seq (.region id ops false) y) Q ρ σ := .seq (.region h)
theorem VW.sd {id : Nat} {ops : Array Oper} {y : Code} (hB : Region.lexB .any ops = true) (h : vquiet P H ops σ (fun ρ => VW P H n y Q ρ σ) ops.toList ρ) : VW P H n (.seq (.region id ops true) y) Q ρ σ := .seq (.draw hB h)
theorem VW.cond {c : Operand} {x y : Code} {t : Bool} (hc : ev ρ c = .b t) (h : (t = true → VW P H n x Q ρ σ) ∧ (t = false → VW P H n y Q ρ σ)) : VW P H n (.cond c x y) Q ρ σ := by
  refine ⟨rfl, ?_⟩
  intro hm hok κ0 κ a hf
  simp only [codeOK, Bool.and_eq_true] at hok
  have hr := rel_eval hf.env c
  rw [hc] at hr
  have hv : a.eval c = .bool t := by
    generalize a.eval c = v at hr
    cases hr
    rfl
  exact wp_cond_split hv (fun ht => (h.1 ht).run hm hok.1 κ0 κ a hf) (fun ht => (h.2 ht).run hm hok.2 κ0 κ a hf)
theorem VW.block {id : Nat} {c : Code} (h : VW P H n c (bq id Q) ρ σ) : VW P H n (.block id c) Q ρ σ := by
  refine ⟨rfl, ?_⟩
  intro hm hok κ0 κ a hf
  refine wp_block (wp_mono (h.run hm hok κ0 κ a hf) (fun e a' w' hq => ?_))
  cases e with
  | normal => exact hq
  | exit id' =>
    obtain ⟨κ', ρ', σ', rfl, hf, hv⟩ := hq
    simp only [Exit.inBlock]
    rw [bq_exit] at hv
    by_cases e : id' = id
    · rw [if_pos e] at hv ⊢
      exact ⟨κ', ρ', σ', rfl, hf, hv⟩
    · rw [if_neg e] at hv ⊢
      exact ⟨κ', ρ', σ', rfl, hf, hv⟩
  | ret => exact hq
  | goto l => exact hq
  | panic ch => exact hq
  | outgrown => exact hq

theorem VW.scope {c : Code} (h : VW P H n c Q ρ σ) : VW P H n (.scope c) Q ρ σ := by
  refine ⟨rfl, ?_⟩
  intro hm hok κ0 κ a hf
  refine wp_scope_straight (wp_mono (h.run hm hok κ0 κ a hf) (fun e a' w' hq => ?_))
  cases e with
  | goto l => exact hq.elim
  | _ => exact hq

/-- An environment by its slots. -/
def env : List (Nat × AV) → Nat → AV
  | [], _ => .junk
  | (t, x) :: r, i => if i = t then x else env r i
def Holds (vals : List (Nat × AV)) (ρ : Nat → AV) : Prop := ∀ p ∈ vals, ρ p.1 = p.2
theorem Holds.weak : ∀ {vals : List (Nat × AV)} {ρ : Nat → AV}, Holds vals ρ → ∀ i, env vals i = ρ i ∨ env vals i = .junk
  | [], _, _, _ => .inr rfl
  | (t, x) :: r, ρ, h, i => by
    simp only [env]
    by_cases e : i = t
    · rw [if_pos e, e]; exact .inl (h (t, x) (by simp)).symm
    · rw [if_neg e]; exact Holds.weak (fun p hp => h p (by simp [hp])) i
theorem Holds.nil : Holds [] ρ := fun _ h => by cases h
theorem Holds.cons {t : Nat} {x : AV} {r : List (Nat × AV)} (h : ρ t = x) (hr : Holds r ρ) : Holds ((t, x) :: r) ρ := fun p hp => by
  rcases List.mem_cons.1 hp with rfl | hp
  · exact h
  · exact hr p hp

/-- What is known where a statement ends, or a round: some y of which Inv holds, its slots, its store. -/
def At {α : Type} (Inv : α → Prop) (vals : α → List (Nat × AV)) (sg : α → Sg) (ρ : Nat → AV) (σ : Sg) : Prop := ∃ y, Inv y ∧ (sg y).sub σ ∧ Holds (vals y) ρ

theorem VW.cut {α : Type} {x y : Code} (Inv : α → Prop) (vals : α → List (Nat × AV)) (sg : α → Sg) (h : VW P H n x (sq (At Inv vals sg) Q) ρ σ) (h' : ∀ z, Inv z → VW P H n y Q (env (vals z)) (sg z)) : VW P H n (.seq x y) Q ρ σ := by
  refine .seq (h.mono (fun e ρ σ hq => ?_))
  cases e with
  | normal =>
    obtain ⟨z, hz, hs, hv⟩ := hq
    exact ((h' z hz).weak (Holds.weak hv)).forget hs
  | exit id => exact hq
  | ret => exact hq

/-- A loop: of each y that may stand at its head; a round leads to a z of a lower measure, or out. -/
theorem VW.loop {α : Type} {c : Code} (x : α) (Inv : α → Prop) (vals : α → List (Nat × AV)) (sg : α → Sg) (m : α → Nat) (h0 : Inv x) (hσ : (sg x).sub σ) (hρ : Holds (vals x) ρ)
    (round : ∀ y, Inv y → VW P H n c (sq (fun ρ σ => ∃ z, (Inv z ∧ m z < m y) ∧ (sg z).sub σ ∧ Holds (vals z) ρ) Q) (env (vals y)) (sg y)) : VW P H n (.loop c) Q ρ σ := by
  refine ⟨rfl, ?_⟩
  intro hm hok κ0 κ a hf
  refine wp_loop_ghost (fun k a w => ∃ κ ρ y, κ.w = w ∧ Fits κ0 κ n ρ (sg y) a ∧ Inv y ∧ m y = k ∧ Holds (vals y) ρ) (m x) ⟨κ, ρ, x, rfl, ⟨hf.le, hf.st.sub hσ, hf.env, hf.size, hf.defers⟩, h0, rfl, hρ⟩ ?_
  rintro k a' w' ⟨κ', ρ', y, rfl, hf', hI, rfl, hv⟩
  refine wp_mono (((round y hI).weak (Holds.weak hv)).run hm hok κ0 κ' a' hf') (fun e a'' w'' hq => ?_)
  cases e with
  | normal =>
    obtain ⟨κ2, ρ2, σ2, rfl, hf2, z, ⟨hz, hlt⟩, hs, hv2⟩ := hq
    exact ⟨m z, hlt, κ2, ρ2, z, rfl, ⟨hf2.le, hf2.st.sub hs, hf2.env, hf2.size, hf2.defers⟩, hz, rfl, hv2⟩
  | exit id => exact hq
  | ret => exact hq
  | goto l => exact hq
  | panic ch => exact hq
  | outgrown => exact hq
theorem VW.loop2 {α β : Type} {c : Code} (x : α) (y : β) (Inv : α → β → Prop) (vals : α → β → List (Nat × AV)) (sg : α → β → Sg) (m : α → β → Nat) (h0 : Inv x y) (hσ : (sg x y).sub σ) (hρ : Holds (vals x y) ρ)
    (round : ∀ a b, Inv a b → VW P H n c (sq (fun ρ σ => ∃ a' b', (Inv a' b' ∧ m a' b' < m a b) ∧ (sg a' b').sub σ ∧ Holds (vals a' b') ρ) Q) (env (vals a b)) (sg a b)) : VW P H n (.loop c) Q ρ σ :=
  .loop (x, y) (fun p => Inv p.1 p.2) (fun p => vals p.1 p.2) (fun p => sg p.1 p.2) (fun p => m p.1 p.2) h0 hσ hρ (fun p hp => (round p.1 p.2 hp).mono (fun e ρ σ hq => by
    cases e with
    | normal => obtain ⟨a', b', h⟩ := hq; exact ⟨(a', b'), h⟩
    | exit id => exact hq
    | ret => exact hq))
theorem VW.loop3 {α β γ : Type} {c : Code} (x : α) (y : β) (z : γ) (Inv : α → β → γ → Prop) (vals : α → β → γ → List (Nat × AV)) (sg : α → β → γ → Sg) (m : α → β → γ → Nat) (h0 : Inv x y z) (hσ : (sg x y z).sub σ) (hρ : Holds (vals x y z) ρ)
    (round : ∀ a b d, Inv a b d → VW P H n c (sq (fun ρ σ => ∃ a' b' d', (Inv a' b' d' ∧ m a' b' d' < m a b d) ∧ (sg a' b' d').sub σ ∧ Holds (vals a' b' d') ρ) Q) (env (vals a b d)) (sg a b d)) : VW P H n (.loop c) Q ρ σ :=
  .loop (x, y, z) (fun p => Inv p.1 p.2.1 p.2.2) (fun p => vals p.1 p.2.1 p.2.2) (fun p => sg p.1 p.2.1 p.2.2) (fun p => m p.1 p.2.1 p.2.2) h0 hσ hρ (fun p hp => (round p.1 p.2.1 p.2.2 hp).mono (fun e ρ σ hq => by
    cases e with
    | normal => obtain ⟨a', b', d', h⟩ := hq; exact ⟨(a', b', d'), h⟩
    | exit id => exact hq
    | ret => exact hq))
end rules

def pack : List AV → AV
  | [x] => x
  | xs => .tup xs

def vres (P : Program) (ρ : Nat → AV) (σ : Sg) : List ResultVar → (List AV → Prop) → Prop
  | [], Q => Q []
  | .tmp t :: r, Q => vres P ρ σ r (fun xs => Q (ρ t :: xs))
  | .cell b t :: r, Q => vload P t (ρ b) σ (fun x => vres P ρ σ r (fun xs => Q (x :: xs)))

def VRet (P : Program) (rs : List ResultVar) (R : AV → Sg → Prop) : VX → (Nat → AV) → Sg → Prop
  | .exit _, _, _ => False
  | _, ρ, σ => vres P ρ σ rs (fun xs => ∃ σ' : Sg, σ'.sub σ ∧ R (pack xs) σ')

theorem pack_rel {xs : List AV} {vs : Array Value} (h : RelRow κ xs vs) : Rel κ (pack xs) (if h : vs.size = 1 then vs[0] else .tuple vs) := by
  have hl := h.1
  unfold pack
  split
  · obtain ⟨v, rfl, hv⟩ := relRow1 h
    exact hv
  · rename_i hne
    split
    · rename_i h1
      rw [h1] at hl
      match xs, hl with
      | [x], _ => exact absurd rfl (hne x)
    · exact .tup _ _ h.1 h.2

def runRes (tmps : Array Value) : ResultVar → Sem Value
  | .tmp t => pure (tmps.getD t undef)
  | .cell b t => do loadVar t (← asAddr (tmps.getD b undef))

theorem vres_sound {rs : List ResultVar} {Q : List AV → Prop} (h : St κ σ) (hρ : RelEnv κ ρ a.tmps) (hw : vres P ρ σ rs Q) :
    ∃ (vs : List Value) (xs : List AV), (rs.mapM (runRes a.tmps)).run P κ.w = .ok vs κ.w ∧ RelRow κ xs vs.toArray ∧ Q xs := by
  induction rs generalizing Q with
  | nil => exact ⟨[], [], rfl, ⟨rfl, fun i x v hx => by simp at hx⟩, hw⟩
  | cons r rs ih =>
    have cons : ∀ {x : AV} {v : Value} {xs : List AV} {vs : List Value}, Rel κ x v → RelRow κ xs vs.toArray → RelRow κ (x :: xs) (v :: vs).toArray := fun {x v xs vs} hx hr => by
      refine ⟨by have := hr.1; simp at this; simp [this], fun i y u h1 h2 => ?_⟩
      rw [List.getElem?_toArray] at h2
      cases i with
      | zero => simp at h1 h2; subst h1; subst h2; exact hx
      | succ i => exact hr.2 i y u (by simpa using h1) (by rw [List.getElem?_toArray]; simpa using h2)
    cases r with
    | tmp t =>
      obtain ⟨vs, xs, h1, h2, h3⟩ := ih hw
      exact ⟨a.tmps.getD t undef :: vs, ρ t :: xs, by simp only [List.mapM_cons, runRes, Sem.run_bind, Sem.run_pure, Result.andThen, h1], cons (hρ t) h2, h3⟩
    | cell b t =>
      have hb := hρ b
      obtain ⟨ad, u, y, hv, h1, h2, h3⟩ := load_rel h hb hw
      obtain ⟨vs, xs, h4, h5, h6⟩ := ih h3
      exact ⟨u :: vs, y :: xs, by simp only [List.mapM_cons, runRes, Sem.run_bind, Sem.run_pure, Result.andThen, hv, asAddr, h1, h4], cons h2 h5, h6⟩

def initEnv (args : List AV) : Nat → AV := fun i => args.getD i (.val undef)

/-- A function by its body. -/
theorem vcalls {f : FuncId} {fn : Func} {c : Code} {args : List AV} (H : Nat → Hint) (hm : P.follows .mixedOrders = true) (hf : P.funcs[f]? = some fn) (hb : fn.body = some c) (hname : fn.name ≠ "runtime.NumGoroutine")
    (hok : codeOK fn.ntmps c = true) (hn : args.length ≤ fn.ntmps) (hw : VW P H fn.ntmps c (VRet P fn.results.toList R) (initEnv args) σ) : VCalls P f args σ R := by
  refine ⟨fun κ vs hst hargs => ?_⟩
  have hrun : (callFunc f vs).run P κ.w = .ok (.enter f vs) κ.w := by
    simp [callFunc, program, Sem.run, Bind.bind, Sem.bind, hf, hname, hb]
  rw [hrun]
  have hsz : vs.size = args.length := hargs.1.symm
  have henv : RelEnv κ (initEnv args) (vs ++ Array.replicate (fn.ntmps - vs.size) undef) := by
    intro t
    unfold initEnv
    rcases Nat.lt_or_ge t args.length with h | h
    · have h1 : (vs ++ Array.replicate (fn.ntmps - vs.size) undef).getD t undef = vs[t]'(by omega) := by
        rw [Array.getD_eq_getD_getElem?, Array.getElem?_append_left (by omega)]
        simp [show t < vs.size by omega]
      rw [h1, List.getD_eq_getElem?_getD, List.getElem?_eq_getElem h]
      exact hargs.2 t args[t] _ (List.getElem?_eq_getElem h) (by simp [show t < vs.size by omega])
    · have h1 : (vs ++ Array.replicate (fn.ntmps - vs.size) undef).getD t undef = undef := by
        rw [Array.getD_eq_getD_getElem?, Array.getElem?_append_right (by omega)]
        rcases Nat.lt_or_ge (t - vs.size) (fn.ntmps - vs.size) with h2 | h2
        · simp [h2]
        · simp [Nat.not_lt.2 h2]
      rw [h1, List.getD_eq_getElem?_getD, List.getElem?_eq_none h]
      exact .val _
  have hfit : Fits κ κ fn.ntmps (initEnv args) σ { tmps := vs ++ Array.replicate (fn.ntmps - vs.size) undef, defers := [] } :=
    ⟨.refl κ, hst, henv, by simp; omega, rfl⟩
  refine calls_of_wp hf hb (wp_mono (hw.run hm hok κ κ _ hfit) ?_)
  have fin : ∀ (κ' : K) (ρ : Nat → AV) (σ' : Sg) (a : Act), Fits κ κ' fn.ntmps ρ σ' a → vres P ρ σ' fn.results.toList (fun xs => ∃ σ'' : Sg, σ''.sub σ' ∧ R (pack xs) σ'') → a.defers = [] ∧ ∃ v, (results fn a.tmps).run P κ'.w = .ok v κ'.w ∧ PostE κ R (.returned v) κ'.w := by
    intro κ' ρ σ' a hf hv
    refine ⟨hf.defers, ?_⟩
    obtain ⟨us, xs, h1, h2, σ'', h3, h4⟩ := vres_sound hf.st hf.env hv
    refine ⟨if h : us.toArray.size = 1 then us.toArray[0] else .tuple us.toArray, ?_, κ', pack xs, σ'', rfl, hf.le, hf.st.sub h3, pack_rel h2, h4⟩
    have hres : results fn a.tmps = (do let vs ← fn.results.mapM (runRes a.tmps); pure (if h : vs.size = 1 then vs[0] else .tuple vs)) := by
      unfold results
      congr 1
    rw [hres, Sem.run_bind, Array.mapM_eq_mapM_toList, Sem.run_map]
    rw [h1]
    rfl
  intro e a' w' hq
  cases e with
  | normal => obtain ⟨κ', ρ', σ', rfl, hf, hv⟩ := hq; exact fin κ' ρ' σ' a' hf hv
  | ret => obtain ⟨κ', ρ', σ', rfl, hf, hv⟩ := hq; exact fin κ' ρ' σ' a' hf hv
  | exit id => obtain ⟨κ', ρ', σ', rfl, hf, hv⟩ := hq; exact hv.elim
  | goto l => exact hq.elim
  | panic ch => exact hq.elim
  | outgrown => exact hq.elim

theorem vextern {f : FuncId} {fn : Func} {e : Array Value → Sem Value} {args : List AV} (hf : P.funcs[f]? = some fn) (hname : (fn.name == "runtime.NumGoroutine") = false) (hb : fn.body.isNone = true) (hn : Extern.findNext fn = none) (he : Extern.find fn = some e)
    (h : ∀ (κ : K) (vs : Array Value), St κ σ → RelArgs κ args vs → ∃ u w', (e vs).run P κ.w = .ok u w' ∧ Post κ R u w') : VCalls P f args σ R := by
  refine ⟨fun κ vs hst hargs => ?_⟩
  rw [run_callFunc_extern hf hname hb hn he]
  obtain ⟨u, w', h1, h2⟩ := h κ vs hst hargs
  rw [h1]
  exact h2

theorem vNoEscape {f : FuncId} {fn : Func} {x : AV} (hf : P.funcs[f]? = some fn) (hname : (fn.name == "runtime.NumGoroutine") = false) (hb : fn.body.isNone = true) (hn : Extern.findNext fn = none) (he : Extern.find fn = some Extern.AbiNoEscape.same) :
    VCalls P f [x] σ (fun y σ' => y = x ∧ σ' = σ) :=
  vextern hf hname hb hn he (fun κ vs hst hargs => by
    obtain ⟨v, rfl, hx⟩ := relRow1 hargs
    exact ⟨v, κ.w, rfl, post_same hst hx ⟨rfl, rfl⟩⟩)

/-- How many bytes ahead of the first c. -/
def upTo (c : UInt8) (l : List UInt8) : Nat := (l.takeWhile (fun x => x != c)).length
theorem find_upTo (c : UInt8) : ∀ (l : List UInt8) (k : Nat), (List.range' k l.length).find? (fun i => (l[i - k]?).getD 0 == c) = if upTo c l < l.length then some (k + upTo c l) else none
  | [], k => by simp [upTo]
  | x :: l, k => by
    simp only [List.length_cons, List.range'_succ, List.find?_cons, Nat.sub_self, List.getElem?_cons_zero, Option.getD_some]
    by_cases h : x = c
    · subst h
      simp [upTo]
    · have h1 : (x == c) = false := beq_false_of_ne h
      rw [h1]
      have ih := find_upTo c l (k + 1)
      have hc : (List.range' (k + 1) l.length).find? (fun i => ((x :: l)[i - k]?).getD 0 == c) = (List.range' (k + 1) l.length).find? (fun i => (l[i - (k + 1)]?).getD 0 == c) := by
        have : ∀ (m : List Nat), (∀ i ∈ m, k + 1 ≤ i) → m.find? (fun i => ((x :: l)[i - k]?).getD 0 == c) = m.find? (fun i => (l[i - (k + 1)]?).getD 0 == c) := by
          intro m
          induction m with
          | nil => intro _; rfl
          | cons i m ihm =>
            intro hm
            have hi := hm i (by simp)
            rw [List.find?_cons, List.find?_cons, ihm (fun j hj => hm j (by simp [hj]))]
            rw [show i - k = (i - (k + 1)) + 1 by omega, List.getElem?_cons_succ]
        exact this _ (fun i hi => by simp [List.mem_range'_1] at hi; omega)
      simp only [hc, ih]
      have hu : upTo c (x :: l) = upTo c l + 1 := by simp [upTo, List.takeWhile_cons, h]
      rw [hu]
      by_cases hlt : upTo c l < l.length
      · rw [if_pos hlt, if_pos (by omega)]; congr 1; omega
      · rw [if_neg hlt, if_neg (by omega)]
theorem vIndexByte {f : FuncId} {fn : Func} {s : ByteArray} {c : UInt8} (hf : P.funcs[f]? = some fn) (hname : (fn.name == "runtime.NumGoroutine") = false) (hb : fn.body.isNone = true) (hn : Extern.findNext fn = none) (he : Extern.find fn = some Extern.BytealgIndexByte.indexByte) :
    VCalls P f [.s s, .u8 c.toNat] σ (fun y σ' => y = .i (if upTo c s.data.toList < s.size then (upTo c s.data.toList : Nat) else -1) ∧ σ' = σ) :=
  vextern hf hname hb hn he (fun κ vs hst hargs => by
    obtain ⟨u, v, rfl, hx, hy⟩ := relRow2 hargs
    cases hx
    cases hy
    refine ⟨_, κ.w, ?_, post_same hst (.val _) ⟨rfl, rfl⟩⟩
    have hfind : (List.range s.size).find? (fun i => s[i]! == c) = if upTo c s.data.toList < s.size then some (upTo c s.data.toList) else none := by
      have h := find_upTo c s.data.toList 0
      simp only [Nat.zero_add, Nat.sub_zero] at h
      rw [show s.data.toList.length = s.size by simp] at h
      rw [List.range_eq_range', ← h]
      have : ∀ (m : List Nat), (∀ i ∈ m, i < s.size) → m.find? (fun i => s[i]! == c) = m.find? (fun i => (s.data.toList[i]?).getD 0 == c) := by
        intro m
        induction m with
        | nil => intro _; rfl
        | cons i m ihm =>
          intro hm
          have hi := hm i (by simp)
          rw [List.find?_cons, List.find?_cons, ihm (fun j hj => hm j (by simp [hj]))]
          have e1 : s[i]! = s[i] := by simp [hi]
          have e2 : (s.data.toList[i]?).getD 0 = s[i] := by
            rw [List.getElem?_eq_getElem (by simpa using hi)]
            rfl
          rw [e1, e2]
      exact this _ (fun i hi => by simpa [List.mem_range'_1] using hi)
    have hcc : ((c.toNat : Int).toNat).toUInt8 = c := by simp
    have hdef : (Extern.BytealgIndexByte.indexByte #[.string s, .int .u8 c.toNat]).run P κ.w =
        ((match (List.range s.size).find? fun i => s[i]! == ((c.toNat : Int).toNat).toUInt8 with | some i => pure (goInt i) | none => pure (goInt (-1)) : Sem Value)).run P κ.w := rfl
    rw [hdef, hcc, hfind]
    by_cases hlt : upTo c s.data.toList < s.size
    · rw [if_pos hlt, if_pos hlt]; rfl
    · rw [if_neg hlt, if_neg hlt]; rfl)

theorem Done.mono {R R' : AV → Sg → Prop} (h : ∀ x σ', R x σ' → R' x σ') {r : Result Next} (hd : Done P κ R r) : Done P κ R' r := by
  have post : ∀ {v w}, Post κ R v w → Post κ R' v w := fun ⟨κ', x, σ', h1, h2, h3, h4, h5⟩ => ⟨κ', x, σ', h1, h2, h3, h4, h _ _ h5⟩
  cases r with
  | halt x w => exact hd.elim
  | ok nx w =>
    cases nx <;> simp only [Done] at hd ⊢
    case value v => exact post hd
    case skip => exact post hd
    case enter f args =>
      refine hd.mono (fun e w' he => ?_)
      cases e with
      | returned v => exact post he
      | panicked c => exact he.elim
      | outgrown => exact he.elim
    case row r args => exact hd.mono (fun v w' he => post he)

theorem VCalls.mono {f : FuncId} {args : List AV} {R R' : AV → Sg → Prop} (hc : VCalls P f args σ R) (h : ∀ x σ', R x σ' → R' x σ') : VCalls P f args σ R' :=
  ⟨fun κ vs hst hargs => (hc.go κ vs hst hargs).mono h⟩
/-- A call whose result and store are known. -/
theorem VCalls.use {f : FuncId} {args : List AV} {X : AV} {S : Sg} {R' : AV → Sg → Prop} (hc : VCalls P f args σ (fun x σ' => x = X ∧ σ' = S)) (h : R' X S) : VCalls P f args σ R' :=
  hc.mono (fun x σ' hh => by obtain ⟨rfl, rfl⟩ := hh; exact h)

end Go.V
