/- Part 3 of the proof: V13, V15. -/
import Derived.Test.YtjdapkelojdefaaGreatDoorN2

set_option linter.all false
namespace Go.V
open Go.RowKit
variable {P : Program} {σ : Sg} {ρ : Nat → AV} {R : AV → Sg → Prop}
def tg {α : Type} (x : α) : α := x
@[simp] theorem tg_eq {α : Type} (x : α) : tg x = x := rfl
@[congr] theorem vfresh_congr {σ σ' : Sg} {R : Nat → Prop} (h : tg σ = σ') : Q1x σ R = Q1x σ' R := by unfold tg at h; rw [h]
theorem Q4c {σ : Sg} {R : Nat → Prop} (h : ∀ τ, σ τ = none → R τ) : Q1x σ R := h
theorem Q5x {σ : Sg} {β : Nat} {o : Ob} {R : Nat → Prop} (h : Q1x σ (fun τ => τ ≠ β → R τ)) : Q1x (σ.set β o) R := fun τ hτ => by
  by_cases e : τ = β
  · unfold Sg.set at hτ; rw [if_pos e] at hτ; cases hτ
  · refine h τ ?_ e
    unfold Sg.set at hτ; rw [if_neg e] at hτ; exact hτ
structure vif (p X Y : Prop) : Prop where
  pos : p → X
  neg : ¬ p → Y
theorem Q4y {p X Y : Prop} (h : p → X) (h' : ¬ p → Y) : vif p X Y := ⟨h, h'⟩
@[congr] theorem vif_congr {p p' X Y : Prop} (h : tg p = p') : vif p X Y = vif p' X Y := by unfold tg at h; rw [h]
theorem vgif (t w : Bool) (X Y : Prop) : ((t = w → X) ∧ (t = !w → Y)) = vif (t = w) X Y := by
  apply propext
  constructor
  · rintro ⟨h1, h2⟩; exact ⟨h1, fun h => h2 (by clear h1 h2; revert h; cases t <;> cases w <;> decide)⟩
  · rintro ⟨h1, h2⟩; exact ⟨h1, fun h => h2 (by clear h1 h2; revert h; cases t <;> cases w <;> decide)⟩
theorem vif_true (X Y : Prop) : vif True X Y = X := propext ⟨fun h => h.1 trivial, fun h => ⟨fun _ => h, fun n => (n trivial).elim⟩⟩
theorem vif_false (X Y : Prop) : vif False X Y = Y := propext ⟨fun h => h.2 id, fun h => ⟨fun n => n.elim, fun _ => h⟩⟩
theorem vif_not (p X Y : Prop) : vif (¬ p) X Y = vif p Y X := propext ⟨fun h => ⟨fun hp => h.2 (fun n => n hp), fun hn => h.1 hn⟩, fun h => ⟨fun hn => h.2 hn, fun hnn => h.1 (Classical.not_not.1 hnn)⟩⟩
def vcond (x : AV) (X Y : Prop) : Prop :=
  match x with
  | .val (.bool t) => (t = true → X) ∧ (t = false → Y)
  | _ => False
theorem VW.ite {H : Nat → Hint} {n : Nat} {Q : VX → (Nat → AV) → Sg → Prop} {c : Operand} {x y : Code} (h : vcond (ev ρ c) (VW P H n x Q ρ σ) (VW P H n y Q ρ σ)) : VW P H n (.cond c x y) Q ρ σ := by
  unfold vcond at h
  split at h
  · rename_i t hc
    exact .cond hc h
  · exact h.elim
theorem VW.rg {H : Nat → Hint} {n : Nat} {Q : VX → (Nat → AV) → Sg → Prop} {id : Nat} {l : List Oper} (h : vops P H l.toArray (Q .normal) l ρ σ) : VW P H n (.region id l.toArray false) Q ρ σ := .region h
theorem VW.rs {H : Nat → Hint} {n : Nat} {Q : VX → (Nat → AV) → Sg → Prop} {id : Nat} {l : List Oper} {y : Code} (h : vops P H l.toArray (VW P H n y Q) l ρ σ) : VW P H n (.seq (.region id l.toArray false) y) Q ρ σ := .sr h
theorem VW.dg {H : Nat → Hint} {n : Nat} {Q : VX → (Nat → AV) → Sg → Prop} {id : Nat} {l : List Oper} (hB : Region.lexB .any l.toArray = true) (h : Q3o P H l.toArray σ (fun ρ => Q .normal ρ σ) l ρ) : VW P H n (.region id l.toArray true) Q ρ σ := .draw hB h
theorem VW.ds {H : Nat → Hint} {n : Nat} {Q : VX → (Nat → AV) → Sg → Prop} {id : Nat} {l : List Oper} {y : Code} (hB : Region.lexB .any l.toArray = true) (h : Q3o P H l.toArray σ (fun ρ => VW P H n y Q ρ σ) l ρ) : VW P H n (.seq (.region id l.toArray true) y) Q ρ σ := .sd hB h
theorem vop_at {H : Hint} {ty : TypeId} {o : Op} (h : vop P H ρ ty o σ R) : vop P H ρ ty o σ R := h
theorem vops_at {H : Nat → Hint} {ops : Array Oper} {Q : (Nat → AV) → Sg → Prop} {l : List Oper} (h : vops P H ops Q l ρ σ) : vops P H ops Q l ρ σ := h
theorem Q1d {vals : List (Nat × AV)} (h : Holds vals ρ) : Holds vals ρ := h
theorem X1o {H : Nat → Hint} {ops : Array Oper} {Q : (Nat → AV) → Prop} {l : List Oper} (h : Q3o P H ops σ Q l ρ) : Q3o P H ops σ Q l ρ := h
def Q0f (fn : Func) : Code := fn.body.getD .skip
theorem vfun {f : FuncId} {fn : Func} {args : List AV} (H : Nat → Hint) (hm : P.follows .mixedOrders = true) (hf : P.funcs[f]? = some fn) (hc : (fn.body.isSome && Q6w fn.ntmps (Q0f fn) && decide (args.length ≤ fn.ntmps) && !(fn.name == "runtime.NumGoroutine")) = true)
    (hw : VW P H fn.ntmps (Q0f fn) (VRet P fn.results.toList R) (Q6o args) σ) : VCalls P f args σ R := by
  simp only [Bool.and_eq_true] at hc
  obtain ⟨⟨⟨h1, h2⟩, h3⟩, h4⟩ := hc
  have hb : fn.body = some (Q0f fn) := by
    unfold Q0f
    cases h : fn.body with
    | none => rw [h] at h1; cases h1
    | some c => rfl
  exact vcalls H hm hf hb (by simpa using h4) h2 (by simpa using h3) hw
@[congr] theorem VW_congr {H : Nat → Hint} {n : Nat} {c : Code} {Q : VX → (Nat → AV) → Sg → Prop} {ρ ρ' : Nat → AV} {σ σ' : Sg} (h : tg ρ = ρ') (h2 : σ = σ') : VW P H n c Q ρ σ = VW P H n c Q ρ' σ' := by unfold tg at h; rw [h, h2]
@[congr] theorem vops_congr {H : Nat → Hint} {ops : Array Oper} {Q : (Nat → AV) → Sg → Prop} {l : List Oper} {ρ ρ' : Nat → AV} {σ σ' : Sg} (h : tg ρ = ρ') (h2 : σ = σ') : vops P H ops Q l ρ σ = vops P H ops Q l ρ' σ' := by unfold tg at h; rw [h, h2]
@[congr] theorem vquiet_congr {H : Nat → Hint} {ops : Array Oper} {Q : (Nat → AV) → Prop} {l : List Oper} {ρ ρ' : Nat → AV} {σ : Sg} (h : tg ρ = ρ') : Q3o P H ops σ Q l ρ = Q3o P H ops σ Q l ρ' := by unfold tg at h; rw [h]
@[congr] theorem vop_congr' {H : Hint} {ty ty' : TypeId} {o : Op} {ρ : Nat → AV} {σ : Sg} {R : AV → Sg → Prop} (h : tg ty = ty') : vop P H ρ ty o σ R = vop P H ρ ty' o σ R := by unfold tg at h; rw [h]
@[congr] theorem VCalls_congr {f : FuncId} {args args' : List AV} {σ σ' : Sg} {R : AV → Sg → Prop} (h : tg args = args') (h2 : σ = σ') : VCalls P f args σ R = VCalls P f args' σ' R := by unfold tg at h; rw [h, h2]
def vixD (P : Program) (d : Option TypeDesc) (x i : AV) (R : AV → Prop) : Prop :=
  match d, x, i with
  | some (.slice e), .sl _ es, .val (.int _ i) => match Q0m P e with
    | some (_, s, _) => (0 ≤ i ∧ i.toNat < es.length ∧ (es.getD i.toNat []).length = s) ∧ R (.ro (es.getD i.toNat []))
    | none => False
  | some (.slice e), .ms β off n sz, .val (.int _ i) => (0 ≤ i ∧ i < n ∧ (∃ z b, Q0m P e = some (z, sz, b))) ∧ R (.ref β (off + i.toNat * sz))
  | some (.array n e), .ro cs, .val (.int _ i) => match Q0m P e with
    | some (_, s, _) => (0 ≤ i ∧ i < n ∧ n ≠ 0) ∧ R (.ro (cs.drop (i.toNat * s)))
    | none => False
  | some (.array n e), .ref β off, .val (.int _ i) => match Q0m P e with
    | some (_, s, _) => (0 ≤ i ∧ i < n ∧ n ≠ 0) ∧ R (.ref β (off + i.toNat * s))
    | none => False
  | _, _, _ => False
def vixE (i : Option (Option Value × Nat × Nat)) (R : Nat → Prop) : Prop := match i with | some (_, s, _) => R s | none => False
def vxD (P : Program) (d : Option TypeDesc) (x i : AV) (R : AV → Prop) : Prop :=
  match d, x, i with
  | some .string, .val (.string s), .val (.int _ i) => (0 ≤ i ∧ i.toNat < s.size) ∧ R (.u8 (X0r s i.toNat).toNat)
  | some (.array n e), .agg cs, .val (.int _ i) => match Q0m P e with
    | some (_, s, _) => (0 ≤ i ∧ i < n) ∧ Q4u P e (cs.drop (i.toNat * s)) R
    | none => False
  | _, _, _ => False
def vpt (i : Option (Option Value × Nat × Nat)) (d : Option TypeDesc) (cs : List AV) (R : AV → Prop) : Prop :=
  match i, d with
  | some (_, n, _), some d => if X0p d then n ≤ cs.length ∧ R (.agg (cs.take n)) else match cs with | x :: _ => R x | [] => False
  | _, _ => False
def vlo (P : Program) (t : TypeId) (o : Option Ob) (off : Nat) (R : AV → Prop) : Prop := match o with | some (.cells _ cs) => Q4u P t (cs.drop off) R | _ => False
def vst (i : Option (Option Value × Nat × Nat)) (o : Option Ob) (β off : Nat) (x : AV) (σ : Sg) (R : Sg → Prop) : Prop :=
  match i with
  | some (_, n, _) => match o with
    | some (.cells e cs) => (x.solid = true ∧ x.cells.length = n ∧ off + n ≤ cs.length ∧ (x.cells.all AV.one) = true) ∧ R (σ.set β (.cells e (Q2o cs off x.cells)))
    | _ => False
  | _ => False
def vfA (P : Program) (d : Option TypeDesc) (x : AV) (f : Nat) (R : AV → Prop) : Prop :=
  match d with
  | some (.struct fs) => match fs[f]? with
    | some fd => match Q0m P fd.type with
      | some (_, n, _) => n ≠ 0 ∧ match x with
        | .ro cs => R (.ro (cs.drop fd.offset))
        | .ref β off => R (.ref β (off + fd.offset))
        | _ => False
      | none => False
    | none => False
  | _ => False
def vfF (P : Program) (d : Option TypeDesc) (x : AV) (f : Nat) (R : AV → Prop) : Prop :=
  match d, x with
  | some (.struct fs), .agg cs => match fs[f]? with
    | some fd => Q4u P fd.type (cs.drop fd.offset) R
    | none => False
  | _, _ => False
def vfG (P : Program) (fd : Option Field) (cs : List AV) (R : AV → Prop) : Prop := match fd with | some fd => Q4u P fd.type (cs.drop fd.offset) R | none => False
def vfB (P : Program) (fd : Option Field) (x : AV) (R : AV → Prop) : Prop :=
  match fd with
  | some fd => match Q0m P fd.type with
    | some (_, n, _) => n ≠ 0 ∧ match x with
      | .ro cs => R (.ro (cs.drop fd.offset))
      | .ref β off => R (.ref β (off + fd.offset))
      | _ => False
    | none => False
  | none => False
def vfC (i : Option (Option Value × Nat × Nat)) (off0 : Nat) (x : AV) (R : AV → Prop) : Prop :=
  match i with
  | some (_, n, _) => n ≠ 0 ∧ match x with
    | .ro cs => R (.ro (cs.drop off0))
    | .ref β off => R (.ref β (off + off0))
    | _ => False
  | none => False
def vln (d : Option TypeDesc) (x : AV) (σ : Sg) (R : AV → Prop) : Prop := match d with | some d => Q7d d x = true ∧ vlen x σ R | _ => False
def vlm (o : Option Ob) (R : AV → Prop) : Prop := match o with | some (.map es) => R (.i es.length) | _ => False
def vbq (P : Program) (t : TypeId) (d : Option TypeDesc) (op : BinOp) (x y : AV) (R : AV → Prop) : Prop :=
  match d, op with
  | some d, .eql => match veqT P t d x y with
    | some b => R (.b b)
    | none => False
  | some d, .neq => match veqT P t d x y with
    | some b => R (.b (!b))
    | none => False
  | _, _ => False
def vrf (i : Option (Option Value × Nat × Nat)) (β β' o o' : Nat) : Option Bool := match i with | some (_, n, _) => if β = β' ∧ n ≠ 0 then some (decide (o = o')) else none | none => none
def vbo (b : Option Bool) (n : Bool) (R : AV → Prop) : Prop := match b with | some b => R (.b (if n then !b else b)) | none => False
def vap (P : Program) (d1 d2 : Option TypeDesc) (x y : AV) (σ : Sg) (R : AV → Sg → Prop) : Prop :=
  match d1, d2 with
  | some (.slice e), some (.slice _) | some (.slice e), some .string => Q8n P e x y σ R
  | _, _ => False
def vtk (o : Option Ob) (e : TypeId) (R : Option TypeId → Prop) : Prop := match o with | some (.tok ot) => (ot = none ∨ ot = some e) ∧ R ot | _ => False
def vapp (e : TypeId) (i : Option (Option Value × Nat × Nat)) (x : AV) (ys : Option (List (List AV))) (σ : Sg) (R : AV → Sg → Prop) : Prop :=
  match i, x, ys with
  | some (some z, sz, by_), .sl k es, some ys =>
    ((Q0o z).length = sz ∧ 2 * (es.length + ys.length) * by_ ≤ 2 ^ 48 ∧ es.length + ys.length < 2 ^ 62 ∧ Q1i es sz ∧ Q3l ys sz) ∧
    match k with
    | .nil => Q1x σ fun τ => R (.sl (.tok τ sz) (es ++ ys)) (σ.set τ (.tok (some e)))
    | .full => (ys = [] → R (.sl .full es) σ) ∧ (ys ≠ [] → Q1x σ fun τ => R (.sl (.tok τ sz) (es ++ ys)) (σ.set τ (.tok (some e))))
    | .tok t s => s = sz ∧ vtk (σ t) e (fun ot => Q1x σ fun τ => R (.sl (.tok τ sz) (es ++ ys)) ((σ.del t).set τ (.tok ot)))
    | _ => False
  | _, _, _ => False
def vsl (P : Program) (d : Option TypeDesc) (x : AV) (lo hi mx : Option AV) (σ : Sg) (R : AV → Prop) : Prop :=
  match d, x with
  | some .string, .val (.string s) =>
    match mx, Q1l lo 0, Q1l hi s.size with
    | none, some l, some h => (0 ≤ l ∧ l ≤ h ∧ h ≤ s.size) ∧ R (.s (s.extract l.toNat h.toNat))
    | _, _, _ => False
  | some (.slice e), .sl k es =>
    match Q1l lo 0, Q1l hi es.length, Q0m P e with
    | some l, some h, some (_, s, _) =>
      match mx with
      | none => (0 ≤ l ∧ l ≤ h ∧ h ≤ es.length ∧ Q1i es s) ∧ R (.sl (k.cut (decide (h = es.length ∧ (l = 0 ∨ l < h)))) ((es.take h.toNat).drop l.toNat))
      | some (.val (.int _ m)) => (0 ≤ l ∧ l ≤ h ∧ h ≤ m ∧ m ≤ es.length ∧ h = m ∧ es ≠ [] ∧ hi.isSome = true ∧ Q1i es s) ∧ R (.sl .full ((es.take h.toNat).drop l.toNat))
      | _ => False
    | _, _, _ => False
  | some (.slice e), .ms β off n sz =>
    match mx, Q1l lo 0, Q1l hi n, Q0m P e with
    | none, some l, some h, some (_, s, _) => (s = sz ∧ 0 ≤ l ∧ l ≤ h ∧ h ≤ n ∧ (l = 0 ∨ l < n)) ∧ R (.ms β (off + l.toNat * sz) (h - l).toNat sz)
    | _, _, _, _ => False
  | some (.slice e), .mc β n m sz =>
    match mx, lo, Q1l hi n, Q0m P e with
    | none, none, some h, some (_, s, _) => (s = sz ∧ 0 ≤ h ∧ h ≤ m) ∧ R (.ms β 0 h.toNat sz)
    | _, _, _, _ => False
  | some (.slice e), .nz τ n sz =>
    match mx, lo, Q1l hi n, Q0m P e with
    | none, none, some h, some (_, s, _) => (s = sz ∧ h = 0) ∧ R (.sl (.tok τ sz) [])
    | _, _, _, _ => False
  | some (.slice e), .lsl v es =>
    match mx, lo, Q1l hi es.length, Q0m P e with
    | none, none, some h, some (_, s, _) => (s = 1 ∧ h = (es.length : Int) + 1) ∧ R (.sl .view (es ++ [[.val v]]))
    | _, _, _, _ => False
  | some (.array n e), .ro cs =>
    match mx, Q1l lo 0, Q1l hi n, Q0m P e with
    | none, some l, some h, some (_, s, _) => (n * s ≤ cs.length ∧ 0 ≤ l ∧ l ≤ h ∧ h ≤ n) ∧ R (.sl .view (((Q2f s n cs).take h.toNat).drop l.toNat))
    | _, _, _, _ => False
  | some (.array n e), .ref β off =>
    match mx, Q1l lo 0, Q1l hi n, Q0m P e, σ β with
    | none, some l, some h, some (_, s, _), some (.cells _ cs) => (off + n * s ≤ cs.length ∧ 0 ≤ l ∧ l ≤ h ∧ h ≤ n ∧ (l = 0 ∨ l < n)) ∧ R (.ms β (off + l.toNat * s) (h - l).toNat s)
    | _, _, _, _, _ => False
  | _, _ => False
def vcv (P : Program) (q : Bool) (s d : Option TypeDesc) (x : AV) (σ : Sg) (R : AV → Sg → Prop) : Prop :=
  match s, d, x with
  | some _, some (.int k), .val (.int _ n) => R (.val (.int k (k.wrap n))) σ
  | some (.string), some .string, .val (.string b) => R (.s b) σ
  | some (.string), some (.slice e), .val (.string b) =>
    match P.underlying e with
    | some (.int .u8) => Q1x σ fun τ => R (.sl (.tok τ 1) (Q0z b)) (σ.set τ (.tok none))
    | _ => False
  | some (.slice e), some .string, .sl _ es =>
    match P.underlying e with
    | some (.int .u8) => ∃ b : ByteArray, es = Q0z b ∧ R (.s b) σ
    | _ => False
  | some (.slice e), some .string, .lsl _ es =>
    match P.underlying e with
    | some (.int .u8) => ∃ b : ByteArray, es = Q0z b ∧ R (.s b) σ
    | _ => False
  | some (.slice e), some .string, .ms β off n sz =>
    match P.underlying e, σ β with
    | some (.int .u8), some (.cells _ cs) => ∃ b : ByteArray, sz = 1 ∧ (cs.drop off).take n = (b.data.toList.map fun c => AV.u8 c.toNat) ∧ b.size = n ∧ R (.s b) σ
    | _, _ => False
  | some (.pointer e), some .unsafePointer, .ref β off => match Q0m P e, σ β with
    | some (_, n, _), some (.cells _ cs) => (n ≠ 0 ∧ off < cs.length) ∧ R (.ref β off) σ
    | _, _ => False
  | some .unsafePointer, some (.pointer u), .ref β off => match Q0m P u, σ β with
    | some _, some (.cells e cs) => liesAt P P.depth e (cs.length / P.cellsOf e) off u 1 = true ∧ R (.ref β off) σ
    | _, _ => False
  | some (.slice _), some (.slice e), .sl (.tok τ 1) (x :: r) =>
    match P.underlying e, σ τ with
    | some (.int .u8), some (.tok (some _)) => q = true ∧ R (.sl .any (x :: r)) (σ.del τ)
    | _, _ => False
  | _, _, _ => False
def vct (q : Bool) (u : Option TypeDesc) (o : Option Ob) (X : Prop) : Prop := match u, o with | some (.int .u8), some (.tok (some _)) => q = true ∧ X | _, _ => False
def vcu (i : Option (Option Value × Nat × Nat)) (o : Option Ob) (off : Nat) (X : Prop) : Prop := match i, o with | some (_, n, _), some (.cells _ cs) => (n ≠ 0 ∧ off < cs.length) ∧ X | _, _ => False
def vcw (P : Program) (u : TypeId) (i : Option (Option Value × Nat × Nat)) (o : Option Ob) (off : Nat) (X : Prop) : Prop := match i, o with | some _, some (.cells e cs) => liesAt P P.depth e (cs.length / P.cellsOf e) off u 1 = true ∧ X | _, _ => False
def vusd (d : Option TypeDesc) (x : AV) (σ : Sg) (R : AV → Prop) : Prop :=
  match d, x with
  | some (.pointer _), .sl (.tok τ s) es => match σ τ with
    | some (.tok _) => (s = 1 ∧ Q1i es 1) ∧ R (.bp τ es)
    | _ => False
  | some (.pointer _), .sl .nil es => es = [] ∧ R (.bp 0 [])
  | _, _ => False
def vuso (o : Option Ob) (X : Prop) : Prop := match o with | some (.tok _) => X | _ => False
def vust (P : Program) (d : Option TypeDesc) (τ : Nat) (es : List (List AV)) (n : Int) (σ : Sg) (R : AV → Prop) : Prop :=
  match d with
  | some (.pointer e) => match Q0m P e with
    | some (_, s, _) => ∃ b : ByteArray, (s = 1 ∧ es = Q0z b ∧ n = b.size ∧ (b.size : Int) ≤ 9223372036854775807) ∧ (es = [] ∨ σ τ = some (.tok (some e))) ∧ R (.s b)
    | none => False
  | _ => False
def vusE (e : TypeId) (i : Option (Option Value × Nat × Nat)) (τ : Nat) (es : List (List AV)) (n : Int) (σ : Sg) (R : AV → Prop) : Prop :=
  match i with
  | some (_, s, _) => ∃ b : ByteArray, (s = 1 ∧ es = Q0z b ∧ n = b.size ∧ (b.size : Int) ≤ 9223372036854775807) ∧ (es = [] ∨ σ τ = some (.tok (some e))) ∧ R (.s b)
  | none => False
def vexS (e : Option TypeDesc) (es : List (List AV)) (R : AV → Prop) : Prop := match e with | some (.int .u8) => ∃ b : ByteArray, es = Q0z b ∧ R (.s b) | _ => False
def vexB (e : Option TypeDesc) (b : ByteArray) (σ : Sg) (R : AV → Sg → Prop) : Prop := match e with | some (.int .u8) => Q1x σ fun τ => R (.sl (.tok τ 1) (Q0z b)) (σ.set τ (.tok none)) | _ => False
def vbd (P : Program) (i : Option (Option Value × Nat × Nat)) (d : Option TypeDesc) (parts : List (Nat × AV)) (R : AV → Prop) : Prop :=
  match i, d with
  | some (some z, _, _), some (.struct fs) =>
    (parts.all fun p => p.2.solid) = true ∧ match Q4a (fun i => ((Q2u P fs)[i]?).bind id) (Q0o z) parts with | some cs => (Q2u P fs).all (·.isSome) = true ∧ R (.agg cs) | none => False
  | some (some z, _, _), some (.array _ e) => match Q0m P e with
    | some (_, s, _) => (parts.all fun p => p.2.solid) = true ∧ match Q4a (fun i => some (i * s, s)) (Q0o z) parts with | some cs => R (.agg cs) | none => False
    | none => False
  | _, _ => False
def vbf (r : Option (List AV)) (ok : Bool) (R : List AV → Prop) : Prop := match r with | some cs => ok = true ∧ R cs | none => False
def vown (H : Hint) (e : TypeId) (s len : Nat) (cs : List AV) (σ : Sg) (R : AV → Sg → Prop) : Prop :=
  match H with
  | .obj => Q1x σ fun τ => R (.sl (.tok τ s) (Q2f s len cs)) (σ.set τ (.tok (some e)))
  | _ => R (.sl .full (Q2f s len cs)) σ
def vbs (P : Program) (H : Hint) (d : Option TypeDesc) (len : Nat) (parts : List (Nat × AV)) (σ : Sg) (R : AV → Sg → Prop) : Prop :=
  match d with
  | some (.slice e) => match Q0m P e with
    | some (some z, s, _) =>
      ((parts.all fun p => p.2.solid) = true ∧ len * s ≤ 2 ^ 24 ∧ (Q0o z).length = s ∧ 0 < s) ∧
      match Q4a (fun i => some (i * s, s)) ((List.replicate len (Q0o z)).flatten) parts with | some cs => (match H with | .obj => Q1x σ fun τ => R (.sl (.tok τ s) (Q2f s len cs)) (σ.set τ (.tok (some e))) | _ => R (.sl .full (Q2f s len cs)) σ) | none => False
    | _ => False
  | _ => False
def vbsE (H : Hint) (e : TypeId) (i : Option (Option Value × Nat × Nat)) (len : Nat) (parts : List (Nat × AV)) (σ : Sg) (R : AV → Sg → Prop) : Prop :=
  match i with
  | some (some z, s, _) =>
      ((parts.all fun p => p.2.solid) = true ∧ len * s ≤ 2 ^ 24 ∧ (Q0o z).length = s ∧ 0 < s) ∧
      vbf (Q4a (fun i => some (i * s, s)) ((List.replicate len (Q0o z)).flatten) parts) true (fun cs => vown H e s len cs σ R)
  | _ => False
def vbox' (e : TypeId) (i : Option (Option Value × Nat × Nat)) (H : Hint) (σ : Sg) (R : AV → Sg → Prop) : Prop := match i with | some (some z, _, _) => vbox e H (ofValue z) σ R | _ => False
def vnil (x : AV) (R : AV → Prop) : Prop :=
  match x with
  | .ro cs => R (.ro cs)
  | .ref β off => R (.ref β off)
  | .fn f cap => R (.fn f cap)
  | .bm f cap => R (.bm f cap)
  | _ => False
def vex (x : AV) (ix : Nat) (R : AV → Prop) : Prop := match x with | .tup vs => (match vs[ix]? with | some v => R v | none => False) | _ => False
def vexx (v : Option AV) (R : AV → Prop) : Prop := match v with | some v => R v | none => False
def vcf (P : Program) (f : AV) (vs : List AV) (σ : Sg) (R : AV → Sg → Prop) : Prop := match f with | .fn g cap => VCalls P g (vs ++ cap) σ R | .bm g fs => VCalls P g (fs ++ vs) σ R | _ => False
def vgd (x : AV) (ρ : Nat → AV) (s : Nat) (w : Bool) (T F : (Nat → AV) → Prop) : Prop :=
  match x with
  | .val (.bool t) => (t = w → T (upd ρ s (.b w))) ∧ (t = !w → F (upd ρ s (.b !w)))
  | .val (.tuple _) => F ρ
  | _ => False
def vgs (s : Option Nat) (ρ : Nat → AV) (w : Bool) (T F : (Nat → AV) → Prop) : Prop := match s with | some s => vgd (ρ s) ρ s w T F | none => False
@[congr] theorem vbinop_congr {op : BinOp} {t : TypeId} {R : AV → Prop} {x x' : AV} {y y' : AV} (h0 : tg x = x') (h1 : y = y') : Q0x P op t x y R = Q0x P op t x' y' R := by unfold tg at h0; rw [h0, h1]
@[congr] theorem vbq_congr {t : TypeId} {op : BinOp} {R : AV → Prop} {d d' : Option TypeDesc} {x x' : AV} {y y' : AV} (h0 : tg d = d') (h1 : x = x') (h2 : y = y') : vbq P t d op x y R = vbq P t d' op x' y' R := by unfold tg at h0; rw [h0, h1, h2]
@[congr] theorem vbo_congr {n : Bool} {R : AV → Prop} {q q' : Option Bool} (h0 : tg q = q') : vbo q n R = vbo q' n R := by unfold tg at h0; rw [h0]
@[congr] theorem vun_congr {op : UnOp} {R : AV → Prop} {x x' : AV} (h0 : tg x = x') : vun op x R = vun op x' R := by unfold tg at h0; rw [h0]
@[congr] theorem vixD_congr {R : AV → Prop} {d d' : Option TypeDesc} {x x' : AV} {i i' : AV} (h0 : tg d = d') (h1 : x = x') (h2 : i = i') : vixD P d x i R = vixD P d' x' i' R := by unfold tg at h0; rw [h0, h1, h2]
@[congr] theorem vixE_congr {R : Nat → Prop} {i i' : Option (Option Value × Nat × Nat)} (h0 : tg i = i') : vixE i R = vixE i' R := by unfold tg at h0; rw [h0]
@[congr] theorem vxD_congr {R : AV → Prop} {d d' : Option TypeDesc} {x x' : AV} {i i' : AV} (h0 : tg d = d') (h1 : x = x') (h2 : i = i') : vxD P d x i R = vxD P d' x' i' R := by unfold tg at h0; rw [h0, h1, h2]
@[congr] theorem vload_congr {t : TypeId} {R : AV → Prop} {x x' : AV} {σ σ' : Sg} (h0 : tg x = x') (h1 : σ = σ') : X1i P t x σ R = X1i P t x' σ' R := by unfold tg at h0; rw [h0, h1]
@[congr] theorem vpart_congr {t : TypeId} {R : AV → Prop} {cs cs' : List AV} (h0 : tg cs = cs') : Q4u P t cs R = Q4u P t cs' R := by unfold tg at h0; rw [h0]
@[congr] theorem vpt_congr {R : AV → Prop} {i i' : Option (Option Value × Nat × Nat)} {d d' : Option TypeDesc} {cs cs' : List AV} (h0 : tg i = i') (h1 : d = d') (h2 : cs = cs') : vpt i d cs R = vpt i' d' cs' R := by unfold tg at h0; rw [h0, h1, h2]
@[congr] theorem vlo_congr {t : TypeId} {off : Nat} {R : AV → Prop} {o o' : Option Ob} (h0 : tg o = o') : vlo P t o off R = vlo P t o' off R := by unfold tg at h0; rw [h0]
@[congr] theorem vstore_congr {t : TypeId} {R : Sg → Prop} {x x' : AV} {y y' : AV} {σ σ' : Sg} (h0 : tg x = x') (h1 : y = y') (h2 : σ = σ') : X0q P t x y σ R = X0q P t x' y' σ' R := by unfold tg at h0; rw [h0, h1, h2]
@[congr] theorem vst_congr {β off : Nat} {R : Sg → Prop} {i i' : Option (Option Value × Nat × Nat)} {o o' : Option Ob} {x x' : AV} {σ σ' : Sg} (h0 : tg i = i') (h1 : o = o') (h2 : x = x') (h3 : σ = σ') : vst i o β off x σ R = vst i' o' β off x' σ' R := by unfold tg at h0; rw [h0, h1, h2, h3]
@[congr] theorem vfA_congr {f : Nat} {R : AV → Prop} {d d' : Option TypeDesc} {x x' : AV} (h0 : tg d = d') (h1 : x = x') : vfA P d x f R = vfA P d' x' f R := by unfold tg at h0; rw [h0, h1]
@[congr] theorem vfF_congr {f : Nat} {R : AV → Prop} {d d' : Option TypeDesc} {x x' : AV} (h0 : tg d = d') (h1 : x = x') : vfF P d x f R = vfF P d' x' f R := by unfold tg at h0; rw [h0, h1]
@[congr] theorem vfG_congr {R : AV → Prop} {fd fd' : Option Field} {cs cs' : List AV} (h0 : tg fd = fd') (h1 : cs = cs') : vfG P fd cs R = vfG P fd' cs' R := by unfold tg at h0; rw [h0, h1]
@[congr] theorem vfB_congr {R : AV → Prop} {fd fd' : Option Field} {x x' : AV} (h0 : tg fd = fd') (h1 : x = x') : vfB P fd x R = vfB P fd' x' R := by unfold tg at h0; rw [h0, h1]
@[congr] theorem vfC_congr {off0 : Nat} {R : AV → Prop} {i i' : Option (Option Value × Nat × Nat)} {x x' : AV} (h0 : tg i = i') (h1 : x = x') : vfC i off0 x R = vfC i' off0 x' R := by unfold tg at h0; rw [h0, h1]
@[congr] theorem vln_congr {R : AV → Prop} {d d' : Option TypeDesc} {x x' : AV} {σ σ' : Sg} (h0 : tg d = d') (h1 : x = x') (h2 : σ = σ') : vln d x σ R = vln d' x' σ' R := by unfold tg at h0; rw [h0, h1, h2]
@[congr] theorem vlm_congr {R : AV → Prop} {o o' : Option Ob} (h0 : tg o = o') : vlm o R = vlm o' R := by unfold tg at h0; rw [h0]
@[congr] theorem vap_congr {R : AV → Sg → Prop} {d1 d1' : Option TypeDesc} {d2 d2' : Option TypeDesc} {x x' : AV} {y y' : AV} {σ σ' : Sg} (h0 : tg d1 = d1') (h1 : d2 = d2') (h2 : x = x') (h3 : y = y') (h4 : σ = σ') : vap P d1 d2 x y σ R = vap P d1' d2' x' y' σ' R := by unfold tg at h0; rw [h0, h1, h2, h3, h4]
@[congr] theorem vtk_congr {e : TypeId} {R : Option TypeId → Prop} {o o' : Option Ob} (h0 : tg o = o') : vtk o e R = vtk o' e R := by unfold tg at h0; rw [h0]
@[congr] theorem vapp_congr {e : TypeId} {R : AV → Sg → Prop} {i i' : Option (Option Value × Nat × Nat)} {x x' : AV} {ys ys' : Option (List (List AV))} {σ σ' : Sg} (h0 : tg i = i') (h1 : x = x') (h2 : ys = ys') (h3 : σ = σ') : vapp e i x ys σ R = vapp e i' x' ys' σ' R := by unfold tg at h0; rw [h0, h1, h2, h3]
@[congr] theorem vsl_congr {R : AV → Prop} {d d' : Option TypeDesc} {x x' : AV} {lo lo' : Option AV} {hi hi' : Option AV} {mx mx' : Option AV} {σ σ' : Sg} (h0 : tg d = d') (h1 : x = x') (h2 : lo = lo') (h3 : hi = hi') (h4 : mx = mx') (h5 : σ = σ') : vsl P d x lo hi mx σ R = vsl P d' x' lo' hi' mx' σ' R := by unfold tg at h0; rw [h0, h1, h2, h3, h4, h5]
@[congr] theorem vcv_congr {q : Bool} {R : AV → Sg → Prop} {s s' : Option TypeDesc} {d d' : Option TypeDesc} {x x' : AV} {σ σ' : Sg} (h0 : tg s = s') (h1 : d = d') (h2 : x = x') (h3 : σ = σ') : vcv P q s d x σ R = vcv P q s' d' x' σ' R := by unfold tg at h0; rw [h0, h1, h2, h3]
@[congr] theorem vct_congr {q : Bool} {X : Prop} {u u' : Option TypeDesc} {o o' : Option Ob} (h0 : tg u = u') (h1 : o = o') : vct q u o X = vct q u' o' X := by unfold tg at h0; rw [h0, h1]
@[congr] theorem vcu_congr {off : Nat} {X : Prop} {i i' : Option (Option Value × Nat × Nat)} {o o' : Option Ob} (h0 : tg i = i') (h1 : o = o') : vcu i o off X = vcu i' o' off X := by unfold tg at h0; rw [h0, h1]
@[congr] theorem vcw_congr {u : TypeId} {off : Nat} {X : Prop} {i i' : Option (Option Value × Nat × Nat)} {o o' : Option Ob} (h0 : tg i = i') (h1 : o = o') : vcw P u i o off X = vcw P u i' o' off X := by unfold tg at h0; rw [h0, h1]
@[congr] theorem vusd_congr {R : AV → Prop} {d d' : Option TypeDesc} {x x' : AV} {σ σ' : Sg} (h0 : tg d = d') (h1 : x = x') (h2 : σ = σ') : vusd d x σ R = vusd d' x' σ' R := by unfold tg at h0; rw [h0, h1, h2]
@[congr] theorem vuso_congr {X : Prop} {o o' : Option Ob} (h0 : tg o = o') : vuso o X = vuso o' X := by unfold tg at h0; rw [h0]
@[congr] theorem vust_congr {τ : Nat} {R : AV → Prop} {d d' : Option TypeDesc} {es es' : List (List AV)} {n n' : Int} {σ σ' : Sg} (h0 : tg d = d') (h1 : es = es') (h2 : n = n') (h3 : σ = σ') : vust P d τ es n σ R = vust P d' τ es' n' σ' R := by unfold tg at h0; rw [h0, h1, h2, h3]
@[congr] theorem vusE_congr {e : TypeId} {τ : Nat} {R : AV → Prop} {i i' : Option (Option Value × Nat × Nat)} {es es' : List (List AV)} {n n' : Int} {σ σ' : Sg} (h0 : tg i = i') (h1 : es = es') (h2 : n = n') (h3 : σ = σ') : vusE e i τ es n σ R = vusE e i' τ es' n' σ' R := by unfold tg at h0; rw [h0, h1, h2, h3]
@[congr] theorem vexS_congr {R : AV → Prop} {e e' : Option TypeDesc} {es es' : List (List AV)} (h0 : tg e = e') (h1 : es = es') : vexS e es R = vexS e' es' R := by unfold tg at h0; rw [h0, h1]
@[congr] theorem vexB_congr {R : AV → Sg → Prop} {e e' : Option TypeDesc} {q q' : ByteArray} {σ σ' : Sg} (h0 : tg e = e') (h1 : q = q') (h2 : σ = σ') : vexB e q σ R = vexB e' q' σ' R := by unfold tg at h0; rw [h0, h1, h2]
@[congr] theorem vbd_congr {R : AV → Prop} {i i' : Option (Option Value × Nat × Nat)} {d d' : Option TypeDesc} {parts parts' : List (Nat × AV)} (h0 : tg i = i') (h1 : d = d') (h2 : parts = parts') : vbd P i d parts R = vbd P i' d' parts' R := by unfold tg at h0; rw [h0, h1, h2]
@[congr] theorem vbf_congr {R : List AV → Prop} {r r' : Option (List AV)} {ok ok' : Bool} (h0 : tg r = r') (h1 : ok = ok') : vbf r ok R = vbf r' ok' R := by unfold tg at h0; rw [h0, h1]
@[congr] theorem vbs_congr {H : Hint} {len : Nat} {R : AV → Sg → Prop} {d d' : Option TypeDesc} {parts parts' : List (Nat × AV)} {σ σ' : Sg} (h0 : tg d = d') (h1 : parts = parts') (h2 : σ = σ') : vbs P H d len parts σ R = vbs P H d' len parts' σ' R := by unfold tg at h0; rw [h0, h1, h2]
@[congr] theorem vown_congr {e : TypeId} {s len : Nat} {R : AV → Sg → Prop} {H H' : Hint} {cs cs' : List AV} {σ σ' : Sg} (h0 : tg H = H') (h1 : cs = cs') (h2 : σ = σ') : vown H e s len cs σ R = vown H' e s len cs' σ' R := by unfold tg at h0; rw [h0, h1, h2]
@[congr] theorem vbsE_congr {H : Hint} {e : TypeId} {len : Nat} {R : AV → Sg → Prop} {i i' : Option (Option Value × Nat × Nat)} {parts parts' : List (Nat × AV)} {σ σ' : Sg} (h0 : tg i = i') (h1 : parts = parts') (h2 : σ = σ') : vbsE H e i len parts σ R = vbsE H e i' len parts' σ' R := by unfold tg at h0; rw [h0, h1, h2]
@[congr] theorem vbox_congr {e : TypeId} {R : AV → Sg → Prop} {H H' : Hint} {x x' : AV} {σ σ' : Sg} (h0 : tg H = H') (h1 : x = x') (h2 : σ = σ') : vbox e H x σ R = vbox e H' x' σ' R := by unfold tg at h0; rw [h0, h1, h2]
@[congr] theorem vboxq_congr {e : TypeId} {R : AV → Sg → Prop} {i i' : Option (Option Value × Nat × Nat)} {H H' : Hint} {σ σ' : Sg} (h0 : tg i = i') (h1 : H = H') (h2 : σ = σ') : vbox' e i H σ R = vbox' e i' H' σ' R := by unfold tg at h0; rw [h0, h1, h2]
@[congr] theorem vnil_congr {R : AV → Prop} {x x' : AV} (h0 : tg x = x') : vnil x R = vnil x' R := by unfold tg at h0; rw [h0]
@[congr] theorem vex_congr {ix : Nat} {R : AV → Prop} {x x' : AV} (h0 : tg x = x') : vex x ix R = vex x' ix R := by unfold tg at h0; rw [h0]
@[congr] theorem vexx_congr {R : AV → Prop} {x x' : Option AV} (h0 : tg x = x') : vexx x R = vexx x' R := by unfold tg at h0; rw [h0]
@[congr] theorem vcf_congr {R : AV → Sg → Prop} {f f' : AV} {vs vs' : List AV} {σ σ' : Sg} (h0 : tg f = f') (h1 : vs = vs') (h2 : σ = σ') : vcf P f vs σ R = vcf P f' vs' σ' R := by unfold tg at h0; rw [h0, h1, h2]
@[congr] theorem vgd_congr {s : Nat} {w : Bool} {T F : (Nat → AV) → Prop} {x x' : AV} {ρ ρ' : Nat → AV} (h0 : tg x = x') (h1 : ρ = ρ') : vgd x ρ s w T F = vgd x' ρ' s w T F := by unfold tg at h0; rw [h0, h1]
@[congr] theorem vgs_congr {w : Bool} {T F : (Nat → AV) → Prop} {s s' : Option Nat} {ρ ρ' : Nat → AV} (h0 : tg s = s') (h1 : ρ = ρ') : vgs s ρ w T F = vgs s' ρ' w T F := by unfold tg at h0; rw [h0, h1]
@[congr] theorem vpick_congr {R : AV → Prop} {c c' : AV} {x x' : AV} {y y' : AV} (h0 : tg c = c') (h1 : x = x') (h2 : y = y') : Q8p c x y R = Q8p c' x' y' R := by unfold tg at h0; rw [h0, h1, h2]
@[congr] theorem vcond_congr {X Y : Prop} {x x' : AV} (h0 : tg x = x') : vcond x X Y = vcond x' X Y := by unfold tg at h0; rw [h0]
@[congr] theorem vbuiltin_congr {q : Builtin} {ts : Array TypeId} {ty : TypeId} {R : AV → Sg → Prop} {vs vs' : List AV} {σ σ' : Sg} (h0 : tg vs = vs') (h1 : σ = σ') : Q1s P q vs ts ty σ R = Q1s P q vs' ts ty σ' R := by unfold tg at h0; rw [h0, h1]
@[congr] theorem vmakeSlice_congr {H : Hint} {t : TypeId} {R : AV → Sg → Prop} {l l' : AV} {c c' : AV} {σ σ' : Sg} (h0 : tg l = l') (h1 : c = c') (h2 : σ = σ') : Q4r P H t l c σ R = Q4r P H t l' c' σ' R := by unfold tg at h0; rw [h0, h1, h2]
@[congr] theorem vlookup_congr {t : TypeId} {ok : Bool} {R : AV → Prop} {m m' : AV} {k k' : AV} {σ σ' : Sg} (h0 : tg m = m') (h1 : k = k') (h2 : σ = σ') : Q9w P t m k ok σ R = Q9w P t m' k' ok σ' R := by unfold tg at h0; rw [h0, h1, h2]
@[congr] theorem vmapUpdate_congr {t : TypeId} {R : Sg → Prop} {m m' : AV} {k k' : AV} {x x' : AV} {σ σ' : Sg} (h0 : tg m = m') (h1 : k = k') (h2 : x = x') (h3 : σ = σ') : Q4s P t m k x σ R = Q4s P t m' k' x' σ' R := by unfold tg at h0; rw [h0, h1, h2, h3]
@[congr] theorem vcopy_congr {t : TypeId} {R : AV → Sg → Prop} {d d' : AV} {s s' : AV} {σ σ' : Sg} (h0 : tg d = d') (h1 : s = s') (h2 : σ = σ') : X3d P t d s σ R = X3d P t d' s' σ' R := by unfold tg at h0; rw [h0, h1, h2]
@[congr] theorem vmin_congr {lt : Bool} {R : AV → Prop} {x x' : AV} {y y' : AV} (h0 : tg x = x') (h1 : y = y') : vmin lt x y R = vmin lt x' y' R := by unfold tg at h0; rw [h0, h1]
@[congr] theorem vres_congr {rs : List ResultVar} {Q : List AV → Prop} {ρ ρ' : Nat → AV} {σ σ' : Sg} (h0 : tg ρ = ρ') (h1 : σ = σ') : vres P ρ σ rs Q = vres P ρ' σ' rs Q := by unfold tg at h0; rw [h0, h1]
theorem vE :
    (∀ (ρ : Nat → AV) (t : Nat), ev ρ (.tmp t) = ρ t) ∧
    (∀ (ρ : Nat → AV) (f : FuncId), ev ρ (.func f) = .fn f []) ∧
    (∀ (ρ : Nat → AV) (k : IntKind) (n : Int), ev ρ (.const (.int k n)) = .val (.int k n)) ∧
    (∀ (k : IntKind) (n : Int), ofValue (.int k n) = .val (.int k n)) ∧
    (∀ (k : IntKind) (n : Int), Q3t (.int k n) = .val (.int k n)) ∧
    (∀ (ρ : Nat → AV) (b : Bool), ev ρ (.const (.bool b)) = .val (.bool b)) ∧
    (∀ (b : Bool), ofValue (.bool b) = .val (.bool b)) ∧
    (∀ (b : Bool), Q3t (.bool b) = .val (.bool b)) ∧
    (∀ (ρ : Nat → AV) (s : ByteArray), ev ρ (.const (.string s)) = .val (.string s)) ∧
    (∀ (s : ByteArray), ofValue (.string s) = .val (.string s)) ∧
    (∀ (s : ByteArray), Q3t (.string s) = .val (.string s)) ∧
    (∀ (ρ : Nat → AV) , ev ρ (.const (.pointer none)) = .val (.pointer none)) ∧
    (ofValue (.pointer none) = .val (.pointer none)) ∧
    (Q3t (.pointer none) = .val (.pointer none)) ∧
    (∀ (ρ : Nat → AV) , ev ρ (.const .nilFunc) = .val .nilFunc) ∧
    (ofValue .nilFunc = .val .nilFunc) ∧
    (Q3t .nilFunc = .val .nilFunc) ∧
    (∀ (ρ : Nat → AV) , ev ρ (.const .nilIface) = .val .nilIface) ∧
    (ofValue .nilIface = .val .nilIface) ∧
    (Q3t .nilIface = .val .nilIface) ∧
    (∀ (ρ : Nat → AV) , ev ρ (.const (.map none)) = .val (.map none)) ∧
    (ofValue (.map none) = .val (.map none)) ∧
    (Q3t (.map none) = .val (.map none)) ∧
    (∀ (ρ : Nat → AV), ev ρ (.const (.slice none 0 0)) = .sl .nil []) ∧
    (ofValue (.slice none 0 0) = .sl .nil []) ∧
    (Q3t (.slice none 0 0) = .sl .nil []) ∧
    (∀ (ρ : Nat → AV) (cs : List Value), ev ρ (.const (.agg cs.toArray)) = .agg (cs.map Q3t)) ∧
    (∀ (cs : List Value), ofValue (.agg cs.toArray) = .agg (cs.map Q3t)) ∧
    (∀ (ρ : Nat → AV) (t : Nat) (x : AV), updo ρ (some t) x = upd ρ t x) ∧
    (∀ (ρ : Nat → AV) (x : AV), updo ρ none x = ρ) ∧
    (∀ (ρ : Nat → AV) (t i : Nat) (x : AV), upd ρ t x i = if i = t then x else ρ i) ∧
    (∀ (t i : Nat) (x : AV) (r : List (Nat × AV)), env ((t, x) :: r) i = if i = t then x else env r i) ∧
    (∀ (i : Nat), env [] i = .junk) ∧
    (∀ (x : AV) (r : List AV), Q6o (x :: r) 0 = x) ∧
    (∀ (x : AV) (r : List AV) (i : Nat), Q6o (x :: r) (i + 1) = Q6o r i) ∧
    (∀ (i : Nat), Q6o [] i = .val undef) ∧
    (∀ (cs : List AV), (AV.agg cs).cells = cs) ∧
    (∀ (v : Value), (AV.val v).cells = [AV.val v]) ∧
    (∀ (k : Own) (es : List (List AV)), (AV.sl k es).cells = [AV.sl k es]) ∧
    (∀ (k : Own) (es : List (List AV)), (AV.sl k es).one = true) ∧
    (∀ (k : Own) (es : List (List AV)), (AV.sl k es).solid = true) ∧
    (∀ (β off : Nat), (AV.ref β off).cells = [AV.ref β off]) ∧
    (∀ (β off : Nat), (AV.ref β off).one = true) ∧
    (∀ (β off : Nat), (AV.ref β off).solid = true) ∧
    (∀ (β off n sz : Nat), (AV.ms β off n sz).cells = [AV.ms β off n sz]) ∧
    (∀ (β off n sz : Nat), (AV.ms β off n sz).one = true) ∧
    (∀ (β off n sz : Nat), (AV.ms β off n sz).solid = true) ∧
    (∀ (β : Nat), (AV.map β).cells = [AV.map β]) ∧
    (∀ (β : Nat), (AV.map β).one = true) ∧
    (∀ (β : Nat), (AV.map β).solid = true) ∧
    (∀ (f : FuncId) (cap : List AV), (AV.fn f cap).cells = [AV.fn f cap]) ∧
    (∀ (f : FuncId) (cap : List AV), (AV.fn f cap).one = true) ∧
    (∀ (f : FuncId) (cap : List AV), (AV.fn f cap).solid = true) ∧
    (∀ (f : FuncId) (cap : List AV), (AV.bm f cap).cells = [AV.bm f cap]) ∧
    (∀ (f : FuncId) (cap : List AV), (AV.bm f cap).one = true) ∧
    (∀ (f : FuncId) (cap : List AV), (AV.bm f cap).solid = true) ∧
    (∀ (cs : List AV), (AV.ro cs).cells = [AV.ro cs]) ∧
    (∀ (cs : List AV), (AV.ro cs).one = true) ∧
    (∀ (cs : List AV), (AV.ro cs).solid = true) ∧
    (∀ (τ : Nat) (es : List (List AV)), (AV.bp τ es).cells = [AV.bp τ es]) ∧
    (∀ (τ : Nat) (es : List (List AV)), (AV.bp τ es).one = true) ∧
    (∀ (τ : Nat) (es : List (List AV)), (AV.bp τ es).solid = true) ∧
    (∀ (cs : List AV), (AV.agg cs).solid = true) ∧
    (∀ (cs : List AV), (AV.tup cs).solid = true) ∧
    (∀ (k : IntKind) (n : Int), (AV.val (.int k n)).one = true) ∧
    (∀ (k : IntKind) (n : Int), (AV.val (.int k n)).solid = true) ∧
    (∀ (b : Bool), (AV.val (.bool b)).one = true) ∧
    (∀ (b : Bool), (AV.val (.bool b)).solid = true) ∧
    (∀ (s : ByteArray), (AV.val (.string s)).one = true) ∧
    (∀ (s : ByteArray), (AV.val (.string s)).solid = true) ∧
    (∀ (p : Option Addr), (AV.val (.pointer p)).one = true) ∧
    (∀ (p : Option Addr), (AV.val (.pointer p)).solid = true) ∧
    ((AV.val .nilFunc).one = true) ∧
    ((AV.val .nilFunc).solid = true) ∧
    ((AV.val .nilIface).one = true) ∧
    ((AV.val .nilIface).solid = true) ∧
    (∀ (m : Option Nat), (AV.val (.map m)).one = true) ∧
    (∀ (m : Option Nat), (AV.val (.map m)).solid = true) := by
  refine ⟨?_, ?_, ?_, ?_, ?_, ?_, ?_, ?_, ?_, ?_, ?_, ?_, ?_, ?_, ?_, ?_, ?_, ?_, ?_, ?_, ?_, ?_, ?_, ?_, ?_, ?_, ?_, ?_, ?_, ?_, ?_, ?_, ?_, ?_, ?_, ?_, ?_, ?_, ?_, ?_, ?_, ?_, ?_, ?_, ?_, ?_, ?_, ?_, ?_, ?_, ?_, ?_, ?_, ?_, ?_, ?_, ?_, ?_, ?_, ?_, ?_, ?_, ?_, ?_, ?_, ?_, ?_, ?_, ?_, ?_, ?_, ?_, ?_, ?_, ?_, ?_, ?_, ?_⟩
  · intro ρ t; rfl
  · intro ρ f; rfl
  · intro ρ k n; rfl
  · intro k n; rfl
  · intro k n; rfl
  · intro ρ b; rfl
  · intro b; rfl
  · intro b; rfl
  · intro ρ s; rfl
  · intro s; rfl
  · intro s; rfl
  · intro ρ; rfl
  · rfl
  · rfl
  · intro ρ; rfl
  · rfl
  · rfl
  · intro ρ; rfl
  · rfl
  · rfl
  · intro ρ; rfl
  · rfl
  · rfl
  · intro ρ; rfl
  · rfl
  · rfl
  · intro ρ cs; simp [ev, ofValue]
  · intro cs; simp [ofValue]
  · intro ρ t x; rfl
  · intro ρ x; rfl
  · intro ρ t i x; rfl
  · intro t i x r; rfl
  · intro i; rfl
  · intro x r; rfl
  · intro x r i; rfl
  · intro i; rfl
  · intro cs; rfl
  · intro v; rfl
  · intro k es; rfl
  · intro k es; rfl
  · intro k es; rfl
  · intro β off; rfl
  · intro β off; rfl
  · intro β off; rfl
  · intro β off n sz; rfl
  · intro β off n sz; rfl
  · intro β off n sz; rfl
  · intro β; rfl
  · intro β; rfl
  · intro β; rfl
  · intro f cap; rfl
  · intro f cap; rfl
  · intro f cap; rfl
  · intro f cap; rfl
  · intro f cap; rfl
  · intro f cap; rfl
  · intro cs; rfl
  · intro cs; rfl
  · intro cs; rfl
  · intro τ es; rfl
  · intro τ es; rfl
  · intro τ es; rfl
  · intro cs; rfl
  · intro cs; rfl
  · intro k n; rfl
  · intro k n; rfl
  · intro b; rfl
  · intro b; rfl
  · intro s; rfl
  · intro s; rfl
  · intro p; rfl
  · intro p; rfl
  · rfl
  · rfl
  · rfl
  · rfl
  · intro m; rfl
  · intro m; rfl
theorem vO (H : Nat → Hint) (ops : Array Oper) (Q : (Nat → AV) → Sg → Prop) :
    (∀ (ρ : Nat → AV) (σ : Sg), vops P H ops Q [] ρ σ = Q ρ σ) ∧
    (∀ (d : Option Tmp) (o : Op) (t : TypeId) (pos : String) (af : Array Edge) (r : List Oper) (ρ : Nat → AV) (σ : Sg), vops P H ops Q (⟨d, o, t, pos, af, none⟩ :: r) ρ σ = vop P (H (d.getD 0)) ρ t o σ fun x σ' => vops P H ops Q r (updo ρ d x) σ') ∧
    (∀ (d : Option Tmp) (o : Op) (t : TypeId) (pos : String) (af : Array Edge) (j : Nat) (w : Bool) (r : List Oper) (ρ : Nat → AV) (σ : Sg), vops P H ops Q (⟨d, o, t, pos, af, some (j, w)⟩ :: r) ρ σ = vgs ((ops[j]?).bind (·.dst)) ρ w (fun ρ => vop P (H (d.getD 0)) ρ t o σ fun x σ' => vops P H ops Q r (updo ρ d x) σ') (fun ρ => vops P H ops Q r (updo ρ d (.val undef)) σ)) := by
  refine ⟨?_, ?_, ?_⟩
  · intro ρ σ; rfl
  · intro d o t pos af r ρ σ; rfl
  · intro d o t pos af j w r ρ σ; rfl
def vqx (P : Program) (H : Hint) (ρ : Nat → AV) (ty : TypeId) (o : Op) (σ : Sg) (K : AV → Prop) : Prop := ∃ x, vop P H ρ ty o σ (fun y σ' => y = x ∧ σ' = σ) ∧ K x
@[congr] theorem vqx_congr {H : Hint} {ρ : Nat → AV} {ty ty' : TypeId} {o : Op} {σ : Sg} {K : AV → Prop} (h : tg ty = ty') : vqx P H ρ ty o σ K = vqx P H ρ ty' o σ K := by unfold tg at h; rw [h]
theorem Q0a {H : Hint} {ρ : Nat → AV} {σ : Sg} {ty : TypeId} {o : Op} {K : AV → Prop} {x : AV} (h : vop P H ρ ty o σ (fun y σ' => y = x ∧ σ' = σ)) (hk : K x) : vqx P H ρ ty o σ K := ⟨x, h, hk⟩
theorem vQ (H : Nat → Hint) (ops : Array Oper) (Q : (Nat → AV) → Prop) (σ : Sg) :
    (∀ (ρ : Nat → AV), Q3o P H ops σ Q [] ρ = Q ρ) ∧
    (∀ (d : Option Tmp) (o : Op) (t : TypeId) (pos : String) (af : Array Edge) (r : List Oper) (ρ : Nat → AV), Q3o P H ops σ Q (⟨d, o, t, pos, af, none⟩ :: r) ρ = vqx P (H (d.getD 0)) ρ t o σ fun x => Q3o P H ops σ Q r (updo ρ d x)) ∧
    (∀ (d : Option Tmp) (o : Op) (t : TypeId) (pos : String) (af : Array Edge) (j : Nat) (w : Bool) (r : List Oper) (ρ : Nat → AV), Q3o P H ops σ Q (⟨d, o, t, pos, af, some (j, w)⟩ :: r) ρ = vgs ((ops[j]?).bind (·.dst)) ρ w (fun ρ => vqx P (H (d.getD 0)) ρ t o σ fun x => Q3o P H ops σ Q r (updo ρ d x)) (fun ρ => Q3o P H ops σ Q r (updo ρ d (.val undef)))) := by
  refine ⟨?_, ?_, ?_⟩
  · intro ρ; rfl
  · intro d o t pos af r ρ; rfl
  · intro d o t pos af j w r ρ; rfl
theorem vP (H : Hint) (ρ : Nat → AV) (ty : TypeId) (σ : Sg) (R : AV → Sg → Prop) :
    (∀ (x : Operand), vop P H ρ ty (.move x) σ R = R (ev ρ x) σ) ∧
    (∀ (x : Operand), vop P H ρ ty (.assign x) σ R = R (ev ρ x) σ) ∧
    (∀ (c x y : Operand), vop P H ρ ty (.pick c x y) σ R = Q8p (ev ρ c) (ev ρ x) (ev ρ y) (fun v => R v σ)) ∧
    (∀ (e : TypeId), vop P H ρ ty (.alloc e) σ R = vbox' e (Q0m P e) H σ R) ∧
    (∀ (e : TypeId) (x : Operand), vop P H ρ ty (.box e x) σ R = ((ev ρ x).solid = true ∧ vbox e H (ev ρ x) σ R)) ∧
    (∀ (t : TypeId) (l : List (Nat × Operand)), vop P H ρ ty (.build t l.toArray) σ R = vbd P (Q0m P t) (P.underlying t) (l.map fun p => (p.1, ev ρ p.2)) (fun v => R v σ)) ∧
    (∀ (t : TypeId) (n : Nat) (l : List (Nat × Operand)), vop P H ρ ty (.buildSlice t n l.toArray) σ R = vbs P H (P.underlying t) n (l.map fun p => (p.1, ev ρ p.2)) σ R) ∧
    (∀ (t : TypeId) (x : Operand), vop P H ρ ty (.load t x) σ R = X1i P t (ev ρ x) σ (fun v => R v σ)) ∧
    (∀ (t : TypeId) (x y : Operand), vop P H ρ ty (.store t x y) σ R = X0q P t (ev ρ x) (ev ρ y) σ (fun σ => R (.val undef) σ)) ∧
    (∀ (x : Operand), vop P H ρ ty (.nilCheck x) σ R = vnil (ev ρ x) (fun v => R v σ)) ∧
    (∀ (op : BinOp) (t t2 : TypeId) (x y : Operand), vop P H ρ ty (.binOp op t x y t2) σ R = Q0x P op t (ev ρ x) (ev ρ y) (fun v => R v σ)) ∧
    (∀ (op : UnOp) (t : TypeId) (x : Operand), vop P H ρ ty (.unOp op t x) σ R = vun op (ev ρ x) (fun v => R v σ)) ∧
    (∀ (s d : TypeId) (x : Operand), vop P H ρ ty (.convert s d x) σ R = vcv P (s == d) (P.underlying s) (P.underlying d) (ev ρ x) σ R) ∧
    (∀ (f : FuncId) (l : List Operand), vop P H ρ ty (.makeFunc (.func f) #[] l.toArray) σ R = R (.fn f (l.map (ev ρ))) σ) ∧
    (∀ (f : FuncId) (x : Operand) (l : List Operand), vop P H ρ ty (.makeFunc (.func f) (x :: l).toArray #[]) σ R = R (.bm f ((x :: l).map (ev ρ))) σ) ∧
    (∀ (t : TypeId), vop P H ρ ty (.makeMap t none) σ R = (Q1x σ fun β => R (.map β) (σ.set β (.map [])))) ∧
    (∀ (t : TypeId) (l c : Operand), vop P H ρ ty (.makeSlice t l c) σ R = Q4r P H t (ev ρ l) (ev ρ c) σ R) ∧
    (∀ (t : TypeId) (x : Operand) (lo hi mx : Option Operand), vop P H ρ ty (.slice t x lo hi mx) σ R = vsl P (P.underlying t) (ev ρ x) (lo.map (ev ρ)) (hi.map (ev ρ)) (mx.map (ev ρ)) σ (fun v => R v σ)) ∧
    (∀ (t : TypeId) (x : Operand) (f : Nat), vop P H ρ ty (.fieldAddr t x f) σ R = vfA P (P.underlying t) (ev ρ x) f (fun v => R v σ)) ∧
    (∀ (t : TypeId) (x : Operand) (f : Nat), vop P H ρ ty (.field t x f) σ R = vfF P (P.underlying t) (ev ρ x) f (fun v => R v σ)) ∧
    (∀ (t : TypeId) (x i : Operand), vop P H ρ ty (.indexAddr t x i) σ R = vixD P (P.underlying t) (ev ρ x) (ev ρ i) (fun v => R v σ)) ∧
    (∀ (t : TypeId) (x i : Operand), vop P H ρ ty (.index t x i) σ R = vxD P (P.underlying t) (ev ρ x) (ev ρ i) (fun v => R v σ)) ∧
    (∀ (t : TypeId) (m k : Operand) (ok : Bool), vop P H ρ ty (.lookup t m k ok) σ R = Q9w P t (ev ρ m) (ev ρ k) ok σ (fun v => R v σ)) ∧
    (∀ (t : TypeId) (m k x : Operand), vop P H ρ ty (.mapUpdate t m k x) σ R = Q4s P t (ev ρ m) (ev ρ k) (ev ρ x) σ (fun σ => R (.val undef) σ)) ∧
    (∀ (x : Operand) (ix : Nat), vop P H ρ ty (.extract x ix) σ R = vex (ev ρ x) ix (fun v => R v σ)) ∧
    (∀ (b : Builtin) (l : List Operand) (ts : Array TypeId), vop P H ρ ty (.call ⟨.builtin b, l.toArray, ts⟩) σ R = Q1s P b (l.map (ev ρ)) ts ty σ R) ∧
    (∀ (f : Operand) (l : List Operand) (ts : Array TypeId), vop P H ρ ty (.call ⟨.value f, l.toArray, ts⟩) σ R = vcf P (ev ρ f) (l.map (ev ρ)) σ R) := by
  refine ⟨?_, ?_, ?_, ?_, ?_, ?_, ?_, ?_, ?_, ?_, ?_, ?_, ?_, ?_, ?_, ?_, ?_, ?_, ?_, ?_, ?_, ?_, ?_, ?_, ?_, ?_, ?_⟩
  · intro x; rfl
  · intro x; rfl
  · intro c x y; rfl
  · intro e; rfl
  · intro e x; rfl
  · intro t l; simp only [vop, vbuild, vbd]; rfl
  · intro t n l; simp only [vop, Q6i, vbs]; rfl
  · intro t x; rfl
  · intro t x y; rfl
  · intro x; rfl
  · intro op t t2 x y; rfl
  · intro op t x; rfl
  · intro s d x; simp only [vop, vconv, vcv]; rfl
  · intro f l; simp [vop]
  · intro f x l; simp [vop]
  · intro t; rfl
  · intro t l c; rfl
  · intro t x lo hi mx; rfl
  · intro t x f; rfl
  · intro t x f; rfl
  · intro t x i; rfl
  · intro t x i; rfl
  · intro t m k ok; rfl
  · intro t m k x; rfl
  · intro x ix; rfl
  · intro b l ts; simp only [vop, vcall]
  · intro f l ts; simp only [vop, vcall]; rfl
def vfl (place : Nat → Option (Nat × Nat)) (cells : List AV) (v : AV) (r : List (Nat × AV)) (p : Option (Nat × Nat)) : Option (List AV) :=
  match p with
  | none => none
  | some (off, size) => if v.cells.length = size ∧ off + size ≤ cells.length then Q4a place (Q2o cells off v.cells) r else none
theorem vS :
    (∀ (P : Program) (t : TypeId) (k : IntKind) (a b : Int) (R : AV → Prop), Q0x P .add t (.val (.int k a)) (.val (.int k b)) R = R (.val (.int k (k.wrap (a + b))))) ∧
    (∀ (P : Program) (t : TypeId) (k : IntKind) (a b : Int) (R : AV → Prop), Q0x P .sub t (.val (.int k a)) (.val (.int k b)) R = R (.val (.int k (k.wrap (a - b))))) ∧
    (∀ (P : Program) (t : TypeId) (k : IntKind) (a b : Int) (R : AV → Prop), Q0x P .mul t (.val (.int k a)) (.val (.int k b)) R = R (.val (.int k (k.wrap (a * b))))) ∧
    (∀ (P : Program) (t : TypeId) (k : IntKind) (a b : Int) (R : AV → Prop), Q0x P .quo t (.val (.int k a)) (.val (.int k b)) R = (b ≠ 0 ∧ R (.val (.int k (k.wrap (a.tdiv b)))))) ∧
    (∀ (P : Program) (t : TypeId) (k : IntKind) (a b : Int) (R : AV → Prop), Q0x P .rem t (.val (.int k a)) (.val (.int k b)) R = (b ≠ 0 ∧ R (.val (.int k (a.tmod b))))) ∧
    (∀ (P : Program) (t : TypeId) (k : IntKind) (a b : Int) (R : AV → Prop), Q0x P .and t (.val (.int k a)) (.val (.int k b)) R = R (.val (.int k (k.wrap ((BitVec.ofInt k.bits a &&& BitVec.ofInt k.bits b).toNat))))) ∧
    (∀ (P : Program) (t : TypeId) (k : IntKind) (a b : Int) (R : AV → Prop), Q0x P .or t (.val (.int k a)) (.val (.int k b)) R = R (.val (.int k (k.wrap ((BitVec.ofInt k.bits a ||| BitVec.ofInt k.bits b).toNat))))) ∧
    (∀ (P : Program) (t : TypeId) (k : IntKind) (a b : Int) (R : AV → Prop), Q0x P .xor t (.val (.int k a)) (.val (.int k b)) R = R (.val (.int k (k.wrap ((BitVec.ofInt k.bits a ^^^ BitVec.ofInt k.bits b).toNat))))) ∧
    (∀ (P : Program) (t : TypeId) (k : IntKind) (a b : Int) (R : AV → Prop), Q0x P .andNot t (.val (.int k a)) (.val (.int k b)) R = R (.val (.int k (k.wrap ((BitVec.ofInt k.bits a &&& ~~~ BitVec.ofInt k.bits b).toNat))))) ∧
    (∀ (P : Program) (t : TypeId) (k : IntKind) (a b : Int) (R : AV → Prop), Q0x P .eql t (.val (.int k a)) (.val (.int k b)) R = R (.b (decide (a = b)))) ∧
    (∀ (P : Program) (t : TypeId) (k : IntKind) (a b : Int) (R : AV → Prop), Q0x P .neq t (.val (.int k a)) (.val (.int k b)) R = R (.b (!decide (a = b)))) ∧
    (∀ (P : Program) (t : TypeId) (k : IntKind) (a b : Int) (R : AV → Prop), Q0x P .lss t (.val (.int k a)) (.val (.int k b)) R = R (.b (decide (a < b)))) ∧
    (∀ (P : Program) (t : TypeId) (k : IntKind) (a b : Int) (R : AV → Prop), Q0x P .leq t (.val (.int k a)) (.val (.int k b)) R = R (.b (decide (a ≤ b)))) ∧
    (∀ (P : Program) (t : TypeId) (k : IntKind) (a b : Int) (R : AV → Prop), Q0x P .gtr t (.val (.int k a)) (.val (.int k b)) R = R (.b (decide (b < a)))) ∧
    (∀ (P : Program) (t : TypeId) (k : IntKind) (a b : Int) (R : AV → Prop), Q0x P .geq t (.val (.int k a)) (.val (.int k b)) R = R (.b (decide (b ≤ a)))) ∧
    (∀ (P : Program) (t : TypeId) (k k' : IntKind) (a b : Int) (R : AV → Prop), Q0x P .shl t (.val (.int k a)) (.val (.int k' b)) R = (0 ≤ b ∧ R (.val (.int k (k.wrap (a * 2 ^ (min b.toNat k.bits))))))) ∧
    (∀ (P : Program) (t : TypeId) (k k' : IntKind) (a b : Int) (R : AV → Prop), Q0x P .shr t (.val (.int k a)) (.val (.int k' b)) R = (0 ≤ b ∧ R (.val (.int k (a.fdiv (2 ^ (min b.toNat k.bits))))))) ∧
    (∀ (P : Program) (t : TypeId) (a b : ByteArray) (R : AV → Prop), Q0x P .add t (.val (.string a)) (.val (.string b)) R = (((a.size + b.size : Nat) : Int) ≤ 9223372036854775807 ∧ R (.s (a ++ b)))) ∧
    (∀ (P : Program) (t : TypeId) (a b : ByteArray) (R : AV → Prop), Q0x P .eql t (.val (.string a)) (.val (.string b)) R = R (.b (sEq a b))) ∧
    (∀ (P : Program) (t : TypeId) (a b : ByteArray) (R : AV → Prop), Q0x P .neq t (.val (.string a)) (.val (.string b)) R = R (.b (!sEq a b))) ∧
    (∀ (P : Program) (t : TypeId) (a b : ByteArray) (R : AV → Prop), Q0x P .lss t (.val (.string a)) (.val (.string b)) R = R (.b (Op.bytesLess a.toList b.toList))) ∧
    (∀ (P : Program) (t : TypeId) (a b : ByteArray) (R : AV → Prop), Q0x P .geq t (.val (.string a)) (.val (.string b)) R = R (.b (!Op.bytesLess a.toList b.toList))) ∧
    (∀ (P : Program) (t : TypeId) (a b : Bool) (R : AV → Prop), Q0x P .eql t (.val (.bool a)) (.val (.bool b)) R = vbq P t (P.underlying t) .eql (.val (.bool a)) (.val (.bool b)) R) ∧
    (∀ (P : Program) (t : TypeId) (k k2 : Own) (es es2 : List (List AV)) (R : AV → Prop), Q0x P .eql t (.sl k es) (.sl k2 es2) R = vbq P t (P.underlying t) .eql (.sl k es) (.sl k2 es2) R) ∧
    (∀ (P : Program) (t : TypeId) (β off n sz : Nat) (k2 : Own) (es2 : List (List AV)) (R : AV → Prop), Q0x P .eql t (.ms β off n sz) (.sl k2 es2) R = vbq P t (P.underlying t) .eql (.ms β off n sz) (.sl k2 es2) R) ∧
    (∀ (P : Program) (t : TypeId) (cs : List AV) (v : Value) (R : AV → Prop), Q0x P .eql t (.ro cs) (.val v) R = vbq P t (P.underlying t) .eql (.ro cs) (.val v) R) ∧
    (∀ (P : Program) (t : TypeId) (β off : Nat) (v : Value) (R : AV → Prop), Q0x P .eql t (.ref β off) (.val v) R = vbq P t (P.underlying t) .eql (.ref β off) (.val v) R) ∧
    (∀ (P : Program) (t : TypeId) (a b : Option Addr) (R : AV → Prop), Q0x P .eql t (.val (.pointer a)) (.val (.pointer b)) R = vbq P t (P.underlying t) .eql (.val (.pointer a)) (.val (.pointer b)) R) ∧
    (∀ (P : Program) (t : TypeId) (β β' o o' : Nat) (R : AV → Prop), Q0x P .eql t (.ref β o) (.ref β' o') R = vbq P t (P.underlying t) .eql (.ref β o) (.ref β' o') R) ∧
    (∀ (P : Program) (t : TypeId) (xs ys : List AV) (R : AV → Prop), Q0x P .eql t (.agg xs) (.agg ys) R = vbq P t (P.underlying t) .eql (.agg xs) (.agg ys) R) ∧
    (∀ (P : Program) (t : TypeId) (d : TypeDesc) (x y : AV) (R : AV → Prop), vbq P t (some d) .eql x y R = vbo (veqT P t d x y) false R) ∧
    (∀ (P : Program) (t : TypeId) (a b : Bool) (R : AV → Prop), Q0x P .neq t (.val (.bool a)) (.val (.bool b)) R = vbq P t (P.underlying t) .neq (.val (.bool a)) (.val (.bool b)) R) ∧
    (∀ (P : Program) (t : TypeId) (k k2 : Own) (es es2 : List (List AV)) (R : AV → Prop), Q0x P .neq t (.sl k es) (.sl k2 es2) R = vbq P t (P.underlying t) .neq (.sl k es) (.sl k2 es2) R) ∧
    (∀ (P : Program) (t : TypeId) (β off n sz : Nat) (k2 : Own) (es2 : List (List AV)) (R : AV → Prop), Q0x P .neq t (.ms β off n sz) (.sl k2 es2) R = vbq P t (P.underlying t) .neq (.ms β off n sz) (.sl k2 es2) R) ∧
    (∀ (P : Program) (t : TypeId) (cs : List AV) (v : Value) (R : AV → Prop), Q0x P .neq t (.ro cs) (.val v) R = vbq P t (P.underlying t) .neq (.ro cs) (.val v) R) ∧
    (∀ (P : Program) (t : TypeId) (β off : Nat) (v : Value) (R : AV → Prop), Q0x P .neq t (.ref β off) (.val v) R = vbq P t (P.underlying t) .neq (.ref β off) (.val v) R) ∧
    (∀ (P : Program) (t : TypeId) (a b : Option Addr) (R : AV → Prop), Q0x P .neq t (.val (.pointer a)) (.val (.pointer b)) R = vbq P t (P.underlying t) .neq (.val (.pointer a)) (.val (.pointer b)) R) ∧
    (∀ (P : Program) (t : TypeId) (β β' o o' : Nat) (R : AV → Prop), Q0x P .neq t (.ref β o) (.ref β' o') R = vbq P t (P.underlying t) .neq (.ref β o) (.ref β' o') R) ∧
    (∀ (P : Program) (t : TypeId) (xs ys : List AV) (R : AV → Prop), Q0x P .neq t (.agg xs) (.agg ys) R = vbq P t (P.underlying t) .neq (.agg xs) (.agg ys) R) ∧
    (∀ (P : Program) (t : TypeId) (d : TypeDesc) (x y : AV) (R : AV → Prop), vbq P t (some d) .neq x y R = vbo (veqT P t d x y) true R) ∧
    (∀ (P : Program) (t0 e : TypeId) (β β' o o' : Nat), veqT P t0 (.pointer e) (.ref β o) (.ref β' o') = vrf (Q0m P e) β β' o o') ∧
    (∀ (z : Option Value) (n b β β' o o' : Nat), vrf (some (z, n, b)) β β' o o' = if β = β' ∧ n ≠ 0 then some (decide (o = o')) else none) ∧
    (∀ (b : Bool) (R : AV → Prop), vbo (some b) false R = R (.b b)) ∧
    (∀ (b : Bool) (R : AV → Prop), vbo (some b) true R = R (.b (!b))) ∧
    (∀ (P : Program) (t0 : TypeId) (a b : Bool), veqT P t0 .bool (.val (.bool a)) (.val (.bool b)) = some (a == b)) ∧
    (∀ (P : Program) (t0 : TypeId) (t : TypeId) (es es2 : List (List AV)), veqT P t0 (.slice t) (.sl .nil es) (.sl .nil es2) = some true) ∧
    (∀ (P : Program) (t0 : TypeId) (t : TypeId) (es es2 : List (List AV)), veqT P t0 (.slice t) (.sl .full es) (.sl .nil es2) = some false) ∧
    (∀ (P : Program) (t0 : TypeId) (t : TypeId) (es es2 : List (List AV)), veqT P t0 (.slice t) (.sl .view es) (.sl .nil es2) = some false) ∧
    (∀ (P : Program) (t0 : TypeId) (t : TypeId) (τ s : Nat) (e : List AV) (es es2 : List (List AV)), veqT P t0 (.slice t) (.sl (.tok τ s) (e :: es)) (.sl .nil es2) = some false) ∧
    (∀ (P : Program) (t0 : TypeId) (t : TypeId) (e : List AV) (es es2 : List (List AV)), veqT P t0 (.slice t) (.sl .any (e :: es)) (.sl .nil es2) = some false) ∧
    (∀ (P : Program) (t0 : TypeId) (t : TypeId) (β off n sz : Nat) (es2 : List (List AV)), veqT P t0 (.slice t) (.ms β off n sz) (.sl .nil es2) = some false) ∧
    (∀ (P : Program) (t0 : TypeId) (t : TypeId) (cs : List AV), veqT P t0 (.pointer t) (.ro cs) (.val (.pointer none)) = some false) ∧
    (∀ (P : Program) (t0 : TypeId) (t : TypeId) (β off : Nat), veqT P t0 (.pointer t) (.ref β off) (.val (.pointer none)) = some false) ∧
    (∀ (P : Program) (t0 : TypeId) (t : TypeId), veqT P t0 (.pointer t) (.val (.pointer none)) (.val (.pointer none)) = some true) ∧
    (∀ (b : Bool) (R : AV → Prop), vun .not (.val (.bool b)) R = R (.b (!b))) ∧
    (∀ (k : IntKind) (n : Int) (R : AV → Prop), vun .neg (.val (.int k n)) R = R (.val (.int k (k.wrap (0 - n))))) ∧
    (∀ (k : IntKind) (n : Int) (R : AV → Prop), vun .xor (.val (.int k n)) R = R (.val (.int k (k.wrap ((BitVec.ofInt k.bits (if k.signed then -1 else k.max) ^^^ BitVec.ofInt k.bits n).toNat))))) ∧
    (∀ (P : Program) (e : TypeId) (k : Own) (es : List (List AV)) (kk : IntKind) (i : Int) (R : AV → Prop), vixD P (some (.slice e)) (.sl k es) (.val (.int kk i)) R = vixE (Q0m P e) (fun s => (0 ≤ i ∧ i.toNat < es.length ∧ (es.getD i.toNat []).length = s) ∧ R (.ro (es.getD i.toNat [])))) ∧
    (∀ (P : Program) (e : TypeId) (β off n sz : Nat) (kk : IntKind) (i : Int) (R : AV → Prop), vixD P (some (.slice e)) (.ms β off n sz) (.val (.int kk i)) R = ((0 ≤ i ∧ i < n ∧ (∃ z b, Q0m P e = some (z, sz, b))) ∧ R (.ref β (off + i.toNat * sz)))) ∧
    (∀ (P : Program) (n : Nat) (e : TypeId) (cs : List AV) (kk : IntKind) (i : Int) (R : AV → Prop), vixD P (some (.array n e)) (.ro cs) (.val (.int kk i)) R = vixE (Q0m P e) (fun s => (0 ≤ i ∧ i < n ∧ n ≠ 0) ∧ R (.ro (cs.drop (i.toNat * s))))) ∧
    (∀ (P : Program) (n : Nat) (e : TypeId) (β off : Nat) (kk : IntKind) (i : Int) (R : AV → Prop), vixD P (some (.array n e)) (.ref β off) (.val (.int kk i)) R = vixE (Q0m P e) (fun s => (0 ≤ i ∧ i < n ∧ n ≠ 0) ∧ R (.ref β (off + i.toNat * s)))) ∧
    (∀ (z : Option Value) (s b : Nat) (R : Nat → Prop), vixE (some (z, s, b)) R = R s) ∧
    (∀ (P : Program) (s : ByteArray) (kk : IntKind) (i : Int) (R : AV → Prop), vxD P (some .string) (.val (.string s)) (.val (.int kk i)) R = ((0 ≤ i ∧ i.toNat < s.size) ∧ R (.u8 (X0r s i.toNat).toNat))) ∧
    (∀ (P : Program) (n : Nat) (e : TypeId) (cs : List AV) (kk : IntKind) (i : Int) (R : AV → Prop), vxD P (some (.array n e)) (.agg cs) (.val (.int kk i)) R = vixE (Q0m P e) (fun s => (0 ≤ i ∧ i < n) ∧ Q4u P e (cs.drop (i.toNat * s)) R)) ∧
    (∀ (P : Program) (t : TypeId) (cs : List AV) (R : AV → Prop), Q4u P t cs R = vpt (Q0m P t) (P.underlying t) cs R) ∧
    (∀ (P : Program) (t : TypeId) (cs : List AV) (σ : Sg) (R : AV → Prop), X1i P t (.ro cs) σ R = Q4u P t cs R) ∧
    (∀ (P : Program) (t : TypeId) (β off : Nat) (σ : Sg) (R : AV → Prop), X1i P t (.ref β off) σ R = vlo P t (σ β) off R) ∧
    (∀ (P : Program) (t ety : TypeId) (cs : List AV) (off : Nat) (R : AV → Prop), vlo P t (some (.cells ety cs)) off R = Q4u P t (cs.drop off) R) ∧
    (∀ (z : Option Value) (n b : Nat) (fs : Array Field) (cs : List AV) (R : AV → Prop), vpt (some (z, n, b)) (some (.struct fs)) cs R = (n ≤ cs.length ∧ R (.agg (cs.take n)))) ∧
    (∀ (z : Option Value) (n b : Nat) (m : Nat) (e : TypeId) (cs : List AV) (R : AV → Prop), vpt (some (z, n, b)) (some (.array m e)) cs R = (n ≤ cs.length ∧ R (.agg (cs.take n)))) ∧
    (∀ (z : Option Value) (n b : Nat) (k : IntKind) (x : AV) (r : List AV) (R : AV → Prop), vpt (some (z, n, b)) (some (.int k)) (x :: r) R = R x) ∧
    (∀ (z : Option Value) (n b : Nat)  (x : AV) (r : List AV) (R : AV → Prop), vpt (some (z, n, b)) (some (.bool)) (x :: r) R = R x) ∧
    (∀ (z : Option Value) (n b : Nat)  (x : AV) (r : List AV) (R : AV → Prop), vpt (some (z, n, b)) (some (.string)) (x :: r) R = R x) ∧
    (∀ (z : Option Value) (n b : Nat) (e : TypeId) (x : AV) (r : List AV) (R : AV → Prop), vpt (some (z, n, b)) (some (.slice e)) (x :: r) R = R x) ∧
    (∀ (z : Option Value) (n b : Nat) (e : TypeId) (x : AV) (r : List AV) (R : AV → Prop), vpt (some (z, n, b)) (some (.pointer e)) (x :: r) R = R x) ∧
    (∀ (z : Option Value) (n b : Nat) (e f : TypeId) (x : AV) (r : List AV) (R : AV → Prop), vpt (some (z, n, b)) (some (.map e f)) (x :: r) R = R x) ∧
    (∀ (z : Option Value) (n b : Nat) (p q : Array TypeId) (v : Bool) (x : AV) (r : List AV) (R : AV → Prop), vpt (some (z, n, b)) (some (.func p q v)) (x :: r) R = R x) ∧
    (∀ (z : Option Value) (n b : Nat) (ms : Array (String × TypeId)) (x : AV) (r : List AV) (R : AV → Prop), vpt (some (z, n, b)) (some (.interface ms)) (x :: r) R = R x) ∧
    (∀ (z : Option Value) (n b : Nat)  (x : AV) (r : List AV) (R : AV → Prop), vpt (some (z, n, b)) (some (.unsafePointer)) (x :: r) R = R x) ∧
    (∀ (P : Program) (t : TypeId) (β off : Nat) (x : AV) (σ : Sg) (R : Sg → Prop), X0q P t (.ref β off) x σ R = vst (Q0m P t) (σ β) β off x σ R) ∧
    (∀ (z : Option Value) (n b : Nat) (ety : TypeId) (cs : List AV) (β off : Nat) (x : AV) (σ : Sg) (R : Sg → Prop), vst (some (z, n, b)) (some (.cells ety cs)) β off x σ R = ((x.solid = true ∧ x.cells.length = n ∧ off + n ≤ cs.length ∧ (x.cells.all AV.one) = true) ∧ R (σ.set β (.cells ety (Q2o cs off x.cells))))) ∧
    (∀ (P : Program) (fs : List Field) (x : AV) (f : Nat) (R : AV → Prop), vfA P (some (.struct fs.toArray)) x f R = vfB P (fs[f]?) x R) ∧
    (∀ (P : Program) (n : String) (t : TypeId) (o : Nat) (em : Bool) (tg pk : String) (bo : Nat) (x : AV) (R : AV → Prop), vfB P (some ⟨n, t, o, em, tg, pk, bo⟩) x R = vfC (Q0m P t) o x R) ∧
    (∀ (z : Option Value) (n b o : Nat) (cs : List AV) (R : AV → Prop), vfC (some (z, n, b)) o (.ro cs) R = (n ≠ 0 ∧ R (.ro (cs.drop o)))) ∧
    (∀ (z : Option Value) (n b o β off : Nat) (R : AV → Prop), vfC (some (z, n, b)) o (.ref β off) R = (n ≠ 0 ∧ R (.ref β (off + o)))) ∧
    (∀ (P : Program) (fs : List Field) (cs : List AV) (f : Nat) (R : AV → Prop), vfF P (some (.struct fs.toArray)) (.agg cs) f R = vfG P (fs[f]?) cs R) ∧
    (∀ (P : Program) (n : String) (t : TypeId) (o : Nat) (em : Bool) (tg pk : String) (bo : Nat) (cs : List AV) (R : AV → Prop), vfG P (some ⟨n, t, o, em, tg, pk, bo⟩) cs R = Q4u P t (cs.drop o) R) ∧
    (∀ (P : Program) (x : AV) (t ty : TypeId) (l : List TypeId) (σ : Sg) (R : AV → Sg → Prop), Q1s P .len [x] (List.toArray (t :: l)) ty σ R = vln (P.underlying t) x σ (fun v => R v σ)) ∧
    (∀ (s : ByteArray) (σ : Sg) (R : AV → Prop), vln (some .string) (.val (.string s)) σ R = R (.i s.size)) ∧
    (∀ (e : TypeId) (k : Own) (es : List (List AV)) (σ : Sg) (R : AV → Prop), vln (some (.slice e)) (.sl k es) σ R = R (.i es.length)) ∧
    (∀ (e : TypeId) (β off n sz : Nat) (σ : Sg) (R : AV → Prop), vln (some (.slice e)) (.ms β off n sz) σ R = R (.i n)) ∧
    (∀ (e f : TypeId) (β : Nat) (σ : Sg) (R : AV → Prop), vln (some (.map e f)) (.map β) σ R = vlm (σ β) R) ∧
    (∀ (es : List (Value × AV)) (R : AV → Prop), vlm (some (.map es)) R = R (.i es.length)) ∧
    (∀ (P : Program) (x y : AV) (t u ty : TypeId) (l : List TypeId) (σ : Sg) (R : AV → Sg → Prop), Q1s P .append [x, y] (List.toArray (t :: u :: l)) ty σ R = vap P (P.underlying t) (P.underlying u) x y σ R) ∧
    (∀ (P : Program) (e e2 : TypeId) (x y : AV) (σ : Sg) (R : AV → Sg → Prop), vap P (some (.slice e)) (some (.slice e2)) x y σ R = vapp e (Q0m P e) x (elems y) σ R) ∧
    (∀ (P : Program) (e : TypeId) (x y : AV) (σ : Sg) (R : AV → Sg → Prop), vap P (some (.slice e)) (some (.string)) x y σ R = vapp e (Q0m P e) x (elems y) σ R) ∧
    (∀ (s : Nat), Q1i [] s = True) ∧
    (∀ (s : Nat) (e : List AV) (r : List (List AV)), Q1i (e :: r) s = (e.length = s ∧ Q1i r s)) ∧
    (∀ (s : Nat), Q3l [] s = True) ∧
    (∀ (s : Nat) (e : List AV) (r : List (List AV)), Q3l (e :: r) s = ((e.length = s ∧ (e.all AV.one) = true) ∧ Q3l r s)) ∧
    (∀ (a b : List (List AV)) (s : Nat), Q1i (a ++ b) s = (Q1i a s ∧ Q1i b s)) ∧
    (([] : List AV).all AV.one = true) ∧
    (∀ (x : AV) (r : List AV), (x :: r).all AV.one = (x.one && r.all AV.one)) ∧
    (∀ (k : Own) (es : List (List AV)), elems (.sl k es) = some es) ∧
    (∀ (s : ByteArray), elems (.val (.string s)) = some (Q0z s)) ∧
    (∀ (e : TypeId) (z : Value) (sz by_ : Nat) (es ys : List (List AV)) (σ : Sg) (R : AV → Sg → Prop), vapp e (some (some z, sz, by_)) (.sl .nil es) (some ys) σ R = (((Q0o z).length = sz ∧ 2 * (es.length + ys.length) * by_ ≤ 2 ^ 48 ∧ es.length + ys.length < 2 ^ 62 ∧ Q1i es sz ∧ Q3l ys sz) ∧ Q1x σ fun τ => R (.sl (.tok τ sz) (es ++ ys)) (σ.set τ (.tok (some e))))) ∧
    (∀ (e : TypeId) (z : Value) (sz by_ : Nat) (es ys : List (List AV)) (σ : Sg) (R : AV → Sg → Prop), vapp e (some (some z, sz, by_)) (.sl .full es) (some ys) σ R = (((Q0o z).length = sz ∧ 2 * (es.length + ys.length) * by_ ≤ 2 ^ 48 ∧ es.length + ys.length < 2 ^ 62 ∧ Q1i es sz ∧ Q3l ys sz) ∧ (ys = [] → R (.sl .full es) σ) ∧ (ys ≠ [] → Q1x σ fun τ => R (.sl (.tok τ sz) (es ++ ys)) (σ.set τ (.tok (some e)))))) ∧
    (∀ (e : TypeId) (t s : Nat) (z : Value) (sz by_ : Nat) (es ys : List (List AV)) (σ : Sg) (R : AV → Sg → Prop), vapp e (some (some z, sz, by_)) (.sl (.tok t s) es) (some ys) σ R = (((Q0o z).length = sz ∧ 2 * (es.length + ys.length) * by_ ≤ 2 ^ 48 ∧ es.length + ys.length < 2 ^ 62 ∧ Q1i es sz ∧ Q3l ys sz) ∧ s = sz ∧ vtk (σ t) e (fun ot => Q1x σ fun τ => R (.sl (.tok τ sz) (es ++ ys)) ((σ.del t).set τ (.tok ot))))) ∧
    (∀ (e : TypeId) (ot : Option TypeId) (R : Option TypeId → Prop), vtk (some (.tok ot)) e R = ((ot = none ∨ ot = some e) ∧ R ot)) ∧
    (∀ (P : Program) (s : ByteArray) (k1 k2 : IntKind) (l h : Int) (σ : Sg) (R : AV → Prop), vsl P (some .string) (.val (.string s)) (some (.val (.int k1 l))) (some (.val (.int k2 h))) none σ R = ((0 ≤ l ∧ l ≤ h ∧ h ≤ s.size) ∧ R (.s (s.extract l.toNat h.toNat)))) ∧
    (∀ (P : Program) (s : ByteArray) (k1 : IntKind) (l : Int) (σ : Sg) (R : AV → Prop), vsl P (some .string) (.val (.string s)) (some (.val (.int k1 l))) none none σ R = ((0 ≤ l ∧ l ≤ s.size) ∧ R (.s (s.extract l.toNat s.size)))) ∧
    (∀ (P : Program) (s : ByteArray) (k2 : IntKind) (h : Int) (σ : Sg) (R : AV → Prop), vsl P (some .string) (.val (.string s)) none (some (.val (.int k2 h))) none σ R = ((0 ≤ h ∧ h ≤ s.size) ∧ R (.s (s.extract 0 h.toNat)))) ∧
    (∀ (P : Program) (e : TypeId) (k : Own) (es : List (List AV)) (k1 k2 : IntKind) (l h : Int) (σ : Sg) (R : AV → Prop), vsl P (some (.slice e)) (.sl k es) (some (.val (.int k1 l))) (some (.val (.int k2 h))) none σ R = vixE (Q0m P e) (fun s => (0 ≤ l ∧ l ≤ h ∧ h ≤ es.length ∧ Q1i es s) ∧ R (.sl (k.cut (decide (h = es.length ∧ (l = 0 ∨ l < h)))) ((es.take h.toNat).drop l.toNat)))) ∧
    (∀ (P : Program) (e : TypeId) (k : Own) (es : List (List AV)) (k1 : IntKind) (l : Int) (σ : Sg) (R : AV → Prop), vsl P (some (.slice e)) (.sl k es) (some (.val (.int k1 l))) none none σ R = vixE (Q0m P e) (fun s => (0 ≤ l ∧ l ≤ es.length ∧ Q1i es s) ∧ R (.sl (k.cut (decide (l = 0 ∨ l < es.length))) (es.drop l.toNat)))) ∧
    (∀ (P : Program) (e : TypeId) (k : Own) (es : List (List AV)) (k2 : IntKind) (h : Int) (σ : Sg) (R : AV → Prop), vsl P (some (.slice e)) (.sl k es) none (some (.val (.int k2 h))) none σ R = vixE (Q0m P e) (fun s => (0 ≤ h ∧ h ≤ es.length ∧ Q1i es s) ∧ R (.sl (k.cut (decide (h = es.length))) (es.take h.toNat)))) ∧
    (∀ (P : Program) (n : Nat) (e : TypeId) (cs : List AV) (σ : Sg) (R : AV → Prop), vsl P (some (.array n e)) (.ro cs) none none none σ R = vixE (Q0m P e) (fun s => n * s ≤ cs.length ∧ R (.sl .view (Q2f s n cs)))) ∧
    (∀ (b : Bool), Own.cut .nil b = .nil) ∧
    (∀ (b : Bool), Own.cut .full b = (if b then .full else .view)) ∧
    (∀ (b : Bool), Own.cut .view b = .view) ∧
    (∀ (b : Bool), Own.cut .any b = .any) ∧
    (∀ (t s : Nat) (b : Bool), Own.cut (.tok t s) b = (if b then .tok t s else .any)) ∧
    (∀ (P : Program) (q : Bool) (sd : TypeDesc) (k k2 : IntKind) (n : Int) (σ : Sg) (R : AV → Sg → Prop), vcv P q (some sd) (some (.int k)) (.val (.int k2 n)) σ R = R (.val (.int k (k.wrap n))) σ) ∧
    (∀ (P : Program) (q : Bool) (b : ByteArray) (σ : Sg) (R : AV → Sg → Prop), vcv P q (some .string) (some .string) (.val (.string b)) σ R = R (.s b) σ) ∧
    (∀ (P : Program) (q : Bool) (e : TypeId) (b : ByteArray) (σ : Sg) (R : AV → Sg → Prop), vcv P q (some .string) (some (.slice e)) (.val (.string b)) σ R = vexB (P.underlying e) b σ R) ∧
    (∀ (P : Program) (q : Bool) (e : TypeId) (k : Own) (es : List (List AV)) (σ : Sg) (R : AV → Sg → Prop), vcv P q (some (.slice e)) (some .string) (.sl k es) σ R = vexS (P.underlying e) es (fun v => R v σ)) ∧
    (∀ (b : ByteArray) (σ : Sg) (R : AV → Sg → Prop), vexB (some (.int .u8)) b σ R = (Q1x σ fun τ => R (.sl (.tok τ 1) (Q0z b)) (σ.set τ (.tok none)))) ∧
    (∀ (es : List (List AV)) (R : AV → Prop), vexS (some (.int .u8)) es R = (∃ b : ByteArray, es = Q0z b ∧ R (.s b))) ∧
    (∀ (P : Program) (q : Bool) (e' e : TypeId) (τ : Nat) (x : List AV) (r : List (List AV)) (σ : Sg) (R : AV → Sg → Prop), vcv P q (some (.slice e')) (some (.slice e)) (.sl (.tok τ 1) (x :: r)) σ R = vct q (P.underlying e) (σ τ) (R (.sl .any (x :: r)) (σ.del τ))) ∧
    (∀ (q : Bool) (t : TypeId) (X : Prop), vct q (some (.int .u8)) (some (.tok (some t))) X = (q = true ∧ X)) ∧
    (∀ (P : Program) (q : Bool) (e : TypeId) (β off : Nat) (σ : Sg) (R : AV → Sg → Prop), vcv P q (some (.pointer e)) (some .unsafePointer) (.ref β off) σ R = vcu (Q0m P e) (σ β) off (R (.ref β off) σ)) ∧
    (∀ (P : Program) (q : Bool) (u : TypeId) (β off : Nat) (σ : Sg) (R : AV → Sg → Prop), vcv P q (some .unsafePointer) (some (.pointer u)) (.ref β off) σ R = vcw P u (Q0m P u) (σ β) off (R (.ref β off) σ)) ∧
    (∀ (z : Option Value) (n b : Nat) (ety : TypeId) (cs : List AV) (off : Nat) (X : Prop), vcu (some (z, n, b)) (some (.cells ety cs)) off X = ((n ≠ 0 ∧ off < cs.length) ∧ X)) ∧
    (∀ (P : Program) (u : TypeId) (i : Option Value × Nat × Nat) (ety : TypeId) (cs : List AV) (off : Nat) (X : Prop), vcw P u (some i) (some (.cells ety cs)) off X = (liesAt P P.depth ety (cs.length / P.cellsOf ety) off u 1 = true ∧ X)) ∧
    (∀ (P : Program) (x : AV) (ts : Array TypeId) (ty : TypeId) (σ : Sg) (R : AV → Sg → Prop), Q1s P .unsafeSliceData [x] ts ty σ R = vusd (P.underlying ty) x σ (fun v => R v σ)) ∧
    (∀ (e : TypeId) (τ s : Nat) (es : List (List AV)) (σ : Sg) (R : AV → Prop), vusd (some (.pointer e)) (.sl (.tok τ s) es) σ R = vuso (σ τ) ((s = 1 ∧ Q1i es 1) ∧ R (.bp τ es))) ∧
    (∀ (ot : Option TypeId) (X : Prop), vuso (some (.tok ot)) X = X) ∧
    (∀ (e : TypeId) (es : List (List AV)) (σ : Sg) (R : AV → Prop), vusd (some (.pointer e)) (.sl .nil es) σ R = (es = [] ∧ R (.bp 0 []))) ∧
    (∀ (P : Program) (τ : Nat) (es : List (List AV)) (n : Int) (t : TypeId) (l : List TypeId) (ty : TypeId) (σ : Sg) (R : AV → Sg → Prop), Q1s P .unsafeString [.bp τ es, .val (.int .i64 n)] (List.toArray (t :: l)) ty σ R = vust P (P.underlying t) τ es n σ (fun v => R v σ)) ∧
    (∀ (P : Program) (e : TypeId) (τ : Nat) (es : List (List AV)) (n : Int) (σ : Sg) (R : AV → Prop), vust P (some (.pointer e)) τ es n σ R = vusE e (Q0m P e) τ es n σ R) ∧
    (∀ (e : TypeId) (z : Option Value) (s b τ : Nat) (es : List (List AV)) (n : Int) (σ : Sg) (R : AV → Prop), vusE e (some (z, s, b)) τ es n σ R = (∃ b : ByteArray, (s = 1 ∧ es = Q0z b ∧ n = b.size ∧ (b.size : Int) ≤ 9223372036854775807) ∧ (es = [] ∨ σ τ = some (.tok (some e))) ∧ R (.s b))) ∧
    (∀ (P : Program) (z : Value) (n b : Nat) (fs : List Field) (parts : List (Nat × AV)) (R : AV → Prop), vbd P (some (some z, n, b)) (some (.struct fs.toArray)) parts R = ((parts.all fun p => p.2.solid) = true ∧ vbf (Q4a (fun i => ((fs.map fun f => (Q0m P f.type).map fun i => (f.offset, i.2.1))[i]?).bind id) (Q0o z) parts) ((fs.map fun f => (Q0m P f.type).map fun i => (f.offset, i.2.1)).all (·.isSome)) (fun cs => R (.agg cs)))) ∧
    (∀ (P : Program) (z : Value) (n b m : Nat) (e : TypeId) (parts : List (Nat × AV)) (R : AV → Prop), vbd P (some (some z, n, b)) (some (.array m e)) parts R = vixE (Q0m P e) (fun s => (parts.all fun p => p.2.solid) = true ∧ vbf (Q4a (fun i => some (i * s, s)) (Q0o z) parts) true (fun cs => R (.agg cs)))) ∧
    (∀ (cs : List AV) (R : List AV → Prop), vbf (some cs) true R = R cs) ∧
    (∀ (place : Nat → Option (Nat × Nat)) (cells : List AV), Q4a place cells [] = some cells) ∧
    (∀ (place : Nat → Option (Nat × Nat)) (cells : List AV) (i : Nat) (v : AV) (r : List (Nat × AV)), Q4a place cells ((i, v) :: r) = vfl place cells v r (place i)) ∧
    (∀ (place : Nat → Option (Nat × Nat)) (cells : List AV) (v : AV) (r : List (Nat × AV)) (off size : Nat), vfl place cells v r (some (off, size)) = if v.cells.length = size ∧ off + size ≤ cells.length then Q4a place (Q2o cells off v.cells) r else none) ∧
    (∀ (z : Value), Q0o z = (ofValue z).cells) ∧
    (∀ (cs xs : List AV) (off : Nat), Q2o cs off xs = cs.take off ++ xs ++ cs.drop (off + xs.length)) ∧
    (∀ (P : Program) (H : Hint) (e : TypeId) (n : Nat) (parts : List (Nat × AV)) (σ : Sg) (R : AV → Sg → Prop), vbs P H (some (.slice e)) n parts σ R = vbsE H e (Q0m P e) n parts σ R) ∧
    (∀ (e : TypeId) (s n : Nat) (cs : List AV) (σ : Sg) (R : AV → Sg → Prop), vown .no e s n cs σ R = R (.sl .full (Q2f s n cs)) σ) ∧
    (∀ (e : TypeId) (s n : Nat) (cs : List AV) (σ : Sg) (R : AV → Sg → Prop), vown .obj e s n cs σ R = (Q1x σ fun τ => R (.sl (.tok τ s) (Q2f s n cs)) (σ.set τ (.tok (some e))))) ∧
    (∀ (s : Nat) (cs : List AV), Q2f s 0 cs = []) ∧
    (∀ (s n : Nat) (cs : List AV), Q2f s (n + 1) cs = cs.take s :: Q2f s n (cs.drop s)) ∧
    (∀ (e : TypeId) (z : Value) (n b : Nat) (H : Hint) (σ : Sg) (R : AV → Sg → Prop), vbox' e (some (some z, n, b)) H σ R = vbox e H (ofValue z) σ R) ∧
    (∀ (e : TypeId) (x : AV) (σ : Sg) (R : AV → Sg → Prop), vbox e .ro x σ R = R (.ro x.cells) σ) ∧
    (∀ (e : TypeId) (x : AV) (σ : Sg) (R : AV → Sg → Prop), vbox e .no x σ R = (Q1x σ fun β => R (.ref β 0) (σ.set β (.cells e x.cells)))) ∧
    (∀ (cs : List AV) (R : AV → Prop), vnil (.ro cs) R = R (.ro cs)) ∧
    (∀ (β off : Nat) (R : AV → Prop), vnil (.ref β off) R = R (.ref β off)) ∧
    (∀ (f : FuncId) (cap : List AV) (R : AV → Prop), vnil (.fn f cap) R = R (.fn f cap)) ∧
    (∀ (f : FuncId) (cap : List AV) (R : AV → Prop), vnil (.bm f cap) R = R (.bm f cap)) ∧
    (∀ (vs : List AV) (ix : Nat) (R : AV → Prop), vex (.tup vs) ix R = vexx (vs[ix]?) R) ∧
    (∀ (v : AV) (R : AV → Prop), vexx (some v) R = R v) ∧
    (∀ (P : Program) (g : FuncId) (cap vs : List AV) (σ : Sg) (R : AV → Sg → Prop), vcf P (.fn g cap) vs σ R = VCalls P g (vs ++ cap) σ R) ∧
    (∀ (P : Program) (g : FuncId) (cap vs : List AV) (σ : Sg) (R : AV → Sg → Prop), vcf P (.bm g cap) vs σ R = VCalls P g (cap ++ vs) σ R) ∧
    (∀ (s : Nat) (ρ : Nat → AV) (w : Bool) (T F : (Nat → AV) → Prop), vgs (some s) ρ w T F = vgd (ρ s) ρ s w T F) ∧
    (∀ (t : Bool) (ρ : Nat → AV) (s : Nat) (w : Bool) (T F : (Nat → AV) → Prop), vgd (.val (.bool t)) ρ s w T F = vif (t = w) (T (upd ρ s (.b w))) (F (upd ρ s (.b !w)))) ∧
    (∀ (vs : Array Value) (ρ : Nat → AV) (s : Nat) (w : Bool) (T F : (Nat → AV) → Prop), vgd (.val (.tuple vs)) ρ s w T F = F ρ) ∧
    (∀ (t x y : Bool) (R : AV → Prop), Q8p (.val (.bool t)) (.val (.bool x)) (.val (.bool y)) R = R (.b (bif t then x else y))) ∧
    (∀ (t : Bool) (X Y : Prop), vcond (.val (.bool t)) X Y = vif (t = true) X Y) ∧
    (∀ (vs : Array Value) (y : AV) (R : AV → Prop), Q8p (.val (.bool true)) y (.val (.tuple vs)) R = R y) ∧
    (∀ (vs : Array Value) (y : AV) (R : AV → Prop), Q8p (.val (.bool false)) (.val (.tuple vs)) y R = R y) ∧
    (∀ (y : AV) (R : AV → Prop), Q8p (.val (.bool true)) y (.val undef) R = R y) ∧
    (∀ (y : AV) (R : AV → Prop), Q8p (.val (.bool false)) (.val undef) y R = R y) ∧
    (∀ (ρ : Nat → AV) (s : Nat) (w : Bool) (T F : (Nat → AV) → Prop), vgd (.val undef) ρ s w T F = F ρ) ∧
    (∀ (k : IntKind) (a b : Int) (R : AV → Prop), vmin true (.val (.int k a)) (.val (.int k b)) R = R (.val (.int k (if b < a then b else a)))) ∧
    (∀ (k : IntKind) (a b : Int) (R : AV → Prop), vmin false (.val (.int k a)) (.val (.int k b)) R = R (.val (.int k (if a < b then b else a)))) ∧
    (∀ (P : Program) (x y : AV) (ts : Array TypeId) (ty : TypeId) (σ : Sg) (R : AV → Sg → Prop), Q1s P .min [x, y] ts ty σ R = vmin true x y (fun v => R v σ)) ∧
    (∀ (P : Program) (x y : AV) (ts : Array TypeId) (ty : TypeId) (σ : Sg) (R : AV → Sg → Prop), Q1s P .max [x, y] ts ty σ R = vmin false x y (fun v => R v σ)) ∧
    (∀ (P : Program) (ρ : Nat → AV) (σ : Sg) (Q : List AV → Prop), vres P ρ σ [] Q = Q []) ∧
    (∀ (P : Program) (ρ : Nat → AV) (σ : Sg) (t : Nat) (r : List ResultVar) (Q : List AV → Prop), vres P ρ σ (.tmp t :: r) Q = vres P ρ σ r (fun xs => Q (ρ t :: xs))) ∧
    (∀ (P : Program) (ρ : Nat → AV) (σ : Sg) (b : Nat) (t : TypeId) (r : List ResultVar) (Q : List AV → Prop), vres P ρ σ (.cell b t :: r) Q = X1i P t (ρ b) σ (fun x => vres P ρ σ r (fun xs => Q (x :: xs)))) ∧
    (∀ (x : AV), pack [x] = x) ∧
    (pack [] = .tup []) ∧
    (∀ (x y : AV) (r : List AV), pack (x :: y :: r) = .tup (x :: y :: r)) ∧
    (∀ (P : Program) (rs : List ResultVar) (R : AV → Sg → Prop) (ρ : Nat → AV) (σ : Sg), VRet P rs R .ret ρ σ = vres P ρ σ rs (fun xs => ∃ σ' : Sg, σ'.sub σ ∧ R (pack xs) σ')) ∧
    (∀ (P : Program) (rs : List ResultVar) (R : AV → Sg → Prop) (ρ : Nat → AV) (σ : Sg), VRet P rs R .normal ρ σ = vres P ρ σ rs (fun xs => ∃ σ' : Sg, σ'.sub σ ∧ R (pack xs) σ')) := by
  refine ⟨?_, ?_, ?_, ?_, ?_, ?_, ?_, ?_, ?_, ?_, ?_, ?_, ?_, ?_, ?_, ?_, ?_, ?_, ?_, ?_, ?_, ?_, ?_, ?_, ?_, ?_, ?_, ?_, ?_, ?_, ?_, ?_, ?_, ?_, ?_, ?_, ?_, ?_, ?_, ?_, ?_, ?_, ?_, ?_, ?_, ?_, ?_, ?_, ?_, ?_, ?_, ?_, ?_, ?_, ?_, ?_, ?_, ?_, ?_, ?_, ?_, ?_, ?_, ?_, ?_, ?_, ?_, ?_, ?_, ?_, ?_, ?_, ?_, ?_, ?_, ?_, ?_, ?_, ?_, ?_, ?_, ?_, ?_, ?_, ?_, ?_, ?_, ?_, ?_, ?_, ?_, ?_, ?_, ?_, ?_, ?_, ?_, ?_, ?_, ?_, ?_, ?_, ?_, ?_, ?_, ?_, ?_, ?_, ?_, ?_, ?_, ?_, ?_, ?_, ?_, ?_, ?_, ?_, ?_, ?_, ?_, ?_, ?_, ?_, ?_, ?_, ?_, ?_, ?_, ?_, ?_, ?_, ?_, ?_, ?_, ?_, ?_, ?_, ?_, ?_, ?_, ?_, ?_, ?_, ?_, ?_, ?_, ?_, ?_, ?_, ?_, ?_, ?_, ?_, ?_, ?_, ?_, ?_, ?_, ?_, ?_, ?_, ?_, ?_, ?_, ?_, ?_, ?_, ?_, ?_, ?_, ?_, ?_, ?_, ?_, ?_, ?_, ?_, ?_, ?_, ?_, ?_, ?_, ?_, ?_, ?_⟩
  · intro P t k a b R; simp [Q0x, vbin]
  · intro P t k a b R; simp [Q0x, vbin]
  · intro P t k a b R; simp [Q0x, vbin]
  · intro P t k a b R; simp [Q0x, vbin]
  · intro P t k a b R; simp [Q0x, vbin]
  · intro P t k a b R; simp [Q0x, vbin]
  · intro P t k a b R; simp [Q0x, vbin]
  · intro P t k a b R; simp [Q0x, vbin]
  · intro P t k a b R; simp [Q0x, vbin]
  · intro P t k a b R; simp [Q0x, vbin]
  · intro P t k a b R; simp [Q0x, vbin]
  · intro P t k a b R; simp [Q0x, vbin]
  · intro P t k a b R; simp [Q0x, vbin]
  · intro P t k a b R; simp [Q0x, vbin]
  · intro P t k a b R; simp [Q0x, vbin]
  · intro P t k k' a b R; rfl
  · intro P t k k' a b R; rfl
  · intro P t a b R; rfl
  · intro P t a b R; rfl
  · intro P t a b R; rfl
  · intro P t a b R; rfl
  · intro P t a b R; rfl
  · intro P t a b R; rfl
  · intro P t k k2 es es2 R; rfl
  · intro P t β off n sz k2 es2 R; rfl
  · intro P t cs v R; rfl
  · intro P t β off v R; rfl
  · intro P t a b R; rfl
  · intro P t β β' o o' R; rfl
  · intro P t xs ys R; rfl
  · intro P t d x y R; unfold vbq vbo; simp only; cases veqT P t d x y <;> simp
  · intro P t a b R; rfl
  · intro P t k k2 es es2 R; rfl
  · intro P t β off n sz k2 es2 R; rfl
  · intro P t cs v R; rfl
  · intro P t β off v R; rfl
  · intro P t a b R; rfl
  · intro P t β β' o o' R; rfl
  · intro P t xs ys R; rfl
  · intro P t d x y R; unfold vbq vbo; simp only; cases veqT P t d x y <;> simp
  · intro P t0 e β β' o o'; rfl
  · intro z n b β β' o o'; rfl
  · intro b R; rfl
  · intro b R; rfl
  · intro P t0 a b; rfl
  · intro P t0 t es es2; rfl
  · intro P t0 t es es2; rfl
  · intro P t0 t es es2; rfl
  · intro P t0 t τ s e es es2; rfl
  · intro P t0 t e es es2; rfl
  · intro P t0 t β off n sz es2; rfl
  · intro P t0 t cs; rfl
  · intro P t0 t β off; rfl
  · intro P t0 t; rfl
  · intro b R; rfl
  · intro k n R; rfl
  · intro k n R; rfl
  · intro P e k es kk i R; unfold vixD vixE; rfl
  · intro P e β off n sz kk i R; rfl
  · intro P n e cs kk i R; unfold vixD vixE; rfl
  · intro P n e β off kk i R; unfold vixD vixE; rfl
  · intro z s b R; rfl
  · intro P s kk i R; rfl
  · intro P n e cs kk i R; unfold vxD vixE; rfl
  · intro P t cs R; rfl
  · intro P t cs σ R; rfl
  · intro P t β off σ R; rfl
  · intro P t ety cs off R; rfl
  · intro z n b fs cs R; rfl
  · intro z n b m e cs R; rfl
  · intro z n b k x r R; rfl
  · intro z n b x r R; rfl
  · intro z n b x r R; rfl
  · intro z n b e x r R; rfl
  · intro z n b e x r R; rfl
  · intro z n b e f x r R; rfl
  · intro z n b p q v x r R; rfl
  · intro z n b ms x r R; rfl
  · intro z n b x r R; rfl
  · intro P t β off x σ R; unfold X0q vst; cases Q0m P t <;> rfl
  · intro z n b ety cs β off x σ R; rfl
  · intro P fs x f R; unfold vfA vfB; simp only [List.getElem?_toArray]
  · intro P n t o em tg pk bo x R; rfl
  · intro z n b o cs R; rfl
  · intro z n b o β off R; rfl
  · intro P fs cs f R; unfold vfF vfG; simp only [List.getElem?_toArray]
  · intro P n t o em tg pk bo cs R; rfl
  · intro P x t ty l σ R; simp only [Q1s, vln, List.getElem?_toArray, List.getElem?_cons_zero, Option.bind_some]; rfl
  · intro s σ R; simp [vln, Q7d, vlen]
  · intro e k es σ R; simp [vln, Q7d, vlen]
  · intro e β off n sz σ R; simp [vln, Q7d, vlen]
  · intro e f β σ R; simp only [vln, Q7d, vlen, vlm, true_and]; rfl
  · intro es R; rfl
  · intro P x y t u ty l σ R; simp only [Q1s, vap, List.getElem?_toArray, List.getElem?_cons_zero, List.getElem?_cons_succ, Option.bind_some]; rfl
  · intro P e e2 x y σ R; simp only [vap, Q8n, vapp]; rfl
  · intro P e x y σ R; simp only [vap, Q8n, vapp]; rfl
  · intro s; simp [Q1i]
  · intro s e r; simp [Q1i]
  · intro s; simp [Q3l]
  · intro s e r; simp [Q3l]
  · intro a b s; unfold Q1i; simp [or_imp, forall_and]
  · rfl
  · intro x r; rfl
  · intro k es; rfl
  · intro s; rfl
  · intro e z sz by_ es ys σ R; rfl
  · intro e z sz by_ es ys σ R; rfl
  · intro e t s z sz by_ es ys σ R; rfl
  · intro e ot R; rfl
  · intro P s k1 k2 l h σ R; rfl
  · intro P s k1 l σ R; simp [vsl, Q1l]
  · intro P s k2 h σ R; simp [vsl, Q1l]
  · intro P e k es k1 k2 l h σ R; unfold vsl vixE; simp only [Q1l]; cases Q0m P e <;> rfl
  · intro P e k es k1 l σ R; unfold vsl vixE; simp only [Q1l]; cases Q0m P e <;> simp
  · intro P e k es k2 h σ R; unfold vsl vixE; simp only [Q1l]; cases Q0m P e <;> simp
  · intro P n e cs σ R; unfold vsl vixE; simp only [Q1l]; cases Q0m P e <;> simp [List.take_of_length_le, Q2m]
  · intro b; rfl
  · intro b; rfl
  · intro b; rfl
  · intro b; rfl
  · intro t s b; rfl
  · intro P q sd k k2 n σ R; unfold vcv; cases sd <;> rfl
  · intro P q b σ R; rfl
  · intro P q e b σ R; unfold vcv vexB; rfl
  · intro P q e k es σ R; unfold vcv vexS; rfl
  · intro b σ R; rfl
  · intro es R; rfl
  · intro P q e' e τ x r σ R; unfold vcv vct; rfl
  · intro q t X; unfold vct; rfl
  · intro P q e β off σ R; unfold vcv vcu; rfl
  · intro P q u β off σ R; unfold vcv vcw; rfl
  · intro z n b ety cs off X; rfl
  · intro P u i ety cs off X; rfl
  · intro P x ts ty σ R; unfold Q1s vusd; rfl
  · intro e τ s es σ R; unfold vusd vuso; rfl
  · intro ot X; rfl
  · intro e es σ R; rfl
  · intro P τ es n t l ty σ R; simp only [Q1s, vust, List.getElem?_toArray, List.getElem?_cons_zero, Option.bind_some]; rfl
  · intro P e τ es n σ R; unfold vust vusE; rfl
  · intro e z s b τ es n σ R; rfl
  · intro P z n b fs parts R; unfold vbd vbf Q2u; rfl
  · intro P z n b m e parts R; unfold vbd vixE; simp only; cases Q0m P e with | none => rfl | some i => (obtain ⟨z2, s, b2⟩ := i; simp only; unfold vbf; cases Q4a (fun i => some (i * s, s)) (Q0o z) parts <;> simp)
  · intro cs R; simp [vbf]
  · intro place cells; rfl
  · intro place cells i v r; unfold Q4a vfl; cases place i <;> rfl
  · intro place cells v r off size; rfl
  · intro z; rfl
  · intro cs xs off; rfl
  · intro P H e n parts σ R; unfold vbs vbsE; simp only; cases Q0m P e with | none => rfl | some i => (obtain ⟨z2, s, b2⟩ := i; cases z2 with | none => rfl | some z2 => (simp only; unfold vbf vown; cases Q4a (fun i => some (i * s, s)) ((List.replicate n (Q0o z2)).flatten) parts <;> simp))
  · intro e s n cs σ R; rfl
  · intro e s n cs σ R; rfl
  · intro s cs; rfl
  · intro s n cs; rfl
  · intro e z n b H σ R; rfl
  · intro e x σ R; rfl
  · intro e x σ R; rfl
  · intro cs R; rfl
  · intro β off R; rfl
  · intro f cap R; rfl
  · intro f cap R; rfl
  · intro vs ix R; rfl
  · intro v R; rfl
  · intro P g cap vs σ R; rfl
  · intro P g cap vs σ R; rfl
  · intro s ρ w T F; rfl
  · intro t ρ s w T F; exact vgif t w _ _
  · intro vs ρ s w T F; rfl
  · intro t x y R; rfl
  · intro t X Y; exact vgif t true X Y
  · intro vs y R; unfold Q8p; cases y <;> first | (simp; done) | (rename_i u; cases u <;> simp)
  · intro vs y R; unfold Q8p; simp
  · intro y R; unfold Q8p undef; cases y <;> first | (simp; done) | (rename_i u; cases u <;> simp)
  · intro y R; unfold Q8p undef; simp
  · intro ρ s w T F; rfl
  · intro k a b R; simp [vmin]
  · intro k a b R; simp [vmin]
  · intro P x y ts ty σ R; rfl
  · intro P x y ts ty σ R; rfl
  · intro P ρ σ Q; rfl
  · intro P ρ σ t r Q; rfl
  · intro P ρ σ b t r Q; rfl
  · intro x; rfl
  · rfl
  · intro x y r; rfl
  · intro P rs R ρ σ; rfl
  · intro P rs R ρ σ; rfl
theorem Sg.set_ne {σ : Sg} {β x : Nat} {o : Ob} (h : x ≠ β) : (σ.set β o) x = σ x := if_neg h
theorem Sg.set_ne' {σ : Sg} {β x : Nat} {o : Ob} (h : β ≠ x) : (σ.set β o) x = σ x := if_neg (Ne.symm h)
theorem Sg.del_ne {σ : Sg} {β x : Nat} (h : x ≠ β) : (σ.del β) x = σ x := if_neg h
theorem Sg.del_ne' {σ : Sg} {β x : Nat} (h : β ≠ x) : (σ.del β) x = σ x := if_neg (Ne.symm h)
theorem Sg.set_apply (σ : Sg) (β x : Nat) (o : Ob) : (σ.set β o) x = if x = β then some o else σ x := rfl
theorem Sg.del_apply (σ : Sg) (β x : Nat) : (σ.del β) x = if x = β then none else σ x := rfl
theorem Holds_nil (ρ : Nat → AV) : Holds [] ρ = True := by simp [Holds]
theorem Holds_cons (t : Nat) (x : AV) (r : List (Nat × AV)) (ρ : Nat → AV) : Holds ((t, x) :: r) ρ = (ρ t = x ∧ Holds r ρ) := by simp [Holds]
theorem w64 {n : Int} (h1 : -9223372036854775808 ≤ n) (h2 : n ≤ 9223372036854775807) : IntKind.i64.wrap n = n := IntWalk.i64_in n ⟨h1, h2⟩
theorem w8 {n : Int} (h1 : 0 ≤ n) (h2 : n ≤ 255) : IntKind.u8.wrap n = n := IntWalk.u8_in n ⟨h1, h2⟩
theorem vB : (∀ p : Prop, (True ∧ p) = p) ∧ (∀ p : Prop, (p ∧ True) = p) ∧ (∀ p : Prop, (True → p) = p) ∧ (∀ p : Prop, (False → p) = True) ∧ ((true = false) = False) ∧ ((false = true) = False) ∧ ((!true) = false) ∧ ((!false) = true) ∧
    (∀ (α : Type) (a b : α), (if True then a else b) = a) ∧ (∀ (α : Type) (a b : α), (if False then a else b) = b) ∧ (∀ (α : Type) (a b : α), (bif true then a else b) = a) ∧ (∀ (α : Type) (a b : α), (bif false then a else b) = b) ∧
    (∀ (α : Type) (a : α), (a = a) = True) ∧ (∀ p : Prop, [Decidable p] → (decide p = true) = p) ∧ (∀ p : Prop, [Decidable p] → (decide p = false) = ¬ p) ∧ (∀ (a b : Bool), ((!a) = b) = (a = !b)) ∧
    (∀ (α : Type) (x : α), tg x = x) ∧ (∀ X Y : Prop, vif True X Y = X) ∧ (∀ X Y : Prop, vif False X Y = Y) ∧ (∀ p X Y : Prop, vif (¬ p) X Y = vif p Y X) ∧ (∀ p : Prop, (False ∧ p) = False) ∧ ((¬ True) = False) ∧ ((¬ False) = True) ∧
    (∀ (Q : VX → (Nat → AV) → Sg → Prop) (id : Nat), bq id Q .normal = Q .normal) ∧ (∀ (Q : VX → (Nat → AV) → Sg → Prop) (id : Nat), bq id Q .ret = Q .ret) ∧ (∀ (Q : VX → (Nat → AV) → Sg → Prop) (id id' : Nat), bq id Q (.exit id') = if id' = id then Q .normal else Q (.exit id')) ∧
    (∀ (k : (Nat → AV) → Sg → Prop) (Q : VX → (Nat → AV) → Sg → Prop), sq k Q .normal = k) ∧ (∀ (k : (Nat → AV) → Sg → Prop) (Q : VX → (Nat → AV) → Sg → Prop), sq k Q .ret = Q .ret) ∧ (∀ (k : (Nat → AV) → Sg → Prop) (Q : VX → (Nat → AV) → Sg → Prop) (id : Nat), sq k Q (.exit id) = Q (.exit id)) := by
  refine ⟨?_, ?_, ?_, ?_, ?_, ?_, ?_, ?_, ?_, ?_, ?_, ?_, ?_, ?_, ?_, ?_, ?_, ?_, ?_, ?_, ?_, ?_, ?_, ?_, ?_, ?_, ?_, ?_, ?_⟩ <;> first | (intros; rfl) | exact vif_true | exact vif_false | exact vif_not | (intros; simp; done) | (intro a b; cases a <;> cases b <;> simp)
def FF (s : Nat) : Nat → List (Nat × AV) → Prop
  | _, [] => True
  | k, (i, x) :: r => i = k ∧ x.cells.length = s ∧ FF s (k + 1) r
theorem FF_nil (s k : Nat) : FF s k [] = True := propext Iff.rfl
theorem FF_cons (s k i : Nat) (x : AV) (r : List (Nat × AV)) : FF s k ((i, x) :: r) = (i = k ∧ x.cells.length = s ∧ FF s (k + 1) r) := propext Iff.rfl
theorem FF_fill {s : Nat} : ∀ (parts : List (Nat × AV)) (k : Nat) (A B : List AV), A.length = k * s → B.length = parts.length * s → FF s k parts → Q4a (fun i => some (i * s, s)) (A ++ B) parts = some (A ++ (parts.map fun p => p.2.cells).flatten)
  | [], k, A, B, hA, hB, _ => by
    have : B = [] := List.eq_nil_of_length_eq_zero (by simpa using hB)
    simp [Q4a, this]
  | (i, x) :: r, k, A, B, hA, hB, hF => by
    obtain ⟨rfl, hx, hr⟩ := hF
    simp only [List.length_cons, Nat.succ_mul] at hB
    simp only [Q4a]
    rw [if_pos ⟨hx, by rw [List.length_append]; omega⟩]
    have hs : Q2o (A ++ B) (i * s) x.cells = (A ++ x.cells) ++ B.drop s := by
      unfold Q2o
      rw [hx, ← hA, List.take_left, List.drop_append]
      simp
    rw [hs, FF_fill r (i + 1) (A ++ x.cells) (B.drop s) (by rw [List.length_append, hA, hx, Nat.succ_mul]) (by rw [List.length_drop]; omega) hr]
    simp
theorem FF_len {s : Nat} : ∀ (parts : List (Nat × AV)) (k : Nat), FF s k parts → Q1i (parts.map fun p => p.2.cells) s
  | [], _, _, e, he => by simp at he
  | (i, x) :: r, k, h, e, he => by
    simp only [List.map_cons, List.mem_cons] at he
    rcases he with rfl | he
    · exact h.2.1
    · exact FF_len r (k + 1) h.2.2 e he
theorem chunks_of {s : Nat} : ∀ (es : List (List AV)), Q1i es s → Q2f s es.length es.flatten = es
  | [], _ => rfl
  | e :: es, h => by
    have he := h e (by simp)
    simp only [List.length_cons, Q2f, List.flatten_cons]
    rw [← he, List.take_left, List.drop_left, he, chunks_of es (fun x hx => h x (by simp [hx]))]
def X0c (H : Hint) (e : TypeId) (s : Nat) (es : List (List AV)) (σ : Sg) (R : AV → Sg → Prop) : Prop :=
  match H with
  | .obj => Q1x σ fun τ => R (.sl (.tok τ s) es) (σ.set τ (.tok (some e)))
  | _ => R (.sl .full es) σ
@[congr] theorem vown2_congr {H : Hint} {e : TypeId} {s : Nat} {es es' : List (List AV)} {σ σ' : Sg} {R : AV → Sg → Prop} (h : tg es = es') (h2 : σ = σ') : X0c H e s es σ R = X0c H e s es' σ' R := by unfold tg at h; rw [h, h2]
theorem vown2_no (e : TypeId) (s : Nat) (es : List (List AV)) (σ : Sg) (R : AV → Sg → Prop) : X0c .no e s es σ R = R (.sl .full es) σ := rfl
theorem vown2_obj (e : TypeId) (s : Nat) (es : List (List AV)) (σ : Sg) (R : AV → Sg → Prop) : X0c .obj e s es σ R = (Q1x σ fun τ => R (.sl (.tok τ s) es) (σ.set τ (.tok (some e)))) := rfl
theorem Q0i {H : Hint} {e : TypeId} {z : Value} {s b n : Nat} {parts : List (Nat × AV)} {σ : Sg} {R : AV → Sg → Prop} (hn : parts.length = n) (hf : FF s 0 parts) :
    vbsE H e (some (some z, s, b)) n parts σ R = (((parts.all fun p => p.2.solid) = true ∧ n * s ≤ 2 ^ 24 ∧ (Q0o z).length = s ∧ 0 < s) ∧ X0c H e s (parts.map fun p => p.2.cells) σ R) := by
  unfold vbsE vbf vown X0c
  refine propext (and_congr_right (fun hc => ?_))
  have h1 := FF_fill parts 0 [] ((List.replicate n (Q0o z)).flatten) (by simp) (by rw [Q1e, hc.2.2.1, hn]) hf
  rw [List.nil_append, List.nil_append] at h1
  have h2 := chunks_of (parts.map fun p => p.2.cells) (FF_len parts 0 hf)
  rw [List.length_map, hn] at h2
  simp only [h1, h2, true_and]
theorem Sg.none_set {σ : Sg} {τ β : Nat} {o : Ob} (h : (σ.set τ o) β = none) : β ≠ τ ∧ σ β = none := by
  unfold Sg.set at h
  split at h
  · cases h
  · rename_i hn; exact ⟨hn, h⟩
theorem Sg.sub.trans {a b c : Sg} (h : a.sub b) (k : b.sub c) : a.sub c := fun β o hb => k β o (h β o hb)
end Go.V
namespace Go.V
open Go.RowKit
variable {P : Program} {H : Nat → Hint} {ops : Array Oper} {M : Sg → Sg → Prop} {ρ : Nat → AV} {σ : Sg}
def mfree (md : Region.Mode) (ops : Array Oper) (all : List (Nat × Bool)) (i : Nat) : Bool :=
  all.all fun p => p.2 || (match ops[i]? with | some o => o.after.toList.any fun e => Region.binds md e && e.on == p.1 | none => false)
def QS (P : Program) (H : Nat → Hint) (ops : Array Oper) (M : Sg → Sg → Prop) (σ : Sg) (o : Oper) (x : AV) (ρ : Nat → AV) : Prop := ∀ σ', M σ σ' → YV P H ops σ' o x ρ
def mOp (P : Program) (H : Nat → Hint) (md : Region.Mode) (ops : Array Oper) (M : Sg → Sg → Prop) (all : List (Nat × Bool)) (i : Nat) (Q : (Nat → AV) → Sg → Prop) (ρ : Nat → AV) (σ : Sg) : Prop :=
  match ops[i]? with
  | none => Q ρ σ
  | some o => (∃ x, QS P H ops M σ o x ρ ∧ Q (updo ρ o.dst x) σ) ∨
    (Q5i ops o.guard ρ = some true ∧ ∃ O : AV → Sg → Prop, vop P (H (o.dst.getD 0)) ρ o.type o.op σ O ∧ ∀ y σ', O y σ' → (mfree md ops all i = false → M σ σ') ∧ Q (updo ρ o.dst y) σ')
theorem mOp_mono {md : Region.Mode} {all : List (Nat × Bool)} {i : Nat} {Q Q' : (Nat → AV) → Sg → Prop} (h : ∀ ρ σ, Q ρ σ → Q' ρ σ) (hh : mOp P H md ops M all i Q ρ σ) : mOp P H md ops M all i Q' ρ σ := by
  unfold mOp at *
  split
  · rename_i ho; rw [ho] at hh; exact h _ _ hh
  · rename_i o ho
    rw [ho] at hh
    rcases hh with ⟨x, h1, h2⟩ | ⟨h0, O, h1, h2⟩
    · exact .inl ⟨x, h1, h _ _ h2⟩
    · exact .inr ⟨h0, O, h1, fun y σ' hy => ⟨(h2 y σ' hy).1, h _ _ (h2 y σ' hy).2⟩⟩
def mAny (P : Program) (H : Nat → Hint) (md : Region.Mode) (ops : Array Oper) (M : Sg → Sg → Prop) (all : List (Nat × Bool)) (Q : (Nat → AV) → Sg → Prop) : Nat → Array Bool → (Nat → AV) → Sg → Prop
  | 0, listed, ρ, σ => Region.ready md ops listed = [] ∧ Q ρ σ
  | fuel + 1, listed, ρ, σ => (Region.ready md ops listed = [] → Q ρ σ) ∧ ∀ i ∈ Region.ready md ops listed, mOp P H md ops M all i (mAny P H md ops M all Q fuel (listed.setIfInBounds i true)) ρ σ
theorem vwants_agree {o : Oper} {ρ' : Nat → AV} (h : ∀ t ∈ o.looksAt ops, ρ t = ρ' t) : Q5i ops o.guard ρ = Q5i ops o.guard ρ' := by
  unfold Q5i
  cases hg : o.guard with
  | none => rfl
  | some jw =>
    obtain ⟨j, want⟩ := jw
    simp only
    cases hs : (ops[j]?).bind (·.dst) with
    | none => rfl
    | some s =>
      simp only
      rw [h s (by unfold Oper.looksAt; rw [hg]; simp [hs])]
theorem ops_agree {o : Oper} {ρ' : Nat → AV} (h : ∀ t ∈ o.looksAt ops, ρ t = ρ' t) : ∀ x ∈ o.op.operands, ev ρ x = ev ρ' x := fun x hx => ev_congr (fun t ht => h t (by
  unfold Oper.looksAt
  rw [List.mem_append]
  refine .inl (List.mem_filterMap.2 ⟨x, Array.mem_toList_iff.2 hx, ?_⟩)
  rw [ht]))
theorem mOp_put {md : Region.Mode} {all : List (Nat × Bool)} (ht : ∀ a b c, M a b → M b c → M a c) {i j : Nat} {oi oj : Oper} {v : AV} (hi : (i, false) ∈ all) (hj : ops[j]? = some oj) (hap : oi.apart ops oj = true)
    (hno : ∀ e ∈ oj.after, Region.binds md e = true → e.on ≠ i) {Q : (Nat → AV) → Sg → Prop}
    (hy : QS P H ops M σ oi v ρ) (h : mOp P H md ops M all j Q (updo ρ oi.dst v) σ) : mOp P H md ops M all j (fun ρ' σ' => QS P H ops M σ' oi v ρ' ∧ Q (updo ρ' oi.dst v) σ') ρ σ := by
  obtain ⟨h1, h2, h3⟩ := Oper.apart_spec hap
  have hf : mfree md ops all j = false := by
    cases hh : mfree md ops all j with
    | false => rfl
    | true =>
      unfold mfree at hh
      have := List.all_eq_true.1 hh _ hi
      rw [hj] at this
      simp only [Bool.false_or, List.any_eq_true, Bool.and_eq_true, beq_iff_eq] at this
      obtain ⟨e, he, hb, hon⟩ := this
      exact absurd hon (hno e (Array.mem_toList_iff.1 he) hb)
  unfold mOp at *
  rw [hj] at h ⊢
  rcases h with ⟨x, hx, hq⟩ | ⟨h0, O, hO, hq⟩
  · refine .inl ⟨x, fun σ' hM => (hx σ' hM).agree (fun t ht => (Q4t h1 t ht).symm), fun σ' hM => (hy σ' hM).agree (Q4t h3), ?_⟩
    rw [← X1n v x h2]
    exact hq
  · have ha : ∀ t ∈ oj.looksAt ops, updo ρ oi.dst v t = ρ t := fun t ht => (Q4t h1 t ht).symm
    refine .inr ⟨by rw [← vwants_agree ha]; exact h0, O, by rw [← vop_congr (ops_agree ha)]; exact hO, fun y σ' hy' => ?_⟩
    have hM := (hq y σ' hy').1 hf
    refine ⟨fun _ => hM, fun σ'' hM' => (hy σ'' (ht _ _ _ hM hM')).agree (Q4t h3), ?_⟩
    rw [← X1n v y h2]
    exact (hq y σ' hy').2
theorem mAny_first {md : Region.Mode} {all : List (Nat × Bool)} (ht : ∀ a b c, M a b → M b c → M a c) {Q : (Nat → AV) → Sg → Prop} {i : Nat} {oi : Oper} {v : AV} (hia : (i, false) ∈ all) (hi : ops[i]? = some oi) : ∀ (fuel : Nat) (listed : Array Bool) (ρ : Nat → AV) (σ : Sg),
      (∀ j oj, ops[j]? = some oj → j ≠ i → listed.getD j true = false → (∀ e ∈ oj.after, Region.binds md e = true → e.on ≠ i) → oi.apart ops oj = true) →
      i ∈ Region.ready md ops listed → QS P H ops M σ oi v ρ → mAny P H md ops M all Q fuel (listed.setIfInBounds i true) (updo ρ oi.dst v) σ → mAny P H md ops M all Q (fuel + 1) listed ρ σ := by
  have self : ∀ {ρ : Nat → AV} {σ : Sg} {K : (Nat → AV) → Sg → Prop}, QS P H ops M σ oi v ρ → K (updo ρ oi.dst v) σ → mOp P H md ops M all i K ρ σ := fun {ρ σ K} hy hk => by
    unfold mOp
    rw [hi]
    exact .inl ⟨v, hy, hk⟩
  intro fuel
  induction fuel with
  | zero =>
    intro listed ρ σ _ hr hy H'
    refine ⟨fun h => (by rw [h] at hr; cases hr), fun j hj => ?_⟩
    by_cases hji : j = i
    · subst hji; exact self hy H'
    · have := ready_mono hj hji
      rw [H'.1] at this
      cases this
  | succ fuel ih =>
    intro listed ρ σ hfree hr hy H'
    refine ⟨fun h => (by rw [h] at hr; cases hr), fun j hj => ?_⟩
    by_cases hji : j = i
    · subst hji; exact self hy H'
    · have h1 := H'.2 j (ready_mono hj hji)
      obtain ⟨hjun, oj, hoj, hall⟩ := mem_ready.1 hj
      have hnot : ∀ e ∈ oj.after, Region.binds md e = true → e.on ≠ i := fun e he hb heq => by
        have h1 := hall e he hb
        have h0 := (mem_ready.1 hr).1
        rw [heq] at h1
        rcases Nat.lt_or_ge i listed.size with h' | h'
        · simp [h'] at h0 h1; rw [h0] at h1; cases h1
        · simp [Array.getElem?_eq_none h'] at h1
      have h2 := mOp_put ht hia hoj (hfree j oj hoj hji hjun hnot) hnot hy h1
      have hfree' : ∀ k ok, ops[k]? = some ok → k ≠ i → (listed.setIfInBounds j true).getD k true = false →
          (∀ e ∈ ok.after, Region.binds md e = true → e.on ≠ i) → oi.apart ops ok = true := fun k ok hk hki hun hno => by
        refine hfree k ok hk hki ?_ hno
        by_cases hjk : j = k
        · subst hjk; exact hjun
        · rw [getD_set_ne true hjk] at hun; exact hun
      refine mOp_mono (fun ρ' σ' h3 => ih (listed.setIfInBounds j true) ρ' σ' hfree' (ready_mono hr (Ne.symm hji)) h3.1 ?_) h2
      rw [Array.setIfInBounds_comm _ _ hji]
      exact h3.2
def mixB (md : Region.Mode) (ops : Array Oper) : List (Nat × Bool) → Array Bool → Bool
  | [], listed => (Region.ready md ops listed).isEmpty
  | (i, e) :: r, listed => (ops[i]?).isSome && (if e then Region.ready md ops listed == [i] else (Region.ready md ops listed).contains i && Region.free md ops listed i) && mixB md ops r (listed.setIfInBounds i true)
def vqm (P : Program) (H : Hint) (M : Sg → Sg → Prop) (ρ : Nat → AV) (ty : TypeId) (o : Op) (σ : Sg) (K : AV → Prop) : Prop := ∃ x, (∀ σ', M σ σ' → vop P H ρ ty o σ' (fun y σ'' => y = x ∧ σ'' = σ')) ∧ K x
def vmx (P : Program) (H : Nat → Hint) (ops : Array Oper) (M : Sg → Sg → Prop) (o : Option Oper) (e fr : Bool) (ρ : Nat → AV) (σ : Sg) (K : (Nat → AV) → Sg → Prop) : Prop :=
  match o with
  | none => False
  | some o => if e then Q8i ops o.guard ρ (fun ρ => vop P (H (o.dst.getD 0)) ρ o.type o.op σ fun y σ' => (fr = false → M σ σ') ∧ K (updo ρ o.dst y) σ') (fun ρ => K (updo ρ o.dst (.val undef)) σ)
    else Q8i ops o.guard ρ (fun ρ => vqm P (H (o.dst.getD 0)) M ρ o.type o.op σ fun x => K (updo ρ o.dst x) σ) (fun ρ => K (updo ρ o.dst (.val undef)) σ)
def vmix (P : Program) (H : Nat → Hint) (ops : Array Oper) (M : Sg → Sg → Prop) (fr : Nat → Bool) (Q : (Nat → AV) → Sg → Prop) : List (Nat × Bool) → (Nat → AV) → Sg → Prop
  | [], ρ, σ => Q ρ σ
  | (i, e) :: r, ρ, σ => vmx P H ops M (ops[i]?) e (fr i) ρ σ (vmix P H ops M fr Q r)
theorem mAny_mix {md : Region.Mode} {all : List (Nat × Bool)} (ht : ∀ a b c, M a b → M b c → M a c) {Q : (Nat → AV) → Sg → Prop} : ∀ (l : List (Nat × Bool)) (listed : Array Bool) (ρ : Nat → AV) (σ : Sg), (∀ p ∈ l, p ∈ all) →
    mixB md ops l listed = true → vmix P H ops M (mfree md ops all) Q l ρ σ → mAny P H md ops M all Q l.length listed ρ σ
  | [], _, _, _, _, hB, h => ⟨by simpa [mixB] using hB, h⟩
  | (i, e) :: l, listed, ρ, σ, hl, hB, h => by
    simp only [mixB, Bool.and_eq_true] at hB
    obtain ⟨⟨hs, hr⟩, hB'⟩ := hB
    obtain ⟨o, ho⟩ := Option.isSome_iff_exists.1 hs
    unfold vmix vmx at h
    rw [ho] at h
    simp only at h
    have ih := fun ρ' σ' => mAny_mix ht (Q := Q) l (listed.setIfInBounds i true) ρ' σ' (fun p hp => hl p (List.mem_cons_of_mem _ hp)) hB'
    cases e with
    | true =>
      rw [if_pos rfl] at h hr
      have hr' : Region.ready md ops listed = [i] := by simpa using hr
      refine ⟨fun h0 => (by rw [hr'] at h0; cases h0), fun j hj => ?_⟩
      rw [hr'] at hj
      obtain rfl : j = i := by simpa using hj
      unfold mOp
      rw [ho]
      rcases Q7i h with ⟨h1, h2⟩ | ⟨h1, h2⟩
      · exact .inr ⟨h1, _, h2, fun y σ' hy => ⟨hy.1, ih _ _ hy.2⟩⟩
      · exact .inl ⟨.val undef, fun _ _ => .inr ⟨h1, rfl⟩, ih _ _ h2⟩
    | false =>
      rw [if_neg (by simp)] at h hr
      simp only [Bool.and_eq_true] at hr
      obtain ⟨hr1, hf⟩ := hr
      have hk : ∃ x, QS P H ops M σ o x ρ ∧ vmix P H ops M (mfree md ops all) Q l (updo ρ o.dst x) σ := by
        rcases Q7i h with ⟨h1, x, h2, h3⟩ | ⟨h1, h2⟩
        · exact ⟨x, fun σ' hM => .inl ⟨h1, h2 σ' hM⟩, h3⟩
        · exact ⟨_, fun _ _ => .inr ⟨h1, rfl⟩, h2⟩
      obtain ⟨x, hy, hK⟩ := hk
      exact mAny_first ht (hl _ (List.mem_cons_self ..)) ho l.length listed ρ σ (Region.free_spec ho hf) (by simpa using hr1) hy (ih _ _ hK)
theorem Q5y {md : Region.Mode} {all : List (Nat × Bool)} (hrf : ∀ a, M a a) {κ0 : K} {n : Nat} {Q : (Nat → AV) → Sg → Prop} {Q' : Exit → Act → World → Prop} (hQ : ∀ κ ρ σ a, Fits κ0 κ n ρ σ a → Q ρ σ → Q' .normal a κ.w) (hok : opsOK n ops = true) :
    ∀ (fuel : Nat) (listed : Array Bool) (κ : K) (ρ : Nat → AV) (σ : Sg) (a : Act), Fits κ0 κ n ρ σ a → mAny P H md ops M all Q fuel listed ρ σ → wpAny P md ops Q' fuel listed a κ.w
  | 0, _, κ, ρ, σ, a, h, hw => ⟨hw.1, hQ κ ρ σ a h hw.2⟩
  | fuel + 1, listed, κ, ρ, σ, a, h, hw => by
    refine ⟨fun h0 => hQ κ ρ σ a h (hw.1 h0), fun i hi => ?_⟩
    have := hw.2 i hi
    unfold mOp at this
    unfold wpOp
    cases ho : ops[i]? with
    | none => rw [ho] at this; exact Q5y hrf hQ hok fuel _ κ ρ σ a h this
    | some o =>
      rw [ho] at this
      simp only
      have hd : ∀ t, o.dst = some t → t < n := fun t ht => by
        unfold opsOK at hok
        rw [← Array.all_toList, List.all_eq_true] at hok
        have := hok o (by rw [Array.mem_toList_iff]; exact Array.mem_of_getElem? ho)
        rw [ht] at this
        simpa using this
      rcases this with ⟨x, hy, hk⟩ | ⟨h1, O, hO, hk⟩
      · rcases hy σ (hrf σ) with ⟨h1, h2⟩ | ⟨h1, rfl⟩
        · rw [if_pos (Q2w h h1)]
          refine .inl (Q7s h hd (Q9f h.st h.env h2) (fun κ' y v σ' hf' hR => ?_))
          obtain ⟨h5, h6⟩ := hR
          rw [h5, h6] at hf'
          exact Q5y hrf hQ hok fuel _ κ' _ _ _ hf' hk
        · rw [if_neg (by rw [Q2w h h1]; simp)]
          exact Q5y hrf hQ hok fuel _ κ _ _ _ (h.put (.refl κ) h.st (.val _) hd) hk
      · rw [if_pos (Q2w h h1)]
        exact .inl (Q7s h hd (Q9f h.st h.env hO) (fun κ' y v σ' hf' hR => Q5y hrf hQ hok fuel _ κ' _ _ _ hf' (hk y σ' hR).2))
def Keep (N : Nat → Prop) (σ σ' : Sg) : Prop := ∀ β, N β → σ' β = σ β
theorem VW.dm {n : Nat} {Q : VX → (Nat → AV) → Sg → Prop} {id : Nat} {l : List Oper} (N : Nat → Prop) (π : List (Nat × Bool)) (hl : π.length = l.length) (hB : mixB .any l.toArray π (Array.replicate l.length false) = true)
    (h : vmix P H l.toArray (Keep N) (mfree .any l.toArray π) (Q .normal) π ρ σ) : VW P H n (.region id l.toArray true) Q ρ σ := by
  refine ⟨rfl, ?_⟩
  intro hm hok κ0 κ a hf
  refine wp_region_any hm ?_
  have htr : ∀ a b c, Keep N a b → Keep N b c → Keep N a c := fun a b c h1 h2 β hβ => (h2 β hβ).trans (h1 β hβ)
  have := mAny_mix (P := P) (H := H) (md := .any) (all := π) htr π _ ρ σ (fun p hp => hp) hB h
  have h2 := Q5y (P := P) (κ0 := κ0) (n := n) (Q' := Lift κ0 n Q) (fun a β _ => rfl) (fun κ ρ σ a h hw => ⟨κ, ρ, σ, rfl, h, hw⟩) hok _ _ κ.drew ρ σ a hf.drew this
  have e : l.toArray.size = l.length := by simp
  rw [hl] at h2
  rw [e]
  exact h2
theorem VW.dms {n : Nat} {Q : VX → (Nat → AV) → Sg → Prop} {id : Nat} {l : List Oper} {y : Code} (N : Nat → Prop) (π : List (Nat × Bool)) (hl : π.length = l.length) (hB : mixB .any l.toArray π (Array.replicate l.length false) = true)
    (h : vmix P H l.toArray (Keep N) (mfree .any l.toArray π) (VW P H n y Q) π ρ σ) : VW P H n (.seq (.region id l.toArray true) y) Q ρ σ := .seq (.dm N π hl hB h)
@[congr] theorem vmix_congr {fr : Nat → Bool} {Q : (Nat → AV) → Sg → Prop} {π : List (Nat × Bool)} {ρ ρ' : Nat → AV} {σ σ' : Sg} (h : tg ρ = ρ') (h2 : σ = σ') : vmix P H ops M fr Q π ρ σ = vmix P H ops M fr Q π ρ' σ' := by unfold tg at h; rw [h, h2]
@[congr] theorem vqm_congr {H : Hint} {ty ty' : TypeId} {o : Op} {K : AV → Prop} (h : tg ty = ty') : vqm P H M ρ ty o σ K = vqm P H M ρ ty' o σ K := by unfold tg at h; rw [h]
theorem Q0b {H : Hint} {ty : TypeId} {o : Op} {K : AV → Prop} {x : AV} (h : ∀ σ', M σ σ' → vop P H ρ ty o σ' (fun y σ'' => y = x ∧ σ'' = σ')) (hk : K x) : vqm P H M ρ ty o σ K := ⟨x, h, hk⟩
theorem vmix_at {fr : Nat → Bool} {Q : (Nat → AV) → Sg → Prop} {π : List (Nat × Bool)} (h : vmix P H ops M fr Q π ρ σ) : vmix P H ops M fr Q π ρ σ := h
def vmy (P : Program) (H : Nat → Hint) (ops : Array Oper) (M : Sg → Sg → Prop) (o : Option Oper) (e : Bool) (i : Nat) (fr : Nat → Bool) (ρ : Nat → AV) (σ : Sg) (K : (Nat → AV) → Sg → Prop) : Prop := vmx P H ops M o e (fr i) ρ σ K
@[congr] theorem vmy_congr {fr : Nat → Bool} {o o' : Option Oper} {e : Bool} {i : Nat} {K : (Nat → AV) → Sg → Prop} (h : tg o = o') : vmy P H ops M o e i fr ρ σ K = vmy P H ops M o' e i fr ρ σ K := by unfold tg at h; rw [h]
def vkp (M : Sg → Sg → Prop) (fr : Nat → Bool) (i : Nat) (σ σ' : Sg) (X : Prop) : Prop := (fr i = false → M σ σ') ∧ X
@[congr] theorem vkp_congr {fr : Nat → Bool} {i : Nat} {X : Prop} {σ' σ'' : Sg} (h : tg σ' = σ'') : vkp M fr i σ σ' X = vkp M fr i σ σ'' X := by unfold tg at h; rw [h]
theorem Q0c {fr : Nat → Bool} {i : Nat} {X : Prop} {σ' : Sg} (hf : fr i = true) (h : X) : vkp M fr i σ σ' X := ⟨fun e => (by rw [hf] at e; cases e), h⟩
theorem Q0l {N : Nat → Prop} {fr : Nat → Bool} {i : Nat} {X : Prop} {σ' : Sg} (hm : ∀ β, N β → σ' β = σ β) (h : X) : vkp (Keep N) fr i σ σ' X := ⟨fun _ => hm, h⟩
theorem vM (fr : Nat → Bool) (Q : (Nat → AV) → Sg → Prop) :
    (∀ (ρ : Nat → AV) (σ : Sg), vmix P H ops M fr Q [] ρ σ = Q ρ σ) ∧
    (∀ (i : Nat) (e : Bool) (r : List (Nat × Bool)) (ρ : Nat → AV) (σ : Sg), vmix P H ops M fr Q ((i, e) :: r) ρ σ = vmy P H ops M (ops[i]?) e i fr ρ σ (vmix P H ops M fr Q r)) := ⟨fun _ _ => rfl, fun _ _ _ _ _ => rfl⟩
theorem vN (fr : Nat → Bool) (K : (Nat → AV) → Sg → Prop) :
    (∀ (i : Nat) (d : Option Tmp) (o : Op) (t : TypeId) (pos : String) (af : Array Edge) (ρ : Nat → AV) (σ : Sg), vmy P H ops M (some ⟨d, o, t, pos, af, none⟩) true i fr ρ σ K = vop P (H (d.getD 0)) ρ t o σ fun y σ' => vkp M fr i σ σ' (K (updo ρ d y) σ')) ∧
    (∀ (i : Nat) (d : Option Tmp) (o : Op) (t : TypeId) (pos : String) (af : Array Edge) (j : Nat) (w : Bool) (ρ : Nat → AV) (σ : Sg), vmy P H ops M (some ⟨d, o, t, pos, af, some (j, w)⟩) true i fr ρ σ K = vgs ((ops[j]?).bind (·.dst)) ρ w (fun ρ => vop P (H (d.getD 0)) ρ t o σ fun y σ' => vkp M fr i σ σ' (K (updo ρ d y) σ')) (fun ρ => K (updo ρ d (.val undef)) σ)) ∧
    (∀ (i : Nat) (d : Option Tmp) (o : Op) (t : TypeId) (pos : String) (af : Array Edge) (ρ : Nat → AV) (σ : Sg), vmy P H ops M (some ⟨d, o, t, pos, af, none⟩) false i fr ρ σ K = vqm P (H (d.getD 0)) M ρ t o σ fun x => K (updo ρ d x) σ) ∧
    (∀ (i : Nat) (d : Option Tmp) (o : Op) (t : TypeId) (pos : String) (af : Array Edge) (j : Nat) (w : Bool) (ρ : Nat → AV) (σ : Sg), vmy P H ops M (some ⟨d, o, t, pos, af, some (j, w)⟩) false i fr ρ σ K = vgs ((ops[j]?).bind (·.dst)) ρ w (fun ρ => vqm P (H (d.getD 0)) M ρ t o σ fun x => K (updo ρ d x) σ) (fun ρ => K (updo ρ d (.val undef)) σ)) := by
  refine ⟨?_, ?_, ?_, ?_⟩ <;> intros <;> rfl
def AVw (x x' : AV) : Prop := ∀ (κ : K) (v : Value), Rel κ x v → Rel κ x' v
theorem AVw.refl (x : AV) : AVw x x := fun _ _ h => h
theorem AVw.any (k : Own) (es : List (List AV)) : AVw (.sl k es) (.sl .any es) := fun κ v h => by
  cases h with
  | slnil k hk => exact .slnil _ trivial
  | slemp k hk a c => exact .slemp _ (.inr rfl) a c
  | sl k es a n c sz f hk hn hc hs hz hr h => exact .sl .any es a n c sz f trivial hn hc hs hz hr h
theorem vL :
    (∀ {α β : Type} (f : α → β) (a : α) (l : List α), List.map f (a :: l) = f a :: List.map f l) ∧
    (∀ {α β : Type} (f : α → β), List.map f [] = []) ∧
    (∀ {α : Type} (l : List α) (i : Nat), l.toArray[i]? = l[i]?) ∧
    (∀ {α : Type} (a : α) (l : List α) (i : Nat), (a :: l)[i + 1]? = l[i]?) ∧
    (∀ {α : Type} (a : α) (l : List α), (a :: l)[0]? = some a) ∧
    (∀ {α β : Type} (a : α) (f : α → Option β), (some a).bind f = f a) ∧
    (∀ {α β : Type} (a : α) (f : α → β), (some a).map f = some (f a)) ∧
    (∀ {α β : Type} (f : α → β), (none : Option α).map f = none) ∧
    (∀ {α : Type} (a b : α), (some a).getD b = a) ∧
    (∀ {α : Type} (l : List α), [] ++ l = l) ∧
    (∀ {α : Type} (a : α) (l m : List α), a :: l ++ m = a :: (l ++ m)) ∧
    (∀ {α : Type} (l : List α), l ++ [] = l) ∧
    (∀ {α : Type} (a : α) (l : List α), (a :: l).length = l.length + 1) ∧
    (∀ {α : Type}, ([] : List α).length = 0) ∧
    (∀ {α : Type} (l : List α), l.drop 0 = l) ∧
    (∀ {α : Type} (i : Nat) (a : α) (l : List α), (a :: l).drop (i + 1) = l.drop i) ∧
    (∀ {α : Type} (i : Nat) (a : α) (l : List α), (a :: l).take (i + 1) = a :: l.take i) ∧
    (∀ {α : Type} (l : List α), l.take 0 = []) ∧
    (∀ n : Nat, ((n : Nat) : Int).toNat = n) ∧
    (∀ n : Nat, 0 + n = n) ∧
    (∀ n : Nat, n + 0 = n) ∧
    (∀ b : Bool, (b && true) = b) ∧
    (∀ b : Bool, (true && b) = b) ∧
    (∀ {α : Type} (a : α), id a = a) ∧
    (∀ {α : Type} (p : α → Bool), [].all p = true) ∧
    (∀ {α : Type} (p : α → Bool) (a : α) (l : List α), (a :: l).all p = (p a && l.all p)) ∧
    (∀ {α : Type} (a : α), (some a).isSome = true) ∧
    (∀ {α : Type}, (none : Option α).isSome = false) ∧
    (∀ (σ : Sg) (β : Nat) (o : Ob), (σ.set β o) β = some o) ∧
    (∀ (σ : Sg) (β : Nat) (o o' : Ob), (σ.set β o).set β o' = σ.set β o') := by
  refine ⟨?_, ?_, ?_, ?_, ?_, ?_, ?_, ?_, ?_, ?_, ?_, ?_, ?_, ?_, ?_, ?_, ?_, ?_, ?_, ?_, ?_, ?_, ?_, ?_, ?_, ?_, ?_, ?_, ?_, ?_⟩
  all_goals intros
  all_goals first
    | rfl
    | (simp; done)
    | exact Sg.set_same _ _ _
    | exact Sg.set_set _ _ _ _
theorem vif_ff (t : Bool) (X Y : Prop) : vif (t = false) X Y = vif (t = true) Y X := by
  rw [show (t = false) = (¬ t = true) from by simp, vif_not]
theorem vF :
    (∀ (ρ : Nat → AV), Holds [] ρ = True) ∧
    (∀ (t : Nat) (x : AV) (r : List (Nat × AV)) (ρ : Nat → AV), Holds ((t, x) :: r) ρ = (ρ t = x ∧ Holds r ρ)) ∧
    (∀ (s k : Nat), FF s k [] = True) ∧
    (∀ (s k i : Nat) (x : AV) (r : List (Nat × AV)), FF s k ((i, x) :: r) = (i = k ∧ x.cells.length = s ∧ FF s (k + 1) r)) ∧
    (∀ (e : TypeId) (s : Nat) (es : List (List AV)) (σ : Sg) (R : AV → Sg → Prop), X0c .no e s es σ R = R (.sl .full es) σ) ∧
    (∀ (e : TypeId) (s : Nat) (es : List (List AV)) (σ : Sg) (R : AV → Sg → Prop), X0c .obj e s es σ R = (Q1x σ fun τ => R (.sl (.tok τ s) es) (σ.set τ (.tok (some e))))) ∧
    (∀ (t : Bool) (X Y : Prop), vif (t = false) X Y = vif (t = true) Y X) :=
  ⟨Holds_nil, Holds_cons, FF_nil, FF_cons, vown2_no, vown2_obj, vif_ff⟩
end Go.V
