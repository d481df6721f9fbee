/- Soundness, part 3: operators, conversions, slices, composite literals. -/
import Derived.Test.YtkbfngepdgdecaaV5
import Derived.Laws.Strings
import Derived.Laws.IdiomStrings
import Derived.Laws.BytesString
import Derived.Deep.AppendSrc
import Derived.Laws.Append
import Derived.Laws.StructEq
import Derived.ChangeKeysEq
namespace Go.V
open Go.RowKit
variable {P : Program} {κ : K} {σ : Sg} {ρ : Nat → AV} {a : Act} {R : AV → Sg → Prop}

theorem eqGuard_simple {op : BinOp} {t : TypeId} {x y : Operand} {u v : Value} (h1 : u ≠ .nilIface ∨ v ≠ .nilIface) (h2 : (∀ c, u ≠ .agg c) ∨ ∀ c, v ≠ .agg c) (w : World) : (eqGuard op t x y u v).run P w = .ok () w := by
  have : eqGuard op t x y u v = pure () := by
    unfold eqGuard
    cases op <;> first
      | rfl
      | (simp only [Bool.not_true, Bool.false_eq_true, if_false]
         split
         · simp at h1
         · rcases h2 with h | h <;> exact absurd rfl (h _)
         · rfl)
  rw [this]
  rfl

theorem sEq_eq (a b : ByteArray) : (a.toList == b.toList) = sEq a b := by
  unfold sEq
  rw [ByteArray.toList_eq, ByteArray.toList_eq]
  by_cases h : a = b
  · subst h; simp
  · rw [decide_eq_false h]
    simp
    intro h'
    exact h (ByteArray.ext h')

def EqFacts (P : Program) (t : TypeId) (u v : Value) (b : Bool) : Prop :=
  (u ≠ .nilIface ∨ v ≠ .nilIface) ∧ ((∀ c, u ≠ .agg c) ∨ ∀ c, v ≠ .agg c) ∧ (binOp .eql t u v = (do pure (.bool (← Op.equal t u v)))) ∧ (binOp .neq t u v = (do pure (.bool (!(← Op.equal t u v))))) ∧ (∀ dd w, (Op.equalIn (dd + 1) t u v).run P w = .ok b w)

theorem veq_facts {t : TypeId} {x y : AV} {u v : Value} {d : TypeDesc} {b : Bool} (hx : Rel κ x u) (hy : Rel κ y v) (hd : P.underlying t = some d) (hb : veq d x y = some b) : EqFacts P t u v b := by
  have fin : ∀ {u v : Value}, (u ≠ .nilIface ∨ v ≠ .nilIface) → ((∀ c, u ≠ .agg c) ∨ ∀ c, v ≠ .agg c) → (binOp .eql t u v = (do pure (.bool (← Op.equal t u v)))) → (binOp .neq t u v = (do pure (.bool (!(← Op.equal t u v))))) → (∀ dd w, (Op.equalIn (dd + 1) t u v).run P w = .ok b w) → EqFacts P t u v b :=
    fun h1 h2 h3 h4 h5 => ⟨h1, h2, h3, h4, h5⟩
  unfold veq at hb
  split at hb <;> cases hb
  · cases hx; cases hy
    refine fin (.inl (by simp)) (.inl (by simp)) rfl rfl (fun dd w => ?_)
    simp only [Op.equalIn, Sem.run_bind, run_und hd, Result.andThen, Sem.run_pure]
  · cases hx with
    | sl _ _ _ _ _ _ _ hk => exact hk.elim
    | slemp _ hk => rcases hk with h | h <;> cases h
    | slnil => cases hy with
      | sl _ _ _ _ _ _ _ hk => exact hk.elim
      | slemp _ hk => rcases hk with h | h <;> cases h
      | slnil =>
        refine fin (.inl (by simp)) (.inl (by simp)) rfl rfl (fun dd w => ?_)
        simp only [Op.equalIn, Sem.run_bind, run_und hd, Result.andThen, Sem.run_pure]; rfl
  all_goals first
    | (cases hx with
       | slnil _ hk => exact hk.elim
       | slemp _ hk => first
         | (rcases hk with h | h <;> cases h; done)
         | (cases hy with
            | sl _ _ _ _ _ _ _ hk => exact hk.elim
            | slemp _ hk => rcases hk with h | h <;> cases h
            | slnil =>
              refine fin (.inl (by simp)) (.inl (by simp)) rfl rfl (fun dd w => ?_)
              simp only [Op.equalIn, Sem.run_bind, run_und hd, Result.andThen, Sem.run_pure])
       | sl => cases hy with
         | sl _ _ _ _ _ _ _ hk => exact hk.elim
         | slemp _ hk => rcases hk with h | h <;> cases h
         | slnil =>
           refine fin (.inl (by simp)) (.inl (by simp)) rfl rfl (fun dd w => ?_)
           simp only [Op.equalIn, Sem.run_bind, run_und hd, Result.andThen, Sem.run_pure])
    | (cases hx with
       | sl => cases hy with
         | sl _ _ _ _ _ _ _ hk => exact hk.elim
         | slemp _ hk => rcases hk with h | h <;> cases h
         | slnil =>
           refine fin (.inl (by simp)) (.inl (by simp)) rfl rfl (fun dd w => ?_)
           simp only [Op.equalIn, Sem.run_bind, run_und hd, Result.andThen, Sem.run_pure])
    | (cases hx with
       | ms => cases hy with
         | sl _ _ _ _ _ _ _ hk => exact hk.elim
         | slemp _ hk => rcases hk with h | h <;> cases h
         | slnil =>
           refine fin (.inl (by simp)) (.inl (by simp)) rfl rfl (fun dd w => ?_)
           simp only [Op.equalIn, Sem.run_bind, run_und hd, Result.andThen, Sem.run_pure])
    | (cases hx; cases hy
       refine fin (.inl (by simp)) (.inl (by simp)) rfl rfl (fun dd w => ?_)
       simp only [Op.equalIn, Sem.run_bind, run_und hd, Result.andThen, Sem.run_pure]; done)
    | (cases hx; cases hy
       refine fin (.inl (by simp)) (.inl (by simp)) rfl rfl (fun dd w => ?_)
       simp only [Op.equalIn, Sem.run_bind, run_und hd, Result.andThen, Sem.run_pure]; rfl)

theorem run_partO {t : TypeId} {cs : List AV} {vs : Array Value} {off : Nat} {x : AV} (hc : RelRow κ cs vs) (w : World) (hv : partO P t (cs.drop off) = some x) :
    ∃ v, (part t vs off).run P w = .ok v w ∧ Rel κ x v := by
  have h : vpart P t (cs.drop off) (fun y => y = x) := by
    unfold partO at hv
    unfold vpart
    split at hv
    · rename_i z n b d ht hd
      simp only
      by_cases hg : isAggD d = true
      · rw [if_pos hg] at hv ⊢
        split at hv
        · rename_i hn; cases hv; exact ⟨hn, rfl⟩
        · cases hv
      · rw [if_neg hg] at hv ⊢
        cases hcs : cs.drop off with
        | nil => rw [hcs] at hv; cases hv
        | cons y r => rw [hcs] at hv; cases hv; rfl
    · cases hv
  obtain ⟨v, y, h1, h2, rfl⟩ := run_part hc w h
  exact ⟨v, h1, h2⟩

theorem veqFs_sound {d : Nat} {eq : TypeId → AV → AV → Option Bool} (heq : ∀ t x y u v b w, eq t x y = some b → Rel κ x u → Rel κ y v → (Op.equalIn d t u v).run P w = .ok b w) {xs ys : List AV} {us vs : Array Value} (hx : RelRow κ xs us) (hy : RelRow κ ys vs) (w : World) :
    ∀ (fs : List Field) (b : Bool), veqFs P eq xs ys fs = some b → (Op.eqFields d us vs fs).run P w = .ok b w
  | [], b, h => by
    simp only [veqFs] at h
    cases h
    rfl
  | f :: fs, b, h => by
    simp only [veqFs] at h
    simp only [Op.eqFields]
    by_cases hn : f.name = "_"
    · rw [if_pos hn] at h
      rw [if_neg (by simp [hn])]
      exact veqFs_sound heq hx hy w fs b h
    · rw [if_neg hn] at h
      rw [if_pos hn]
      split at h
      · rename_i a c ha hc
        split at h
        · rename_i e r he hr
          obtain ⟨v1, g1, g2⟩ := run_partO hx w ha
          obtain ⟨v2, g3, g4⟩ := run_partO hy w hc
          simp only [Sem.run_bind, g1, g3, heq _ _ _ _ _ _ w he g2 g4, Result.andThen]
          cases h
          cases e with
          | false => simp
          | true => simp [veqFs_sound heq hx hy w fs r hr]
        · cases h
      · cases h

theorem veqIs_sound {d : Nat} {e : TypeId} {c : Nat} {eq : AV → AV → Option Bool} (heq : ∀ x y u v b w, eq x y = some b → Rel κ x u → Rel κ y v → (Op.equalIn d e u v).run P w = .ok b w) {xs ys : List AV} {us vs : Array Value} (hx : RelRow κ xs us) (hy : RelRow κ ys vs) (w : World) :
    ∀ (is : List Nat) (b : Bool), veqIs P eq e c xs ys is = some b → (Op.eqItems d e c us vs is).run P w = .ok b w
  | [], b, h => by
    simp only [veqIs] at h
    cases h
    rfl
  | i :: is, b, h => by
    simp only [veqIs] at h
    simp only [Op.eqItems]
    split at h
    · rename_i a q ha hc
      split at h
      · rename_i o r he hr
        obtain ⟨v1, g1, g2⟩ := run_partO hx w ha
        obtain ⟨v2, g3, g4⟩ := run_partO hy w hc
        simp only [Sem.run_bind, g1, g3, heq _ _ _ _ _ w he g2 g4, Result.andThen]
        cases h
        cases o with
        | false => simp
        | true => simp [veqIs_sound heq hx hy w is r hr]
      · cases h
    · cases h

theorem veqIn_sound : ∀ (d : Nat) (t : TypeId) (x y : AV) (u v : Value) (b : Bool) (w : World), veqIn P d t x y = some b → Rel κ x u → Rel κ y v → (Op.equalIn d t u v).run P w = .ok b w
  | 0, _, _, _, _, _, _, _, h, _, _ => by simp [veqIn] at h
  | d + 1, t, x, y, u, v, b, w, h, hx, hy => by
    simp only [veqIn] at h
    split at h
    · rename_i fs hd
      split at h
      · rename_i xs ys
        split at h
        · cases h
        · rename_i hst
          cases hx with
          | agg _ us hl hr => cases hy with
            | agg _ vs hl' hr' =>
              have hfs : P.fieldsOf t = fs := by simp [Program.fieldsOf, hd]
              rw [run_equalIn_struct w d t us vs (by rw [hfs]; exact hd) (by simpa using hst), hfs]
              exact veqFs_sound (fun t x y u v b w => veqIn_sound d t x y u v b w) ⟨hl, hr⟩ ⟨hl', hr'⟩ w _ _ h
      · cases h
    · rename_i n e hd
      split at h
      · rename_i xs ys
        split at h
        · rename_i hi
          cases hx with
          | agg _ us hl hr => cases hy with
            | agg _ vs hl' hr' =>
              obtain ⟨ti, hti⟩ : ∃ ti, P.info? e = some ti := by
                unfold tInfo at hi
                cases hh : P.info? e with
                | none => rw [hh] at hi; cases hi
                | some ti => exact ⟨ti, rfl⟩
              rw [run_equalIn_array w d us vs hd hti]
              exact veqIs_sound (fun x y u v b w => veqIn_sound d e x y u v b w) ⟨hl, hr⟩ ⟨hl', hr'⟩ w _ _ h
        · cases h
      · cases h
    · rename_i k0 hd
      split at h
      · rename_i k a k' b'
        split at h
        · rename_i hk
          cases h; cases hx; cases hy
          subst hk
          simp only [Op.equalIn, Sem.run_bind, run_und hd, Result.andThen, if_true, Sem.run_pure]
          rfl
        · cases h
      · cases h
    · rename_i hd
      split at h
      · rename_i s s'
        cases h; cases hx; cases hy
        simp only [Op.equalIn, Sem.run_bind, run_und hd, Result.andThen, Sem.run_pure]
        rw [beq_toListBytes, sEq_eq]
      · cases h
    · rename_i dd _ _ _ hd
      exact (veq_facts hx hy hd h).2.2.2.2 d w
    · cases h

theorem eq_main {t : TypeId} {x y : AV} {xo yo : Operand} {u v : Value} {d : TypeDesc} {b : Bool} {w : World} (hx : Rel κ x u) (hy : Rel κ y v) (hd : P.underlying t = some d) (hb : veqT P t d x y = some b) :
    (do eqGuard .eql t xo yo u v; binOp .eql t u v : Sem Value).run P w = .ok (.bool b) w ∧ (do eqGuard .neq t xo yo u v; binOp .neq t u v : Sem Value).run P w = .ok (.bool (!b)) w := by
  have fin : EqFacts P t u v b → (do eqGuard .eql t xo yo u v; binOp .eql t u v : Sem Value).run P w = .ok (.bool b) w ∧ (do eqGuard .neq t xo yo u v; binOp .neq t u v : Sem Value).run P w = .ok (.bool (!b)) w := by
    intro ⟨h1, h2, h3, h4, h5⟩
    have h6 : (Op.equal t u v).run P w = .ok b w := h5 9999 w
    simp only [Sem.run_bind, eqGuard_simple h1 h2, Result.andThen, h3, h4, h6, Sem.run_pure, and_self]
  unfold veqT at hb
  split at hb
  · rename_i xs ys
    split at hb
    · cases hb
    · rename_i hg
      have h5 := veqIn_sound 10000 t _ _ _ _ b w hb hx hy
      cases hx with
      | agg _ us hl hr => cases hy with
        | agg _ vs hl' hr' =>
          have hg' : P.eqGuardType P.depth t = false := by simpa using hg
          simp only [Sem.run_bind, run_eqGuard_agg w _ t xo yo us vs hg', Result.andThen, run_eql_struct, run_neq_struct, h5, and_self]
  · rename_i β o β' o'
    split at hb
    · rename_i e
      split at hb
      · rename_i z n by_ ht
        split at hb
        · rename_i hc
          obtain ⟨rfl, hn⟩ := hc
          cases hb
          cases hx with
          | ref _ _ b hi hμ => cases hy with
            | ref _ _ b' hi' hμ' =>
              rw [hμ] at hμ'
              cases hμ'
              refine fin ⟨.inl (by simp), .inl (by simp), rfl, rfl, fun dd w => ?_⟩
              simp only [Op.equalIn, Sem.run_bind, run_und hd, Result.andThen, run_size ht, ne_eq, hn, not_false_eq_true, if_true, sameAddr, beq_self_eq_true, Sem.run_pure]
              congr 1
              by_cases e : o = o'
              · subst e; simp
              · rw [decide_eq_false e]
                exact beq_false_of_ne (fun h => e (by cases h; rfl))
        · cases hb
      · cases hb
    · cases hb
  · exact fin (veq_facts hx hy hd hb)

theorem snd_binop {op : BinOp} {t : TypeId} {x y : AV} {xo yo : Operand} {u v : Value} (h : St κ σ) (hx : Rel κ x u) (hy : Rel κ y v) (hv : vbinop P op t x y (R · σ)) :
    ∃ r, (do eqGuard op t xo yo u v; binOp op t u v : Sem Value).run P κ.w = .ok r κ.w ∧ Post κ R r κ.w := by
  unfold vbinop at hv
  split at hv
  · rename_i k a k' b
    cases hx
    cases hy
    simp only [Sem.run_bind, eqGuard_simple (op := op) (t := t) (x := xo) (y := yo) (u := .int k a) (v := .int k' b) (.inl (by simp)) (.inl (by simp)), Result.andThen]
    unfold vbin at hv
    cases op <;> simp only at hv
    case shl => exact ⟨_, by simp [binOp, Op.shift, Int.not_lt.2 hv.1], post_same h (.val _) hv.2⟩
    case shr => exact ⟨_, by simp [binOp, Op.shift, Int.not_lt.2 hv.1], post_same h (.val _) hv.2⟩
    case quo => obtain ⟨rfl, hb, hv⟩ := hv; exact ⟨_, by simp [binOp, Op.intDiv, hb], post_same h (.val _) hv⟩
    case rem => obtain ⟨rfl, hb, hv⟩ := hv; exact ⟨_, by simp [binOp, Op.intDiv, hb], post_same h (.val _) hv⟩
    all_goals
      obtain ⟨rfl, hv⟩ := hv
      refine ⟨_, ?_, post_same h (.val _) hv⟩
      simp [binOp, Op.intArith, Op.intBits, Op.intCmp] <;> rfl
  · rename_i a b
    cases hx
    cases hy
    simp only [Sem.run_bind, eqGuard_simple (op := op) (t := t) (x := xo) (y := yo) (u := .string a) (v := .string b) (.inl (by simp)) (.inl (by simp)), Result.andThen]
    unfold vbin at hv
    cases op <;> simp only at hv
    case add =>
      obtain ⟨hs, hv⟩ := hv
      refine ⟨_, ?_, post_same h (.val _) hv⟩
      have : ¬ (((a.size + b.size : Nat) : Int) > IntKind.i64.max) := by
        have : IntKind.i64.max = 9223372036854775807 := by decide
        omega
      simp only [binOp, Op.stringOp, if_neg this]
      rfl
    case eql => exact ⟨_, by simp only [binOp, Op.stringOp, sEq_eq]; rfl, post_same h (.val _) hv⟩
    case neq => exact ⟨_, by simp only [binOp, Op.stringOp, sEq_eq]; rfl, post_same h (.val _) hv⟩
    case lss => exact ⟨_, by simp only [binOp, Op.stringOp]; rfl, post_same h (.val _) hv⟩
    case geq => exact ⟨_, by simp only [binOp, Op.stringOp]; rfl, post_same h (.val _) hv⟩
    all_goals exact hv.elim
  · rename_i n1 n2
    split at hv
    · rename_i d hd
      split at hv
      · rename_i b hb
        obtain ⟨h1, h2⟩ := eq_main (t := t) (xo := xo) (yo := yo) (w := κ.w) hx hy hd hb
        exact ⟨_, h1, post_same h (.val _) hv⟩
      · exact hv.elim
    · rename_i d hd
      split at hv
      · rename_i b hb
        obtain ⟨h1, h2⟩ := eq_main (t := t) (xo := xo) (yo := yo) (w := κ.w) hx hy hd hb
        exact ⟨_, h2, post_same h (.val _) hv⟩
      · exact hv.elim
    · exact hv.elim

end Go.V
