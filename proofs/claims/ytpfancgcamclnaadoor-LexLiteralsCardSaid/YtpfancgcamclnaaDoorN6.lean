/- Part 6 of the proof: V17, V20, V21, E3, E4, E7, E6. -/
import Derived.Test.YtpfancgcamclnaaDoorN4
import Derived.Lib.Bytealg
import Derived.Lib.MakeNoZero
import Derived.Test.YtpfancgcamclnaaDoorN5

/- An array that was written, and from now on is only read. -/
set_option linter.unusedVariables false
namespace Go.V
open Go.RowKit
variable {P : Program}
/-- What an object's cells are, once nobody writes them any more. -/
theorem St.still {κ : K} {σ : Sg} (h : St κ σ) {β b hi : Nat} {t : TypeId} {cs : List AV} (hβ : σ β = some (.cells t cs)) (hμ : κ.μ β = some (b, 0, hi)) :
    κ.le { κ with M := fun b' x => κ.M b' x ∧ ¬ (b' = b ∧ x < hi) } ∧ St { κ with M := fun b' x => κ.M b' x ∧ ¬ (b' = b ∧ x < hi) } (σ.del β) := by
  have hle : κ.le { κ with M := fun b' x => κ.M b' x ∧ ¬ (b' = b ∧ x < hi) } := ⟨rfl, rfl, rfl, Nat.le_refl _, fun _ _ _ hm => ⟨rfl, fun hh => hm hh.1⟩, rfl, fun _ _ => rfl, fun _ _ g => g⟩
  refine ⟨hle, ⟨fun β' ob hb => ?_, fun β1 β2 o1 o2 b' lo1 hi1 lo2 hi2 hne g1 g2 g3 g4 => h.apart β1 β2 o1 o2 b' lo1 hi1 lo2 hi2 hne (Sg.del_sub _ _ _ _ g1) (Sg.del_sub _ _ _ _ g2) g3 g4, h.fin, fun b' x hm => h.mlt b' x hm.1, h.bas, h.glob.mono hle⟩⟩
  have hne : β' ≠ β := fun e => by subst e; simp [Sg.del] at hb
  have hb' := Sg.del_sub _ _ _ _ hb
  obtain ⟨b1, lo1, hi1, g1, g2, g3⟩ := h.ob β' ob hb'
  refine ⟨b1, lo1, hi1, g1, fun x hx hx' => ⟨g2 x hx hx', fun hh => ?_⟩, g3.keep hle rfl⟩
  obtain ⟨e, hlt⟩ := hh
  subst e
  have := h.apart β β' _ _ b1 0 hi lo1 hi1 (Ne.symm hne) hβ hb' hμ g1
  omega
/-- A slice of an object that is not written from now on: a plain slice. -/
theorem VCalls.still {f : FuncId} {args : List AV} {σ : Sg} {R : AV → Sg → Prop}
    (hc : VCalls P f args σ (fun x σ' => ∃ (β n sz : Nat) (t : TypeId) (cs : List AV), 0 < sz ∧ x = .ms β 0 n sz ∧ σ' β = some (.cells t cs) ∧ n * sz ≤ cs.length ∧ R (.sl .any (chunks sz n cs)) (σ'.del β))) : VCalls P f args σ R := by
  have post : ∀ {κ : K} {v : Value} {w : World}, Post κ (fun x σ' => ∃ (β n sz : Nat) (t : TypeId) (cs : List AV), 0 < sz ∧ x = .ms β 0 n sz ∧ σ' β = some (.cells t cs) ∧ n * sz ≤ cs.length ∧ R (.sl .any (chunks sz n cs)) (σ'.del β)) v w → Post κ R v w := by
    intro κ v w hp
    obtain ⟨κ', x, σ', rfl, hle, hst, hrel, β, n, sz, t, cs, hsz, rfl, hβ, hn, hR⟩ := hp
    cases hrel with
    | ms _ _ _ _ b hi c hμ hnc hh =>
      obtain ⟨b', lo, hi', h1, h2, h3, h4, arr, fz, h5, h6, h7⟩ := hst.ob β _ hβ
      rw [hμ] at h1
      cases h1
      obtain ⟨hle2, hst2⟩ := hst.still hβ hμ
      have hle3 : ∀ i j, i < n → j < sz → i * sz + j < arr.size := fun i j hi hj => by
        have : (i + 1) * sz ≤ n * sz := Nat.mul_le_mul_right _ (by omega)
        rw [Nat.succ_mul] at this
        have hsz' := h7.1
        omega
      refine ⟨{ κ' with M := fun b' x => κ'.M b' x ∧ ¬ (b' = b ∧ x < hi) }, .sl .any (chunks sz n cs), σ'.del β, rfl, hle.trans hle2, hst2, ?_, hR⟩
      have hin : ∀ (i : Nat) (e : List AV), (chunks sz n cs)[i]? = some e → i < n ∧ e = (cs.drop (i * sz)).take sz := fun i e he => by
        rcases Nat.lt_or_ge i n with h' | h'
        · rw [chunks_get sz n cs i h'] at he
          cases he
          exact ⟨h', rfl⟩
        · rw [List.getElem?_eq_none (by rw [chunks_length]; exact h')] at he; cases he
      have hz : ∀ (i : Nat) (e : List AV), (chunks sz n cs)[i]? = some e → e.length = sz := fun i e he => by
        obtain ⟨hi, rfl⟩ := hin i e he
        have : (i + 1) * sz ≤ n * sz := Nat.mul_le_mul_right _ (by omega)
        rw [Nat.succ_mul] at this
        simp; omega
      have hr : ∀ i j, i < n → j < sz → K.reads { κ' with M := fun b' x => κ'.M b' x ∧ ¬ (b' = b ∧ x < hi) } b (0 + i * sz + j) (arr.getD (i * sz + j) undef) := fun i j hi' hj => by
        have := hle3 i j hi' hj
        refine ⟨?_, fun hm => hm.2 ⟨rfl, ?_⟩⟩
        · rw [Nat.zero_add]
          show κ'.w.cell? _ = _
          rw [cell_of_heap h5]
          simp [this]
        · have hsz' := h7.1
          omega
      have hx : ∀ (i j : Nat) (e : List AV) (x : AV), (chunks sz n cs)[i]? = some e → e[j]? = some x → Rel { κ' with M := fun b' x => κ'.M b' x ∧ ¬ (b' = b ∧ x < hi) } x (arr.getD (i * sz + j) undef) := fun i j e x he hx => by
        have hl := hz i e he
        obtain ⟨hi', rfl⟩ := hin i e he
        have hj : j < sz := by
          rcases Nat.lt_or_ge j sz with h' | h'
          · exact h'
          · rw [List.getElem?_eq_none (by omega)] at hx; cases hx
        rw [List.getElem?_take, if_pos hj, List.getElem?_drop] at hx
        have := hle3 i j hi' hj
        exact (h7.2 _ _ _ hx (by simp [this])).mono hle2
      exact .sl .any _ ⟨b, 0, none⟩ n c sz (fun i j => arr.getD (i * sz + j) undef) trivial (chunks_length _ _ _).symm hnc rfl hz hr hx
  refine ⟨fun κ vs hst hr => ?_⟩
  have hd := hc.go κ vs hst hr
  revert hd
  generalize (callFunc f vs).run P κ.w = r
  intro hd
  cases r with
  | halt x w => exact hd.elim
  | ok nx w =>
    cases nx <;> simp only [Done] at hd ⊢
    case value v => exact post hd
    case skip => exact post hd
    case enter f args =>
      refine hd.mono (fun e w' he => ?_)
      cases e with
      | returned v => exact post he
      | panicked c => exact he.elim
      | outgrown => exact he.elim
    case row r args => exact hd.mono (fun v w' he => post he)
end Go.V

/- The head of an array that was written, and from now on is only read. -/
set_option linter.unusedVariables false
namespace Go.V
open Go.RowKit
variable {P : Program}
/-- The head of an object that is not written from now on: a slice of which the cell behind is known. -/
theorem VCalls.stillC {f : FuncId} {args : List AV} {σ : Sg} {R : AV → Sg → Prop}
    (hc : VCalls P f args σ (fun x σ' => ∃ (β n m : Nat) (u : Value) (t : TypeId) (cs : List AV), n + 1 ≤ m ∧ x = .mc β n m 1 ∧ σ' β = some (.cells t cs) ∧ n + 1 ≤ cs.length ∧ cs[n]? = some (.val u) ∧ R (.lsl u (chunks 1 n cs)) (σ'.del β))) : VCalls P f args σ R := by
  have post : ∀ {κ : K} {v : Value} {w : World}, Post κ (fun x σ' => ∃ (β n m : Nat) (u : Value) (t : TypeId) (cs : List AV), n + 1 ≤ m ∧ x = .mc β n m 1 ∧ σ' β = some (.cells t cs) ∧ n + 1 ≤ cs.length ∧ cs[n]? = some (.val u) ∧ R (.lsl u (chunks 1 n cs)) (σ'.del β)) v w → Post κ R v w := by
    intro κ v w hp
    obtain ⟨κ', x, σ', rfl, hle, hst, hrel, β, n, m, u, t, cs, hnm, rfl, hβ, hn1, hcu, hR⟩ := hp
    have hsz : 0 < 1 := by omega
    have hn : n * 1 ≤ cs.length := by omega
    cases hrel with
    | mc _ _ _ _ b hi hμ hnc hh =>
      obtain ⟨b', lo, hi', h1, h2, h3, h4, arr, fz, h5, h6, h7⟩ := hst.ob β _ hβ
      rw [hμ] at h1
      cases h1
      obtain ⟨hle2, hst2⟩ := hst.still hβ hμ
      have hle3 : ∀ i j, i < n → j < 1 → i * 1 + j < arr.size := fun i j hi hj => by
        have : (i + 1) * 1 ≤ n * 1 := Nat.mul_le_mul_right _ (by omega)
        rw [Nat.succ_mul] at this
        have hsz' := h7.1
        omega
      refine ⟨{ κ' with M := fun b' x => κ'.M b' x ∧ ¬ (b' = b ∧ x < hi) }, .lsl u (chunks 1 n cs), σ'.del β, rfl, hle.trans hle2, hst2, ?_, hR⟩
      have hin : ∀ (i : Nat) (e : List AV), (chunks 1 n cs)[i]? = some e → i < n ∧ e = (cs.drop (i * 1)).take 1 := fun i e he => by
        rcases Nat.lt_or_ge i n with h' | h'
        · rw [chunks_get 1 n cs i h'] at he
          cases he
          exact ⟨h', rfl⟩
        · rw [List.getElem?_eq_none (by rw [chunks_length]; exact h')] at he; cases he
      have hz : ∀ (i : Nat) (e : List AV), (chunks 1 n cs)[i]? = some e → e.length = 1 := fun i e he => by
        obtain ⟨hi, rfl⟩ := hin i e he
        have : (i + 1) * 1 ≤ n * 1 := Nat.mul_le_mul_right _ (by omega)
        rw [Nat.succ_mul] at this
        simp; omega
      have hr : ∀ i j, i < n → j < 1 → K.reads { κ' with M := fun b' x => κ'.M b' x ∧ ¬ (b' = b ∧ x < hi) } b (0 + i * 1 + j) (arr.getD (i * 1 + j) undef) := fun i j hi' hj => by
        have := hle3 i j hi' hj
        rw [Nat.mul_one] at this
        refine ⟨?_, fun hm => hm.2 ⟨rfl, ?_⟩⟩
        · rw [Nat.zero_add]
          show κ'.w.cell? _ = _
          rw [cell_of_heap h5]
          simp [this]
        · have hsz' := h7.1
          omega
      have hx : ∀ (i j : Nat) (e : List AV) (x : AV), (chunks 1 n cs)[i]? = some e → e[j]? = some x → Rel { κ' with M := fun b' x => κ'.M b' x ∧ ¬ (b' = b ∧ x < hi) } x (arr.getD (i * 1 + j) undef) := fun i j e x he hx => by
        have hl := hz i e he
        obtain ⟨hi', rfl⟩ := hin i e he
        have hj : j < 1 := by
          rcases Nat.lt_or_ge j 1 with h' | h'
          · exact h'
          · rw [List.getElem?_eq_none (by omega)] at hx; cases hx
        rw [List.getElem?_take, if_pos hj, List.getElem?_drop] at hx
        have := hle3 i j hi' hj
        rw [Nat.mul_one] at this
        exact (h7.2 _ _ _ hx (by simp [this])).mono hle2
      have hu : K.reads { κ' with M := fun b' x => κ'.M b' x ∧ ¬ (b' = b ∧ x < hi) } b (0 + n) u := by
        have hsz' := h7.1
        have hlt : n < arr.size := by omega
        have h8 := h7.2 n (.val u) (arr.getD n undef) hcu (by simp [hlt])
        generalize hg : arr.getD n undef = q at h8
        cases h8
        refine ⟨?_, fun hm => hm.2 ⟨rfl, by omega⟩⟩
        rw [Nat.zero_add]
        show κ'.w.cell? _ = _
        rw [cell_of_heap h5]
        simpa [hlt] using hg
      exact .lsl u _ ⟨b, 0, none⟩ n m (fun i j => arr.getD (i * 1 + j) undef) (chunks_length _ _ _).symm hnm rfl hz hr hu hx
  refine ⟨fun κ vs hst hr => ?_⟩
  have hd := hc.go κ vs hst hr
  revert hd
  generalize (callFunc f vs).run P κ.w = r
  intro hd
  cases r with
  | halt x w => exact hd.elim
  | ok nx w =>
    cases nx <;> simp only [Done] at hd ⊢
    case value v => exact post hd
    case skip => exact post hd
    case enter f args =>
      refine hd.mono (fun e w' he => ?_)
      cases e with
      | returned v => exact post he
      | panicked c => exact he.elim
      | outgrown => exact he.elim
    case row r args => exact hd.mono (fun v w' he => post he)
end Go.V

/- Rows of the library: CountString, MakeNoZero; and what they come to. -/
set_option linter.unusedVariables false
namespace Go.V
open Go.RowKit
variable {P : Program} {σ : Sg}
theorem vCountString {f : FuncId} {fn : Func} {s : ByteArray} {c : UInt8} (hf : P.funcs[f]? = some fn) (hname : (fn.name == "runtime.NumGoroutine") = false) (hb : fn.body.isNone = true) (hn : Extern.findNext fn = none) (he : Extern.find fn = some Extern.BytealgCount.count) :
    VCalls P f [.s s, .u8 c.toNat] σ (fun y σ' => y = .i (s.data.toList.count c : Nat) ∧ σ' = σ) :=
  vextern hf hname hb hn he (fun κ vs hst hargs => by
    obtain ⟨u, v, rfl, hx, hy⟩ := relRow2 hargs
    cases hx
    cases hy
    have h := Lib.run_countString (P := P) s (c.toNat : Int) κ.w
    have hcc : ((c.toNat : Int).toNat).toUInt8 = c := by simp
    rw [hcc] at h
    exact ⟨_, κ.w, h, post_same hst (.val _) ⟨rfl, rfl⟩⟩)
theorem vMakeNoZero {f : FuncId} {fn : Func} {ps : Array TypeId} {t e : TypeId} {n : Nat} (hf : P.funcs[f]? = some fn) (hname : (fn.name == "runtime.NumGoroutine") = false) (hb : fn.body.isNone = true) (hn : Extern.findNext fn = none) (he : Extern.find fn = some (Extern.BytealgMakeNoZero.makeNoZero ps #[t]))
    (ht : P.underlying t = some (.slice e)) (hsz : n ≤ 281474976710656) :
    VCalls P f [.i n] σ (fun y σ' => ∃ τ, σ τ = none ∧ y = .nz τ n 1 ∧ σ' = σ.set τ (.tok (some e))) :=
  vextern hf hname hb hn he (fun κ vs hst hargs => by
    obtain ⟨u, rfl, hx⟩ := relRow1 hargs
    cases hx
    obtain ⟨cs, h1, h2, _⟩ := Lib.run_makeNoZero (P := P) κ.w ps t e ht n hsz
    have hst2 := hst.drew.drew
    obtain ⟨τ, hτ, hτσ⟩ := hst2.fresh
    obtain ⟨hle, hs⟩ := hst2.newTok (τ := τ) (lo := 0) (c := cs) (t := e) (fz := (0, 0)) (e := some e) (Nat.zero_le _) (fun i _ h => by simp at h) (fun t' h => by cases h; exact ⟨rfl, rfl⟩) hτ
    refine ⟨_, _, h1, ⟨_, _, _, ?_, (K.le_drew κ).trans ((K.le_drew _).trans hle), hs, ?_, τ, hτσ σ (.refl σ), rfl, rfl⟩⟩
    · rfl
    · refine .nz τ n 1 κ.w.heap.size cs.size ?_ h2
      simp [K.named, K.drew])
/-! ### Rules -/
theorem cap_nil (t e ty : TypeId) (l : List TypeId) (σ : Sg) (R : AV → Sg → Prop) (he : P.underlying t = some (.slice e)) : vbuiltin P .cap [.sl .nil []] (List.toArray (t :: l)) ty σ R = R (.i 0) σ := by
  simp only [vbuiltin, true_and, List.getElem?_toArray, List.getElem?_cons_zero, Option.bind_some, he]
  refine propext ⟨fun h => h.2, fun h => ⟨⟨e, rfl⟩, h⟩⟩
theorem vsl_nz (e : TypeId) (τ n sz : Nat) (k : IntKind) (σ : Sg) (R : AV → Prop) : vsl P (some (.slice e)) (.nz τ n sz) none (some (.val (.int k 0))) none σ R = vixE (tInfo P e) (fun s => s = sz ∧ R (.sl (.tok τ sz) [])) := by
  unfold vsl vixE
  simp only [optInt]
  cases tInfo P e <;> simp
theorem vcopy_nil (t e : TypeId) (τ sz : Nat) (σ : Sg) (R : AV → Sg → Prop) (he : P.underlying t = some (.slice e)) (hi : (tInfo P e).isSome = true) : vcopy P t (.sl (.tok τ sz) []) (.sl .nil []) σ R = R (.i 0) σ := by
  unfold vcopy
  simp only [he, elems, hi, true_and]
theorem ev_global (ρ : Nat → AV) (g : Nat) (cs : List Value) (h : gtab g = some cs) : ev ρ (.global g) = .ro (cs.map .val) := by
  show (match gtab g with | some cs => AV.ro (cs.map .val) | none => .val (.pointer (some ⟨g, 0, none⟩))) = _
  rw [h]
end Go.V

set_option linter.unusedSimpArgs false
set_option linter.unusedVariables false
namespace Go.Lex
open Go.V Go.Proofs.YtpfancgcamclnaaDoor
theorem shr_nat (x k : Nat) (t : IntKind) (h : k ≤ t.bits) : ((x : Nat) : Int).fdiv (2 ^ min k t.bits) = ((x / 2 ^ k : Nat) : Int) := by
  rw [Nat.min_eq_left h, Int.fdiv_eq_ediv_of_nonneg _ (by exact_mod_cast Nat.zero_le (2 ^ k))]
  norm_cast
theorem shr32 (x : Nat) : ((x : Nat) : Int).fdiv (2 ^ min 32 IntKind.u64.bits) = ((x / 4294967296 : Nat) : Int) := shr_nat x 32 _ (by decide)
theorem shr16 (x : Nat) : ((x : Nat) : Int).fdiv (2 ^ min 16 IntKind.u64.bits) = ((x / 65536 : Nat) : Int) := shr_nat x 16 _ (by decide)
theorem shr8 (x : Nat) : ((x : Nat) : Int).fdiv (2 ^ min 8 IntKind.u64.bits) = ((x / 256 : Nat) : Int) := shr_nat x 8 _ (by decide)
theorem shr18 (x : Nat) : ((x : Nat) : Int).fdiv (2 ^ min 18 IntKind.i64.bits) = ((x / 262144 : Nat) : Int) := shr_nat x 18 _ (by decide)
theorem wrap_u8 {x : Nat} (h : x < 256) : IntKind.u8.wrap ((x : Nat) : Int) = (x : Int) := by
  have : IntKind.u8.wrap ((x : Nat) : Int) = ((x : Nat) : Int) % 256 := rfl
  rw [this]; omega
theorem len_leaf {L : List UInt8} {b u v : Nat} {c : Int} (hc : c = (b : Nat)) (hv : u / 2 ^ b = v) (h8 : v < 256) (hb : b ≤ 56) (h0 : 1 ≤ v)
    (hL : ∀ k, k < 256 → k < 2 ^ (L.getD k 0).toNat ∧ (1 ≤ k → 1 ≤ (L.getD k 0).toNat ∧ 2 ^ ((L.getD k 0).toNat - 1) ≤ k) ∧ (L.getD k 0).toNat ≤ 8) : ∃ n : Nat, 1 ≤ n ∧ n ≤ 64 ∧ 2 ^ (n - 1) ≤ u ∧ u < 2 ^ n ∧ AV.val (.int .i64 (IntKind.i64.wrap (c + IntKind.i64.wrap ((L.getD v 0).toNat : Int)))) = AV.i n := by
  obtain ⟨a1, a2, a3⟩ := hL v h8
  obtain ⟨a4, a5⟩ := a2 h0
  generalize (L.getD v 0).toNat = t at *
  have hp : 0 < 2 ^ b := Nat.pow_pos (by decide)
  refine ⟨b + t, by omega, by omega, ?_, ?_, by rw [w64 (n := (t : Int)) (by omega) (by omega), w64 (by omega) (by omega), hc]; rfl⟩
  · rw [show b + t - 1 = b + (t - 1) by omega, Nat.pow_add]
    calc 2 ^ b * 2 ^ (t - 1) ≤ 2 ^ b * v := Nat.mul_le_mul_left _ a5
      _ ≤ u := by rw [← hv]; exact Nat.mul_div_le u (2 ^ b)
  · rw [Nat.pow_add]
    have h1 : u < 2 ^ b * (v + 1) := by
      have := Nat.lt_mul_div_succ u hp
      rwa [hv] at this
    exact Nat.lt_of_lt_of_le h1 (Nat.mul_le_mul_left _ a1)
end Go.Lex
namespace Go.Proofs.YtpfancgcamclnaaDoor
open Go Go.V Go.Lex
set_option maxHeartbeats 400000 in
set_option maxRecDepth 100000 in
theorem e55 (b : Bool) (σ : Sg) : VCalls Tryd.prog 55 [.b b] σ (fun x σ' => x = .i (if b then 1 else 0) ∧ σ' = σ) := by
  cases b
  · (refine vfun (fun _ => .no) mixed Tryd.func55 (by kernel_rfl) ?_; simp only [bodyOf, Tryd.f55, Option.getD_some])
    repeat' (first | with_reducible rfl | exact .inr trivial | with_reducible apply And.intro | with_reducible apply vqx_step | with_reducible apply vqm_step | with_reducible refine vkp_free (by decide +kernel) ?_ | with_reducible intro _ | ((first | (with_reducible first | refine .rs ?_ | refine .ds (by kernel_rfl) ?_ | refine .dg (by kernel_rfl) ?_ | refine .rg ?_ | refine .ite ?_ | refine .ret ?_ | refine .skip ?_ | refine .exit ?_ | refine .scope ?_ | refine .seq (.label ?_) | refine .block ?_ | refine .seq ?_) | (simp (disch := first | assumption | (apply Go.Cert.ne_of2; assumption; assumption) | (apply Go.Cert.ne_ob; assumption; assumption; (intro e; cases e; done)) | omega) only [w64, w8, tg_eq, Go.V.n1, Go.V.n2, Go.V.nn, Int.tdiv_eq_ediv_of_nonneg, Sg.set_same, Sg.set_ne, Sg.set_ne', Sg.del_ne, Sg.del_ne'])); (try simp only [vO, vQ, ↓vP, vE, vS, vB, vL, vF, vM, vN, vbs_full, Nat.reduceEqDiff, Nat.reduceAdd, Nat.reduceLeDiff, ne_eq, not_false_eq_true, Nat.reduceMul, Nat.reduceSub, Int.toNat_zero, Int.reduceToNat, Tryd.underlying3, info3, Tryd.underlying4, info4, vT])) | with_reducible refine vfresh_set ?_ | with_reducible refine vfresh_intro (fun _ _ => ?_) | with_reducible refine vif_intro (fun _ => ?_) (fun _ => ?_) | omega | ((with_reducible first | refine vop_at ?_ | refine vops_at ?_ | refine vquiet_at ?_ | refine vmix_at ?_ | refine Holds_at ?_); simp only [vO, vQ, ↓vP, vE, vS, vB, vL, vF, vM, vN, vbs_full, Nat.reduceEqDiff, Nat.reduceAdd, Nat.reduceLeDiff, ne_eq, not_false_eq_true, Nat.reduceMul, Nat.reduceSub, Int.toNat_zero, Int.reduceToNat, Tryd.underlying3, info3, Tryd.underlying4, info4, vT]))
    all_goals (first | ((first | refine ⟨_, ?_, rfl⟩ | refine ⟨_, ?_, rfl, rfl⟩ | refine ⟨_, ?_⟩); (first | exact Sg.sub.refl _ | ((repeat (first | exact Sg.sub.refl _ | refine Sg.sub.set_both ?_ | refine Sg.sub.set_fresh ?_ (by first | assumption | exact Sg.set_none (by assumption) (by first | assumption | (apply Go.Cert.ne_of2a; assumption; assumption))))); done) | (intro y p hy; simp only [Sg.set_apply, Sg.del_apply] at hy ⊢; grind))) | (exfalso; omega))
  · (refine vfun (fun _ => .no) mixed Tryd.func55 (by kernel_rfl) ?_; simp only [bodyOf, Tryd.f55, Option.getD_some])
    repeat' (first | with_reducible rfl | exact .inr trivial | with_reducible apply And.intro | with_reducible apply vqx_step | with_reducible apply vqm_step | with_reducible refine vkp_free (by decide +kernel) ?_ | with_reducible intro _ | ((first | (with_reducible first | refine .rs ?_ | refine .ds (by kernel_rfl) ?_ | refine .dg (by kernel_rfl) ?_ | refine .rg ?_ | refine .ite ?_ | refine .ret ?_ | refine .skip ?_ | refine .exit ?_ | refine .scope ?_ | refine .seq (.label ?_) | refine .block ?_ | refine .seq ?_) | (simp (disch := first | assumption | (apply Go.Cert.ne_of2; assumption; assumption) | (apply Go.Cert.ne_ob; assumption; assumption; (intro e; cases e; done)) | omega) only [w64, w8, tg_eq, Go.V.n1, Go.V.n2, Go.V.nn, Int.tdiv_eq_ediv_of_nonneg, Sg.set_same, Sg.set_ne, Sg.set_ne', Sg.del_ne, Sg.del_ne'])); (try simp only [vO, vQ, ↓vP, vE, vS, vB, vL, vF, vM, vN, vbs_full, Nat.reduceEqDiff, Nat.reduceAdd, Nat.reduceLeDiff, ne_eq, not_false_eq_true, Nat.reduceMul, Nat.reduceSub, Int.toNat_zero, Int.reduceToNat, Tryd.underlying3, info3, Tryd.underlying4, info4, vT])) | with_reducible refine vfresh_set ?_ | with_reducible refine vfresh_intro (fun _ _ => ?_) | with_reducible refine vif_intro (fun _ => ?_) (fun _ => ?_) | omega | ((with_reducible first | refine vop_at ?_ | refine vops_at ?_ | refine vquiet_at ?_ | refine vmix_at ?_ | refine Holds_at ?_); simp only [vO, vQ, ↓vP, vE, vS, vB, vL, vF, vM, vN, vbs_full, Nat.reduceEqDiff, Nat.reduceAdd, Nat.reduceLeDiff, ne_eq, not_false_eq_true, Nat.reduceMul, Nat.reduceSub, Int.toNat_zero, Int.reduceToNat, Tryd.underlying3, info3, Tryd.underlying4, info4, vT]))
    all_goals (first | ((first | refine ⟨_, ?_, rfl⟩ | refine ⟨_, ?_, rfl, rfl⟩ | refine ⟨_, ?_⟩); (first | exact Sg.sub.refl _ | ((repeat (first | exact Sg.sub.refl _ | refine Sg.sub.set_both ?_ | refine Sg.sub.set_fresh ?_ (by first | assumption | exact Sg.set_none (by assumption) (by first | assumption | (apply Go.Cert.ne_of2a; assumption; assumption))))); done) | (intro y p hy; simp only [Sg.set_apply, Sg.del_apply] at hy ⊢; grind))) | (exfalso; omega))
set_option maxHeartbeats 400000 in
set_option maxRecDepth 100000 in
theorem e53 (n : Nat) (hn : n ≤ 64) (σ : Sg) : VCalls Tryd.prog 53 [.i n] σ (fun x σ' => x = .i (nd10 n) ∧ σ' = σ) := by
  (refine vfun (fun _ => .no) mixed Tryd.func53 (by kernel_rfl) ?_; simp only [bodyOf, Tryd.f53, Option.getD_some])
  repeat' (first | with_reducible rfl | exact .inr trivial | with_reducible apply And.intro | with_reducible apply vqx_step | with_reducible apply vqm_step | with_reducible refine vkp_free (by decide +kernel) ?_ | with_reducible intro _ | ((first | (with_reducible first | refine .rs ?_ | refine .ds (by kernel_rfl) ?_ | refine .dg (by kernel_rfl) ?_ | refine .rg ?_ | refine .ite ?_ | refine .ret ?_ | refine .skip ?_ | refine .exit ?_ | refine .scope ?_ | refine .seq (.label ?_) | refine .block ?_ | refine .seq ?_) | (simp (disch := first | assumption | (apply Go.Cert.ne_of2; assumption; assumption) | (apply Go.Cert.ne_ob; assumption; assumption; (intro e; cases e; done)) | omega) only [w64, w8, tg_eq, Go.V.n1, Go.V.n2, Go.V.nn, Int.tdiv_eq_ediv_of_nonneg, Sg.set_same, Sg.set_ne, Sg.set_ne', Sg.del_ne, Sg.del_ne'])); (try simp only [vO, vQ, ↓vP, vE, vS, vB, vL, vF, vM, vN, vbs_full, Nat.reduceEqDiff, Nat.reduceAdd, Nat.reduceLeDiff, ne_eq, not_false_eq_true, Nat.reduceMul, Nat.reduceSub, Int.toNat_zero, Int.reduceToNat, Tryd.underlying3, info3, Tryd.underlying4, info4, vT])) | with_reducible refine vfresh_set ?_ | with_reducible refine vfresh_intro (fun _ _ => ?_) | with_reducible refine vif_intro (fun _ => ?_) (fun _ => ?_) | omega | ((with_reducible first | refine vop_at ?_ | refine vops_at ?_ | refine vquiet_at ?_ | refine vmix_at ?_ | refine Holds_at ?_); simp only [vO, vQ, ↓vP, vE, vS, vB, vL, vF, vM, vN, vbs_full, Nat.reduceEqDiff, Nat.reduceAdd, Nat.reduceLeDiff, ne_eq, not_false_eq_true, Nat.reduceMul, Nat.reduceSub, Int.toNat_zero, Int.reduceToNat, Tryd.underlying3, info3, Tryd.underlying4, info4, vT]))
  refine ⟨_, .refl _, ?_, rfl⟩
  have : ((n : Nat) : Int) * 78913 = ((n * 78913 : Nat) : Int) := by omega
  rw [this, shr18]
  rfl
set_option maxHeartbeats 400000 in
set_option maxRecDepth 100000 in
theorem e54 (u : Nat) (h1 : 1 ≤ u) (h2 : u < 2 ^ 64) (σ : Sg) : VCalls Tryd.prog 54 [.val (.int .u64 u)] σ (fun x σ' => (∃ n : Nat, 1 ≤ n ∧ n ≤ 64 ∧ 2 ^ (n - 1) ≤ u ∧ u < 2 ^ n ∧ x = .i n) ∧ σ' = σ) := by
  (refine vfun (fun _ => .no) mixed Tryd.func54 (by kernel_rfl) ?_; simp only [bodyOf, Tryd.f54, Option.getD_some])
  repeat' (first | with_reducible rfl | exact .inr trivial | with_reducible apply And.intro | with_reducible apply vqx_step | with_reducible apply vqm_step | with_reducible refine vkp_free (by decide +kernel) ?_ | with_reducible intro _ | ((first | (with_reducible first | refine .rs ?_ | refine .ds (by kernel_rfl) ?_ | refine .dg (by kernel_rfl) ?_ | refine .rg ?_ | refine .ite ?_ | refine .ret ?_ | refine .skip ?_ | refine .exit ?_ | refine .scope ?_ | refine .seq (.label ?_) | refine .block ?_ | refine .seq ?_) | (simp (disch := first | assumption | (apply Go.Cert.ne_of2; assumption; assumption) | (apply Go.Cert.ne_ob; assumption; assumption; (intro e; cases e; done)) | omega) only [w64, w8, tg_eq, Go.V.n1, Go.V.n2, Go.V.nn, Int.tdiv_eq_ediv_of_nonneg, Sg.set_same, Sg.set_ne, Sg.set_ne', Sg.del_ne, Sg.del_ne'])); (try simp only [vO, vQ, ↓vP, vE, vS, vB, vL, vF, vM, vN, vbs_full, Nat.reduceEqDiff, Nat.reduceAdd, Nat.reduceLeDiff, ne_eq, not_false_eq_true, Nat.reduceMul, Nat.reduceSub, Int.toNat_zero, Int.reduceToNat, Tryd.underlying3, info3, Tryd.underlying4, info4, Tryd.underlying73, info73, Tryd.underlying5, info5, Tryd.underlying9, info9, shr32, shr16, shr8, vT])) | with_reducible refine vfresh_set ?_ | with_reducible refine vfresh_intro (fun _ _ => ?_) | with_reducible refine vif_intro (fun _ => ?_) (fun _ => ?_) | omega | ((with_reducible first | refine vop_at ?_ | refine vops_at ?_ | refine vquiet_at ?_ | refine vmix_at ?_ | refine Holds_at ?_); simp only [vO, vQ, ↓vP, vE, vS, vB, vL, vF, vM, vN, vbs_full, Nat.reduceEqDiff, Nat.reduceAdd, Nat.reduceLeDiff, ne_eq, not_false_eq_true, Nat.reduceMul, Nat.reduceSub, Int.toNat_zero, Int.reduceToNat, Tryd.underlying3, info3, Tryd.underlying4, info4, Tryd.underlying73, info73, Tryd.underlying5, info5, Tryd.underlying9, info9, shr32, shr16, shr8, vT]))
  all_goals first
    | exact Nat.lt_of_lt_of_le (m := 256) (by omega) (by decide +kernel)
    | exact ⟨_, .refl _, len_leaf (b := 56) (u := u) (by decide) (by omega) (by omega) (by decide) (by omega) (by decide +kernel), rfl⟩
    | exact ⟨_, .refl _, len_leaf (b := 48) (u := u) (by decide) (by omega) (by omega) (by decide) (by omega) (by decide +kernel), rfl⟩
    | exact ⟨_, .refl _, len_leaf (b := 40) (u := u) (by decide) (by omega) (by omega) (by decide) (by omega) (by decide +kernel), rfl⟩
    | exact ⟨_, .refl _, len_leaf (b := 32) (u := u) (by decide) (by omega) (by omega) (by decide) (by omega) (by decide +kernel), rfl⟩
    | exact ⟨_, .refl _, len_leaf (b := 24) (u := u) (by decide) (by omega) (by omega) (by decide) (by omega) (by decide +kernel), rfl⟩
    | exact ⟨_, .refl _, len_leaf (b := 16) (u := u) (by decide) (by omega) (by omega) (by decide) (by omega) (by decide +kernel), rfl⟩
    | exact ⟨_, .refl _, len_leaf (b := 8) (u := u) (by decide) (by omega) (by omega) (by decide) (by omega) (by decide +kernel), rfl⟩
    | exact ⟨_, .refl _, len_leaf (b := 0) (u := u) (by decide) (by omega) (by omega) (by decide) (by omega) (by decide +kernel), rfl⟩
/-- How many digits. -/
theorem dec_len1 {u r : Nat} (h : dec u = padD r u) : (dec u).length = r := by rw [h, padD_len]
theorem pow_drop : ∀ k, k ≤ 19 → List.drop (k * 1) (List.map AV.val pow10tab) = .val (.int .u64 ((10 ^ k : Nat) : Int)) :: List.drop (k + 1) (List.map AV.val pow10tab)
  | 0, _ => rfl
  | 1, _ => rfl
  | 2, _ => rfl
  | 3, _ => rfl
  | 4, _ => rfl
  | 5, _ => rfl
  | 6, _ => rfl
  | 7, _ => rfl
  | 8, _ => rfl
  | 9, _ => rfl
  | 10, _ => rfl
  | 11, _ => rfl
  | 12, _ => rfl
  | 13, _ => rfl
  | 14, _ => rfl
  | 15, _ => rfl
  | 16, _ => rfl
  | 17, _ => rfl
  | 18, _ => rfl
  | 19, _ => rfl
  | k + 20, h => by omega
theorem nd_le {n : Nat} (h2 : n ≤ 64) (h1 : 1 ≤ n) : nd10 n ≤ 19 := (nd10_ok n h2 h1).2.2
set_option maxHeartbeats 400000 in
set_option maxRecDepth 100000 in
theorem e43 (u : Nat) (h1 : 1 ≤ u) (h2 : u < 2 ^ 64) (σ : Sg) : VCalls Tryd.prog 43 [.val (.int .u64 u)] σ (fun x σ' => x = .i (dec u).length ∧ σ' = σ) := by
  have h54 := fun σ => e54 u h1 h2 σ
  have h53 := fun n hn σ => e53 n hn σ
  have h55 := fun b σ => e55 b σ
  have hg := fun ρ => ev_global ρ 0 pow10tab rfl
  (refine vfun (fun _ => .no) mixed Tryd.func43 (by kernel_rfl) ?_; simp only [bodyOf, Tryd.f43, Option.getD_some])
  repeat' (first | with_reducible rfl | exact .inr trivial | with_reducible apply And.intro | with_reducible apply vqx_step | with_reducible apply vqm_step | with_reducible refine vkp_free (by decide +kernel) ?_ | with_reducible intro _ | ((first | (with_reducible first | refine .rs ?_ | refine .ds (by kernel_rfl) ?_ | refine .dg (by kernel_rfl) ?_ | refine .rg ?_ | refine .ite ?_ | refine .ret ?_ | refine .skip ?_ | refine .exit ?_ | refine .scope ?_ | refine .seq (.label ?_) | refine .block ?_ | refine .seq ?_) | (simp (disch := first | assumption | (apply Go.Cert.ne_of2; assumption; assumption) | (apply Go.Cert.ne_ob; assumption; assumption; (intro e; cases e; done)) | omega) only [w64, w8, tg_eq, Go.V.n1, Go.V.n2, Go.V.nn, Int.tdiv_eq_ediv_of_nonneg, Sg.set_same, Sg.set_ne, Sg.set_ne', Sg.del_ne, Sg.del_ne']) | ((with_reducible refine VCalls.mono (h54 _) ?_); rintro _ S ⟨⟨n, hn1, hn2, hn3, hn4, rfl⟩, rfl⟩; have hnd := nd_le hn2 hn1) | ((with_reducible refine VCalls.mono (h53 _ (by assumption) _) ?_); rintro _ S ⟨rfl, rfl⟩) | ((with_reducible refine VCalls.mono (h55 _ _) ?_); rintro _ S ⟨rfl, rfl⟩) | with_reducible rw [pow_drop _ (by assumption)]); (try simp only [vO, vQ, ↓vP, vE, vS, vB, vL, vF, vM, vN, vbs_full, Nat.reduceEqDiff, Nat.reduceAdd, Nat.reduceLeDiff, ne_eq, not_false_eq_true, Nat.reduceMul, Nat.reduceSub, Int.toNat_zero, Int.reduceToNat, Tryd.underlying3, info3, Tryd.underlying4, info4, Tryd.underlying73, info73, Tryd.underlying82, info82, hg, vT])) | with_reducible refine vfresh_set ?_ | with_reducible refine vfresh_intro (fun _ _ => ?_) | with_reducible refine vif_intro (fun _ => ?_) (fun _ => ?_) | omega | ((with_reducible first | refine vop_at ?_ | refine vops_at ?_ | refine vquiet_at ?_ | refine vmix_at ?_ | refine Holds_at ?_); simp only [vO, vQ, ↓vP, vE, vS, vB, vL, vF, vM, vN, vbs_full, Nat.reduceEqDiff, Nat.reduceAdd, Nat.reduceLeDiff, ne_eq, not_false_eq_true, Nat.reduceMul, Nat.reduceSub, Int.toNat_zero, Int.reduceToNat, Tryd.underlying3, info3, Tryd.underlying4, info4, Tryd.underlying73, info73, Tryd.underlying82, info82, hg, vT]))

  obtain ⟨d1, d2⟩ := digits_ok hn1 hn2 hn3 hn4
  refine ⟨_, .refl _, ?_, rfl⟩
  by_cases hc : 10 ^ nd10 n ≤ u
  · rw [if_pos (by exact_mod_cast hc), dec_len1 (d1 hc)]
    rfl
  · rw [if_neg (by exact_mod_cast hc), dec_len1 (d2 (by omega)).2]
    simp
theorem small1 : ∀ n, n < 10 → List.drop n (48 :: List.take n [49, 50, 51, 52, 53, 54, 55, 56, 57, 97, 98, 99, 100, 101, 102, 103, 104, 105, 106, 107, 108, 109, 110, 111, 112, 113, 114, 115, 116, 117, 118, 119, 120, 121, 122]) = [UInt8.ofNat (48 + n)] := by decide +kernel
theorem small2 {L : List UInt8} {n : Nat} (h1 : 10 ≤ n) (h2 : n < 100) (hL : ∀ n, n < 100 → List.drop (n * 2) (List.take (n * 2 + 2) L) = padD 2 n) : AV.s (bs (List.drop ((n : Int) * 2).toNat (List.take ((n : Int) * 2 + 2).toNat L))) = AV.s (bs (dec n)) := by
  have e1 : ((n : Int) * 2).toNat = n * 2 := by omega
  have e2 : ((n : Int) * 2 + 2).toNat = n * 2 + 2 := by omega
  rw [e1, e2, hL n h2, dec_pad 1 n (.inr (by omega)) (by omega)]
set_option maxHeartbeats 400000 in
set_option maxRecDepth 100000 in
theorem e42 (n : Nat) (hn : n < 100) (σ : Sg) : VCalls Tryd.prog 42 [.i n] σ (fun x σ' => x = .s (bs (dec n)) ∧ σ' = σ) := by
  (refine vfun (fun _ => .no) mixed Tryd.func42 (by kernel_rfl) ?_; simp only [bodyOf, Tryd.f42, Option.getD_some])
  repeat' (first | with_reducible rfl | exact .inr trivial | with_reducible apply And.intro | with_reducible apply vqx_step | with_reducible apply vqm_step | with_reducible refine vkp_free (by decide +kernel) ?_ | with_reducible intro _ | ((first | (with_reducible first | refine .rs ?_ | refine .ds (by kernel_rfl) ?_ | refine .dg (by kernel_rfl) ?_ | refine .rg ?_ | refine .ite ?_ | refine .ret ?_ | refine .skip ?_ | refine .exit ?_ | refine .scope ?_ | refine .seq (.label ?_) | refine .block ?_ | refine .seq ?_) | (simp (disch := first | assumption | (apply Go.Cert.ne_of2; assumption; assumption) | (apply Go.Cert.ne_ob; assumption; assumption; (intro e; cases e; done)) | omega) only [w64, w8, tg_eq, Go.V.n1, Go.V.n2, Go.V.nn, Int.tdiv_eq_ediv_of_nonneg, Sg.set_same, Sg.set_ne, Sg.set_ne', Sg.del_ne, Sg.del_ne'])); (try simp only [vO, vQ, ↓vP, vE, vS, vB, vL, vF, vM, vN, vbs_full, Nat.reduceEqDiff, Nat.reduceAdd, Nat.reduceLeDiff, ne_eq, not_false_eq_true, Nat.reduceMul, Nat.reduceSub, Int.toNat_zero, Int.reduceToNat, Tryd.underlying3, info3, Tryd.underlying4, info4, Tryd.underlying9, info9, vT])) | with_reducible refine vfresh_set ?_ | with_reducible refine vfresh_intro (fun _ _ => ?_) | with_reducible refine vif_intro (fun _ => ?_) (fun _ => ?_) | omega | ((with_reducible first | refine vop_at ?_ | refine vops_at ?_ | refine vquiet_at ?_ | refine vmix_at ?_ | refine Holds_at ?_); simp only [vO, vQ, ↓vP, vE, vS, vB, vL, vF, vM, vN, vbs_full, Nat.reduceEqDiff, Nat.reduceAdd, Nat.reduceLeDiff, ne_eq, not_false_eq_true, Nat.reduceMul, Nat.reduceSub, Int.toNat_zero, Int.reduceToNat, Tryd.underlying3, info3, Tryd.underlying4, info4, Tryd.underlying9, info9, vT]))
  all_goals first
    | exact ⟨_, .refl _, by rw [dec_lt (by omega), small1 n (by omega)], rfl⟩
    | exact Int.le_trans (b := 200) (by omega) (by decide +kernel)
    | exact ⟨_, .refl _, small2 (by omega) hn (by decide +kernel), rfl⟩
end Go.Proofs.YtpfancgcamclnaaDoor

set_option linter.unusedSimpArgs false
set_option linter.unusedVariables false
namespace Go.Lex
open Go.V Go.Proofs.YtpfancgcamclnaaDoor
theorem splice_at {P L : List AV} {o j : Nat} {x : AV} (h : o = P.length + j) : splice (P ++ L) o [x] = P ++ splice L j [x] := by
  subst h
  unfold splice
  simp [List.take_append, List.drop_append, List.take_of_length_le, List.drop_of_length_le, Nat.add_assoc]
/-- strconv's pairs of digits. -/
def smallsL : List UInt8 := (([48, 48, 48, 49, 48, 50, 48, 51, 48, 52, 48, 53, 48, 54, 48, 55, 48, 56, 48, 57, 49, 48, 49, 49, 49, 50, 49, 51, 49, 52, 49, 53, 49, 54, 49, 55, 49, 56, 49, 57, 50, 48, 50, 49, 50, 50, 50, 51, 50, 52].append [50, 53, 50, 54, 50, 55, 50, 56, 50, 57, 51, 48, 51, 49, 51, 50, 51, 51, 51, 52, 51, 53, 51, 54, 51, 55, 51, 56, 51, 57, 52, 48, 52, 49, 52, 50, 52, 51, 52, 52, 52, 53, 52, 54, 52, 55, 52, 56, 52, 57]).append ([53, 48, 53, 49, 53, 50, 53, 51, 53, 52, 53, 53, 53, 54, 53, 55, 53, 56, 53, 57, 54, 48, 54, 49, 54, 50, 54, 51, 54, 52, 54, 53, 54, 54, 54, 55, 54, 56, 54, 57, 55, 48, 55, 49, 55, 50, 55, 51, 55, 52].append [55, 53, 55, 54, 55, 55, 55, 56, 55, 57, 56, 48, 56, 49, 56, 50, 56, 51, 56, 52, 56, 53, 56, 54, 56, 55, 56, 56, 56, 57, 57, 48, 57, 49, 57, 50, 57, 51, 57, 52, 57, 53, 57, 54, 57, 55, 57, 56, 57, 57]))
theorem sm_fold : (⟨((([48, 48, 48, 49, 48, 50, 48, 51, 48, 52, 48, 53, 48, 54, 48, 55, 48, 56, 48, 57, 49, 48, 49, 49, 49, 50, 49, 51, 49, 52, 49, 53, 49, 54, 49, 55, 49, 56, 49, 57, 50, 48, 50, 49, 50, 50, 50, 51, 50, 52].append [50, 53, 50, 54, 50, 55, 50, 56, 50, 57, 51, 48, 51, 49, 51, 50, 51, 51, 51, 52, 51, 53, 51, 54, 51, 55, 51, 56, 51, 57, 52, 48, 52, 49, 52, 50, 52, 51, 52, 52, 52, 53, 52, 54, 52, 55, 52, 56, 52, 57]).append ([53, 48, 53, 49, 53, 50, 53, 51, 53, 52, 53, 53, 53, 54, 53, 55, 53, 56, 53, 57, 54, 48, 54, 49, 54, 50, 54, 51, 54, 52, 54, 53, 54, 54, 54, 55, 54, 56, 54, 57, 55, 48, 55, 49, 55, 50, 55, 51, 55, 52].append [55, 53, 55, 54, 55, 55, 55, 56, 55, 57, 56, 48, 56, 49, 56, 50, 56, 51, 56, 52, 56, 53, 56, 54, 56, 55, 56, 56, 56, 57, 57, 48, 57, 49, 57, 50, 57, 51, 57, 52, 57, 53, 57, 54, 57, 55, 57, 56, 57, 57]))).toArray⟩ : ByteArray) = bs smallsL := rfl
theorem sm_len : smallsL.length = 200 := by decide +kernel
theorem sm_even : ∀ j, j < 100 → smallsL.getD (j * 2) 0 = UInt8.ofNat (48 + j / 10) := by decide +kernel
theorem sm_odd : ∀ j, j < 100 → smallsL.getD (j * 2 + 1) 0 = UInt8.ofNat (48 + j % 10) := by decide +kernel
theorem take_app {α : Type} (P L : List α) (k : Nat) : List.take (P.length + k) (P ++ L) = P ++ List.take k L := by simp [List.take_append, List.take_of_length_le]
theorem drop_app {α : Type} (P L : List α) (k : Nat) : List.drop (P.length + k + 1) (P ++ L) = List.drop (k + 1) L := by
  rw [Nat.add_assoc]
  simp [List.drop_append, List.drop_of_length_le]
theorem take_app0 {α : Type} (P L : List α) : List.take P.length (P ++ L) = P := by simp
theorem drop_app0 {α : Type} (P L : List α) : List.drop (P.length + 1) (P ++ L) = List.drop 1 L := by
  simp [List.drop_append, List.drop_of_length_le]
theorem s81 (m : Nat) : (((m + 8 : Nat) : Int) - 1).toNat = m + 7 := by omega
theorem s82 (m : Nat) : (((m + 8 : Nat) : Int) - 2).toNat = m + 6 := by omega
theorem s83 (m : Nat) : (((m + 8 : Nat) : Int) - 3).toNat = m + 5 := by omega
theorem s84 (m : Nat) : (((m + 8 : Nat) : Int) - 4).toNat = m + 4 := by omega
theorem s85 (m : Nat) : (((m + 8 : Nat) : Int) - 5).toNat = m + 3 := by omega
theorem s86 (m : Nat) : (((m + 8 : Nat) : Int) - 6).toNat = m + 2 := by omega
theorem s87 (m : Nat) : (((m + 8 : Nat) : Int) - 7).toNat = m + 1 := by omega
theorem s88 (m : Nat) : (((m + 8 : Nat) : Int) - 8).toNat = m := by omega
theorem smE {k : Nat} (h : k < 100) : (smallsL.getD (k * 2) 0).toNat = 48 + k / 10 := by
  rw [sm_even k h, UInt8.toNat_ofNat']
  omega
theorem smO {k : Nat} (h : k < 100) : (smallsL.getD (k * 2 + 1) 0).toNat = 48 + k % 10 := by
  rw [sm_odd k h, UInt8.toNat_ofNat']
  omega
theorem nz8 : ((100000000 : Int) = 0) = False := by simp
theorem nz4 : ((10000 : Int) = 0) = False := by simp
theorem nz2 : ((100 : Int) = 0) = False := by simp
theorem tm8 (v : Nat) : (v : Int).tmod 100000000 = ((v % 100000000 : Nat) : Int) := rfl
theorem tm4 (v : Nat) : (v : Int).tmod 10000 = ((v % 10000 : Nat) : Int) := rfl
theorem tm2 (v : Nat) : (v : Int).tmod 100 = ((v % 100 : Nat) : Int) := rfl
theorem td8 (v : Nat) : (v : Int).tdiv 100000000 = ((v / 100000000 : Nat) : Int) := rfl
theorem td4 (v : Nat) : (v : Int).tdiv 10000 = ((v / 10000 : Nat) : Int) := rfl
theorem td2 (v : Nat) : (v : Int).tdiv 100 = ((v / 100 : Nat) : Int) := rfl
theorem cm2 (v : Nat) : (v : Int) * 2 = ((v * 2 : Nat) : Int) := rfl
theorem ca1 (v : Nat) : (v : Int) + 1 = ((v + 1 : Nat) : Int) := rfl
theorem wr32 (v : Nat) : IntKind.u32.wrap (v : Int) = ((v % 4294967296 : Nat) : Int) := rfl
theorem wr64 (v : Nat) : IntKind.u64.wrap (v : Int) = ((v % 18446744073709551616 : Nat) : Int) := rfl
theorem wrN {n : Nat} (h : n < 4294967296) : IntKind.u32.wrap (n : Int) = n := by rw [wr32, Nat.mod_eq_of_lt h]
theorem wrM {n : Nat} (h : n < 18446744073709551616) : IntKind.u64.wrap (n : Int) = n := by rw [wr64, Nat.mod_eq_of_lt h]
/-- Digits as cells. -/
def u8s (l : List UInt8) : List AV := l.map fun c => AV.u8 c.toNat
theorem u8s_app (a b : List UInt8) : u8s (a ++ b) = u8s a ++ u8s b := by simp [u8s]
theorem u8s_len (a : List UInt8) : (u8s a).length = a.length := by simp [u8s]
end Go.Lex
namespace Go.Proofs.YtpfancgcamclnaaDoor
open Go Go.V Go.Lex
theorem len8 {l : List AV} (h : l.length = 8) : ∃ a b c d e f g i, l = [a, b, c, d, e, f, g, i] := by
  match l, h with
  | [a, b, c, d, e, f, g, i], _ => exact ⟨a, b, c, d, e, f, g, i, rfl⟩
end Go.Proofs.YtpfancgcamclnaaDoor

set_option linter.unusedSimpArgs false
set_option linter.unusedVariables false
namespace Go.Proofs.YtpfancgcamclnaaDoor
open Go Go.V Go.Lex
theorem cutq {P : Program} {H : Nat → Hint} {n : Nat} {Q : VX → (Nat → AV) → Sg → Prop} {ρ : Nat → AV} {σ : Sg} {α : Type} {x y : Code} (Inv : α → Prop) (vals : α → List (Nat × AV)) (sg : α → Sg) (h : VW P H n x (sq (At Inv vals sg) Q) ρ σ) (h' : ∀ z, Inv z → VW P H n y Q (env (vals z)) (sg z)) : VW P H n x (sq (VW P H n y Q) Q) ρ σ := by
  refine h.mono (fun e ρ σ hq => ?_)
  cases e with
  | normal =>
    obtain ⟨z, hz, hs, hv⟩ := hq
    exact ((h' z hz).weak (Holds.weak hv)).forget hs
  | exit id => exact hq
  | ret => exact hq
theorem cut_list (A mid : List AV) (m n off : Nat) (hA : A.length = off) (hmn : m + n ≤ mid.length) : ∃ P E : List AV, A ++ mid.take m = P ∧ P.length = off + m ∧ E.length = n ∧ A ++ mid.take (m + n) = P ++ E :=
  ⟨_, (mid.drop m).take n, rfl, by simp; omega, by simp; omega, by rw [List.take_add, List.append_assoc]⟩
theorem len4 {l : List AV} (h : l.length = 4) : ∃ a b c d, l = [a, b, c, d] := by
  match l, h with
  | [a, b, c, d], _ => exact ⟨a, b, c, d, rfl⟩
theorem len2 {l : List AV} (h : l.length = 2) : ∃ a b, l = [a, b] := by
  match l, h with
  | [a, b], _ => exact ⟨a, b, rfl⟩
theorem cons_u8 {a b : Nat} {T T' : List AV} (h : a = b) (h' : T = T') : AV.u8 a :: T = AV.u8 b :: T' := by rw [h, h']
theorem u8s8 (x : Nat) (hx : x < 100000000) (T : List AV) : u8s (padD 8 x) ++ T = .u8 (48 + x / 10000 / 100 / 10 : Nat) :: .u8 (48 + x / 10000 / 100 % 10 : Nat) :: .u8 (48 + x / 10000 % 100 / 10 : Nat) :: .u8 (48 + x / 10000 % 100 % 10 : Nat) :: .u8 (48 + x % 10000 / 100 / 10 : Nat) :: .u8 (48 + x % 10000 / 100 % 10 : Nat) :: .u8 (48 + x % 10000 % 100 / 10 : Nat) :: .u8 (48 + x % 10000 % 100 % 10 : Nat) :: T := by
  rw [pad8]
  simp only [u8s, List.map_cons, List.map_nil, List.cons_append, List.nil_append, UInt8.toNat_ofNat']
  repeat (refine cons_u8 (by omega) ?_)
  rfl
theorem u8s4 (x : Nat) (hx : x < 10000) (T : List AV) : u8s (padD 4 x) ++ T = .u8 (48 + x / 100 / 10 : Nat) :: .u8 (48 + x / 100 % 10 : Nat) :: .u8 (48 + x % 100 / 10 : Nat) :: .u8 (48 + x % 100 % 10 : Nat) :: T := by
  rw [pad4]
  simp only [u8s, List.map_cons, List.map_nil, List.cons_append, List.nil_append, UInt8.toNat_ofNat']
  repeat (refine cons_u8 (by omega) ?_)
  rfl
theorem u8s2 (x : Nat) (hx : x < 100) (T : List AV) : u8s (padD 2 x) ++ T = .u8 (48 + x / 10 : Nat) :: .u8 (48 + x % 10 : Nat) :: T := by
  rw [pad2]
  simp only [u8s, List.map_cons, List.map_nil, List.cons_append, List.nil_append, UInt8.toNat_ofNat']
  repeat (refine cons_u8 (by omega) ?_)
  rfl
theorem pad_lt (k m v : Nat) (h : v < 10 ^ (m + k)) : v / 10 ^ k < 10 ^ m := Nat.div_lt_of_lt_mul (by rw [Nat.pow_add, Nat.mul_comm] at h; exact h)
theorem padD_mod : ∀ (k v : Nat), padD k (v % 10 ^ k) = padD k v
  | 0, _ => rfl
  | k + 1, v => by
    have e1 : v % 10 ^ (k + 1) / 10 = v / 10 % 10 ^ k := by rw [Nat.pow_succ, Nat.mul_comm]; exact Nat.mod_mul_right_div_self ..
    have e2 : v % 10 ^ (k + 1) % 10 = v % 10 := by rw [Nat.pow_succ, Nat.mul_comm]; exact Nat.mod_mul_right_mod ..
    rw [padD, e1, e2, padD_mod k, padD]
theorem pad_next (k m v : Nat) (dn L : List UInt8) (h : padD (m + k) v ++ dn = L) : padD m (v / 10 ^ k) ++ (padD k (v % 10 ^ k) ++ dn) = L := by
  rw [← h, padD_add, padD_mod, List.append_assoc]
end Go.Proofs.YtpfancgcamclnaaDoor

set_option linter.unusedSimpArgs false
set_option linter.unusedVariables false
namespace Go.Proofs.YtpfancgcamclnaaDoor
open Go Go.V Go.Lex
set_option maxHeartbeats 4000000 in
set_option maxRecDepth 100000 in
theorem e44 (β off ND u : Nat) (A mid D : List AV) (σ : Sg) (hβ : σ β = some (.cells 72 (A ++ mid ++ D))) (hA : A.length = off) (hm : mid.length = ND) (hu : u < 10 ^ ND) (h64 : u < 2 ^ 64) (hND : ND ≤ 20) :
    VCalls Tryd.prog 44 [.ms β off ND 1, .val (.int .u64 u)] σ (fun x σ' => x = .tup [] ∧ σ' = σ.set β (.cells 72 (A ++ u8s (padD ND u) ++ D))) := by
  (refine vfun (fun _ => .no) mixed Tryd.func44 (by kernel_rfl) ?_; simp only [bodyOf, Tryd.f44, Option.getD_some])
  simp only [sm_fold]
  repeat' (first | with_reducible rfl | exact .inr trivial | with_reducible apply And.intro | with_reducible apply vqx_step | with_reducible apply vqm_step | with_reducible refine vkp_free (by decide +kernel) ?_ | with_reducible intro _ | ((first | (with_reducible first | refine .rs ?_ | refine .ds (by kernel_rfl) ?_ | refine .dg (by kernel_rfl) ?_ | refine .rg ?_ | refine .ite ?_ | refine .ret ?_ | refine .skip ?_ | refine .exit ?_ | refine .scope ?_ | refine .seq (.label ?_) | refine .block ?_ | refine .seq ?_) | (simp (disch := first | assumption | (apply Go.Cert.ne_of2; assumption; assumption) | (apply Go.Cert.ne_ob; assumption; assumption; (intro e; cases e; done)) | omega) only [w64, w8, tg_eq, Go.V.n1, Go.V.n2, Go.V.nn, Int.tdiv_eq_ediv_of_nonneg, Sg.set_same, Sg.set_ne, Sg.set_ne', Sg.del_ne, Sg.del_ne'])); (try simp only [vO, vQ, ↓vP, vE, vS, vB, vL, vF, vM, vN, vbs_full, Nat.reduceEqDiff, Nat.reduceAdd, Nat.reduceLeDiff, ne_eq, not_false_eq_true, Nat.reduceMul, Nat.reduceSub, Int.toNat_zero, Int.reduceToNat, Tryd.underlying3, info3, Tryd.underlying51, info51, Tryd.underlying73, info73, Tryd.underlying83, info83, Tryd.underlying5, info5, Tryd.underlying9, info9, vT])) | with_reducible refine vfresh_set ?_ | with_reducible refine vfresh_intro (fun _ _ => ?_) | with_reducible refine vif_intro (fun _ => ?_) (fun _ => ?_) | omega | ((with_reducible first | refine vop_at ?_ | refine vops_at ?_ | refine vquiet_at ?_ | refine vmix_at ?_ | refine Holds_at ?_); simp only [vO, vQ, ↓vP, vE, vS, vB, vL, vF, vM, vN, vbs_full, Nat.reduceEqDiff, Nat.reduceAdd, Nat.reduceLeDiff, ne_eq, not_false_eq_true, Nat.reduceMul, Nat.reduceSub, Int.toNat_zero, Int.reduceToNat, Tryd.underlying3, info3, Tryd.underlying51, info51, Tryd.underlying73, info73, Tryd.underlying83, info83, Tryd.underlying5, info5, Tryd.underlying9, info9, vT]))
  refine VW.loop3 ND u ([] : List UInt8) (fun nd v dn => nd ≤ ND ∧ padD nd v ++ dn = padD ND u ∧ v < 10 ^ nd ∧ v < 2 ^ 64) (fun nd v _ => [(0, .ms β off ND 1), (1, .val (.int .u64 v)), (4, .i nd)]) (fun nd _ dn => σ.set β (.cells 72 (A ++ mid.take nd ++ (u8s dn ++ D)))) (fun nd _ _ => nd) ⟨Nat.le_refl _, by simp, hu, h64⟩ ?_ ?_ ?_
  · rw [List.take_of_length_le (by omega)]
    show (σ.set β (.cells 72 (A ++ mid ++ ([] ++ D)))).sub σ
    rw [List.nil_append, Sg.set_id hβ]
    exact .refl _
  · simp only [vO, vQ, ↓vP, vE, vS, vB, vL, vF, vM, vN, vbs_full, Nat.reduceEqDiff, Nat.reduceAdd, Nat.reduceLeDiff, ne_eq, not_false_eq_true, Nat.reduceMul, Nat.reduceSub, Int.toNat_zero, Int.reduceToNat, vT]
    all_goals rfl
  rintro nd v dn ⟨g1, g2, g3, g4⟩
  by_cases h8 : 8 ≤ nd
  · obtain ⟨m, rfl⟩ : ∃ m, nd = m + 8 := ⟨nd - 8, by omega⟩
    obtain ⟨P, E, hPe, hP, hE, hc⟩ := cut_list A mid m 8 off hA (by omega)
    obtain ⟨a, b, c, d, e, f, g, i, rfl⟩ := len8 hE
    have hc2 : A ++ mid.take (m + 8) ++ (u8s dn ++ D) = P ++ a :: b :: c :: d :: e :: f :: g :: i :: (u8s dn ++ D) := by rw [hc]; simp
    rw [hc2]
    clear hc2
    have hleaf : ∀ S, (σ.set β (.cells 72 (A ++ mid.take m ++ (u8s (padD 8 (v % 10 ^ 8) ++ dn) ++ D)))).sub S ↔ (σ.set β (.cells 72 (P ++ (u8s (padD 8 (v % 100000000)) ++ (u8s dn ++ D))))).sub S := fun S => by rw [hPe, u8s_app, List.append_assoc]
    rw [u8s8 _ (by omega)] at hleaf
    generalize hT : u8s dn ++ D = T at *
    simp only [vO, vQ, ↓vP, vE, vS, vB, vL, vF, vM, vN, vbs_full, Nat.reduceEqDiff, Nat.reduceAdd, Nat.reduceLeDiff, ne_eq, not_false_eq_true, Nat.reduceMul, Nat.reduceSub, Int.toNat_zero, Int.reduceToNat, vT]
    iterate 12 (all_goals (try ((first | (with_reducible first | refine .rs ?_ | refine .ds (by kernel_rfl) ?_ | refine .dg (by kernel_rfl) ?_ | refine .rg ?_ | refine .ite ?_ | refine .ret ?_ | refine .skip ?_ | refine .exit ?_ | refine .scope ?_ | refine .seq (.label ?_) | refine .block ?_ | refine .seq ?_)); (try simp only [vO, vQ, ↓vP, vE, vS, vB, vL, vF, vM, vN, vbs_full, Nat.reduceEqDiff, Nat.reduceAdd, Nat.reduceLeDiff, ne_eq, not_false_eq_true, Nat.reduceMul, Nat.reduceSub, Int.toNat_zero, Int.reduceToNat, Tryd.underlying3, info3, Tryd.underlying51, info51, Tryd.underlying73, info73, Tryd.underlying83, info83, Tryd.underlying5, info5, Tryd.underlying9, info9, vT]))))
    refine vif_intro (fun _ => ?_) (fun h => absurd (show (8:Int) ≤ ((m+8 : Nat) : Int) by omega) h)
    iterate 7 ((first | (with_reducible first | refine .rs ?_ | refine .ds (by kernel_rfl) ?_ | refine .dg (by kernel_rfl) ?_ | refine .rg ?_ | refine .ite ?_ | refine .ret ?_ | refine .skip ?_ | refine .exit ?_ | refine .scope ?_ | refine .seq (.label ?_) | refine .block ?_ | refine .seq ?_)); (try simp only [vO, vQ, ↓vP, vE, vS, vB, vL, vF, vM, vN, vbs_full, Nat.reduceEqDiff, Nat.reduceAdd, Nat.reduceLeDiff, ne_eq, not_false_eq_true, Nat.reduceMul, Nat.reduceSub, Int.toNat_zero, Int.reduceToNat, Tryd.underlying3, info3, Tryd.underlying51, info51, Tryd.underlying73, info73, Tryd.underlying83, info83, Tryd.underlying5, info5, Tryd.underlying9, info9, nz8, nz4, nz2, not_false_eq_true, true_and, vT]))
    simp (disch := omega) only [tm8, td8, wrN, wrM, tm4, td4, tm2, td2, cm2]
    refine VW.weak (Holds.weak (vals := [(0, .ms β off ND 1), (1, .val (.int .u64 (v / 100000000 : Nat))), (4, .i (m + 8 : Nat)), (8, .val (.int .u32 (v % 100000000 % 10000 / 100 * 2 : Nat))), (9, .val (.int .u32 (v % 100000000 % 10000 % 100 * 2 : Nat))), (10, .val (.int .u32 (v % 100000000 / 10000 / 100 * 2 : Nat))), (11, .val (.int .u32 (v % 100000000 / 10000 % 100 * 2 : Nat)))]) ?_) ?_
    · refine Holds_at ?_
      simp only [vO, vQ, ↓vP, vE, vS, vB, vL, vF, vM, vN, vbs_full, Nat.reduceEqDiff, Nat.reduceAdd, Nat.reduceLeDiff, ne_eq, not_false_eq_true, Nat.reduceMul, Nat.reduceSub, Int.toNat_zero, Int.reduceToNat, vT]
    have j1 : v % 100000000 % 10000 % 100 < 100 := by omega
    have j2 : v % 100000000 % 10000 / 100 < 100 := by omega
    have j3 : v % 100000000 / 10000 % 100 < 100 := by omega
    have j4 : v % 100000000 / 10000 / 100 < 100 := by omega
    generalize v % 100000000 % 10000 % 100 = k1 at *
    generalize v % 100000000 % 10000 / 100 = k2 at *
    generalize v % 100000000 / 10000 % 100 = k3 at *
    generalize v % 100000000 / 10000 / 100 = k4 at *
    generalize hw : v / 100000000 = w at *
    have hm64 : m + 8 < 2 ^ 63 := by omega
    have hw1 : IntKind.i64.wrap (((m + 8 : Nat) : Int) - 1) = ((m + 7 : Nat) : Int) := by rw [w64 (by omega) (by omega)]; omega
    have hw2 : IntKind.i64.wrap (((m + 8 : Nat) : Int) - 2) = ((m + 6 : Nat) : Int) := by rw [w64 (by omega) (by omega)]; omega
    have hw3 : IntKind.i64.wrap (((m + 8 : Nat) : Int) - 3) = ((m + 5 : Nat) : Int) := by rw [w64 (by omega) (by omega)]; omega
    have hw4 : IntKind.i64.wrap (((m + 8 : Nat) : Int) - 4) = ((m + 4 : Nat) : Int) := by rw [w64 (by omega) (by omega)]; omega
    have hw5 : IntKind.i64.wrap (((m + 8 : Nat) : Int) - 5) = ((m + 3 : Nat) : Int) := by rw [w64 (by omega) (by omega)]; omega
    have hw6 : IntKind.i64.wrap (((m + 8 : Nat) : Int) - 6) = ((m + 2 : Nat) : Int) := by rw [w64 (by omega) (by omega)]; omega
    have hw7 : IntKind.i64.wrap (((m + 8 : Nat) : Int) - 7) = ((m + 1 : Nat) : Int) := by rw [w64 (by omega) (by omega)]; omega
    have hw8 : IntKind.i64.wrap (((m + 8 : Nat) : Int) - 8) = ((m : Nat) : Int) := by rw [w64 (by omega) (by omega)]; omega
    have ho1 : off + (m + 7) = P.length + 7 := by omega
    have ho2 : off + (m + 6) = P.length + 6 := by omega
    have ho3 : off + (m + 5) = P.length + 5 := by omega
    have ho4 : off + (m + 4) = P.length + 4 := by omega
    have ho5 : off + (m + 3) = P.length + 3 := by omega
    have ho6 : off + (m + 2) = P.length + 2 := by omega
    have ho7 : off + (m + 1) = P.length + 1 := by omega
    have ho8 : off + m = P.length := by omega
    have hu1 : IntKind.u32.wrap ((k1 * 2 + 1 : Nat) : Int) = ((k1 * 2 + 1 : Nat) : Int) := wrN (by omega)
    have hu2 : IntKind.u32.wrap ((k2 * 2 + 1 : Nat) : Int) = ((k2 * 2 + 1 : Nat) : Int) := wrN (by omega)
    have hu3 : IntKind.u32.wrap ((k3 * 2 + 1 : Nat) : Int) = ((k3 * 2 + 1 : Nat) : Int) := wrN (by omega)
    have hu4 : IntKind.u32.wrap ((k4 * 2 + 1 : Nat) : Int) = ((k4 * 2 + 1 : Nat) : Int) := wrN (by omega)
    refine VW.cut (α := Unit) (fun _ => True) (fun _ => [(0, .ms β off ND 1), (1, .val (.int .u64 (w : Nat))), (4, .i (m + 8 : Nat)), (8, .val (.int .u32 (k2 * 2 : Nat))), (10, .val (.int .u32 (k4 * 2 : Nat))), (11, .val (.int .u32 (k3 * 2 : Nat)))]) (fun _ => σ.set β (.cells 72 (P ++ a :: b :: c :: d :: e :: f :: .u8 (48 + k1 / 10 : Nat) :: .u8 (48 + k1 % 10 : Nat) :: T))) ?_ (fun _ _ => ?_)
    · clear hu g3 g2 h64 g4 hE hc hND hleaf
      repeat' (first | with_reducible rfl | exact .inr trivial | with_reducible apply And.intro | with_reducible apply vqx_step | with_reducible apply vqm_step | with_reducible refine vkp_free (by decide +kernel) ?_ | with_reducible intro _ | ((with_reducible refine .dm (fun _ => False) [(0, false), (1, false), (2, false), (3, false), (4, false), (5, false), (6, false), (7, false), (8, false), (9, false), (10, false), (11, false), (12, true), (13, false), (14, true)] (by decide) (by decide +kernel) ?_); (simp only [vO, vQ, ↓vP, vE, vS, vB, vL, vF, vM, vN, vbs_full, Nat.reduceEqDiff, Nat.reduceAdd, Nat.reduceLeDiff, ne_eq, not_false_eq_true, Nat.reduceMul, Nat.reduceSub, Int.toNat_zero, Int.reduceToNat, Tryd.underlying3, info3, Tryd.underlying51, info51, Tryd.underlying73, info73, Tryd.underlying83, info83, Tryd.underlying5, info5, Tryd.underlying9, info9, ca1, cm2, hu1, hw1, hw2, Int.toNat_natCast, Nat.mul_one, ho1, ho2, take_app0, take_app, drop_app0, drop_app, List.length_append, sm_len, vT])) | ((first | (with_reducible first | refine .rs ?_ | refine .ds (by kernel_rfl) ?_ | refine .dg (by kernel_rfl) ?_ | refine .rg ?_ | refine .ite ?_ | refine .ret ?_ | refine .skip ?_ | refine .exit ?_ | refine .scope ?_ | refine .seq (.label ?_) | refine .block ?_ | refine .seq ?_) | (simp (disch := first | assumption | (apply Go.Cert.ne_of2; assumption; assumption) | (apply Go.Cert.ne_ob; assumption; assumption; (intro e; cases e; done)) | omega) only [w64, w8, tg_eq, Go.V.n1, Go.V.n2, Go.V.nn, Int.tdiv_eq_ediv_of_nonneg, Sg.set_same, Sg.set_ne, Sg.set_ne', Sg.del_ne, Sg.del_ne']) | with_reducible refine vkp_keep (fun _ h => h.elim) ?_ | (refine vlo_app (by first | assumption | ((simp (disch := first | assumption | (apply Go.Cert.ne_of2; assumption; assumption) | (apply Go.Cert.ne_ob; assumption; assumption; (intro e; cases e; done)) | omega) only [Sg.set_same, Sg.set_ne, Sg.set_ne', Sg.del_ne, Sg.del_ne']); first | done | rfl | assumption)) ?_) | (refine vst_app (by first | assumption | ((simp (disch := first | assumption | (apply Go.Cert.ne_of2; assumption; assumption) | (apply Go.Cert.ne_ob; assumption; assumption; (intro e; cases e; done)) | omega) only [Sg.set_same, Sg.set_ne, Sg.set_ne', Sg.del_ne, Sg.del_ne']); first | done | rfl | assumption)) ?_)); (try simp only [vO, vQ, ↓vP, vE, vS, vB, vL, vF, vM, vN, vbs_full, Nat.reduceEqDiff, Nat.reduceAdd, Nat.reduceLeDiff, ne_eq, not_false_eq_true, Nat.reduceMul, Nat.reduceSub, Int.toNat_zero, Int.reduceToNat, Tryd.underlying3, info3, Tryd.underlying51, info51, Tryd.underlying73, info73, Tryd.underlying83, info83, Tryd.underlying5, info5, Tryd.underlying9, info9, ca1, cm2, hu1, hw1, hw2, Int.toNat_natCast, Nat.mul_one, ho1, ho2, take_app0, take_app, drop_app0, drop_app, List.length_append, sm_len, vT])) | with_reducible refine vfresh_set ?_ | with_reducible refine vfresh_intro (fun _ _ => ?_) | with_reducible refine vif_intro (fun _ => ?_) (fun _ => ?_) | omega | ((with_reducible first | refine vop_at ?_ | refine vops_at ?_ | refine vquiet_at ?_ | refine vmix_at ?_ | refine Holds_at ?_); simp only [vO, vQ, ↓vP, vE, vS, vB, vL, vF, vM, vN, vbs_full, Nat.reduceEqDiff, Nat.reduceAdd, Nat.reduceLeDiff, ne_eq, not_false_eq_true, Nat.reduceMul, Nat.reduceSub, Int.toNat_zero, Int.reduceToNat, Tryd.underlying3, info3, Tryd.underlying51, info51, Tryd.underlying73, info73, Tryd.underlying83, info83, Tryd.underlying5, info5, Tryd.underlying9, info9, ca1, cm2, hu1, hw1, hw2, Int.toNat_natCast, Nat.mul_one, ho1, ho2, take_app0, take_app, drop_app0, drop_app, List.length_append, sm_len, vT]))
      · exact ⟨_, _, rfl⟩
      · exact ⟨_, _, rfl⟩
      refine ⟨(), trivial, ?_, Holds_at ?_⟩
      · simp only [vO, vQ, ↓vP, vE, vS, vB, vL, vF, vM, vN, vbs_full, Nat.reduceEqDiff, Nat.reduceAdd, Nat.reduceLeDiff, ne_eq, not_false_eq_true, Nat.reduceMul, Nat.reduceSub, Int.toNat_zero, Int.reduceToNat, vT]
        simp only [smE j1, smO j1, List.append_assoc, take_app, drop_app, take_app0, drop_app0]
        exact .refl _
      · simp only [vO, vQ, ↓vP, vE, vS, vB, vL, vF, vM, vN, vbs_full, Nat.reduceEqDiff, Nat.reduceAdd, Nat.reduceLeDiff, ne_eq, not_false_eq_true, Nat.reduceMul, Nat.reduceSub, Int.toNat_zero, Int.reduceToNat, vT]
    refine VW.cut (α := Unit) (fun _ => True) (fun _ => [(0, .ms β off ND 1), (1, .val (.int .u64 (w : Nat))), (4, .i (m + 8 : Nat)), (10, .val (.int .u32 (k4 * 2 : Nat))), (11, .val (.int .u32 (k3 * 2 : Nat)))]) (fun _ => σ.set β (.cells 72 (P ++ a :: b :: c :: d :: .u8 (48 + k2 / 10 : Nat) :: .u8 (48 + k2 % 10 : Nat) :: .u8 (48 + k1 / 10 : Nat) :: .u8 (48 + k1 % 10 : Nat) :: T))) ?_ (fun _ _ => ?_)
    · clear hu g3 g2 h64 g4 hE hc hND hleaf
      repeat' (first | with_reducible rfl | exact .inr trivial | with_reducible apply And.intro | with_reducible apply vqx_step | with_reducible apply vqm_step | with_reducible refine vkp_free (by decide +kernel) ?_ | with_reducible intro _ | ((with_reducible refine .dm (fun _ => False) [(0, false), (1, false), (2, false), (3, false), (4, false), (5, false), (6, false), (7, false), (8, false), (9, false), (10, false), (11, false), (12, true), (13, false), (14, true)] (by decide) (by decide +kernel) ?_); (simp only [vO, vQ, ↓vP, vE, vS, vB, vL, vF, vM, vN, vbs_full, Nat.reduceEqDiff, Nat.reduceAdd, Nat.reduceLeDiff, ne_eq, not_false_eq_true, Nat.reduceMul, Nat.reduceSub, Int.toNat_zero, Int.reduceToNat, Tryd.underlying3, info3, Tryd.underlying51, info51, Tryd.underlying73, info73, Tryd.underlying83, info83, Tryd.underlying5, info5, Tryd.underlying9, info9, ca1, cm2, hu2, hw3, hw4, Int.toNat_natCast, Nat.mul_one, ho3, ho4, take_app0, take_app, drop_app0, drop_app, List.length_append, sm_len, vT])) | ((first | (with_reducible first | refine .rs ?_ | refine .ds (by kernel_rfl) ?_ | refine .dg (by kernel_rfl) ?_ | refine .rg ?_ | refine .ite ?_ | refine .ret ?_ | refine .skip ?_ | refine .exit ?_ | refine .scope ?_ | refine .seq (.label ?_) | refine .block ?_ | refine .seq ?_) | (simp (disch := first | assumption | (apply Go.Cert.ne_of2; assumption; assumption) | (apply Go.Cert.ne_ob; assumption; assumption; (intro e; cases e; done)) | omega) only [w64, w8, tg_eq, Go.V.n1, Go.V.n2, Go.V.nn, Int.tdiv_eq_ediv_of_nonneg, Sg.set_same, Sg.set_ne, Sg.set_ne', Sg.del_ne, Sg.del_ne']) | with_reducible refine vkp_keep (fun _ h => h.elim) ?_ | (refine vlo_app (by first | assumption | ((simp (disch := first | assumption | (apply Go.Cert.ne_of2; assumption; assumption) | (apply Go.Cert.ne_ob; assumption; assumption; (intro e; cases e; done)) | omega) only [Sg.set_same, Sg.set_ne, Sg.set_ne', Sg.del_ne, Sg.del_ne']); first | done | rfl | assumption)) ?_) | (refine vst_app (by first | assumption | ((simp (disch := first | assumption | (apply Go.Cert.ne_of2; assumption; assumption) | (apply Go.Cert.ne_ob; assumption; assumption; (intro e; cases e; done)) | omega) only [Sg.set_same, Sg.set_ne, Sg.set_ne', Sg.del_ne, Sg.del_ne']); first | done | rfl | assumption)) ?_)); (try simp only [vO, vQ, ↓vP, vE, vS, vB, vL, vF, vM, vN, vbs_full, Nat.reduceEqDiff, Nat.reduceAdd, Nat.reduceLeDiff, ne_eq, not_false_eq_true, Nat.reduceMul, Nat.reduceSub, Int.toNat_zero, Int.reduceToNat, Tryd.underlying3, info3, Tryd.underlying51, info51, Tryd.underlying73, info73, Tryd.underlying83, info83, Tryd.underlying5, info5, Tryd.underlying9, info9, ca1, cm2, hu2, hw3, hw4, Int.toNat_natCast, Nat.mul_one, ho3, ho4, take_app0, take_app, drop_app0, drop_app, List.length_append, sm_len, vT])) | with_reducible refine vfresh_set ?_ | with_reducible refine vfresh_intro (fun _ _ => ?_) | with_reducible refine vif_intro (fun _ => ?_) (fun _ => ?_) | omega | ((with_reducible first | refine vop_at ?_ | refine vops_at ?_ | refine vquiet_at ?_ | refine vmix_at ?_ | refine Holds_at ?_); simp only [vO, vQ, ↓vP, vE, vS, vB, vL, vF, vM, vN, vbs_full, Nat.reduceEqDiff, Nat.reduceAdd, Nat.reduceLeDiff, ne_eq, not_false_eq_true, Nat.reduceMul, Nat.reduceSub, Int.toNat_zero, Int.reduceToNat, Tryd.underlying3, info3, Tryd.underlying51, info51, Tryd.underlying73, info73, Tryd.underlying83, info83, Tryd.underlying5, info5, Tryd.underlying9, info9, ca1, cm2, hu2, hw3, hw4, Int.toNat_natCast, Nat.mul_one, ho3, ho4, take_app0, take_app, drop_app0, drop_app, List.length_append, sm_len, vT]))
      · exact ⟨_, _, rfl⟩
      · exact ⟨_, _, rfl⟩
      refine ⟨(), trivial, ?_, Holds_at ?_⟩
      · simp only [vO, vQ, ↓vP, vE, vS, vB, vL, vF, vM, vN, vbs_full, Nat.reduceEqDiff, Nat.reduceAdd, Nat.reduceLeDiff, ne_eq, not_false_eq_true, Nat.reduceMul, Nat.reduceSub, Int.toNat_zero, Int.reduceToNat, vT]
        simp only [smE j2, smO j2, List.append_assoc, take_app, drop_app, take_app0, drop_app0]
        exact .refl _
      · simp only [vO, vQ, ↓vP, vE, vS, vB, vL, vF, vM, vN, vbs_full, Nat.reduceEqDiff, Nat.reduceAdd, Nat.reduceLeDiff, ne_eq, not_false_eq_true, Nat.reduceMul, Nat.reduceSub, Int.toNat_zero, Int.reduceToNat, vT]
    refine VW.cut (α := Unit) (fun _ => True) (fun _ => [(0, .ms β off ND 1), (1, .val (.int .u64 (w : Nat))), (4, .i (m + 8 : Nat)), (10, .val (.int .u32 (k4 * 2 : Nat)))]) (fun _ => σ.set β (.cells 72 (P ++ a :: b :: .u8 (48 + k3 / 10 : Nat) :: .u8 (48 + k3 % 10 : Nat) :: .u8 (48 + k2 / 10 : Nat) :: .u8 (48 + k2 % 10 : Nat) :: .u8 (48 + k1 / 10 : Nat) :: .u8 (48 + k1 % 10 : Nat) :: T))) ?_ (fun _ _ => ?_)
    · clear hu g3 g2 h64 g4 hE hc hND hleaf
      repeat' (first | with_reducible rfl | exact .inr trivial | with_reducible apply And.intro | with_reducible apply vqx_step | with_reducible apply vqm_step | with_reducible refine vkp_free (by decide +kernel) ?_ | with_reducible intro _ | ((with_reducible refine .dm (fun _ => False) [(0, false), (1, false), (2, false), (3, false), (4, false), (5, false), (6, false), (7, false), (8, false), (9, false), (10, false), (11, false), (12, true), (13, false), (14, true)] (by decide) (by decide +kernel) ?_); (simp only [vO, vQ, ↓vP, vE, vS, vB, vL, vF, vM, vN, vbs_full, Nat.reduceEqDiff, Nat.reduceAdd, Nat.reduceLeDiff, ne_eq, not_false_eq_true, Nat.reduceMul, Nat.reduceSub, Int.toNat_zero, Int.reduceToNat, Tryd.underlying3, info3, Tryd.underlying51, info51, Tryd.underlying73, info73, Tryd.underlying83, info83, Tryd.underlying5, info5, Tryd.underlying9, info9, ca1, cm2, hu3, hw5, hw6, Int.toNat_natCast, Nat.mul_one, ho5, ho6, take_app0, take_app, drop_app0, drop_app, List.length_append, sm_len, vT])) | ((first | (with_reducible first | refine .rs ?_ | refine .ds (by kernel_rfl) ?_ | refine .dg (by kernel_rfl) ?_ | refine .rg ?_ | refine .ite ?_ | refine .ret ?_ | refine .skip ?_ | refine .exit ?_ | refine .scope ?_ | refine .seq (.label ?_) | refine .block ?_ | refine .seq ?_) | (simp (disch := first | assumption | (apply Go.Cert.ne_of2; assumption; assumption) | (apply Go.Cert.ne_ob; assumption; assumption; (intro e; cases e; done)) | omega) only [w64, w8, tg_eq, Go.V.n1, Go.V.n2, Go.V.nn, Int.tdiv_eq_ediv_of_nonneg, Sg.set_same, Sg.set_ne, Sg.set_ne', Sg.del_ne, Sg.del_ne']) | with_reducible refine vkp_keep (fun _ h => h.elim) ?_ | (refine vlo_app (by first | assumption | ((simp (disch := first | assumption | (apply Go.Cert.ne_of2; assumption; assumption) | (apply Go.Cert.ne_ob; assumption; assumption; (intro e; cases e; done)) | omega) only [Sg.set_same, Sg.set_ne, Sg.set_ne', Sg.del_ne, Sg.del_ne']); first | done | rfl | assumption)) ?_) | (refine vst_app (by first | assumption | ((simp (disch := first | assumption | (apply Go.Cert.ne_of2; assumption; assumption) | (apply Go.Cert.ne_ob; assumption; assumption; (intro e; cases e; done)) | omega) only [Sg.set_same, Sg.set_ne, Sg.set_ne', Sg.del_ne, Sg.del_ne']); first | done | rfl | assumption)) ?_)); (try simp only [vO, vQ, ↓vP, vE, vS, vB, vL, vF, vM, vN, vbs_full, Nat.reduceEqDiff, Nat.reduceAdd, Nat.reduceLeDiff, ne_eq, not_false_eq_true, Nat.reduceMul, Nat.reduceSub, Int.toNat_zero, Int.reduceToNat, Tryd.underlying3, info3, Tryd.underlying51, info51, Tryd.underlying73, info73, Tryd.underlying83, info83, Tryd.underlying5, info5, Tryd.underlying9, info9, ca1, cm2, hu3, hw5, hw6, Int.toNat_natCast, Nat.mul_one, ho5, ho6, take_app0, take_app, drop_app0, drop_app, List.length_append, sm_len, vT])) | with_reducible refine vfresh_set ?_ | with_reducible refine vfresh_intro (fun _ _ => ?_) | with_reducible refine vif_intro (fun _ => ?_) (fun _ => ?_) | omega | ((with_reducible first | refine vop_at ?_ | refine vops_at ?_ | refine vquiet_at ?_ | refine vmix_at ?_ | refine Holds_at ?_); simp only [vO, vQ, ↓vP, vE, vS, vB, vL, vF, vM, vN, vbs_full, Nat.reduceEqDiff, Nat.reduceAdd, Nat.reduceLeDiff, ne_eq, not_false_eq_true, Nat.reduceMul, Nat.reduceSub, Int.toNat_zero, Int.reduceToNat, Tryd.underlying3, info3, Tryd.underlying51, info51, Tryd.underlying73, info73, Tryd.underlying83, info83, Tryd.underlying5, info5, Tryd.underlying9, info9, ca1, cm2, hu3, hw5, hw6, Int.toNat_natCast, Nat.mul_one, ho5, ho6, take_app0, take_app, drop_app0, drop_app, List.length_append, sm_len, vT]))
      · exact ⟨_, _, rfl⟩
      · exact ⟨_, _, rfl⟩
      refine ⟨(), trivial, ?_, Holds_at ?_⟩
      · simp only [vO, vQ, ↓vP, vE, vS, vB, vL, vF, vM, vN, vbs_full, Nat.reduceEqDiff, Nat.reduceAdd, Nat.reduceLeDiff, ne_eq, not_false_eq_true, Nat.reduceMul, Nat.reduceSub, Int.toNat_zero, Int.reduceToNat, vT]
        simp only [smE j3, smO j3, List.append_assoc, take_app, drop_app, take_app0, drop_app0]
        exact .refl _
      · simp only [vO, vQ, ↓vP, vE, vS, vB, vL, vF, vM, vN, vbs_full, Nat.reduceEqDiff, Nat.reduceAdd, Nat.reduceLeDiff, ne_eq, not_false_eq_true, Nat.reduceMul, Nat.reduceSub, Int.toNat_zero, Int.reduceToNat, vT]
    refine VW.cut (α := Unit) (fun _ => True) (fun _ => [(0, .ms β off ND 1), (1, .val (.int .u64 (w : Nat))), (4, .i (m + 8 : Nat))]) (fun _ => σ.set β (.cells 72 (P ++ .u8 (48 + k4 / 10 : Nat) :: .u8 (48 + k4 % 10 : Nat) :: .u8 (48 + k3 / 10 : Nat) :: .u8 (48 + k3 % 10 : Nat) :: .u8 (48 + k2 / 10 : Nat) :: .u8 (48 + k2 % 10 : Nat) :: .u8 (48 + k1 / 10 : Nat) :: .u8 (48 + k1 % 10 : Nat) :: T))) ?_ (fun _ _ => ?_)
    · clear hu g3 g2 h64 g4 hE hc hND hleaf
      repeat' (first | with_reducible rfl | exact .inr trivial | with_reducible apply And.intro | with_reducible apply vqx_step | with_reducible apply vqm_step | with_reducible refine vkp_free (by decide +kernel) ?_ | with_reducible intro _ | ((with_reducible refine .dm (fun _ => False) [(0, false), (1, false), (2, false), (3, false), (4, false), (5, false), (6, false), (7, false), (8, false), (9, false), (10, false), (11, false), (12, true), (13, false), (14, true)] (by decide) (by decide +kernel) ?_); (simp only [vO, vQ, ↓vP, vE, vS, vB, vL, vF, vM, vN, vbs_full, Nat.reduceEqDiff, Nat.reduceAdd, Nat.reduceLeDiff, ne_eq, not_false_eq_true, Nat.reduceMul, Nat.reduceSub, Int.toNat_zero, Int.reduceToNat, Tryd.underlying3, info3, Tryd.underlying51, info51, Tryd.underlying73, info73, Tryd.underlying83, info83, Tryd.underlying5, info5, Tryd.underlying9, info9, ca1, cm2, hu4, hw7, hw8, Int.toNat_natCast, Nat.mul_one, ho7, ho8, take_app0, take_app, drop_app0, drop_app, List.length_append, sm_len, vT])) | ((first | (with_reducible first | refine .rs ?_ | refine .ds (by kernel_rfl) ?_ | refine .dg (by kernel_rfl) ?_ | refine .rg ?_ | refine .ite ?_ | refine .ret ?_ | refine .skip ?_ | refine .exit ?_ | refine .scope ?_ | refine .seq (.label ?_) | refine .block ?_ | refine .seq ?_) | (simp (disch := first | assumption | (apply Go.Cert.ne_of2; assumption; assumption) | (apply Go.Cert.ne_ob; assumption; assumption; (intro e; cases e; done)) | omega) only [w64, w8, tg_eq, Go.V.n1, Go.V.n2, Go.V.nn, Int.tdiv_eq_ediv_of_nonneg, Sg.set_same, Sg.set_ne, Sg.set_ne', Sg.del_ne, Sg.del_ne']) | with_reducible refine vkp_keep (fun _ h => h.elim) ?_ | (refine vlo_app (by first | assumption | ((simp (disch := first | assumption | (apply Go.Cert.ne_of2; assumption; assumption) | (apply Go.Cert.ne_ob; assumption; assumption; (intro e; cases e; done)) | omega) only [Sg.set_same, Sg.set_ne, Sg.set_ne', Sg.del_ne, Sg.del_ne']); first | done | rfl | assumption)) ?_) | (refine vst_app (by first | assumption | ((simp (disch := first | assumption | (apply Go.Cert.ne_of2; assumption; assumption) | (apply Go.Cert.ne_ob; assumption; assumption; (intro e; cases e; done)) | omega) only [Sg.set_same, Sg.set_ne, Sg.set_ne', Sg.del_ne, Sg.del_ne']); first | done | rfl | assumption)) ?_)); (try simp only [vO, vQ, ↓vP, vE, vS, vB, vL, vF, vM, vN, vbs_full, Nat.reduceEqDiff, Nat.reduceAdd, Nat.reduceLeDiff, ne_eq, not_false_eq_true, Nat.reduceMul, Nat.reduceSub, Int.toNat_zero, Int.reduceToNat, Tryd.underlying3, info3, Tryd.underlying51, info51, Tryd.underlying73, info73, Tryd.underlying83, info83, Tryd.underlying5, info5, Tryd.underlying9, info9, ca1, cm2, hu4, hw7, hw8, Int.toNat_natCast, Nat.mul_one, ho7, ho8, take_app0, take_app, drop_app0, drop_app, List.length_append, sm_len, vT])) | with_reducible refine vfresh_set ?_ | with_reducible refine vfresh_intro (fun _ _ => ?_) | with_reducible refine vif_intro (fun _ => ?_) (fun _ => ?_) | omega | ((with_reducible first | refine vop_at ?_ | refine vops_at ?_ | refine vquiet_at ?_ | refine vmix_at ?_ | refine Holds_at ?_); simp only [vO, vQ, ↓vP, vE, vS, vB, vL, vF, vM, vN, vbs_full, Nat.reduceEqDiff, Nat.reduceAdd, Nat.reduceLeDiff, ne_eq, not_false_eq_true, Nat.reduceMul, Nat.reduceSub, Int.toNat_zero, Int.reduceToNat, Tryd.underlying3, info3, Tryd.underlying51, info51, Tryd.underlying73, info73, Tryd.underlying83, info83, Tryd.underlying5, info5, Tryd.underlying9, info9, ca1, cm2, hu4, hw7, hw8, Int.toNat_natCast, Nat.mul_one, ho7, ho8, take_app0, take_app, drop_app0, drop_app, List.length_append, sm_len, vT]))
      · exact ⟨_, _, rfl⟩
      · exact ⟨_, _, rfl⟩
      refine ⟨(), trivial, ?_, Holds_at ?_⟩
      · simp only [vO, vQ, ↓vP, vE, vS, vB, vL, vF, vM, vN, vbs_full, Nat.reduceEqDiff, Nat.reduceAdd, Nat.reduceLeDiff, ne_eq, not_false_eq_true, Nat.reduceMul, Nat.reduceSub, Int.toNat_zero, Int.reduceToNat, vT]
        simp only [smE j4, smO j4, List.append_assoc, take_app, drop_app, take_app0, drop_app0]
        exact .refl _
      · simp only [vO, vQ, ↓vP, vE, vS, vB, vL, vF, vM, vN, vbs_full, Nat.reduceEqDiff, Nat.reduceAdd, Nat.reduceLeDiff, ne_eq, not_false_eq_true, Nat.reduceMul, Nat.reduceSub, Int.toNat_zero, Int.reduceToNat, vT]
    repeat' (first | with_reducible rfl | exact .inr trivial | with_reducible apply And.intro | with_reducible apply vqx_step | with_reducible apply vqm_step | with_reducible refine vkp_free (by decide +kernel) ?_ | with_reducible intro _ | ((first | (with_reducible first | refine .rs ?_ | refine .ds (by kernel_rfl) ?_ | refine .dg (by kernel_rfl) ?_ | refine .rg ?_ | refine .ite ?_ | refine .ret ?_ | refine .skip ?_ | refine .exit ?_ | refine .scope ?_ | refine .seq (.label ?_) | refine .block ?_ | refine .seq ?_) | (simp (disch := first | assumption | (apply Go.Cert.ne_of2; assumption; assumption) | (apply Go.Cert.ne_ob; assumption; assumption; (intro e; cases e; done)) | omega) only [w64, w8, tg_eq, Go.V.n1, Go.V.n2, Go.V.nn, Int.tdiv_eq_ediv_of_nonneg, Sg.set_same, Sg.set_ne, Sg.set_ne', Sg.del_ne, Sg.del_ne'])); (try simp only [vO, vQ, ↓vP, vE, vS, vB, vL, vF, vM, vN, vbs_full, Nat.reduceEqDiff, Nat.reduceAdd, Nat.reduceLeDiff, ne_eq, not_false_eq_true, Nat.reduceMul, Nat.reduceSub, Int.toNat_zero, Int.reduceToNat, Tryd.underlying3, info3, Tryd.underlying51, info51, Tryd.underlying73, info73, Tryd.underlying83, info83, Tryd.underlying5, info5, Tryd.underlying9, info9, hw8, vT])) | with_reducible refine vfresh_set ?_ | with_reducible refine vfresh_intro (fun _ _ => ?_) | with_reducible refine vif_intro (fun _ => ?_) (fun _ => ?_) | omega | ((with_reducible first | refine vop_at ?_ | refine vops_at ?_ | refine vquiet_at ?_ | refine vmix_at ?_ | refine Holds_at ?_); simp only [vO, vQ, ↓vP, vE, vS, vB, vL, vF, vM, vN, vbs_full, Nat.reduceEqDiff, Nat.reduceAdd, Nat.reduceLeDiff, ne_eq, not_false_eq_true, Nat.reduceMul, Nat.reduceSub, Int.toNat_zero, Int.reduceToNat, Tryd.underlying3, info3, Tryd.underlying51, info51, Tryd.underlying73, info73, Tryd.underlying83, info83, Tryd.underlying5, info5, Tryd.underlying9, info9, hw8, vT]))
    refine ⟨m, w, padD 8 (v % 10 ^ 8) ++ dn, ⟨⟨by omega, ?_, by rw [← hw]; exact pad_lt 8 m v g3, by rw [← hw]; exact Nat.lt_of_le_of_lt (Nat.div_le_self ..) g4⟩, by omega⟩, (hleaf _).2 (.refl _), rfl, rfl⟩
    rw [← hw]
    exact pad_next 8 m v dn _ g2
  · simp only [vO, vQ, ↓vP, vE, vS, vB, vL, vF, vM, vN, vbs_full, Nat.reduceEqDiff, Nat.reduceAdd, Nat.reduceLeDiff, ne_eq, not_false_eq_true, Nat.reduceMul, Nat.reduceSub, Int.toNat_zero, Int.reduceToNat, vT]
    iterate 12 (all_goals (try ((first | (with_reducible first | refine .rs ?_ | refine .ds (by kernel_rfl) ?_ | refine .dg (by kernel_rfl) ?_ | refine .rg ?_ | refine .ite ?_ | refine .ret ?_ | refine .skip ?_ | refine .exit ?_ | refine .scope ?_ | refine .seq (.label ?_) | refine .block ?_ | refine .seq ?_)); (try simp only [vO, vQ, ↓vP, vE, vS, vB, vL, vF, vM, vN, vbs_full, Nat.reduceEqDiff, Nat.reduceAdd, Nat.reduceLeDiff, ne_eq, not_false_eq_true, Nat.reduceMul, Nat.reduceSub, Int.toNat_zero, Int.reduceToNat, Tryd.underlying3, info3, Tryd.underlying51, info51, Tryd.underlying73, info73, Tryd.underlying83, info83, Tryd.underlying5, info5, Tryd.underlying9, info9, vT]))))
    refine vif_intro (fun h => absurd (show ¬ (8:Int) ≤ (nd : Int) by omega) (not_not_intro h)) (fun _ => ?_)
    iterate 4 ((first | (with_reducible first | refine .rs ?_ | refine .ds (by kernel_rfl) ?_ | refine .dg (by kernel_rfl) ?_ | refine .rg ?_ | refine .ite ?_ | refine .ret ?_ | refine .skip ?_ | refine .exit ?_ | refine .scope ?_ | refine .seq (.label ?_) | refine .block ?_ | refine .seq ?_)); (try simp only [vO, vQ, ↓vP, vE, vS, vB, vL, vF, vM, vN, vbs_full, Nat.reduceEqDiff, Nat.reduceAdd, Nat.reduceLeDiff, ne_eq, not_false_eq_true, Nat.reduceMul, Nat.reduceSub, Int.toNat_zero, Int.reduceToNat, Tryd.underlying3, info3, Tryd.underlying51, info51, Tryd.underlying73, info73, Tryd.underlying83, info83, Tryd.underlying5, info5, Tryd.underlying9, info9, nz8, nz4, nz2, not_false_eq_true, true_and, vT]))
    have hv : v < 10 ^ 7 := Nat.lt_of_lt_of_le g3 (Nat.pow_le_pow_right (by omega) (by omega))
    simp (disch := omega) only [wrN]
    refine VW.weak (Holds.weak (vals := [(0, .ms β off ND 1), (4, .i nd), (12, .val (.int .u32 v)), (99, .b (decide ((4 : Int) ≤ (nd : Int))))]) ?_) ?_
    · refine Holds_at ?_
      simp only [vO, vQ, ↓vP, vE, vS, vB, vL, vF, vM, vN, vbs_full, Nat.reduceEqDiff, Nat.reduceAdd, Nat.reduceLeDiff, ne_eq, not_false_eq_true, Nat.reduceMul, Nat.reduceSub, Int.toNat_zero, Int.reduceToNat, vT]
    clear h8 g4
    refine cutq (α := Nat × Nat × List UInt8) (fun z => z.1 < 4 ∧ z.1 ≤ ND ∧ padD z.1 z.2.1 ++ z.2.2 = padD ND u ∧ z.2.1 < 10 ^ z.1) (fun z => [(0, .ms β off ND 1), (4, .i z.1), (12, .val (.int .u32 (z.2.1 : Nat)))]) (fun z => σ.set β (.cells 72 (A ++ mid.take z.1 ++ (u8s z.2.2 ++ D)))) ?_ ?_
    · by_cases h4 : 4 ≤ nd
      · obtain ⟨m, rfl⟩ : ∃ m, nd = m + 4 := ⟨nd - 4, by omega⟩
        obtain ⟨P, E, hPe, hP, hE, hc⟩ := cut_list A mid m 4 off hA (by omega)
        obtain ⟨a, b, c, d, rfl⟩ := len4 hE
        have hc2 : A ++ mid.take (m + 4) ++ (u8s dn ++ D) = P ++ a :: b :: c :: d :: (u8s dn ++ D) := by rw [hc]; simp
        rw [hc2]
        clear hc2
        have hleaf : ∀ S, (σ.set β (.cells 72 (A ++ mid.take m ++ (u8s (padD 4 (v % 10 ^ 4) ++ dn) ++ D)))).sub S ↔ (σ.set β (.cells 72 (P ++ (u8s (padD 4 (v % 10000)) ++ (u8s dn ++ D))))).sub S := fun S => by rw [hPe, u8s_app, List.append_assoc]
        rw [u8s4 _ (by omega)] at hleaf
        generalize hT : u8s dn ++ D = T at *
        (first | (with_reducible first | refine .rs ?_ | refine .ds (by kernel_rfl) ?_ | refine .dg (by kernel_rfl) ?_ | refine .rg ?_ | refine .ite ?_ | refine .ret ?_ | refine .skip ?_ | refine .exit ?_ | refine .scope ?_ | refine .seq (.label ?_) | refine .block ?_ | refine .seq ?_)); (try simp only [vO, vQ, ↓vP, vE, vS, vB, vL, vF, vM, vN, vbs_full, Nat.reduceEqDiff, Nat.reduceAdd, Nat.reduceLeDiff, ne_eq, not_false_eq_true, Nat.reduceMul, Nat.reduceSub, Int.toNat_zero, Int.reduceToNat, Tryd.underlying3, info3, Tryd.underlying51, info51, Tryd.underlying73, info73, Tryd.underlying83, info83, Tryd.underlying5, info5, Tryd.underlying9, info9, vT])
        refine vif_intro (fun _ => ?_) (fun h => absurd (show (4:Int) ≤ ((m+4 : Nat) : Int) by omega) h)
        iterate 3 ((first | (with_reducible first | refine .rs ?_ | refine .ds (by kernel_rfl) ?_ | refine .dg (by kernel_rfl) ?_ | refine .rg ?_ | refine .ite ?_ | refine .ret ?_ | refine .skip ?_ | refine .exit ?_ | refine .scope ?_ | refine .seq (.label ?_) | refine .block ?_ | refine .seq ?_)); (try simp only [vO, vQ, ↓vP, vE, vS, vB, vL, vF, vM, vN, vbs_full, Nat.reduceEqDiff, Nat.reduceAdd, Nat.reduceLeDiff, ne_eq, not_false_eq_true, Nat.reduceMul, Nat.reduceSub, Int.toNat_zero, Int.reduceToNat, Tryd.underlying3, info3, Tryd.underlying51, info51, Tryd.underlying73, info73, Tryd.underlying83, info83, Tryd.underlying5, info5, Tryd.underlying9, info9, nz8, nz4, nz2, not_false_eq_true, true_and, vT]))
        simp (disch := omega) only [tm4, td4, wrN, tm2, td2, cm2]
        refine VW.weak (Holds.weak (vals := [(0, .ms β off ND 1), (4, .i (m + 4 : Nat)), (12, .val (.int .u32 (v / 10000 : Nat))), (14, .val (.int .u32 (v % 10000 / 100 * 2 : Nat))), (15, .val (.int .u32 (v % 10000 % 100 * 2 : Nat)))]) ?_) ?_
        · refine Holds_at ?_
          simp only [vO, vQ, ↓vP, vE, vS, vB, vL, vF, vM, vN, vbs_full, Nat.reduceEqDiff, Nat.reduceAdd, Nat.reduceLeDiff, ne_eq, not_false_eq_true, Nat.reduceMul, Nat.reduceSub, Int.toNat_zero, Int.reduceToNat, vT]
        have j1 : v % 10000 % 100 < 100 := by omega
        have j2 : v % 10000 / 100 < 100 := by omega
        generalize v % 10000 % 100 = k1 at *
        generalize v % 10000 / 100 = k2 at *
        generalize hw : v / 10000 = w at *
        have hm64 : m + 4 < 2 ^ 63 := by omega
        have hw1 : IntKind.i64.wrap (((m + 4 : Nat) : Int) - 1) = ((m + 3 : Nat) : Int) := by rw [w64 (by omega) (by omega)]; omega
        have hw2 : IntKind.i64.wrap (((m + 4 : Nat) : Int) - 2) = ((m + 2 : Nat) : Int) := by rw [w64 (by omega) (by omega)]; omega
        have hw3 : IntKind.i64.wrap (((m + 4 : Nat) : Int) - 3) = ((m + 1 : Nat) : Int) := by rw [w64 (by omega) (by omega)]; omega
        have hw4 : IntKind.i64.wrap (((m + 4 : Nat) : Int) - 4) = ((m : Nat) : Int) := by rw [w64 (by omega) (by omega)]; omega
        have ho1 : off + (m + 3) = P.length + 3 := by omega
        have ho2 : off + (m + 2) = P.length + 2 := by omega
        have ho3 : off + (m + 1) = P.length + 1 := by omega
        have ho4 : off + m = P.length := by omega
        have hu1 : IntKind.u32.wrap ((k1 * 2 + 1 : Nat) : Int) = ((k1 * 2 + 1 : Nat) : Int) := wrN (by omega)
        have hu2 : IntKind.u32.wrap ((k2 * 2 + 1 : Nat) : Int) = ((k2 * 2 + 1 : Nat) : Int) := wrN (by omega)
        refine VW.cut (α := Unit) (fun _ => True) (fun _ => [(0, .ms β off ND 1), (4, .i (m + 4 : Nat)), (12, .val (.int .u32 (w : Nat))), (14, .val (.int .u32 (k2 * 2 : Nat)))]) (fun _ => σ.set β (.cells 72 (P ++ a :: b :: .u8 (48 + k1 / 10 : Nat) :: .u8 (48 + k1 % 10 : Nat) :: T))) ?_ (fun _ _ => ?_)
        · clear hu g3 g2 h64 hE hc hND hleaf hv
          repeat' (first | with_reducible rfl | exact .inr trivial | with_reducible apply And.intro | with_reducible apply vqx_step | with_reducible apply vqm_step | with_reducible refine vkp_free (by decide +kernel) ?_ | with_reducible intro _ | ((with_reducible refine .dm (fun _ => False) [(0, false), (1, false), (2, false), (3, false), (4, false), (5, false), (6, false), (7, false), (8, false), (9, false), (10, false), (11, false), (12, true), (13, false), (14, true)] (by decide) (by decide +kernel) ?_); (simp only [vO, vQ, ↓vP, vE, vS, vB, vL, vF, vM, vN, vbs_full, Nat.reduceEqDiff, Nat.reduceAdd, Nat.reduceLeDiff, ne_eq, not_false_eq_true, Nat.reduceMul, Nat.reduceSub, Int.toNat_zero, Int.reduceToNat, Tryd.underlying3, info3, Tryd.underlying51, info51, Tryd.underlying73, info73, Tryd.underlying83, info83, Tryd.underlying5, info5, Tryd.underlying9, info9, ca1, cm2, hu1, hw1, hw2, Int.toNat_natCast, Nat.mul_one, ho1, ho2, take_app0, take_app, drop_app0, drop_app, List.length_append, sm_len, vT])) | ((first | (with_reducible first | refine .rs ?_ | refine .ds (by kernel_rfl) ?_ | refine .dg (by kernel_rfl) ?_ | refine .rg ?_ | refine .ite ?_ | refine .ret ?_ | refine .skip ?_ | refine .exit ?_ | refine .scope ?_ | refine .seq (.label ?_) | refine .block ?_ | refine .seq ?_) | (simp (disch := first | assumption | (apply Go.Cert.ne_of2; assumption; assumption) | (apply Go.Cert.ne_ob; assumption; assumption; (intro e; cases e; done)) | omega) only [w64, w8, tg_eq, Go.V.n1, Go.V.n2, Go.V.nn, Int.tdiv_eq_ediv_of_nonneg, Sg.set_same, Sg.set_ne, Sg.set_ne', Sg.del_ne, Sg.del_ne']) | with_reducible refine vkp_keep (fun _ h => h.elim) ?_ | (refine vlo_app (by first | assumption | ((simp (disch := first | assumption | (apply Go.Cert.ne_of2; assumption; assumption) | (apply Go.Cert.ne_ob; assumption; assumption; (intro e; cases e; done)) | omega) only [Sg.set_same, Sg.set_ne, Sg.set_ne', Sg.del_ne, Sg.del_ne']); first | done | rfl | assumption)) ?_) | (refine vst_app (by first | assumption | ((simp (disch := first | assumption | (apply Go.Cert.ne_of2; assumption; assumption) | (apply Go.Cert.ne_ob; assumption; assumption; (intro e; cases e; done)) | omega) only [Sg.set_same, Sg.set_ne, Sg.set_ne', Sg.del_ne, Sg.del_ne']); first | done | rfl | assumption)) ?_)); (try simp only [vO, vQ, ↓vP, vE, vS, vB, vL, vF, vM, vN, vbs_full, Nat.reduceEqDiff, Nat.reduceAdd, Nat.reduceLeDiff, ne_eq, not_false_eq_true, Nat.reduceMul, Nat.reduceSub, Int.toNat_zero, Int.reduceToNat, Tryd.underlying3, info3, Tryd.underlying51, info51, Tryd.underlying73, info73, Tryd.underlying83, info83, Tryd.underlying5, info5, Tryd.underlying9, info9, ca1, cm2, hu1, hw1, hw2, Int.toNat_natCast, Nat.mul_one, ho1, ho2, take_app0, take_app, drop_app0, drop_app, List.length_append, sm_len, vT])) | with_reducible refine vfresh_set ?_ | with_reducible refine vfresh_intro (fun _ _ => ?_) | with_reducible refine vif_intro (fun _ => ?_) (fun _ => ?_) | omega | ((with_reducible first | refine vop_at ?_ | refine vops_at ?_ | refine vquiet_at ?_ | refine vmix_at ?_ | refine Holds_at ?_); simp only [vO, vQ, ↓vP, vE, vS, vB, vL, vF, vM, vN, vbs_full, Nat.reduceEqDiff, Nat.reduceAdd, Nat.reduceLeDiff, ne_eq, not_false_eq_true, Nat.reduceMul, Nat.reduceSub, Int.toNat_zero, Int.reduceToNat, Tryd.underlying3, info3, Tryd.underlying51, info51, Tryd.underlying73, info73, Tryd.underlying83, info83, Tryd.underlying5, info5, Tryd.underlying9, info9, ca1, cm2, hu1, hw1, hw2, Int.toNat_natCast, Nat.mul_one, ho1, ho2, take_app0, take_app, drop_app0, drop_app, List.length_append, sm_len, vT]))
          · exact ⟨_, _, rfl⟩
          · exact ⟨_, _, rfl⟩
          refine ⟨(), trivial, ?_, Holds_at ?_⟩
          · simp only [vO, vQ, ↓vP, vE, vS, vB, vL, vF, vM, vN, vbs_full, Nat.reduceEqDiff, Nat.reduceAdd, Nat.reduceLeDiff, ne_eq, not_false_eq_true, Nat.reduceMul, Nat.reduceSub, Int.toNat_zero, Int.reduceToNat, vT]
            simp only [smE j1, smO j1, List.append_assoc, take_app, drop_app, take_app0, drop_app0]
            exact .refl _
          · simp only [vO, vQ, ↓vP, vE, vS, vB, vL, vF, vM, vN, vbs_full, Nat.reduceEqDiff, Nat.reduceAdd, Nat.reduceLeDiff, ne_eq, not_false_eq_true, Nat.reduceMul, Nat.reduceSub, Int.toNat_zero, Int.reduceToNat, vT]
        refine VW.cut (α := Unit) (fun _ => True) (fun _ => [(0, .ms β off ND 1), (4, .i (m + 4 : Nat)), (12, .val (.int .u32 (w : Nat)))]) (fun _ => σ.set β (.cells 72 (P ++ .u8 (48 + k2 / 10 : Nat) :: .u8 (48 + k2 % 10 : Nat) :: .u8 (48 + k1 / 10 : Nat) :: .u8 (48 + k1 % 10 : Nat) :: T))) ?_ (fun _ _ => ?_)
        · clear hu g3 g2 h64 hE hc hND hleaf hv
          repeat' (first | with_reducible rfl | exact .inr trivial | with_reducible apply And.intro | with_reducible apply vqx_step | with_reducible apply vqm_step | with_reducible refine vkp_free (by decide +kernel) ?_ | with_reducible intro _ | ((with_reducible refine .dm (fun _ => False) [(0, false), (1, false), (2, false), (3, false), (4, false), (5, false), (6, false), (7, false), (8, false), (9, false), (10, false), (11, false), (12, true), (13, false), (14, true)] (by decide) (by decide +kernel) ?_); (simp only [vO, vQ, ↓vP, vE, vS, vB, vL, vF, vM, vN, vbs_full, Nat.reduceEqDiff, Nat.reduceAdd, Nat.reduceLeDiff, ne_eq, not_false_eq_true, Nat.reduceMul, Nat.reduceSub, Int.toNat_zero, Int.reduceToNat, Tryd.underlying3, info3, Tryd.underlying51, info51, Tryd.underlying73, info73, Tryd.underlying83, info83, Tryd.underlying5, info5, Tryd.underlying9, info9, ca1, cm2, hu2, hw3, hw4, Int.toNat_natCast, Nat.mul_one, ho3, ho4, take_app0, take_app, drop_app0, drop_app, List.length_append, sm_len, vT])) | ((first | (with_reducible first | refine .rs ?_ | refine .ds (by kernel_rfl) ?_ | refine .dg (by kernel_rfl) ?_ | refine .rg ?_ | refine .ite ?_ | refine .ret ?_ | refine .skip ?_ | refine .exit ?_ | refine .scope ?_ | refine .seq (.label ?_) | refine .block ?_ | refine .seq ?_) | (simp (disch := first | assumption | (apply Go.Cert.ne_of2; assumption; assumption) | (apply Go.Cert.ne_ob; assumption; assumption; (intro e; cases e; done)) | omega) only [w64, w8, tg_eq, Go.V.n1, Go.V.n2, Go.V.nn, Int.tdiv_eq_ediv_of_nonneg, Sg.set_same, Sg.set_ne, Sg.set_ne', Sg.del_ne, Sg.del_ne']) | with_reducible refine vkp_keep (fun _ h => h.elim) ?_ | (refine vlo_app (by first | assumption | ((simp (disch := first | assumption | (apply Go.Cert.ne_of2; assumption; assumption) | (apply Go.Cert.ne_ob; assumption; assumption; (intro e; cases e; done)) | omega) only [Sg.set_same, Sg.set_ne, Sg.set_ne', Sg.del_ne, Sg.del_ne']); first | done | rfl | assumption)) ?_) | (refine vst_app (by first | assumption | ((simp (disch := first | assumption | (apply Go.Cert.ne_of2; assumption; assumption) | (apply Go.Cert.ne_ob; assumption; assumption; (intro e; cases e; done)) | omega) only [Sg.set_same, Sg.set_ne, Sg.set_ne', Sg.del_ne, Sg.del_ne']); first | done | rfl | assumption)) ?_)); (try simp only [vO, vQ, ↓vP, vE, vS, vB, vL, vF, vM, vN, vbs_full, Nat.reduceEqDiff, Nat.reduceAdd, Nat.reduceLeDiff, ne_eq, not_false_eq_true, Nat.reduceMul, Nat.reduceSub, Int.toNat_zero, Int.reduceToNat, Tryd.underlying3, info3, Tryd.underlying51, info51, Tryd.underlying73, info73, Tryd.underlying83, info83, Tryd.underlying5, info5, Tryd.underlying9, info9, ca1, cm2, hu2, hw3, hw4, Int.toNat_natCast, Nat.mul_one, ho3, ho4, take_app0, take_app, drop_app0, drop_app, List.length_append, sm_len, vT])) | with_reducible refine vfresh_set ?_ | with_reducible refine vfresh_intro (fun _ _ => ?_) | with_reducible refine vif_intro (fun _ => ?_) (fun _ => ?_) | omega | ((with_reducible first | refine vop_at ?_ | refine vops_at ?_ | refine vquiet_at ?_ | refine vmix_at ?_ | refine Holds_at ?_); simp only [vO, vQ, ↓vP, vE, vS, vB, vL, vF, vM, vN, vbs_full, Nat.reduceEqDiff, Nat.reduceAdd, Nat.reduceLeDiff, ne_eq, not_false_eq_true, Nat.reduceMul, Nat.reduceSub, Int.toNat_zero, Int.reduceToNat, Tryd.underlying3, info3, Tryd.underlying51, info51, Tryd.underlying73, info73, Tryd.underlying83, info83, Tryd.underlying5, info5, Tryd.underlying9, info9, ca1, cm2, hu2, hw3, hw4, Int.toNat_natCast, Nat.mul_one, ho3, ho4, take_app0, take_app, drop_app0, drop_app, List.length_append, sm_len, vT]))
          · exact ⟨_, _, rfl⟩
          · exact ⟨_, _, rfl⟩
          refine ⟨(), trivial, ?_, Holds_at ?_⟩
          · simp only [vO, vQ, ↓vP, vE, vS, vB, vL, vF, vM, vN, vbs_full, Nat.reduceEqDiff, Nat.reduceAdd, Nat.reduceLeDiff, ne_eq, not_false_eq_true, Nat.reduceMul, Nat.reduceSub, Int.toNat_zero, Int.reduceToNat, vT]
            simp only [smE j2, smO j2, List.append_assoc, take_app, drop_app, take_app0, drop_app0]
            exact .refl _
          · simp only [vO, vQ, ↓vP, vE, vS, vB, vL, vF, vM, vN, vbs_full, Nat.reduceEqDiff, Nat.reduceAdd, Nat.reduceLeDiff, ne_eq, not_false_eq_true, Nat.reduceMul, Nat.reduceSub, Int.toNat_zero, Int.reduceToNat, vT]
        repeat' (first | with_reducible rfl | exact .inr trivial | with_reducible apply And.intro | with_reducible apply vqx_step | with_reducible apply vqm_step | with_reducible refine vkp_free (by decide +kernel) ?_ | with_reducible intro _ | ((first | (with_reducible first | refine .rs ?_ | refine .ds (by kernel_rfl) ?_ | refine .dg (by kernel_rfl) ?_ | refine .rg ?_ | refine .ite ?_ | refine .ret ?_ | refine .skip ?_ | refine .exit ?_ | refine .scope ?_ | refine .seq (.label ?_) | refine .block ?_ | refine .seq ?_) | (simp (disch := first | assumption | (apply Go.Cert.ne_of2; assumption; assumption) | (apply Go.Cert.ne_ob; assumption; assumption; (intro e; cases e; done)) | omega) only [w64, w8, tg_eq, Go.V.n1, Go.V.n2, Go.V.nn, Int.tdiv_eq_ediv_of_nonneg, Sg.set_same, Sg.set_ne, Sg.set_ne', Sg.del_ne, Sg.del_ne'])); (try simp only [vO, vQ, ↓vP, vE, vS, vB, vL, vF, vM, vN, vbs_full, Nat.reduceEqDiff, Nat.reduceAdd, Nat.reduceLeDiff, ne_eq, not_false_eq_true, Nat.reduceMul, Nat.reduceSub, Int.toNat_zero, Int.reduceToNat, Tryd.underlying3, info3, Tryd.underlying51, info51, Tryd.underlying73, info73, Tryd.underlying83, info83, Tryd.underlying5, info5, Tryd.underlying9, info9, hw4, vT])) | with_reducible refine vfresh_set ?_ | with_reducible refine vfresh_intro (fun _ _ => ?_) | with_reducible refine vif_intro (fun _ => ?_) (fun _ => ?_) | omega | ((with_reducible first | refine vop_at ?_ | refine vops_at ?_ | refine vquiet_at ?_ | refine vmix_at ?_ | refine Holds_at ?_); simp only [vO, vQ, ↓vP, vE, vS, vB, vL, vF, vM, vN, vbs_full, Nat.reduceEqDiff, Nat.reduceAdd, Nat.reduceLeDiff, ne_eq, not_false_eq_true, Nat.reduceMul, Nat.reduceSub, Int.toNat_zero, Int.reduceToNat, Tryd.underlying3, info3, Tryd.underlying51, info51, Tryd.underlying73, info73, Tryd.underlying83, info83, Tryd.underlying5, info5, Tryd.underlying9, info9, hw4, vT]))
        refine ⟨(m, w, padD 4 (v % 10 ^ 4) ++ dn), ⟨by simp only; clear hu h64 g3; omega, by simp only; clear hu h64 g3; omega, ?_, by simp only; rw [← hw]; exact pad_lt 4 m v g3⟩, (hleaf _).2 (.refl _), Holds_at ?_⟩
        · rw [← hw]
          exact pad_next 4 m v dn _ g2
        · simp only [vO, vQ, ↓vP, vE, vS, vB, vL, vF, vM, vN, vbs_full, Nat.reduceEqDiff, Nat.reduceAdd, Nat.reduceLeDiff, ne_eq, not_false_eq_true, Nat.reduceMul, Nat.reduceSub, Int.toNat_zero, Int.reduceToNat, vT]
      · (first | (with_reducible first | refine .rs ?_ | refine .ds (by kernel_rfl) ?_ | refine .dg (by kernel_rfl) ?_ | refine .rg ?_ | refine .ite ?_ | refine .ret ?_ | refine .skip ?_ | refine .exit ?_ | refine .scope ?_ | refine .seq (.label ?_) | refine .block ?_ | refine .seq ?_)); (try simp only [vO, vQ, ↓vP, vE, vS, vB, vL, vF, vM, vN, vbs_full, Nat.reduceEqDiff, Nat.reduceAdd, Nat.reduceLeDiff, ne_eq, not_false_eq_true, Nat.reduceMul, Nat.reduceSub, Int.toNat_zero, Int.reduceToNat, Tryd.underlying3, info3, Tryd.underlying51, info51, Tryd.underlying73, info73, Tryd.underlying83, info83, Tryd.underlying5, info5, Tryd.underlying9, info9, vT])
        refine vif_intro (fun h => absurd (show ¬ (4:Int) ≤ (nd : Int) by omega) (not_not_intro h)) (fun _ => ?_)
        repeat' (first | with_reducible rfl | exact .inr trivial | with_reducible apply And.intro | with_reducible apply vqx_step | with_reducible apply vqm_step | with_reducible refine vkp_free (by decide +kernel) ?_ | with_reducible intro _ | ((first | (with_reducible first | refine .rs ?_ | refine .ds (by kernel_rfl) ?_ | refine .dg (by kernel_rfl) ?_ | refine .rg ?_ | refine .ite ?_ | refine .ret ?_ | refine .skip ?_ | refine .exit ?_ | refine .scope ?_ | refine .seq (.label ?_) | refine .block ?_ | refine .seq ?_) | (simp (disch := first | assumption | (apply Go.Cert.ne_of2; assumption; assumption) | (apply Go.Cert.ne_ob; assumption; assumption; (intro e; cases e; done)) | omega) only [w64, w8, tg_eq, Go.V.n1, Go.V.n2, Go.V.nn, Int.tdiv_eq_ediv_of_nonneg, Sg.set_same, Sg.set_ne, Sg.set_ne', Sg.del_ne, Sg.del_ne'])); (try simp only [vO, vQ, ↓vP, vE, vS, vB, vL, vF, vM, vN, vbs_full, Nat.reduceEqDiff, Nat.reduceAdd, Nat.reduceLeDiff, ne_eq, not_false_eq_true, Nat.reduceMul, Nat.reduceSub, Int.toNat_zero, Int.reduceToNat, Tryd.underlying3, info3, Tryd.underlying51, info51, Tryd.underlying73, info73, Tryd.underlying83, info83, Tryd.underlying5, info5, Tryd.underlying9, info9, vT])) | with_reducible refine vfresh_set ?_ | with_reducible refine vfresh_intro (fun _ _ => ?_) | with_reducible refine vif_intro (fun _ => ?_) (fun _ => ?_) | omega | ((with_reducible first | refine vop_at ?_ | refine vops_at ?_ | refine vquiet_at ?_ | refine vmix_at ?_ | refine Holds_at ?_); simp only [vO, vQ, ↓vP, vE, vS, vB, vL, vF, vM, vN, vbs_full, Nat.reduceEqDiff, Nat.reduceAdd, Nat.reduceLeDiff, ne_eq, not_false_eq_true, Nat.reduceMul, Nat.reduceSub, Int.toNat_zero, Int.reduceToNat, Tryd.underlying3, info3, Tryd.underlying51, info51, Tryd.underlying73, info73, Tryd.underlying83, info83, Tryd.underlying5, info5, Tryd.underlying9, info9, vT]))
        refine ⟨(nd, v, dn), ⟨by simp only; omega, g1, g2, g3⟩, .refl _, Holds_at ?_⟩
        simp only [vO, vQ, ↓vP, vE, vS, vB, vL, vF, vM, vN, vbs_full, Nat.reduceEqDiff, Nat.reduceAdd, Nat.reduceLeDiff, ne_eq, not_false_eq_true, Nat.reduceMul, Nat.reduceSub, Int.toNat_zero, Int.reduceToNat, vT]
    clear hv g1 g2 g3
    rintro ⟨nd, v, dn⟩ ⟨g0, g1, g2, g3⟩
    simp only at g0 g1 g2 g3
    simp only []
    iterate 2 ((first | (with_reducible first | refine .rs ?_ | refine .ds (by kernel_rfl) ?_ | refine .dg (by kernel_rfl) ?_ | refine .rg ?_ | refine .ite ?_ | refine .ret ?_ | refine .skip ?_ | refine .exit ?_ | refine .scope ?_ | refine .seq (.label ?_) | refine .block ?_ | refine .seq ?_)); (try simp only [vO, vQ, ↓vP, vE, vS, vB, vL, vF, vM, vN, vbs_full, Nat.reduceEqDiff, Nat.reduceAdd, Nat.reduceLeDiff, ne_eq, not_false_eq_true, Nat.reduceMul, Nat.reduceSub, Int.toNat_zero, Int.reduceToNat, Tryd.underlying3, info3, Tryd.underlying51, info51, Tryd.underlying73, info73, Tryd.underlying83, info83, Tryd.underlying5, info5, Tryd.underlying9, info9, nz8, nz4, nz2, not_false_eq_true, true_and, vT]))
    refine cutq (α := Nat × Nat × List UInt8) (fun z => z.1 < 2 ∧ z.1 ≤ ND ∧ padD z.1 z.2.1 ++ z.2.2 = padD ND u ∧ z.2.1 < 10 ^ z.1) (fun z => [(0, .ms β off ND 1), (4, .i z.1), (12, .val (.int .u32 (z.2.1 : Nat)))]) (fun z => σ.set β (.cells 72 (A ++ mid.take z.1 ++ (u8s z.2.2 ++ D)))) ?_ ?_
    · have hv : v < 10 ^ 3 := Nat.lt_of_lt_of_le g3 (Nat.pow_le_pow_right (by omega) (by omega))
      by_cases h4 : 2 ≤ nd
      · obtain ⟨m, rfl⟩ : ∃ m, nd = m + 2 := ⟨nd - 2, by omega⟩
        obtain ⟨P, E, hPe, hP, hE, hc⟩ := cut_list A mid m 2 off hA (by omega)
        obtain ⟨a, b, rfl⟩ := len2 hE
        have hc2 : A ++ mid.take (m + 2) ++ (u8s dn ++ D) = P ++ a :: b :: (u8s dn ++ D) := by rw [hc]; simp
        rw [hc2]
        clear hc2
        have hleaf : ∀ S, (σ.set β (.cells 72 (A ++ mid.take m ++ (u8s (padD 2 (v % 10 ^ 2) ++ dn) ++ D)))).sub S ↔ (σ.set β (.cells 72 (P ++ (u8s (padD 2 (v % 100)) ++ (u8s dn ++ D))))).sub S := fun S => by rw [hPe, u8s_app, List.append_assoc]
        rw [u8s2 _ (by omega)] at hleaf
        generalize hT : u8s dn ++ D = T at *
        (first | (with_reducible first | refine .rs ?_ | refine .ds (by kernel_rfl) ?_ | refine .dg (by kernel_rfl) ?_ | refine .rg ?_ | refine .ite ?_ | refine .ret ?_ | refine .skip ?_ | refine .exit ?_ | refine .scope ?_ | refine .seq (.label ?_) | refine .block ?_ | refine .seq ?_)); (try simp only [vO, vQ, ↓vP, vE, vS, vB, vL, vF, vM, vN, vbs_full, Nat.reduceEqDiff, Nat.reduceAdd, Nat.reduceLeDiff, ne_eq, not_false_eq_true, Nat.reduceMul, Nat.reduceSub, Int.toNat_zero, Int.reduceToNat, Tryd.underlying3, info3, Tryd.underlying51, info51, Tryd.underlying73, info73, Tryd.underlying83, info83, Tryd.underlying5, info5, Tryd.underlying9, info9, vT])
        refine vif_intro (fun _ => ?_) (fun h => absurd (show (2:Int) ≤ ((m+2 : Nat) : Int) by omega) h)
        iterate 2 ((first | (with_reducible first | refine .rs ?_ | refine .ds (by kernel_rfl) ?_ | refine .dg (by kernel_rfl) ?_ | refine .rg ?_ | refine .ite ?_ | refine .ret ?_ | refine .skip ?_ | refine .exit ?_ | refine .scope ?_ | refine .seq (.label ?_) | refine .block ?_ | refine .seq ?_)); (try simp only [vO, vQ, ↓vP, vE, vS, vB, vL, vF, vM, vN, vbs_full, Nat.reduceEqDiff, Nat.reduceAdd, Nat.reduceLeDiff, ne_eq, not_false_eq_true, Nat.reduceMul, Nat.reduceSub, Int.toNat_zero, Int.reduceToNat, Tryd.underlying3, info3, Tryd.underlying51, info51, Tryd.underlying73, info73, Tryd.underlying83, info83, Tryd.underlying5, info5, Tryd.underlying9, info9, nz8, nz4, nz2, not_false_eq_true, true_and, vT]))
        simp (disch := omega) only [td4, wrN, tm2, td2, cm2]
        refine VW.weak (Holds.weak (vals := [(0, .ms β off ND 1), (4, .i (m + 2 : Nat)), (12, .val (.int .u32 (v / 100 : Nat))), (16, .val (.int .u32 (v % 100 * 2 : Nat)))]) ?_) ?_
        · refine Holds_at ?_
          simp only [vO, vQ, ↓vP, vE, vS, vB, vL, vF, vM, vN, vbs_full, Nat.reduceEqDiff, Nat.reduceAdd, Nat.reduceLeDiff, ne_eq, not_false_eq_true, Nat.reduceMul, Nat.reduceSub, Int.toNat_zero, Int.reduceToNat, vT]
        have j1 : v % 100 < 100 := by omega
        generalize hk1 : v % 100 = k1 at *
        generalize hw : v / 100 = w at *
        have hm64 : m + 2 < 2 ^ 63 := by omega
        have hw1 : IntKind.i64.wrap (((m + 2 : Nat) : Int) - 1) = ((m + 1 : Nat) : Int) := by rw [w64 (by omega) (by omega)]; omega
        have hw2 : IntKind.i64.wrap (((m + 2 : Nat) : Int) - 2) = ((m : Nat) : Int) := by rw [w64 (by omega) (by omega)]; omega
        have ho1 : off + (m + 1) = P.length + 1 := by omega
        have ho2 : off + m = P.length := by omega
        have hu1 : IntKind.u32.wrap ((k1 * 2 + 1 : Nat) : Int) = ((k1 * 2 + 1 : Nat) : Int) := wrN (by omega)
        refine VW.cut (α := Unit) (fun _ => True) (fun _ => [(0, .ms β off ND 1), (4, .i (m + 2 : Nat)), (12, .val (.int .u32 (w : Nat)))]) (fun _ => σ.set β (.cells 72 (P ++ .u8 (48 + k1 / 10 : Nat) :: .u8 (48 + k1 % 10 : Nat) :: T))) ?_ (fun _ _ => ?_)
        · clear hu g3 g2 h64 hE hc hND hleaf hv
          repeat' (first | with_reducible rfl | exact .inr trivial | with_reducible apply And.intro | with_reducible apply vqx_step | with_reducible apply vqm_step | with_reducible refine vkp_free (by decide +kernel) ?_ | with_reducible intro _ | ((with_reducible refine .dm (fun _ => False) [(0, false), (1, false), (2, false), (3, false), (4, false), (5, false), (6, false), (7, false), (8, false), (9, false), (10, false), (11, false), (12, true), (13, false), (14, true)] (by decide) (by decide +kernel) ?_); (simp only [vO, vQ, ↓vP, vE, vS, vB, vL, vF, vM, vN, vbs_full, Nat.reduceEqDiff, Nat.reduceAdd, Nat.reduceLeDiff, ne_eq, not_false_eq_true, Nat.reduceMul, Nat.reduceSub, Int.toNat_zero, Int.reduceToNat, Tryd.underlying3, info3, Tryd.underlying51, info51, Tryd.underlying73, info73, Tryd.underlying83, info83, Tryd.underlying5, info5, Tryd.underlying9, info9, ca1, cm2, hu1, hw1, hw2, Int.toNat_natCast, Nat.mul_one, ho1, ho2, take_app0, take_app, drop_app0, drop_app, List.length_append, sm_len, vT])) | ((first | (with_reducible first | refine .rs ?_ | refine .ds (by kernel_rfl) ?_ | refine .dg (by kernel_rfl) ?_ | refine .rg ?_ | refine .ite ?_ | refine .ret ?_ | refine .skip ?_ | refine .exit ?_ | refine .scope ?_ | refine .seq (.label ?_) | refine .block ?_ | refine .seq ?_) | (simp (disch := first | assumption | (apply Go.Cert.ne_of2; assumption; assumption) | (apply Go.Cert.ne_ob; assumption; assumption; (intro e; cases e; done)) | omega) only [w64, w8, tg_eq, Go.V.n1, Go.V.n2, Go.V.nn, Int.tdiv_eq_ediv_of_nonneg, Sg.set_same, Sg.set_ne, Sg.set_ne', Sg.del_ne, Sg.del_ne']) | with_reducible refine vkp_keep (fun _ h => h.elim) ?_ | (refine vlo_app (by first | assumption | ((simp (disch := first | assumption | (apply Go.Cert.ne_of2; assumption; assumption) | (apply Go.Cert.ne_ob; assumption; assumption; (intro e; cases e; done)) | omega) only [Sg.set_same, Sg.set_ne, Sg.set_ne', Sg.del_ne, Sg.del_ne']); first | done | rfl | assumption)) ?_) | (refine vst_app (by first | assumption | ((simp (disch := first | assumption | (apply Go.Cert.ne_of2; assumption; assumption) | (apply Go.Cert.ne_ob; assumption; assumption; (intro e; cases e; done)) | omega) only [Sg.set_same, Sg.set_ne, Sg.set_ne', Sg.del_ne, Sg.del_ne']); first | done | rfl | assumption)) ?_)); (try simp only [vO, vQ, ↓vP, vE, vS, vB, vL, vF, vM, vN, vbs_full, Nat.reduceEqDiff, Nat.reduceAdd, Nat.reduceLeDiff, ne_eq, not_false_eq_true, Nat.reduceMul, Nat.reduceSub, Int.toNat_zero, Int.reduceToNat, Tryd.underlying3, info3, Tryd.underlying51, info51, Tryd.underlying73, info73, Tryd.underlying83, info83, Tryd.underlying5, info5, Tryd.underlying9, info9, ca1, cm2, hu1, hw1, hw2, Int.toNat_natCast, Nat.mul_one, ho1, ho2, take_app0, take_app, drop_app0, drop_app, List.length_append, sm_len, vT])) | with_reducible refine vfresh_set ?_ | with_reducible refine vfresh_intro (fun _ _ => ?_) | with_reducible refine vif_intro (fun _ => ?_) (fun _ => ?_) | omega | ((with_reducible first | refine vop_at ?_ | refine vops_at ?_ | refine vquiet_at ?_ | refine vmix_at ?_ | refine Holds_at ?_); simp only [vO, vQ, ↓vP, vE, vS, vB, vL, vF, vM, vN, vbs_full, Nat.reduceEqDiff, Nat.reduceAdd, Nat.reduceLeDiff, ne_eq, not_false_eq_true, Nat.reduceMul, Nat.reduceSub, Int.toNat_zero, Int.reduceToNat, Tryd.underlying3, info3, Tryd.underlying51, info51, Tryd.underlying73, info73, Tryd.underlying83, info83, Tryd.underlying5, info5, Tryd.underlying9, info9, ca1, cm2, hu1, hw1, hw2, Int.toNat_natCast, Nat.mul_one, ho1, ho2, take_app0, take_app, drop_app0, drop_app, List.length_append, sm_len, vT]))
          · exact ⟨_, _, rfl⟩
          · exact ⟨_, _, rfl⟩
          refine ⟨(), trivial, ?_, Holds_at ?_⟩
          · simp only [vO, vQ, ↓vP, vE, vS, vB, vL, vF, vM, vN, vbs_full, Nat.reduceEqDiff, Nat.reduceAdd, Nat.reduceLeDiff, ne_eq, not_false_eq_true, Nat.reduceMul, Nat.reduceSub, Int.toNat_zero, Int.reduceToNat, vT]
            simp only [smE j1, smO j1, List.append_assoc, take_app, drop_app, take_app0, drop_app0]
            exact .refl _
          · simp only [vO, vQ, ↓vP, vE, vS, vB, vL, vF, vM, vN, vbs_full, Nat.reduceEqDiff, Nat.reduceAdd, Nat.reduceLeDiff, ne_eq, not_false_eq_true, Nat.reduceMul, Nat.reduceSub, Int.toNat_zero, Int.reduceToNat, vT]
        repeat' (first | with_reducible rfl | exact .inr trivial | with_reducible apply And.intro | with_reducible apply vqx_step | with_reducible apply vqm_step | with_reducible refine vkp_free (by decide +kernel) ?_ | with_reducible intro _ | ((first | (with_reducible first | refine .rs ?_ | refine .ds (by kernel_rfl) ?_ | refine .dg (by kernel_rfl) ?_ | refine .rg ?_ | refine .ite ?_ | refine .ret ?_ | refine .skip ?_ | refine .exit ?_ | refine .scope ?_ | refine .seq (.label ?_) | refine .block ?_ | refine .seq ?_) | (simp (disch := first | assumption | (apply Go.Cert.ne_of2; assumption; assumption) | (apply Go.Cert.ne_ob; assumption; assumption; (intro e; cases e; done)) | omega) only [w64, w8, tg_eq, Go.V.n1, Go.V.n2, Go.V.nn, Int.tdiv_eq_ediv_of_nonneg, Sg.set_same, Sg.set_ne, Sg.set_ne', Sg.del_ne, Sg.del_ne'])); (try simp only [vO, vQ, ↓vP, vE, vS, vB, vL, vF, vM, vN, vbs_full, Nat.reduceEqDiff, Nat.reduceAdd, Nat.reduceLeDiff, ne_eq, not_false_eq_true, Nat.reduceMul, Nat.reduceSub, Int.toNat_zero, Int.reduceToNat, Tryd.underlying3, info3, Tryd.underlying51, info51, Tryd.underlying73, info73, Tryd.underlying83, info83, Tryd.underlying5, info5, Tryd.underlying9, info9, hw2, vT])) | with_reducible refine vfresh_set ?_ | with_reducible refine vfresh_intro (fun _ _ => ?_) | with_reducible refine vif_intro (fun _ => ?_) (fun _ => ?_) | omega | ((with_reducible first | refine vop_at ?_ | refine vops_at ?_ | refine vquiet_at ?_ | refine vmix_at ?_ | refine Holds_at ?_); simp only [vO, vQ, ↓vP, vE, vS, vB, vL, vF, vM, vN, vbs_full, Nat.reduceEqDiff, Nat.reduceAdd, Nat.reduceLeDiff, ne_eq, not_false_eq_true, Nat.reduceMul, Nat.reduceSub, Int.toNat_zero, Int.reduceToNat, Tryd.underlying3, info3, Tryd.underlying51, info51, Tryd.underlying73, info73, Tryd.underlying83, info83, Tryd.underlying5, info5, Tryd.underlying9, info9, hw2, vT]))
        refine ⟨(m, w, padD 2 k1 ++ dn), ⟨by simp only; clear hu h64 g3; omega, by simp only; clear hu h64 g3; omega, ?_, by simp only; rw [← hw]; exact pad_lt 2 m v g3⟩, (hleaf _).2 (.refl _), Holds_at ?_⟩
        · rw [← hw, ← hk1]
          exact pad_next 2 m v dn _ g2
        · simp only [vO, vQ, ↓vP, vE, vS, vB, vL, vF, vM, vN, vbs_full, Nat.reduceEqDiff, Nat.reduceAdd, Nat.reduceLeDiff, ne_eq, not_false_eq_true, Nat.reduceMul, Nat.reduceSub, Int.toNat_zero, Int.reduceToNat, vT]
      · (first | (with_reducible first | refine .rs ?_ | refine .ds (by kernel_rfl) ?_ | refine .dg (by kernel_rfl) ?_ | refine .rg ?_ | refine .ite ?_ | refine .ret ?_ | refine .skip ?_ | refine .exit ?_ | refine .scope ?_ | refine .seq (.label ?_) | refine .block ?_ | refine .seq ?_)); (try simp only [vO, vQ, ↓vP, vE, vS, vB, vL, vF, vM, vN, vbs_full, Nat.reduceEqDiff, Nat.reduceAdd, Nat.reduceLeDiff, ne_eq, not_false_eq_true, Nat.reduceMul, Nat.reduceSub, Int.toNat_zero, Int.reduceToNat, Tryd.underlying3, info3, Tryd.underlying51, info51, Tryd.underlying73, info73, Tryd.underlying83, info83, Tryd.underlying5, info5, Tryd.underlying9, info9, vT])
        refine vif_intro (fun h => absurd (show ¬ (2:Int) ≤ (nd : Int) by omega) (not_not_intro h)) (fun _ => ?_)
        repeat' (first | with_reducible rfl | exact .inr trivial | with_reducible apply And.intro | with_reducible apply vqx_step | with_reducible apply vqm_step | with_reducible refine vkp_free (by decide +kernel) ?_ | with_reducible intro _ | ((first | (with_reducible first | refine .rs ?_ | refine .ds (by kernel_rfl) ?_ | refine .dg (by kernel_rfl) ?_ | refine .rg ?_ | refine .ite ?_ | refine .ret ?_ | refine .skip ?_ | refine .exit ?_ | refine .scope ?_ | refine .seq (.label ?_) | refine .block ?_ | refine .seq ?_) | (simp (disch := first | assumption | (apply Go.Cert.ne_of2; assumption; assumption) | (apply Go.Cert.ne_ob; assumption; assumption; (intro e; cases e; done)) | omega) only [w64, w8, tg_eq, Go.V.n1, Go.V.n2, Go.V.nn, Int.tdiv_eq_ediv_of_nonneg, Sg.set_same, Sg.set_ne, Sg.set_ne', Sg.del_ne, Sg.del_ne'])); (try simp only [vO, vQ, ↓vP, vE, vS, vB, vL, vF, vM, vN, vbs_full, Nat.reduceEqDiff, Nat.reduceAdd, Nat.reduceLeDiff, ne_eq, not_false_eq_true, Nat.reduceMul, Nat.reduceSub, Int.toNat_zero, Int.reduceToNat, Tryd.underlying3, info3, Tryd.underlying51, info51, Tryd.underlying73, info73, Tryd.underlying83, info83, Tryd.underlying5, info5, Tryd.underlying9, info9, vT])) | with_reducible refine vfresh_set ?_ | with_reducible refine vfresh_intro (fun _ _ => ?_) | with_reducible refine vif_intro (fun _ => ?_) (fun _ => ?_) | omega | ((with_reducible first | refine vop_at ?_ | refine vops_at ?_ | refine vquiet_at ?_ | refine vmix_at ?_ | refine Holds_at ?_); simp only [vO, vQ, ↓vP, vE, vS, vB, vL, vF, vM, vN, vbs_full, Nat.reduceEqDiff, Nat.reduceAdd, Nat.reduceLeDiff, ne_eq, not_false_eq_true, Nat.reduceMul, Nat.reduceSub, Int.toNat_zero, Int.reduceToNat, Tryd.underlying3, info3, Tryd.underlying51, info51, Tryd.underlying73, info73, Tryd.underlying83, info83, Tryd.underlying5, info5, Tryd.underlying9, info9, vT]))
        refine ⟨(nd, v, dn), ⟨by simp only; omega, g1, g2, g3⟩, .refl _, Holds_at ?_⟩
        simp only [vO, vQ, ↓vP, vE, vS, vB, vL, vF, vM, vN, vbs_full, Nat.reduceEqDiff, Nat.reduceAdd, Nat.reduceLeDiff, ne_eq, not_false_eq_true, Nat.reduceMul, Nat.reduceSub, Int.toNat_zero, Int.reduceToNat, vT]
    clear g0 g1 g2 g3
    rintro ⟨nd, v, dn⟩ ⟨g0, g1, g2, g3⟩
    simp only at g0 g1 g2 g3
    simp only []
    by_cases h0 : nd = 0
    · subst h0
      rw [padD, List.nil_append] at g2
      repeat' (first | with_reducible rfl | exact .inr trivial | with_reducible apply And.intro | with_reducible apply vqx_step | with_reducible apply vqm_step | with_reducible refine vkp_free (by decide +kernel) ?_ | with_reducible intro _ | ((first | (with_reducible first | refine .rs ?_ | refine .ds (by kernel_rfl) ?_ | refine .dg (by kernel_rfl) ?_ | refine .rg ?_ | refine .ite ?_ | refine .ret ?_ | refine .skip ?_ | refine .exit ?_ | refine .scope ?_ | refine .seq (.label ?_) | refine .block ?_ | refine .seq ?_) | (simp (disch := first | assumption | (apply Go.Cert.ne_of2; assumption; assumption) | (apply Go.Cert.ne_ob; assumption; assumption; (intro e; cases e; done)) | omega) only [w64, w8, tg_eq, Go.V.n1, Go.V.n2, Go.V.nn, Int.tdiv_eq_ediv_of_nonneg, Sg.set_same, Sg.set_ne, Sg.set_ne', Sg.del_ne, Sg.del_ne'])); (try simp only [vO, vQ, ↓vP, vE, vS, vB, vL, vF, vM, vN, vbs_full, Nat.reduceEqDiff, Nat.reduceAdd, Nat.reduceLeDiff, ne_eq, not_false_eq_true, Nat.reduceMul, Nat.reduceSub, Int.toNat_zero, Int.reduceToNat, Tryd.underlying3, info3, Tryd.underlying51, info51, Tryd.underlying73, info73, Tryd.underlying83, info83, Tryd.underlying5, info5, Tryd.underlying9, info9, vT])) | with_reducible refine vfresh_set ?_ | with_reducible refine vfresh_intro (fun _ _ => ?_) | with_reducible refine vif_intro (fun _ => ?_) (fun _ => ?_) | omega | ((with_reducible first | refine vop_at ?_ | refine vops_at ?_ | refine vquiet_at ?_ | refine vmix_at ?_ | refine Holds_at ?_); simp only [vO, vQ, ↓vP, vE, vS, vB, vL, vF, vM, vN, vbs_full, Nat.reduceEqDiff, Nat.reduceAdd, Nat.reduceLeDiff, ne_eq, not_false_eq_true, Nat.reduceMul, Nat.reduceSub, Int.toNat_zero, Int.reduceToNat, Tryd.underlying3, info3, Tryd.underlying51, info51, Tryd.underlying73, info73, Tryd.underlying83, info83, Tryd.underlying5, info5, Tryd.underlying9, info9, vT]))
      exact ⟨_, .refl _, by rw [g2]; simp⟩
    · obtain rfl : nd = 1 := by omega
      have hv : v < 10 := by omega
      obtain ⟨P, E, hPe, hP, hE, hc⟩ := cut_list A mid 0 1 off hA (by omega)
      obtain ⟨a, rfl⟩ : ∃ a, E = [a] := by
        match E, hE with
        | [a], _ => exact ⟨a, rfl⟩
      have hPA : P = A := by rw [← hPe]; simp
      subst hPA
      rw [show 1 = 0 + 1 from rfl, hc]
      have hdig : IntKind.u8.wrap (IntKind.u32.wrap (48 + (v : Int))) = ((48 + v : Nat) : Int) := by
        rw [show (48 : Int) + (v : Int) = ((48 + v : Nat) : Int) from rfl, wrN (by omega)]
        show (((48 + v) % 256 : Nat) : Int) = _
        rw [Nat.mod_eq_of_lt (by omega)]
      repeat' (first | with_reducible rfl | exact .inr trivial | with_reducible apply And.intro | with_reducible apply vqx_step | with_reducible apply vqm_step | with_reducible refine vkp_free (by decide +kernel) ?_ | with_reducible intro _ | ((first | (with_reducible first | refine .rs ?_ | refine .ds (by kernel_rfl) ?_ | refine .dg (by kernel_rfl) ?_ | refine .rg ?_ | refine .ite ?_ | refine .ret ?_ | refine .skip ?_ | refine .exit ?_ | refine .scope ?_ | refine .seq (.label ?_) | refine .block ?_ | refine .seq ?_) | (simp (disch := first | assumption | (apply Go.Cert.ne_of2; assumption; assumption) | (apply Go.Cert.ne_ob; assumption; assumption; (intro e; cases e; done)) | omega) only [w64, w8, tg_eq, Go.V.n1, Go.V.n2, Go.V.nn, Int.tdiv_eq_ediv_of_nonneg, Sg.set_same, Sg.set_ne, Sg.set_ne', Sg.del_ne, Sg.del_ne']) | (refine vlo_app (by first | assumption | ((simp (disch := first | assumption | (apply Go.Cert.ne_of2; assumption; assumption) | (apply Go.Cert.ne_ob; assumption; assumption; (intro e; cases e; done)) | omega) only [Sg.set_same, Sg.set_ne, Sg.set_ne', Sg.del_ne, Sg.del_ne']); first | done | rfl | assumption)) ?_) | (refine vst_app (by first | assumption | ((simp (disch := first | assumption | (apply Go.Cert.ne_of2; assumption; assumption) | (apply Go.Cert.ne_ob; assumption; assumption; (intro e; cases e; done)) | omega) only [Sg.set_same, Sg.set_ne, Sg.set_ne', Sg.del_ne, Sg.del_ne']); first | done | rfl | assumption)) ?_)); (try simp only [vO, vQ, ↓vP, vE, vS, vB, vL, vF, vM, vN, vbs_full, Nat.reduceEqDiff, Nat.reduceAdd, Nat.reduceLeDiff, ne_eq, not_false_eq_true, Nat.reduceMul, Nat.reduceSub, Int.toNat_zero, Int.reduceToNat, Tryd.underlying3, info3, Tryd.underlying51, info51, Tryd.underlying73, info73, Tryd.underlying83, info83, Tryd.underlying5, info5, Tryd.underlying9, info9, hdig, vT])) | with_reducible refine vfresh_set ?_ | with_reducible refine vfresh_intro (fun _ _ => ?_) | with_reducible refine vif_intro (fun _ => ?_) (fun _ => ?_) | omega | ((with_reducible first | refine vop_at ?_ | refine vops_at ?_ | refine vquiet_at ?_ | refine vmix_at ?_ | refine Holds_at ?_); simp only [vO, vQ, ↓vP, vE, vS, vB, vL, vF, vM, vN, vbs_full, Nat.reduceEqDiff, Nat.reduceAdd, Nat.reduceLeDiff, ne_eq, not_false_eq_true, Nat.reduceMul, Nat.reduceSub, Int.toNat_zero, Int.reduceToNat, Tryd.underlying3, info3, Tryd.underlying51, info51, Tryd.underlying73, info73, Tryd.underlying83, info83, Tryd.underlying5, info5, Tryd.underlying9, info9, hdig, vT]))
      · exact ⟨_, _, rfl⟩
      · simp; omega
      · refine ⟨_, .refl _, ?_⟩
        rw [← hA, List.append_assoc P, take_app0, drop_app0, ← g2, u8s_app]
        have hd1 : u8s (padD 1 v) = [.u8 (48 + v : Nat)] := by
          rw [padD, padD, List.nil_append, Nat.mod_eq_of_lt hv]
          simp only [u8s, List.map_cons, List.map_nil, UInt8.toNat_ofNat']
          rw [Nat.mod_eq_of_lt (by omega)]
        rw [hd1]
        simp
end Go.Proofs.YtpfancgcamclnaaDoor
