/- Part 17 of the proof: R13. -/
import Derived.Test.YtjdapkelojdefaaGreatDoorRows
import Derived.Test.YtjdapkelojdefaaGreatDoorN0
import Derived.Test.YtjdapkelojdefaaGreatDoorN12
import Derived.WalkKit
import Derived.ProofKit
import Derived.OpenShut
import Derived.LaidMore
import Derived.Lay
import Derived.SevenTiedAt
import Derived.Stop.Joined
import Derived.Carry

set_option linter.all false
namespace Go.Proofs.YtjdapkelojdefaaGreatDoor
open Go.ChangeShapes Go.WideShapes Go.ChangeAt Go.RowKit Go.V
theorem own : ownKnob Tryz.prog.godebug = none := by kernel_rfl
theorem laidOut : laidOutB Tryz.prog = true := by kernel_rfl
abbrev laid : List (String × DataW Unit) := [("math/bits.deBruijn32tab", Rows.laid_math_bits_deBruijn32tab), ("math/bits.deBruijn64tab", Rows.laid_math_bits_deBruijn64tab), ("internal/strconv.uint64pow10", Rows.laid_internal_strconv_uint64pow10), ("unicode/utf8.acceptRanges", Rows.laid_unicode_utf8_acceptRanges), ("unicode/utf8.first", Rows.laid_unicode_utf8_first)]
theorem glob {W : World} (h : laidMetH Tryz.prog laid W) : Glob (K0 W) := by
  rw [MakeChecks.laidMetH_plain _ _ _ (by kernel_rfl)] at h
  obtain ⟨ps, ⟨g0, t0, cs0, f0, p0, q0, hg0, ht0, hv0, hd0, ⟨g1, t1, cs1, f1, p1, q1, hg1, ht1, hv1, hd1, ⟨g, t, cs, fuel, p, q, hg, ht, hv, hd, _, _⟩, _⟩, _⟩, _, _⟩ := h
  obtain rfl := Option.some.inj ((show Tryz.prog.globalNamed "internal/strconv.uint64pow10" = some 1 by kernel_rfl).symm.trans hg)
  obtain rfl := Option.some.inj ((show (Tryz.prog.globals[1]?).map (·.type) = some 186 by kernel_rfl).symm.trans ht)
  obtain ⟨xs, m, _, ex, _, hl, hel⟩ := DataW.trod_array Tryz.underlying186 hd
  have c5 : Tryz.prog.cellsOf 179 = 1 := by kernel_rfl
  have hlen : pow10tab.length = 20 := by kernel_rfl
  have e3 : (xs.map (·.1)) = pow10tab.map fun v => match v with | .int k n => (DataW.lit (.int k n) : DataW Unit) | _ => .nil := (DataW.agg.inj (Prod.mk.inj ex).1).symm
  intro g cs' hg' r v hr
  by_cases hgg : g = 1
  · subst hgg
    obtain rfl : pow10tab = cs' := Option.some.inj ((if_pos rfl).symm.trans hg')
    refine ⟨?_, fun hh => hh⟩
    have hr20 : r < 20 := by rw [← hlen]; exact (List.getElem?_eq_some_iff.1 hr).1
    have hE := hel r hr20
    rw [c5, Nat.mul_one, List.getElem?_eq_getElem (by omega)] at hE
    obtain ⟨z, e1, e2, _⟩ := DataW.trod_int Tryz.underlying179 hE
    have e4 : (xs.map (·.1))[r]? = (pow10tab.map fun v => match v with | .int k n => (DataW.lit (.int k n) : DataW Unit) | _ => .nil)[r]? := by rw [e3]
    rw [List.getElem?_map, List.getElem?_map, List.getElem?_eq_getElem (by omega : r < xs.length), hr, e2] at e4
    have hz : v = .int .u64 z := by
      cases v <;> simp at e4
      rw [← e4.1, ← e4.2]
    show W.cell? _ = _
    rw [World.var?_cell hg hv r, hz]
    have : cs.toList[r]? = some (.int .u64 z) := by
      have h0 : ((cs.toList.drop r).take 1)[0]? = some (.int .u64 z) := by rw [e1]; rfl
      simpa using h0
    simpa using this
  · have : gtab g = none := if_neg hgg
    rw [this] at hg'; cases hg'
end Go.Proofs.YtjdapkelojdefaaGreatDoor
