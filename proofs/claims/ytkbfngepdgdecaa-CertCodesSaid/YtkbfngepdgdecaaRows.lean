/-
  No cell of these rows narrows 'for every input' (looked for: loops, veiled, ifaces, maps, wideKeys, modest, calm, conditions, laid).
  DERIVED. THE GIVEN ROWS OF THIS SEAT. 7 by the template 'for every input the law returns true; each argument reads behind the call as it read before'; 0 by the template 'total and deterministic' (their statements: YtkbfngepdgdecaaTotals.lean).
  GIVEN WITH THE SEED: the statements are not yours to turn. If you find one false, say at which input.
  Laid BY PROGRAM, IN A SANDBOX (cutbox-rows.mjs): the forced cells as the released guide's own fill.sh prints them over the translation e25dfa76ff1b14a4… (all of the seat's roots in one cut). By AI agents, Wed Nov 11 2026. No macro, syntax, notation, axiom, sorry.
-/
import Derived.Test.YtkbfngepdgdecaaChecked
import GoSem.Claim
import GoSem.ClaimJoined
import GoSem.ClaimMapViews
import Derived.JoinedTies
import Derived.KernelRfl
namespace Go.Proofs.Ytkbfngepdgdecaa
/- THE CELL 'sum', in the pinned program and in every row, IS THE sha256 OF THE DUMP (.gsa) THAT YtkbfngepdgdecaaProg.lean LOADS. Nothing in Lean hashes anything: it is a label: what it is worth is what the hold of that sum in a sandbox is worth. -/
noncomputable def Try.pinned : Pinned := { name := "ytkbfngepdgdecaa", sum := "e25dfa76ff1b14a4e7d2a1c7fdf79700c031db0eb5158a1fe50dc29bac8e7b77", checked := Try.checked }
namespace Rows
def none {H : Type} : Left H := { results := [], args := [] }

/-- 'vestrylaw19.CertTells': WHATEVER THE INPUT: true; the input reads as it did. -/
def certTellsSpec : ChangeSpec := { name := "certTells", fn := fun _ => fun
  | [d1, d2, d3] => { results := [.lit (.bool true)], args := [d1, d2, d3] }
  | _ => none }
def certTellsRow : OpenClaim := { program := "ytkbfngepdgdecaa", sum := "e25dfa76ff1b14a4e7d2a1c7fdf79700c031db0eb5158a1fe50dc29bac8e7b77", func := "vestry/vestrylaw19.CertTells", spec := "certTells", plainKeys := false, apart := false }
def CertTellsSaid : Prop := certTellsRow.holds Try.pinned (OpenSpec.ofChange certTellsSpec)

/-- ITS FALSE NEIGHBOUR: 'it returns false'. Refute it at one input. -/
def certTellsWrong : ChangeSpec := { name := "certTells", fn := fun _ => fun
  | [d1, d2, d3] => { results := [.lit (.bool false)], args := [d1, d2, d3] }
  | _ => none }
def CertTellsWrongFalsely : Prop := certTellsRow.holds Try.pinned (OpenSpec.ofChange certTellsWrong)

/-- 'vestrylaw19.CertOne': WHATEVER THE INPUT: true; the input reads as it did. -/
def certOneSpec : ChangeSpec := { name := "certOne", fn := fun _ => fun
  | [d1, d2, d3, d4] => { results := [.lit (.bool true)], args := [d1, d2, d3, d4] }
  | _ => none }
def certOneRow : OpenClaim := { program := "ytkbfngepdgdecaa", sum := "e25dfa76ff1b14a4e7d2a1c7fdf79700c031db0eb5158a1fe50dc29bac8e7b77", func := "vestry/vestrylaw19.CertOne", spec := "certOne", plainKeys := false, apart := false }
def CertOneSaid : Prop := certOneRow.holds Try.pinned (OpenSpec.ofChange certOneSpec)

/-- ITS FALSE NEIGHBOUR: 'it returns false'. Refute it at one input. -/
def certOneWrong : ChangeSpec := { name := "certOne", fn := fun _ => fun
  | [d1, d2, d3, d4] => { results := [.lit (.bool false)], args := [d1, d2, d3, d4] }
  | _ => none }
def CertOneWrongFalsely : Prop := certOneRow.holds Try.pinned (OpenSpec.ofChange certOneWrong)

/-- 'vestrylaw19.CertMore': WHATEVER THE INPUT: true; the input reads as it did. -/
def certMoreSpec : ChangeSpec := { name := "certMore", fn := fun _ => fun
  | [d1, d2, d3, d4] => { results := [.lit (.bool true)], args := [d1, d2, d3, d4] }
  | _ => none }
def certMoreRow : OpenClaim := { program := "ytkbfngepdgdecaa", sum := "e25dfa76ff1b14a4e7d2a1c7fdf79700c031db0eb5158a1fe50dc29bac8e7b77", func := "vestry/vestrylaw19.CertMore", spec := "certMore", plainKeys := false, apart := false }
def CertMoreSaid : Prop := certMoreRow.holds Try.pinned (OpenSpec.ofChange certMoreSpec)

/-- ITS FALSE NEIGHBOUR: 'it returns false'. Refute it at one input. -/
def certMoreWrong : ChangeSpec := { name := "certMore", fn := fun _ => fun
  | [d1, d2, d3, d4] => { results := [.lit (.bool false)], args := [d1, d2, d3, d4] }
  | _ => none }
def CertMoreWrongFalsely : Prop := certMoreRow.holds Try.pinned (OpenSpec.ofChange certMoreWrong)

/-- 'vestrylaw08.LexCuts': WHATEVER THE INPUT: true; the input reads as it did. -/
def lexCutsSpec : ChangeSpec := { name := "lexCuts", fn := fun _ => fun
  | [d] => { results := [.lit (.bool true)], args := [d] }
  | _ => none }
def lexCutsRow : OpenClaim := { program := "ytkbfngepdgdecaa", sum := "e25dfa76ff1b14a4e7d2a1c7fdf79700c031db0eb5158a1fe50dc29bac8e7b77", func := "vestry/vestrylaw08.LexCuts", spec := "lexCuts", inPlace := ["internal/bytealg.IndexByteString", "internal/abi.NoEscape"], unfollowed := true, recurses := true, plainKeys := false, apart := false }
def LexCutsSaid : Prop := lexCutsRow.holds Try.pinned (OpenSpec.ofChange lexCutsSpec)

/-- ITS FALSE NEIGHBOUR: 'it returns false'. Refute it at one input. -/
def lexCutsWrong : ChangeSpec := { name := "lexCuts", fn := fun _ => fun
  | [d] => { results := [.lit (.bool false)], args := [d] }
  | _ => none }
def LexCutsWrongFalsely : Prop := lexCutsRow.holds Try.pinned (OpenSpec.ofChange lexCutsWrong)

/-- 'vestrylaw08.LexApart': WHATEVER THE INPUT: true; the input reads as it did. -/
def lexApartSpec : ChangeSpec := { name := "lexApart", fn := fun _ => fun
  | [d] => { results := [.lit (.bool true)], args := [d] }
  | _ => none }
def lexApartRow : OpenClaim := { program := "ytkbfngepdgdecaa", sum := "e25dfa76ff1b14a4e7d2a1c7fdf79700c031db0eb5158a1fe50dc29bac8e7b77", func := "vestry/vestrylaw08.LexApart", spec := "lexApart", inPlace := ["internal/bytealg.IndexByteString", "internal/abi.NoEscape"], unfollowed := true, recurses := true, plainKeys := false, apart := false }
def LexApartSaid : Prop := lexApartRow.holds Try.pinned (OpenSpec.ofChange lexApartSpec)

/-- ITS FALSE NEIGHBOUR: 'it returns false'. Refute it at one input. -/
def lexApartWrong : ChangeSpec := { name := "lexApart", fn := fun _ => fun
  | [d] => { results := [.lit (.bool false)], args := [d] }
  | _ => none }
def LexApartWrongFalsely : Prop := lexApartRow.holds Try.pinned (OpenSpec.ofChange lexApartWrong)

/-- 'vestrylaw08.LexJoins': WHATEVER THE INPUT: true; the input reads as it did. -/
def lexJoinsSpec : ChangeSpec := { name := "lexJoins", fn := fun _ => fun
  | [d1, d2] => { results := [.lit (.bool true)], args := [d1, d2] }
  | _ => none }
def lexJoinsRow : OpenClaim := { program := "ytkbfngepdgdecaa", sum := "e25dfa76ff1b14a4e7d2a1c7fdf79700c031db0eb5158a1fe50dc29bac8e7b77", func := "vestry/vestrylaw08.LexJoins", spec := "lexJoins", inPlace := ["internal/bytealg.IndexByteString", "internal/abi.NoEscape"], unfollowed := true, recurses := true, plainKeys := false, apart := false }
def LexJoinsSaid : Prop := lexJoinsRow.holds Try.pinned (OpenSpec.ofChange lexJoinsSpec)

/-- ITS FALSE NEIGHBOUR: 'it returns false'. Refute it at one input. -/
def lexJoinsWrong : ChangeSpec := { name := "lexJoins", fn := fun _ => fun
  | [d1, d2] => { results := [.lit (.bool false)], args := [d1, d2] }
  | _ => none }
def LexJoinsWrongFalsely : Prop := lexJoinsRow.holds Try.pinned (OpenSpec.ofChange lexJoinsWrong)

/-- 'vestrylaw19.CertCodes': WHATEVER THE INPUT: true; the input reads as it did. -/
def certCodesSpec : ChangeSpec := { name := "certCodes", fn := fun _ => fun
  | [d1, d2] => { results := [.lit (.bool true)], args := [d1, d2] }
  | _ => none }
def certCodesRow : OpenClaim := { program := "ytkbfngepdgdecaa", sum := "e25dfa76ff1b14a4e7d2a1c7fdf79700c031db0eb5158a1fe50dc29bac8e7b77", func := "vestry/vestrylaw19.CertCodes", spec := "certCodes", plainKeys := false, apart := false }
def CertCodesSaid : Prop := certCodesRow.holds Try.pinned (OpenSpec.ofChange certCodesSpec)

/-- ITS FALSE NEIGHBOUR: 'it returns false'. Refute it at one input. -/
def certCodesWrong : ChangeSpec := { name := "certCodes", fn := fun _ => fun
  | [d1, d2] => { results := [.lit (.bool false)], args := [d1, d2] }
  | _ => none }
def CertCodesWrongFalsely : Prop := certCodesRow.holds Try.pinned (OpenSpec.ofChange certCodesWrong)

/- THE SECOND FORM. 'bulk': how many values and letters a reading holds, each counted each time it is reached (what is shared counts as often as it is met; a slice's spare places count too). A statement '..UptoSaid' is the law's where the arguments, and the package variables that the reading takes, are together of bulk at most 1048576: NARROWER than '..Said'. Prove '..Said' where nothing that the law and all that it calls make is longer than what came in: it says more and counts as full. Else prove '..UptoSaid'. A law counts once. -/
mutual
def uptoBulk {H : Type} : DataW H → Nat
  | .lit (.string bytes) => bytes.length + 1
  | .lit _ => 1
  | .nil => 1
  | .ptr d => uptoBulk d + 1
  | .slice elems spare => uptoBulkAll elems + uptoBulkAll spare + 1
  | .agg parts => uptoBulkAll parts + 1
  | .iface _ d => uptoBulk d + 1
  | .map entries => uptoBulkEntries entries + 1
  | .held _ => 1
def uptoBulkAll {H : Type} : List (DataW H) → Nat
  | [] => 0
  | d :: r => uptoBulk d + uptoBulkAll r
def uptoBulkEntries {H : Type} : List (Lit × DataW H) → Nat
  | [] => 0
  | x :: r => uptoBulkEntry x + uptoBulkEntries r
def uptoBulkEntry {H : Type} : Lit × DataW H → Nat
  | (.string bytes, d) => bytes.length + uptoBulk d + 1
  | (_, d) => uptoBulk d + 1
 end
def uptoSmall : (H : Type) → List (DataW H) → Bool := fun _ ds => decide (uptoBulkAll ds ≤ 1048576)
def OpenSpec.upto (s : _root_.Go.ChangeSpec) : _root_.Go.OpenSpec := { _root_.Go.OpenSpec.ofChange s with cond := some uptoSmall }

/-- 'vestrylaw19.CertTells', WHERE WHAT IT READS IS OF BULK AT MOST 1048576: true; the input reads as it did. -/
def certTellsUptoRow : OpenClaim := { program := "ytkbfngepdgdecaa", sum := "e25dfa76ff1b14a4e7d2a1c7fdf79700c031db0eb5158a1fe50dc29bac8e7b77", func := "vestry/vestrylaw19.CertTells", spec := "certTells", plainKeys := false, apart := false, narrowed := true }
def CertTellsUptoSaid : Prop := certTellsUptoRow.holds Try.pinned (OpenSpec.upto certTellsSpec)

/-- 'vestrylaw19.CertOne', WHERE WHAT IT READS IS OF BULK AT MOST 1048576: true; the input reads as it did. -/
def certOneUptoRow : OpenClaim := { program := "ytkbfngepdgdecaa", sum := "e25dfa76ff1b14a4e7d2a1c7fdf79700c031db0eb5158a1fe50dc29bac8e7b77", func := "vestry/vestrylaw19.CertOne", spec := "certOne", plainKeys := false, apart := false, narrowed := true }
def CertOneUptoSaid : Prop := certOneUptoRow.holds Try.pinned (OpenSpec.upto certOneSpec)

/-- 'vestrylaw19.CertMore', WHERE WHAT IT READS IS OF BULK AT MOST 1048576: true; the input reads as it did. -/
def certMoreUptoRow : OpenClaim := { program := "ytkbfngepdgdecaa", sum := "e25dfa76ff1b14a4e7d2a1c7fdf79700c031db0eb5158a1fe50dc29bac8e7b77", func := "vestry/vestrylaw19.CertMore", spec := "certMore", plainKeys := false, apart := false, narrowed := true }
def CertMoreUptoSaid : Prop := certMoreUptoRow.holds Try.pinned (OpenSpec.upto certMoreSpec)

/-- 'vestrylaw08.LexCuts', WHERE WHAT IT READS IS OF BULK AT MOST 1048576: true; the input reads as it did. -/
def lexCutsUptoRow : OpenClaim := { program := "ytkbfngepdgdecaa", sum := "e25dfa76ff1b14a4e7d2a1c7fdf79700c031db0eb5158a1fe50dc29bac8e7b77", func := "vestry/vestrylaw08.LexCuts", spec := "lexCuts", inPlace := ["internal/bytealg.IndexByteString", "internal/abi.NoEscape"], unfollowed := true, recurses := true, plainKeys := false, apart := false, narrowed := true }
def LexCutsUptoSaid : Prop := lexCutsUptoRow.holds Try.pinned (OpenSpec.upto lexCutsSpec)

/-- 'vestrylaw08.LexApart', WHERE WHAT IT READS IS OF BULK AT MOST 1048576: true; the input reads as it did. -/
def lexApartUptoRow : OpenClaim := { program := "ytkbfngepdgdecaa", sum := "e25dfa76ff1b14a4e7d2a1c7fdf79700c031db0eb5158a1fe50dc29bac8e7b77", func := "vestry/vestrylaw08.LexApart", spec := "lexApart", inPlace := ["internal/bytealg.IndexByteString", "internal/abi.NoEscape"], unfollowed := true, recurses := true, plainKeys := false, apart := false, narrowed := true }
def LexApartUptoSaid : Prop := lexApartUptoRow.holds Try.pinned (OpenSpec.upto lexApartSpec)

/-- 'vestrylaw08.LexJoins', WHERE WHAT IT READS IS OF BULK AT MOST 1048576: true; the input reads as it did. -/
def lexJoinsUptoRow : OpenClaim := { program := "ytkbfngepdgdecaa", sum := "e25dfa76ff1b14a4e7d2a1c7fdf79700c031db0eb5158a1fe50dc29bac8e7b77", func := "vestry/vestrylaw08.LexJoins", spec := "lexJoins", inPlace := ["internal/bytealg.IndexByteString", "internal/abi.NoEscape"], unfollowed := true, recurses := true, plainKeys := false, apart := false, narrowed := true }
def LexJoinsUptoSaid : Prop := lexJoinsUptoRow.holds Try.pinned (OpenSpec.upto lexJoinsSpec)

/-- 'vestrylaw19.CertCodes', WHERE WHAT IT READS IS OF BULK AT MOST 1048576: true; the input reads as it did. -/
def certCodesUptoRow : OpenClaim := { program := "ytkbfngepdgdecaa", sum := "e25dfa76ff1b14a4e7d2a1c7fdf79700c031db0eb5158a1fe50dc29bac8e7b77", func := "vestry/vestrylaw19.CertCodes", spec := "certCodes", plainKeys := false, apart := false, narrowed := true }
def CertCodesUptoSaid : Prop := certCodesUptoRow.holds Try.pinned (OpenSpec.upto certCodesSpec)

end Rows
end Go.Proofs.Ytkbfngepdgdecaa
