/-
  No cell of these rows narrows 'for every input' (looked for: loops, veiled, ifaces, maps, wideKeys, modest, calm, conditions, laid).
  DERIVED. THE GIVEN ROWS OF THIS SEAT. 5 by the template 'for every input the law returns true; each argument reads behind the call as it read before'; 0 by the template 'total and deterministic' (their statements: YtkjbfomokdjbnaaTotals.lean).
  GIVEN WITH THE SEED: the statements are not yours to turn. If you find one false, say at which input.
  Laid BY PROGRAM, IN A SANDBOX (cutbox-rows.mjs): the forced cells as the released guide's own fill.sh prints them over the translation 30f9ef6a6425f7f1… (all of the seat's roots in one cut). By AI agents, Wed Nov 11 2026. No macro, syntax, notation, axiom, sorry.
-/
import Derived.Test.YtkjbfomokdjbnaaChecked
import GoSem.Claim
import GoSem.ClaimJoined
import GoSem.ClaimMapViews
import Derived.JoinedTies
import Derived.KernelRfl
namespace Go.Proofs.Ytkjbfomokdjbnaa
/- THE CELL 'sum', in the pinned program and in every row, IS THE sha256 OF THE DUMP (.gsa) THAT YtkjbfomokdjbnaaProg.lean LOADS. Nothing in Lean hashes anything: it is a label: what it is worth is what the hold of that sum in a sandbox is worth. -/
noncomputable def Try.pinned : Pinned := { name := "ytkjbfomokdjbnaa", sum := "30f9ef6a6425f7f137391e244417e26efa836bcaa1db732a444f16f4b89de71d", checked := Try.checked }
namespace Rows
def none {H : Type} : Left H := { results := [], args := [] }

/-- 'cylinderlaw36.ParserParens': WHATEVER THE INPUT: true; the input reads as it did. -/
def parserParensSpec : ChangeSpec := { name := "parserParens", fn := fun _ => fun
  | [d1, d2] => { results := [.lit (.bool true)], args := [d1, d2] }
  | _ => none }
def parserParensRow : OpenClaim := { program := "ytkjbfomokdjbnaa", sum := "30f9ef6a6425f7f137391e244417e26efa836bcaa1db732a444f16f4b89de71d", func := "cylinder/cylinderlaw36.ParserParens", spec := "parserParens", recurses := true, named := ["math/bits.overflowError"], apart := false }
def ParserParensSaid : Prop := parserParensRow.holds Try.pinned (OpenSpec.ofChange parserParensSpec)

/-- ITS FALSE NEIGHBOUR: 'it returns false'. Refute it at one input. -/
def parserParensWrong : ChangeSpec := { name := "parserParens", fn := fun _ => fun
  | [d1, d2] => { results := [.lit (.bool false)], args := [d1, d2] }
  | _ => none }
def ParserParensWrongFalsely : Prop := parserParensRow.holds Try.pinned (OpenSpec.ofChange parserParensWrong)

/-- 'cylinderlaw36.ParserJoins': WHATEVER THE INPUT: true; the input reads as it did. -/
def parserJoinsSpec : ChangeSpec := { name := "parserJoins", fn := fun _ => fun
  | [d1, d2, d3] => { results := [.lit (.bool true)], args := [d1, d2, d3] }
  | _ => none }
def parserJoinsRow : OpenClaim := { program := "ytkjbfomokdjbnaa", sum := "30f9ef6a6425f7f137391e244417e26efa836bcaa1db732a444f16f4b89de71d", func := "cylinder/cylinderlaw36.ParserJoins", spec := "parserJoins", recurses := true, named := ["math/bits.overflowError"], apart := false }
def ParserJoinsSaid : Prop := parserJoinsRow.holds Try.pinned (OpenSpec.ofChange parserJoinsSpec)

/-- ITS FALSE NEIGHBOUR: 'it returns false'. Refute it at one input. -/
def parserJoinsWrong : ChangeSpec := { name := "parserJoins", fn := fun _ => fun
  | [d1, d2, d3] => { results := [.lit (.bool false)], args := [d1, d2, d3] }
  | _ => none }
def ParserJoinsWrongFalsely : Prop := parserJoinsRow.holds Try.pinned (OpenSpec.ofChange parserJoinsWrong)

/-- 'cylinderlaw36.ParserChains': WHATEVER THE INPUT: true; the input reads as it did. -/
def parserChainsSpec : ChangeSpec := { name := "parserChains", fn := fun _ => fun
  | [d] => { results := [.lit (.bool true)], args := [d] }
  | _ => none }
def parserChainsRow : OpenClaim := { program := "ytkjbfomokdjbnaa", sum := "30f9ef6a6425f7f137391e244417e26efa836bcaa1db732a444f16f4b89de71d", func := "cylinder/cylinderlaw36.ParserChains", spec := "parserChains", recurses := true, named := ["math/bits.overflowError"], apart := false }
def ParserChainsSaid : Prop := parserChainsRow.holds Try.pinned (OpenSpec.ofChange parserChainsSpec)

/-- ITS FALSE NEIGHBOUR: 'it returns false'. Refute it at one input. -/
def parserChainsWrong : ChangeSpec := { name := "parserChains", fn := fun _ => fun
  | [d] => { results := [.lit (.bool false)], args := [d] }
  | _ => none }
def ParserChainsWrongFalsely : Prop := parserChainsRow.holds Try.pinned (OpenSpec.ofChange parserChainsWrong)

/-- 'cylinderlaw36.ParserLong': WHATEVER THE INPUT: true; the input reads as it did. -/
def parserLongSpec : ChangeSpec := { name := "parserLong", fn := fun _ => fun
  | [d1, d2] => { results := [.lit (.bool true)], args := [d1, d2] }
  | _ => none }
def parserLongRow : OpenClaim := { program := "ytkjbfomokdjbnaa", sum := "30f9ef6a6425f7f137391e244417e26efa836bcaa1db732a444f16f4b89de71d", func := "cylinder/cylinderlaw36.ParserLong", spec := "parserLong", recurses := true, named := ["math/bits.overflowError"], apart := false }
def ParserLongSaid : Prop := parserLongRow.holds Try.pinned (OpenSpec.ofChange parserLongSpec)

/-- ITS FALSE NEIGHBOUR: 'it returns false'. Refute it at one input. -/
def parserLongWrong : ChangeSpec := { name := "parserLong", fn := fun _ => fun
  | [d1, d2] => { results := [.lit (.bool false)], args := [d1, d2] }
  | _ => none }
def ParserLongWrongFalsely : Prop := parserLongRow.holds Try.pinned (OpenSpec.ofChange parserLongWrong)

/-- 'cylinderlaw36.ParserArithmetic': WHATEVER THE INPUT: true; the input reads as it did. -/
def parserArithmeticSpec : ChangeSpec := { name := "parserArithmetic", fn := fun _ => fun
  | [d1, d2, d3] => { results := [.lit (.bool true)], args := [d1, d2, d3] }
  | _ => none }
def parserArithmeticRow : OpenClaim := { program := "ytkjbfomokdjbnaa", sum := "30f9ef6a6425f7f137391e244417e26efa836bcaa1db732a444f16f4b89de71d", func := "cylinder/cylinderlaw36.ParserArithmetic", spec := "parserArithmetic", recurses := true, named := ["math/bits.overflowError"], apart := false }
def ParserArithmeticSaid : Prop := parserArithmeticRow.holds Try.pinned (OpenSpec.ofChange parserArithmeticSpec)

/-- ITS FALSE NEIGHBOUR: 'it returns false'. Refute it at one input. -/
def parserArithmeticWrong : ChangeSpec := { name := "parserArithmetic", fn := fun _ => fun
  | [d1, d2, d3] => { results := [.lit (.bool false)], args := [d1, d2, d3] }
  | _ => none }
def ParserArithmeticWrongFalsely : Prop := parserArithmeticRow.holds Try.pinned (OpenSpec.ofChange parserArithmeticWrong)

/- THE SECOND FORM. 'bulk': how many values and letters a reading holds, each counted each time it is reached (what is shared counts as often as it is met; a slice's spare places count too). A statement '..UptoSaid' is the law's where the arguments, and the package variables that the reading takes, are together of bulk at most 1048576: NARROWER than '..Said'. Prove '..Said' where nothing that the law and all that it calls make is longer than what came in: it says more and counts as full. Else prove '..UptoSaid'. A law counts once. -/
mutual
def uptoBulk {H : Type} : DataW H → Nat
  | .lit (.string bytes) => bytes.length + 1
  | .lit _ => 1
  | .nil => 1
  | .ptr d => uptoBulk d + 1
  | .slice elems spare => uptoBulkAll elems + uptoBulkAll spare + 1
  | .agg parts => uptoBulkAll parts + 1
  | .iface _ d => uptoBulk d + 1
  | .map entries => uptoBulkEntries entries + 1
  | .held _ => 1
def uptoBulkAll {H : Type} : List (DataW H) → Nat
  | [] => 0
  | d :: r => uptoBulk d + uptoBulkAll r
def uptoBulkEntries {H : Type} : List (Lit × DataW H) → Nat
  | [] => 0
  | x :: r => uptoBulkEntry x + uptoBulkEntries r
def uptoBulkEntry {H : Type} : Lit × DataW H → Nat
  | (.string bytes, d) => bytes.length + uptoBulk d + 1
  | (_, d) => uptoBulk d + 1
 end
def uptoSmall : (H : Type) → List (DataW H) → Bool := fun _ ds => decide (uptoBulkAll ds ≤ 1048576)
def OpenSpec.upto (s : _root_.Go.ChangeSpec) : _root_.Go.OpenSpec := { _root_.Go.OpenSpec.ofChange s with cond := some uptoSmall }

/-- 'cylinderlaw36.ParserParens', WHERE WHAT IT READS IS OF BULK AT MOST 1048576: true; the input reads as it did. -/
def parserParensUptoRow : OpenClaim := { program := "ytkjbfomokdjbnaa", sum := "30f9ef6a6425f7f137391e244417e26efa836bcaa1db732a444f16f4b89de71d", func := "cylinder/cylinderlaw36.ParserParens", spec := "parserParens", recurses := true, named := ["math/bits.overflowError"], apart := false, narrowed := true }
def ParserParensUptoSaid : Prop := parserParensUptoRow.holds Try.pinned (OpenSpec.upto parserParensSpec)

/-- 'cylinderlaw36.ParserJoins', WHERE WHAT IT READS IS OF BULK AT MOST 1048576: true; the input reads as it did. -/
def parserJoinsUptoRow : OpenClaim := { program := "ytkjbfomokdjbnaa", sum := "30f9ef6a6425f7f137391e244417e26efa836bcaa1db732a444f16f4b89de71d", func := "cylinder/cylinderlaw36.ParserJoins", spec := "parserJoins", recurses := true, named := ["math/bits.overflowError"], apart := false, narrowed := true }
def ParserJoinsUptoSaid : Prop := parserJoinsUptoRow.holds Try.pinned (OpenSpec.upto parserJoinsSpec)

/-- 'cylinderlaw36.ParserChains', WHERE WHAT IT READS IS OF BULK AT MOST 1048576: true; the input reads as it did. -/
def parserChainsUptoRow : OpenClaim := { program := "ytkjbfomokdjbnaa", sum := "30f9ef6a6425f7f137391e244417e26efa836bcaa1db732a444f16f4b89de71d", func := "cylinder/cylinderlaw36.ParserChains", spec := "parserChains", recurses := true, named := ["math/bits.overflowError"], apart := false, narrowed := true }
def ParserChainsUptoSaid : Prop := parserChainsUptoRow.holds Try.pinned (OpenSpec.upto parserChainsSpec)

/-- 'cylinderlaw36.ParserLong', WHERE WHAT IT READS IS OF BULK AT MOST 1048576: true; the input reads as it did. -/
def parserLongUptoRow : OpenClaim := { program := "ytkjbfomokdjbnaa", sum := "30f9ef6a6425f7f137391e244417e26efa836bcaa1db732a444f16f4b89de71d", func := "cylinder/cylinderlaw36.ParserLong", spec := "parserLong", recurses := true, named := ["math/bits.overflowError"], apart := false, narrowed := true }
def ParserLongUptoSaid : Prop := parserLongUptoRow.holds Try.pinned (OpenSpec.upto parserLongSpec)

/-- 'cylinderlaw36.ParserArithmetic', WHERE WHAT IT READS IS OF BULK AT MOST 1048576: true; the input reads as it did. -/
def parserArithmeticUptoRow : OpenClaim := { program := "ytkjbfomokdjbnaa", sum := "30f9ef6a6425f7f137391e244417e26efa836bcaa1db732a444f16f4b89de71d", func := "cylinder/cylinderlaw36.ParserArithmetic", spec := "parserArithmetic", recurses := true, named := ["math/bits.overflowError"], apart := false, narrowed := true }
def ParserArithmeticUptoSaid : Prop := parserArithmeticUptoRow.holds Try.pinned (OpenSpec.upto parserArithmeticSpec)

end Rows
end Go.Proofs.Ytkjbfomokdjbnaa
