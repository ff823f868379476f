/-
  No cell of these rows narrows 'for every input' (looked for: loops, veiled, ifaces, maps, wideKeys, modest, calm, conditions, laid).
  DERIVED. THE GIVEN ROWS OF THIS SEAT. 9 by the template 'for every input the law returns true; each argument reads behind the call as it read before'; 0 by the template 'total and deterministic' (their statements: YtnfbmclaenodaaaTotals.lean).
  GIVEN WITH THE SEED: the statements are not yours to turn. If you find one false, say at which input.
  Laid BY PROGRAM, IN A SANDBOX (cutbox-rows.mjs): the forced cells as the released guide's own fill.sh prints them over the translation 434ef0c8df0ba3d3… (all of the seat's roots in one cut). By AI agents, Wed Nov 11 2026. No macro, syntax, notation, axiom, sorry.
-/
import Derived.Test.YtnfbmclaenodaaaChecked
import GoSem.Claim
import GoSem.ClaimJoined
import GoSem.ClaimMapViews
import Derived.JoinedTies
import Derived.KernelRfl
namespace Go.Proofs.Ytnfbmclaenodaaa
/- THE CELL 'sum', in the pinned program and in every row, IS THE sha256 OF THE DUMP (.gsa) THAT YtnfbmclaenodaaaProg.lean LOADS. Nothing in Lean hashes anything: it is a label: what it is worth is what the hold of that sum in a sandbox is worth. -/
noncomputable def Try.pinned : Pinned := { name := "ytnfbmclaenodaaa", sum := "434ef0c8df0ba3d3c61132fd71a9a3ee4d3e08a055bc620afae063d137525c80", checked := Try.checked }
namespace Rows
def none {H : Type} : Left H := { results := [], args := [] }

/-- 'cylinderlaw35.LexerCuts': WHATEVER THE INPUT: true; the input reads as it did. -/
def lexerCutsSpec : ChangeSpec := { name := "lexerCuts", fn := fun _ => fun
  | [d] => { results := [.lit (.bool true)], args := [d] }
  | _ => none }
def lexerCutsRow : OpenClaim := { program := "ytnfbmclaenodaaa", sum := "434ef0c8df0ba3d3c61132fd71a9a3ee4d3e08a055bc620afae063d137525c80", func := "cylinder/cylinderlaw35.LexerCuts", spec := "lexerCuts", apart := false }
def LexerCutsSaid : Prop := lexerCutsRow.holds Try.pinned (OpenSpec.ofChange lexerCutsSpec)

/-- ITS FALSE NEIGHBOUR: 'it returns false'. Refute it at one input. -/
def lexerCutsWrong : ChangeSpec := { name := "lexerCuts", fn := fun _ => fun
  | [d] => { results := [.lit (.bool false)], args := [d] }
  | _ => none }
def LexerCutsWrongFalsely : Prop := lexerCutsRow.holds Try.pinned (OpenSpec.ofChange lexerCutsWrong)

/-- 'cylinderlaw35.LexerPlaces': WHATEVER THE INPUT: true; the input reads as it did. -/
def lexerPlacesSpec : ChangeSpec := { name := "lexerPlaces", fn := fun _ => fun
  | [d] => { results := [.lit (.bool true)], args := [d] }
  | _ => none }
def lexerPlacesRow : OpenClaim := { program := "ytnfbmclaenodaaa", sum := "434ef0c8df0ba3d3c61132fd71a9a3ee4d3e08a055bc620afae063d137525c80", func := "cylinder/cylinderlaw35.LexerPlaces", spec := "lexerPlaces", apart := false }
def LexerPlacesSaid : Prop := lexerPlacesRow.holds Try.pinned (OpenSpec.ofChange lexerPlacesSpec)

/-- ITS FALSE NEIGHBOUR: 'it returns false'. Refute it at one input. -/
def lexerPlacesWrong : ChangeSpec := { name := "lexerPlaces", fn := fun _ => fun
  | [d] => { results := [.lit (.bool false)], args := [d] }
  | _ => none }
def LexerPlacesWrongFalsely : Prop := lexerPlacesRow.holds Try.pinned (OpenSpec.ofChange lexerPlacesWrong)

/-- 'cylinderlaw35.LexerBlanks': WHATEVER THE INPUT: true; the input reads as it did. -/
def lexerBlanksSpec : ChangeSpec := { name := "lexerBlanks", fn := fun _ => fun
  | [d1, d2, d3] => { results := [.lit (.bool true)], args := [d1, d2, d3] }
  | _ => none }
def lexerBlanksRow : OpenClaim := { program := "ytnfbmclaenodaaa", sum := "434ef0c8df0ba3d3c61132fd71a9a3ee4d3e08a055bc620afae063d137525c80", func := "cylinder/cylinderlaw35.LexerBlanks", spec := "lexerBlanks", apart := false }
def LexerBlanksSaid : Prop := lexerBlanksRow.holds Try.pinned (OpenSpec.ofChange lexerBlanksSpec)

/-- ITS FALSE NEIGHBOUR: 'it returns false'. Refute it at one input. -/
def lexerBlanksWrong : ChangeSpec := { name := "lexerBlanks", fn := fun _ => fun
  | [d1, d2, d3] => { results := [.lit (.bool false)], args := [d1, d2, d3] }
  | _ => none }
def LexerBlanksWrongFalsely : Prop := lexerBlanksRow.holds Try.pinned (OpenSpec.ofChange lexerBlanksWrong)

/-- 'cylinderlaw35.LexerTwo': WHATEVER THE INPUT: true; the input reads as it did. -/
def lexerTwoSpec : ChangeSpec := { name := "lexerTwo", fn := fun _ => fun
  | [d1, d2] => { results := [.lit (.bool true)], args := [d1, d2] }
  | _ => none }
def lexerTwoRow : OpenClaim := { program := "ytnfbmclaenodaaa", sum := "434ef0c8df0ba3d3c61132fd71a9a3ee4d3e08a055bc620afae063d137525c80", func := "cylinder/cylinderlaw35.LexerTwo", spec := "lexerTwo", apart := false }
def LexerTwoSaid : Prop := lexerTwoRow.holds Try.pinned (OpenSpec.ofChange lexerTwoSpec)

/-- ITS FALSE NEIGHBOUR: 'it returns false'. Refute it at one input. -/
def lexerTwoWrong : ChangeSpec := { name := "lexerTwo", fn := fun _ => fun
  | [d1, d2] => { results := [.lit (.bool false)], args := [d1, d2] }
  | _ => none }
def LexerTwoWrongFalsely : Prop := lexerTwoRow.holds Try.pinned (OpenSpec.ofChange lexerTwoWrong)

/-- 'cylinderlaw35.LexerPrefix': WHATEVER THE INPUT: true; the input reads as it did. -/
def lexerPrefixSpec : ChangeSpec := { name := "lexerPrefix", fn := fun _ => fun
  | [d1, d2] => { results := [.lit (.bool true)], args := [d1, d2] }
  | _ => none }
def lexerPrefixRow : OpenClaim := { program := "ytnfbmclaenodaaa", sum := "434ef0c8df0ba3d3c61132fd71a9a3ee4d3e08a055bc620afae063d137525c80", func := "cylinder/cylinderlaw35.LexerPrefix", spec := "lexerPrefix", apart := false }
def LexerPrefixSaid : Prop := lexerPrefixRow.holds Try.pinned (OpenSpec.ofChange lexerPrefixSpec)

/-- ITS FALSE NEIGHBOUR: 'it returns false'. Refute it at one input. -/
def lexerPrefixWrong : ChangeSpec := { name := "lexerPrefix", fn := fun _ => fun
  | [d1, d2] => { results := [.lit (.bool false)], args := [d1, d2] }
  | _ => none }
def LexerPrefixWrongFalsely : Prop := lexerPrefixRow.holds Try.pinned (OpenSpec.ofChange lexerPrefixWrong)

/-- 'cylinderlaw35.LexerLong': WHATEVER THE INPUT: true; the input reads as it did. -/
def lexerLongSpec : ChangeSpec := { name := "lexerLong", fn := fun _ => fun
  | [d1, d2] => { results := [.lit (.bool true)], args := [d1, d2] }
  | _ => none }
def lexerLongRow : OpenClaim := { program := "ytnfbmclaenodaaa", sum := "434ef0c8df0ba3d3c61132fd71a9a3ee4d3e08a055bc620afae063d137525c80", func := "cylinder/cylinderlaw35.LexerLong", spec := "lexerLong", apart := false }
def LexerLongSaid : Prop := lexerLongRow.holds Try.pinned (OpenSpec.ofChange lexerLongSpec)

/-- ITS FALSE NEIGHBOUR: 'it returns false'. Refute it at one input. -/
def lexerLongWrong : ChangeSpec := { name := "lexerLong", fn := fun _ => fun
  | [d1, d2] => { results := [.lit (.bool false)], args := [d1, d2] }
  | _ => none }
def LexerLongWrongFalsely : Prop := lexerLongRow.holds Try.pinned (OpenSpec.ofChange lexerLongWrong)

/-- 'cylinderlaw35.LexerTokens': WHATEVER THE INPUT: true; the input reads as it did. -/
def lexerTokensSpec : ChangeSpec := { name := "lexerTokens", fn := fun _ => fun
  | [d1, d2] => { results := [.lit (.bool true)], args := [d1, d2] }
  | _ => none }
def lexerTokensRow : OpenClaim := { program := "ytnfbmclaenodaaa", sum := "434ef0c8df0ba3d3c61132fd71a9a3ee4d3e08a055bc620afae063d137525c80", func := "cylinder/cylinderlaw35.LexerTokens", spec := "lexerTokens", unfollowed := true, recurses := true, apart := false }
def LexerTokensSaid : Prop := lexerTokensRow.holds Try.pinned (OpenSpec.ofChange lexerTokensSpec)

/-- ITS FALSE NEIGHBOUR: 'it returns false'. Refute it at one input. -/
def lexerTokensWrong : ChangeSpec := { name := "lexerTokens", fn := fun _ => fun
  | [d1, d2] => { results := [.lit (.bool false)], args := [d1, d2] }
  | _ => none }
def LexerTokensWrongFalsely : Prop := lexerTokensRow.holds Try.pinned (OpenSpec.ofChange lexerTokensWrong)

/-- 'cylinderlaw35.LexerNames': WHATEVER THE INPUT: true; the input reads as it did. -/
def lexerNamesSpec : ChangeSpec := { name := "lexerNames", fn := fun _ => fun
  | [d] => { results := [.lit (.bool true)], args := [d] }
  | _ => none }
def lexerNamesRow : OpenClaim := { program := "ytnfbmclaenodaaa", sum := "434ef0c8df0ba3d3c61132fd71a9a3ee4d3e08a055bc620afae063d137525c80", func := "cylinder/cylinderlaw35.LexerNames", spec := "lexerNames", apart := false }
def LexerNamesSaid : Prop := lexerNamesRow.holds Try.pinned (OpenSpec.ofChange lexerNamesSpec)

/-- ITS FALSE NEIGHBOUR: 'it returns false'. Refute it at one input. -/
def lexerNamesWrong : ChangeSpec := { name := "lexerNames", fn := fun _ => fun
  | [d] => { results := [.lit (.bool false)], args := [d] }
  | _ => none }
def LexerNamesWrongFalsely : Prop := lexerNamesRow.holds Try.pinned (OpenSpec.ofChange lexerNamesWrong)

/-- 'cylinderlaw35.LexerJoins': WHATEVER THE INPUT: true; the input reads as it did. -/
def lexerJoinsSpec : ChangeSpec := { name := "lexerJoins", fn := fun _ => fun
  | [d] => { results := [.lit (.bool true)], args := [d] }
  | _ => none }
def lexerJoinsRow : OpenClaim := { program := "ytnfbmclaenodaaa", sum := "434ef0c8df0ba3d3c61132fd71a9a3ee4d3e08a055bc620afae063d137525c80", func := "cylinder/cylinderlaw35.LexerJoins", spec := "lexerJoins", inPlace := ["internal/abi.NoEscape"], apart := false }
def LexerJoinsSaid : Prop := lexerJoinsRow.holds Try.pinned (OpenSpec.ofChange lexerJoinsSpec)

/-- ITS FALSE NEIGHBOUR: 'it returns false'. Refute it at one input. -/
def lexerJoinsWrong : ChangeSpec := { name := "lexerJoins", fn := fun _ => fun
  | [d] => { results := [.lit (.bool false)], args := [d] }
  | _ => none }
def LexerJoinsWrongFalsely : Prop := lexerJoinsRow.holds Try.pinned (OpenSpec.ofChange lexerJoinsWrong)

/- THE SECOND FORM. 'bulk': how many values and letters a reading holds, each counted each time it is reached (what is shared counts as often as it is met; a slice's spare places count too). A statement '..UptoSaid' is the law's where the arguments, and the package variables that the reading takes, are together of bulk at most 1048576: NARROWER than '..Said'. Prove '..Said' where nothing that the law and all that it calls make is longer than what came in: it says more and counts as full. Else prove '..UptoSaid'. A law counts once. -/
mutual
def uptoBulk {H : Type} : DataW H → Nat
  | .lit (.string bytes) => bytes.length + 1
  | .lit _ => 1
  | .nil => 1
  | .ptr d => uptoBulk d + 1
  | .slice elems spare => uptoBulkAll elems + uptoBulkAll spare + 1
  | .agg parts => uptoBulkAll parts + 1
  | .iface _ d => uptoBulk d + 1
  | .map entries => uptoBulkEntries entries + 1
  | .held _ => 1
def uptoBulkAll {H : Type} : List (DataW H) → Nat
  | [] => 0
  | d :: r => uptoBulk d + uptoBulkAll r
def uptoBulkEntries {H : Type} : List (Lit × DataW H) → Nat
  | [] => 0
  | x :: r => uptoBulkEntry x + uptoBulkEntries r
def uptoBulkEntry {H : Type} : Lit × DataW H → Nat
  | (.string bytes, d) => bytes.length + uptoBulk d + 1
  | (_, d) => uptoBulk d + 1
 end
def uptoSmall : (H : Type) → List (DataW H) → Bool := fun _ ds => decide (uptoBulkAll ds ≤ 1048576)
def OpenSpec.upto (s : _root_.Go.ChangeSpec) : _root_.Go.OpenSpec := { _root_.Go.OpenSpec.ofChange s with cond := some uptoSmall }

/-- 'cylinderlaw35.LexerCuts', WHERE WHAT IT READS IS OF BULK AT MOST 1048576: true; the input reads as it did. -/
def lexerCutsUptoRow : OpenClaim := { program := "ytnfbmclaenodaaa", sum := "434ef0c8df0ba3d3c61132fd71a9a3ee4d3e08a055bc620afae063d137525c80", func := "cylinder/cylinderlaw35.LexerCuts", spec := "lexerCuts", apart := false, narrowed := true }
def LexerCutsUptoSaid : Prop := lexerCutsUptoRow.holds Try.pinned (OpenSpec.upto lexerCutsSpec)

/-- 'cylinderlaw35.LexerPlaces', WHERE WHAT IT READS IS OF BULK AT MOST 1048576: true; the input reads as it did. -/
def lexerPlacesUptoRow : OpenClaim := { program := "ytnfbmclaenodaaa", sum := "434ef0c8df0ba3d3c61132fd71a9a3ee4d3e08a055bc620afae063d137525c80", func := "cylinder/cylinderlaw35.LexerPlaces", spec := "lexerPlaces", apart := false, narrowed := true }
def LexerPlacesUptoSaid : Prop := lexerPlacesUptoRow.holds Try.pinned (OpenSpec.upto lexerPlacesSpec)

/-- 'cylinderlaw35.LexerBlanks', WHERE WHAT IT READS IS OF BULK AT MOST 1048576: true; the input reads as it did. -/
def lexerBlanksUptoRow : OpenClaim := { program := "ytnfbmclaenodaaa", sum := "434ef0c8df0ba3d3c61132fd71a9a3ee4d3e08a055bc620afae063d137525c80", func := "cylinder/cylinderlaw35.LexerBlanks", spec := "lexerBlanks", apart := false, narrowed := true }
def LexerBlanksUptoSaid : Prop := lexerBlanksUptoRow.holds Try.pinned (OpenSpec.upto lexerBlanksSpec)

/-- 'cylinderlaw35.LexerTwo', WHERE WHAT IT READS IS OF BULK AT MOST 1048576: true; the input reads as it did. -/
def lexerTwoUptoRow : OpenClaim := { program := "ytnfbmclaenodaaa", sum := "434ef0c8df0ba3d3c61132fd71a9a3ee4d3e08a055bc620afae063d137525c80", func := "cylinder/cylinderlaw35.LexerTwo", spec := "lexerTwo", apart := false, narrowed := true }
def LexerTwoUptoSaid : Prop := lexerTwoUptoRow.holds Try.pinned (OpenSpec.upto lexerTwoSpec)

/-- 'cylinderlaw35.LexerPrefix', WHERE WHAT IT READS IS OF BULK AT MOST 1048576: true; the input reads as it did. -/
def lexerPrefixUptoRow : OpenClaim := { program := "ytnfbmclaenodaaa", sum := "434ef0c8df0ba3d3c61132fd71a9a3ee4d3e08a055bc620afae063d137525c80", func := "cylinder/cylinderlaw35.LexerPrefix", spec := "lexerPrefix", apart := false, narrowed := true }
def LexerPrefixUptoSaid : Prop := lexerPrefixUptoRow.holds Try.pinned (OpenSpec.upto lexerPrefixSpec)

/-- 'cylinderlaw35.LexerLong', WHERE WHAT IT READS IS OF BULK AT MOST 1048576: true; the input reads as it did. -/
def lexerLongUptoRow : OpenClaim := { program := "ytnfbmclaenodaaa", sum := "434ef0c8df0ba3d3c61132fd71a9a3ee4d3e08a055bc620afae063d137525c80", func := "cylinder/cylinderlaw35.LexerLong", spec := "lexerLong", apart := false, narrowed := true }
def LexerLongUptoSaid : Prop := lexerLongUptoRow.holds Try.pinned (OpenSpec.upto lexerLongSpec)

/-- 'cylinderlaw35.LexerTokens', WHERE WHAT IT READS IS OF BULK AT MOST 1048576: true; the input reads as it did. -/
def lexerTokensUptoRow : OpenClaim := { program := "ytnfbmclaenodaaa", sum := "434ef0c8df0ba3d3c61132fd71a9a3ee4d3e08a055bc620afae063d137525c80", func := "cylinder/cylinderlaw35.LexerTokens", spec := "lexerTokens", unfollowed := true, recurses := true, apart := false, narrowed := true }
def LexerTokensUptoSaid : Prop := lexerTokensUptoRow.holds Try.pinned (OpenSpec.upto lexerTokensSpec)

/-- 'cylinderlaw35.LexerNames', WHERE WHAT IT READS IS OF BULK AT MOST 1048576: true; the input reads as it did. -/
def lexerNamesUptoRow : OpenClaim := { program := "ytnfbmclaenodaaa", sum := "434ef0c8df0ba3d3c61132fd71a9a3ee4d3e08a055bc620afae063d137525c80", func := "cylinder/cylinderlaw35.LexerNames", spec := "lexerNames", apart := false, narrowed := true }
def LexerNamesUptoSaid : Prop := lexerNamesUptoRow.holds Try.pinned (OpenSpec.upto lexerNamesSpec)

/-- 'cylinderlaw35.LexerJoins', WHERE WHAT IT READS IS OF BULK AT MOST 1048576: true; the input reads as it did. -/
def lexerJoinsUptoRow : OpenClaim := { program := "ytnfbmclaenodaaa", sum := "434ef0c8df0ba3d3c61132fd71a9a3ee4d3e08a055bc620afae063d137525c80", func := "cylinder/cylinderlaw35.LexerJoins", spec := "lexerJoins", inPlace := ["internal/abi.NoEscape"], apart := false, narrowed := true }
def LexerJoinsUptoSaid : Prop := lexerJoinsUptoRow.holds Try.pinned (OpenSpec.upto lexerJoinsSpec)

end Rows
end Go.Proofs.Ytnfbmclaenodaaa
