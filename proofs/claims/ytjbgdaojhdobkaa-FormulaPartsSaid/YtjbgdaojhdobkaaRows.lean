/-
  NARROWER THAN 'FOR EVERY INPUT', by the rows' own cells (each row's printed sentence says how): FormulaTerms: loops · FormulaTrees: loops · FormulaNames: loops · FormulaBinds: loops · FormulaJoins: loops · FormulaParts: loops · FormulaDegrees: loops · FormulaProducts: loops · FormulaOdd: loops · FormulaSame: loops · FormulaRenames: loops.
  DERIVED. THE GIVEN ROWS OF THIS SEAT. 12 by the template 'for every input the law returns true; each argument reads behind the call as it read before'; 0 by the template 'total and deterministic' (their statements: YtjbgdaojhdobkaaTotals.lean).
  GIVEN WITH THE SEED: the statements are not yours to turn. If you find one false, say at which input.
  Laid BY PROGRAM, IN A SANDBOX (cutbox-rows.mjs): the forced cells as the released guide's own fill.sh prints them over the translation cb581d4971cec1bc… (all of the seat's roots in one cut). By AI agents, Wed Nov 11 2026. No macro, syntax, notation, axiom, sorry.
-/
import Derived.Test.YtjbgdaojhdobkaaChecked
import GoSem.Claim
import GoSem.ClaimJoined
import GoSem.ClaimMapViews
import Derived.JoinedTies
import Derived.KernelRfl
namespace Go.Proofs.Ytjbgdaojhdobkaa
/- THE CELL 'sum', in the pinned program and in every row, IS THE sha256 OF THE DUMP (.gsa) THAT YtjbgdaojhdobkaaProg.lean LOADS. Nothing in Lean hashes anything: it is a label: what it is worth is what the hold of that sum in a sandbox is worth. -/
noncomputable def Try.pinned : Pinned := { name := "ytjbgdaojhdobkaa", sum := "cb581d4971cec1bcc3a58cda11b4a78d620747d91060442a37e76abbfb0fe6ba", checked := Try.checked }
namespace Rows
def none {H : Type} : Left H := { results := [], args := [] }

/-- 'cylinderlaw34.FormulaTerms': WHATEVER THE INPUT: true; the input reads as it did. -/
def formulaTermsSpec : ChangeSpec := { name := "formulaTerms", fn := fun _ => fun
  | [d] => { results := [.lit (.bool true)], args := [d] }
  | _ => none }
def formulaTermsRow : OpenClaim := { program := "ytjbgdaojhdobkaa", sum := "cb581d4971cec1bcc3a58cda11b4a78d620747d91060442a37e76abbfb0fe6ba", func := "cylinder/cylinderlaw34.FormulaTerms", spec := "formulaTerms", unfollowed := true, recurses := true, loops := true, apart := false }
def FormulaTermsSaid : Prop := formulaTermsRow.holds Try.pinned (OpenSpec.ofChange formulaTermsSpec)

/-- ITS FALSE NEIGHBOUR: 'it returns false'. Refute it at one input. -/
def formulaTermsWrong : ChangeSpec := { name := "formulaTerms", fn := fun _ => fun
  | [d] => { results := [.lit (.bool false)], args := [d] }
  | _ => none }
def FormulaTermsWrongFalsely : Prop := formulaTermsRow.holds Try.pinned (OpenSpec.ofChange formulaTermsWrong)

/-- 'cylinderlaw34.FormulaTrees': WHATEVER THE INPUT: true; the input reads as it did. -/
def formulaTreesSpec : ChangeSpec := { name := "formulaTrees", fn := fun _ => fun
  | [d] => { results := [.lit (.bool true)], args := [d] }
  | _ => none }
def formulaTreesRow : OpenClaim := { program := "ytjbgdaojhdobkaa", sum := "cb581d4971cec1bcc3a58cda11b4a78d620747d91060442a37e76abbfb0fe6ba", func := "cylinder/cylinderlaw34.FormulaTrees", spec := "formulaTrees", unfollowed := true, recurses := true, loops := true, apart := false }
def FormulaTreesSaid : Prop := formulaTreesRow.holds Try.pinned (OpenSpec.ofChange formulaTreesSpec)

/-- ITS FALSE NEIGHBOUR: 'it returns false'. Refute it at one input. -/
def formulaTreesWrong : ChangeSpec := { name := "formulaTrees", fn := fun _ => fun
  | [d] => { results := [.lit (.bool false)], args := [d] }
  | _ => none }
def FormulaTreesWrongFalsely : Prop := formulaTreesRow.holds Try.pinned (OpenSpec.ofChange formulaTreesWrong)

/-- 'cylinderlaw34.FormulaNames': WHATEVER THE INPUT: true; the input reads as it did. -/
def formulaNamesSpec : ChangeSpec := { name := "formulaNames", fn := fun _ => fun
  | [d] => { results := [.lit (.bool true)], args := [d] }
  | _ => none }
def formulaNamesRow : OpenClaim := { program := "ytjbgdaojhdobkaa", sum := "cb581d4971cec1bcc3a58cda11b4a78d620747d91060442a37e76abbfb0fe6ba", func := "cylinder/cylinderlaw34.FormulaNames", spec := "formulaNames", unfollowed := true, recurses := true, loops := true, apart := false }
def FormulaNamesSaid : Prop := formulaNamesRow.holds Try.pinned (OpenSpec.ofChange formulaNamesSpec)

/-- ITS FALSE NEIGHBOUR: 'it returns false'. Refute it at one input. -/
def formulaNamesWrong : ChangeSpec := { name := "formulaNames", fn := fun _ => fun
  | [d] => { results := [.lit (.bool false)], args := [d] }
  | _ => none }
def FormulaNamesWrongFalsely : Prop := formulaNamesRow.holds Try.pinned (OpenSpec.ofChange formulaNamesWrong)

/-- 'cylinderlaw34.FormulaBinds': WHATEVER THE INPUT: true; the input reads as it did. -/
def formulaBindsSpec : ChangeSpec := { name := "formulaBinds", fn := fun _ => fun
  | [d1, d2, d3] => { results := [.lit (.bool true)], args := [d1, d2, d3] }
  | _ => none }
def formulaBindsRow : OpenClaim := { program := "ytjbgdaojhdobkaa", sum := "cb581d4971cec1bcc3a58cda11b4a78d620747d91060442a37e76abbfb0fe6ba", func := "cylinder/cylinderlaw34.FormulaBinds", spec := "formulaBinds", unfollowed := true, recurses := true, loops := true, apart := false }
def FormulaBindsSaid : Prop := formulaBindsRow.holds Try.pinned (OpenSpec.ofChange formulaBindsSpec)

/-- ITS FALSE NEIGHBOUR: 'it returns false'. Refute it at one input. -/
def formulaBindsWrong : ChangeSpec := { name := "formulaBinds", fn := fun _ => fun
  | [d1, d2, d3] => { results := [.lit (.bool false)], args := [d1, d2, d3] }
  | _ => none }
def FormulaBindsWrongFalsely : Prop := formulaBindsRow.holds Try.pinned (OpenSpec.ofChange formulaBindsWrong)

/-- 'cylinderlaw34.FormulaJoins': WHATEVER THE INPUT: true; the input reads as it did. -/
def formulaJoinsSpec : ChangeSpec := { name := "formulaJoins", fn := fun _ => fun
  | [d] => { results := [.lit (.bool true)], args := [d] }
  | _ => none }
def formulaJoinsRow : OpenClaim := { program := "ytjbgdaojhdobkaa", sum := "cb581d4971cec1bcc3a58cda11b4a78d620747d91060442a37e76abbfb0fe6ba", func := "cylinder/cylinderlaw34.FormulaJoins", spec := "formulaJoins", unfollowed := true, recurses := true, loops := true, apart := false }
def FormulaJoinsSaid : Prop := formulaJoinsRow.holds Try.pinned (OpenSpec.ofChange formulaJoinsSpec)

/-- ITS FALSE NEIGHBOUR: 'it returns false'. Refute it at one input. -/
def formulaJoinsWrong : ChangeSpec := { name := "formulaJoins", fn := fun _ => fun
  | [d] => { results := [.lit (.bool false)], args := [d] }
  | _ => none }
def FormulaJoinsWrongFalsely : Prop := formulaJoinsRow.holds Try.pinned (OpenSpec.ofChange formulaJoinsWrong)

/-- 'cylinderlaw34.FormulaParts': WHATEVER THE INPUT: true; the input reads as it did. -/
def formulaPartsSpec : ChangeSpec := { name := "formulaParts", fn := fun _ => fun
  | [d1, d2] => { results := [.lit (.bool true)], args := [d1, d2] }
  | _ => none }
def formulaPartsRow : OpenClaim := { program := "ytjbgdaojhdobkaa", sum := "cb581d4971cec1bcc3a58cda11b4a78d620747d91060442a37e76abbfb0fe6ba", func := "cylinder/cylinderlaw34.FormulaParts", spec := "formulaParts", unfollowed := true, recurses := true, loops := true, apart := false }
def FormulaPartsSaid : Prop := formulaPartsRow.holds Try.pinned (OpenSpec.ofChange formulaPartsSpec)

/-- ITS FALSE NEIGHBOUR: 'it returns false'. Refute it at one input. -/
def formulaPartsWrong : ChangeSpec := { name := "formulaParts", fn := fun _ => fun
  | [d1, d2] => { results := [.lit (.bool false)], args := [d1, d2] }
  | _ => none }
def FormulaPartsWrongFalsely : Prop := formulaPartsRow.holds Try.pinned (OpenSpec.ofChange formulaPartsWrong)

/-- 'cylinderlaw34.FormulaDegrees': WHATEVER THE INPUT: true; the input reads as it did. -/
def formulaDegreesSpec : ChangeSpec := { name := "formulaDegrees", fn := fun _ => fun
  | [d] => { results := [.lit (.bool true)], args := [d] }
  | _ => none }
def formulaDegreesRow : OpenClaim := { program := "ytjbgdaojhdobkaa", sum := "cb581d4971cec1bcc3a58cda11b4a78d620747d91060442a37e76abbfb0fe6ba", func := "cylinder/cylinderlaw34.FormulaDegrees", spec := "formulaDegrees", unfollowed := true, recurses := true, named := ["math/bits.overflowError"], loops := true, apart := false }
def FormulaDegreesSaid : Prop := formulaDegreesRow.holds Try.pinned (OpenSpec.ofChange formulaDegreesSpec)

/-- ITS FALSE NEIGHBOUR: 'it returns false'. Refute it at one input. -/
def formulaDegreesWrong : ChangeSpec := { name := "formulaDegrees", fn := fun _ => fun
  | [d] => { results := [.lit (.bool false)], args := [d] }
  | _ => none }
def FormulaDegreesWrongFalsely : Prop := formulaDegreesRow.holds Try.pinned (OpenSpec.ofChange formulaDegreesWrong)

/-- 'cylinderlaw34.FormulaProducts': WHATEVER THE INPUT: true; the input reads as it did. -/
def formulaProductsSpec : ChangeSpec := { name := "formulaProducts", fn := fun _ => fun
  | [d1, d2, d3] => { results := [.lit (.bool true)], args := [d1, d2, d3] }
  | _ => none }
def formulaProductsRow : OpenClaim := { program := "ytjbgdaojhdobkaa", sum := "cb581d4971cec1bcc3a58cda11b4a78d620747d91060442a37e76abbfb0fe6ba", func := "cylinder/cylinderlaw34.FormulaProducts", spec := "formulaProducts", unfollowed := true, recurses := true, named := ["math/bits.overflowError"], loops := true, apart := false }
def FormulaProductsSaid : Prop := formulaProductsRow.holds Try.pinned (OpenSpec.ofChange formulaProductsSpec)

/-- ITS FALSE NEIGHBOUR: 'it returns false'. Refute it at one input. -/
def formulaProductsWrong : ChangeSpec := { name := "formulaProducts", fn := fun _ => fun
  | [d1, d2, d3] => { results := [.lit (.bool false)], args := [d1, d2, d3] }
  | _ => none }
def FormulaProductsWrongFalsely : Prop := formulaProductsRow.holds Try.pinned (OpenSpec.ofChange formulaProductsWrong)

/-- 'cylinderlaw34.FormulaOdd': WHATEVER THE INPUT: true; the input reads as it did. -/
def formulaOddSpec : ChangeSpec := { name := "formulaOdd", fn := fun _ => fun
  | [d1, d2, d3] => { results := [.lit (.bool true)], args := [d1, d2, d3] }
  | _ => none }
def formulaOddRow : OpenClaim := { program := "ytjbgdaojhdobkaa", sum := "cb581d4971cec1bcc3a58cda11b4a78d620747d91060442a37e76abbfb0fe6ba", func := "cylinder/cylinderlaw34.FormulaOdd", spec := "formulaOdd", unfollowed := true, recurses := true, loops := true, apart := false }
def FormulaOddSaid : Prop := formulaOddRow.holds Try.pinned (OpenSpec.ofChange formulaOddSpec)

/-- ITS FALSE NEIGHBOUR: 'it returns false'. Refute it at one input. -/
def formulaOddWrong : ChangeSpec := { name := "formulaOdd", fn := fun _ => fun
  | [d1, d2, d3] => { results := [.lit (.bool false)], args := [d1, d2, d3] }
  | _ => none }
def FormulaOddWrongFalsely : Prop := formulaOddRow.holds Try.pinned (OpenSpec.ofChange formulaOddWrong)

/-- 'cylinderlaw34.FormulaSame': WHATEVER THE INPUT: true; the input reads as it did. -/
def formulaSameSpec : ChangeSpec := { name := "formulaSame", fn := fun _ => fun
  | [d1, d2] => { results := [.lit (.bool true)], args := [d1, d2] }
  | _ => none }
def formulaSameRow : OpenClaim := { program := "ytjbgdaojhdobkaa", sum := "cb581d4971cec1bcc3a58cda11b4a78d620747d91060442a37e76abbfb0fe6ba", func := "cylinder/cylinderlaw34.FormulaSame", spec := "formulaSame", unfollowed := true, recurses := true, loops := true, apart := false }
def FormulaSameSaid : Prop := formulaSameRow.holds Try.pinned (OpenSpec.ofChange formulaSameSpec)

/-- ITS FALSE NEIGHBOUR: 'it returns false'. Refute it at one input. -/
def formulaSameWrong : ChangeSpec := { name := "formulaSame", fn := fun _ => fun
  | [d1, d2] => { results := [.lit (.bool false)], args := [d1, d2] }
  | _ => none }
def FormulaSameWrongFalsely : Prop := formulaSameRow.holds Try.pinned (OpenSpec.ofChange formulaSameWrong)

/-- 'cylinderlaw34.FormulaValid': WHATEVER THE INPUT: true; the input reads as it did. -/
def formulaValidSpec : ChangeSpec := { name := "formulaValid", fn := fun _ => fun
  | [d] => { results := [.lit (.bool true)], args := [d] }
  | _ => none }
def formulaValidRow : OpenClaim := { program := "ytjbgdaojhdobkaa", sum := "cb581d4971cec1bcc3a58cda11b4a78d620747d91060442a37e76abbfb0fe6ba", func := "cylinder/cylinderlaw34.FormulaValid", spec := "formulaValid", unfollowed := true, recurses := true, named := ["math/bits.overflowError"], apart := false }
def FormulaValidSaid : Prop := formulaValidRow.holds Try.pinned (OpenSpec.ofChange formulaValidSpec)

/-- ITS FALSE NEIGHBOUR: 'it returns false'. Refute it at one input. -/
def formulaValidWrong : ChangeSpec := { name := "formulaValid", fn := fun _ => fun
  | [d] => { results := [.lit (.bool false)], args := [d] }
  | _ => none }
def FormulaValidWrongFalsely : Prop := formulaValidRow.holds Try.pinned (OpenSpec.ofChange formulaValidWrong)

/-- 'cylinderlaw34.FormulaRenames': WHATEVER THE INPUT: true; the input reads as it did. -/
def formulaRenamesSpec : ChangeSpec := { name := "formulaRenames", fn := fun _ => fun
  | [d1, d2, d3] => { results := [.lit (.bool true)], args := [d1, d2, d3] }
  | _ => none }
def formulaRenamesRow : OpenClaim := { program := "ytjbgdaojhdobkaa", sum := "cb581d4971cec1bcc3a58cda11b4a78d620747d91060442a37e76abbfb0fe6ba", func := "cylinder/cylinderlaw34.FormulaRenames", spec := "formulaRenames", unfollowed := true, recurses := true, loops := true, apart := false }
def FormulaRenamesSaid : Prop := formulaRenamesRow.holds Try.pinned (OpenSpec.ofChange formulaRenamesSpec)

/-- ITS FALSE NEIGHBOUR: 'it returns false'. Refute it at one input. -/
def formulaRenamesWrong : ChangeSpec := { name := "formulaRenames", fn := fun _ => fun
  | [d1, d2, d3] => { results := [.lit (.bool false)], args := [d1, d2, d3] }
  | _ => none }
def FormulaRenamesWrongFalsely : Prop := formulaRenamesRow.holds Try.pinned (OpenSpec.ofChange formulaRenamesWrong)

/- THE SECOND FORM. 'bulk': how many values and letters a reading holds, each counted each time it is reached (what is shared counts as often as it is met; a slice's spare places count too). A statement '..UptoSaid' is the law's where the arguments, and the package variables that the reading takes, are together of bulk at most 1048576: NARROWER than '..Said'. Prove '..Said' where nothing that the law and all that it calls make is longer than what came in: it says more and counts as full. Else prove '..UptoSaid'. A law counts once. -/
mutual
def uptoBulk {H : Type} : DataW H → Nat
  | .lit (.string bytes) => bytes.length + 1
  | .lit _ => 1
  | .nil => 1
  | .ptr d => uptoBulk d + 1
  | .slice elems spare => uptoBulkAll elems + uptoBulkAll spare + 1
  | .agg parts => uptoBulkAll parts + 1
  | .iface _ d => uptoBulk d + 1
  | .map entries => uptoBulkEntries entries + 1
  | .held _ => 1
def uptoBulkAll {H : Type} : List (DataW H) → Nat
  | [] => 0
  | d :: r => uptoBulk d + uptoBulkAll r
def uptoBulkEntries {H : Type} : List (Lit × DataW H) → Nat
  | [] => 0
  | x :: r => uptoBulkEntry x + uptoBulkEntries r
def uptoBulkEntry {H : Type} : Lit × DataW H → Nat
  | (.string bytes, d) => bytes.length + uptoBulk d + 1
  | (_, d) => uptoBulk d + 1
 end
def uptoSmall : (H : Type) → List (DataW H) → Bool := fun _ ds => decide (uptoBulkAll ds ≤ 1048576)
def OpenSpec.upto (s : _root_.Go.ChangeSpec) : _root_.Go.OpenSpec := { _root_.Go.OpenSpec.ofChange s with cond := some uptoSmall }

/-- 'cylinderlaw34.FormulaTerms', WHERE WHAT IT READS IS OF BULK AT MOST 1048576: true; the input reads as it did. -/
def formulaTermsUptoRow : OpenClaim := { program := "ytjbgdaojhdobkaa", sum := "cb581d4971cec1bcc3a58cda11b4a78d620747d91060442a37e76abbfb0fe6ba", func := "cylinder/cylinderlaw34.FormulaTerms", spec := "formulaTerms", unfollowed := true, recurses := true, loops := true, apart := false, narrowed := true }
def FormulaTermsUptoSaid : Prop := formulaTermsUptoRow.holds Try.pinned (OpenSpec.upto formulaTermsSpec)

/-- 'cylinderlaw34.FormulaTrees', WHERE WHAT IT READS IS OF BULK AT MOST 1048576: true; the input reads as it did. -/
def formulaTreesUptoRow : OpenClaim := { program := "ytjbgdaojhdobkaa", sum := "cb581d4971cec1bcc3a58cda11b4a78d620747d91060442a37e76abbfb0fe6ba", func := "cylinder/cylinderlaw34.FormulaTrees", spec := "formulaTrees", unfollowed := true, recurses := true, loops := true, apart := false, narrowed := true }
def FormulaTreesUptoSaid : Prop := formulaTreesUptoRow.holds Try.pinned (OpenSpec.upto formulaTreesSpec)

/-- 'cylinderlaw34.FormulaNames', WHERE WHAT IT READS IS OF BULK AT MOST 1048576: true; the input reads as it did. -/
def formulaNamesUptoRow : OpenClaim := { program := "ytjbgdaojhdobkaa", sum := "cb581d4971cec1bcc3a58cda11b4a78d620747d91060442a37e76abbfb0fe6ba", func := "cylinder/cylinderlaw34.FormulaNames", spec := "formulaNames", unfollowed := true, recurses := true, loops := true, apart := false, narrowed := true }
def FormulaNamesUptoSaid : Prop := formulaNamesUptoRow.holds Try.pinned (OpenSpec.upto formulaNamesSpec)

/-- 'cylinderlaw34.FormulaBinds', WHERE WHAT IT READS IS OF BULK AT MOST 1048576: true; the input reads as it did. -/
def formulaBindsUptoRow : OpenClaim := { program := "ytjbgdaojhdobkaa", sum := "cb581d4971cec1bcc3a58cda11b4a78d620747d91060442a37e76abbfb0fe6ba", func := "cylinder/cylinderlaw34.FormulaBinds", spec := "formulaBinds", unfollowed := true, recurses := true, loops := true, apart := false, narrowed := true }
def FormulaBindsUptoSaid : Prop := formulaBindsUptoRow.holds Try.pinned (OpenSpec.upto formulaBindsSpec)

/-- 'cylinderlaw34.FormulaJoins', WHERE WHAT IT READS IS OF BULK AT MOST 1048576: true; the input reads as it did. -/
def formulaJoinsUptoRow : OpenClaim := { program := "ytjbgdaojhdobkaa", sum := "cb581d4971cec1bcc3a58cda11b4a78d620747d91060442a37e76abbfb0fe6ba", func := "cylinder/cylinderlaw34.FormulaJoins", spec := "formulaJoins", unfollowed := true, recurses := true, loops := true, apart := false, narrowed := true }
def FormulaJoinsUptoSaid : Prop := formulaJoinsUptoRow.holds Try.pinned (OpenSpec.upto formulaJoinsSpec)

/-- 'cylinderlaw34.FormulaParts', WHERE WHAT IT READS IS OF BULK AT MOST 1048576: true; the input reads as it did. -/
def formulaPartsUptoRow : OpenClaim := { program := "ytjbgdaojhdobkaa", sum := "cb581d4971cec1bcc3a58cda11b4a78d620747d91060442a37e76abbfb0fe6ba", func := "cylinder/cylinderlaw34.FormulaParts", spec := "formulaParts", unfollowed := true, recurses := true, loops := true, apart := false, narrowed := true }
def FormulaPartsUptoSaid : Prop := formulaPartsUptoRow.holds Try.pinned (OpenSpec.upto formulaPartsSpec)

/-- 'cylinderlaw34.FormulaDegrees', WHERE WHAT IT READS IS OF BULK AT MOST 1048576: true; the input reads as it did. -/
def formulaDegreesUptoRow : OpenClaim := { program := "ytjbgdaojhdobkaa", sum := "cb581d4971cec1bcc3a58cda11b4a78d620747d91060442a37e76abbfb0fe6ba", func := "cylinder/cylinderlaw34.FormulaDegrees", spec := "formulaDegrees", unfollowed := true, recurses := true, named := ["math/bits.overflowError"], loops := true, apart := false, narrowed := true }
def FormulaDegreesUptoSaid : Prop := formulaDegreesUptoRow.holds Try.pinned (OpenSpec.upto formulaDegreesSpec)

/-- 'cylinderlaw34.FormulaProducts', WHERE WHAT IT READS IS OF BULK AT MOST 1048576: true; the input reads as it did. -/
def formulaProductsUptoRow : OpenClaim := { program := "ytjbgdaojhdobkaa", sum := "cb581d4971cec1bcc3a58cda11b4a78d620747d91060442a37e76abbfb0fe6ba", func := "cylinder/cylinderlaw34.FormulaProducts", spec := "formulaProducts", unfollowed := true, recurses := true, named := ["math/bits.overflowError"], loops := true, apart := false, narrowed := true }
def FormulaProductsUptoSaid : Prop := formulaProductsUptoRow.holds Try.pinned (OpenSpec.upto formulaProductsSpec)

/-- 'cylinderlaw34.FormulaOdd', WHERE WHAT IT READS IS OF BULK AT MOST 1048576: true; the input reads as it did. -/
def formulaOddUptoRow : OpenClaim := { program := "ytjbgdaojhdobkaa", sum := "cb581d4971cec1bcc3a58cda11b4a78d620747d91060442a37e76abbfb0fe6ba", func := "cylinder/cylinderlaw34.FormulaOdd", spec := "formulaOdd", unfollowed := true, recurses := true, loops := true, apart := false, narrowed := true }
def FormulaOddUptoSaid : Prop := formulaOddUptoRow.holds Try.pinned (OpenSpec.upto formulaOddSpec)

/-- 'cylinderlaw34.FormulaSame', WHERE WHAT IT READS IS OF BULK AT MOST 1048576: true; the input reads as it did. -/
def formulaSameUptoRow : OpenClaim := { program := "ytjbgdaojhdobkaa", sum := "cb581d4971cec1bcc3a58cda11b4a78d620747d91060442a37e76abbfb0fe6ba", func := "cylinder/cylinderlaw34.FormulaSame", spec := "formulaSame", unfollowed := true, recurses := true, loops := true, apart := false, narrowed := true }
def FormulaSameUptoSaid : Prop := formulaSameUptoRow.holds Try.pinned (OpenSpec.upto formulaSameSpec)

/-- 'cylinderlaw34.FormulaValid', WHERE WHAT IT READS IS OF BULK AT MOST 1048576: true; the input reads as it did. -/
def formulaValidUptoRow : OpenClaim := { program := "ytjbgdaojhdobkaa", sum := "cb581d4971cec1bcc3a58cda11b4a78d620747d91060442a37e76abbfb0fe6ba", func := "cylinder/cylinderlaw34.FormulaValid", spec := "formulaValid", unfollowed := true, recurses := true, named := ["math/bits.overflowError"], apart := false, narrowed := true }
def FormulaValidUptoSaid : Prop := formulaValidUptoRow.holds Try.pinned (OpenSpec.upto formulaValidSpec)

/-- 'cylinderlaw34.FormulaRenames', WHERE WHAT IT READS IS OF BULK AT MOST 1048576: true; the input reads as it did. -/
def formulaRenamesUptoRow : OpenClaim := { program := "ytjbgdaojhdobkaa", sum := "cb581d4971cec1bcc3a58cda11b4a78d620747d91060442a37e76abbfb0fe6ba", func := "cylinder/cylinderlaw34.FormulaRenames", spec := "formulaRenames", unfollowed := true, recurses := true, loops := true, apart := false, narrowed := true }
def FormulaRenamesUptoSaid : Prop := formulaRenamesUptoRow.holds Try.pinned (OpenSpec.upto formulaRenamesSpec)

end Rows
end Go.Proofs.Ytjbgdaojhdobkaa
