/-
  What a type switch asks of a term or a formula.
-/
import Derived.Test.YteneobpacobpdaaTm
namespace Go.Proofs.Yteneobpacobpdaa
open Go.RowKit
set_option linter.unusedSimpArgs false
set_option linter.unusedVariables false
namespace Fm
section
variable {P : Program}
theorem run_ta_yes (w : World) (st T : TypeId) (v : Value) {fs : Array Field} (hu : P.underlying T = some (.struct fs)) : (Instr.typeAssert (.iface T v) st T true).run P w = .ok (.tuple #[v, .bool true]) w := by
  simp [Instr.typeAssert, run_underlying hu]
theorem run_ta_no (w : World) (st T u : TypeId) (v z : Value) {fs : Array Field} (hu : P.underlying T = some (.struct fs)) (hz : ∀ w, (zeroValue T).run P w = .ok z w) (hne : u ≠ T) : (Instr.typeAssert (.iface u v) st T true).run P w = .ok (.tuple #[z, .bool false]) w := by
  simp [Instr.typeAssert, run_underlying hu, hne, hz]
theorem run_ta_nil (w : World) (st T : TypeId) (z : Value) {fs : Array Field} (hu : P.underlying T = some (.struct fs)) (hz : ∀ w, (zeroValue T).run P w = .ok z w) : (Instr.typeAssert .nilIface st T true).run P w = .ok (.tuple #[z, .bool false]) w := by
  simp [Instr.typeAssert, run_underlying hu, hz]
end
theorem taNum_yes (v : Value) (w : World) : (Instr.typeAssert (.iface 45 v) 47 45 true).run Try.prog w = .ok (.tuple #[v, .bool true]) w := run_ta_yes w _ _ v Try.underlying45
theorem zeroNum (w : World) : (zeroValue 45).run Try.prog w = .ok (.agg #[.bool false, .slice none 0 0]) w := by kernel_rfl
theorem taNum_no (u : TypeId) (v : Value) (w : World) (hne : u ≠ 45) : (Instr.typeAssert (.iface u v) 47 45 true).run Try.prog w = .ok (.tuple #[.agg #[.bool false, .slice none 0 0], .bool false]) w := run_ta_no w _ _ u v _ Try.underlying45 zeroNum hne
theorem taNum_nil (w : World) : (Instr.typeAssert .nilIface 47 45 true).run Try.prog w = .ok (.tuple #[.agg #[.bool false, .slice none 0 0], .bool false]) w := run_ta_nil w _ _ _ Try.underlying45 zeroNum
theorem taName_yes (v : Value) (w : World) : (Instr.typeAssert (.iface 42 v) 47 42 true).run Try.prog w = .ok (.tuple #[v, .bool true]) w := run_ta_yes w _ _ v Try.underlying42
theorem zeroName (w : World) : (zeroValue 42).run Try.prog w = .ok (.agg #[.string ⟨#[]⟩]) w := by kernel_rfl
theorem taName_no (u : TypeId) (v : Value) (w : World) (hne : u ≠ 42) : (Instr.typeAssert (.iface u v) 47 42 true).run Try.prog w = .ok (.tuple #[.agg #[.string ⟨#[]⟩], .bool false]) w := run_ta_no w _ _ u v _ Try.underlying42 zeroName hne
theorem taName_nil (w : World) : (Instr.typeAssert .nilIface 47 42 true).run Try.prog w = .ok (.tuple #[.agg #[.string ⟨#[]⟩], .bool false]) w := run_ta_nil w _ _ _ Try.underlying42 zeroName
theorem taAdd_yes (v : Value) (w : World) : (Instr.typeAssert (.iface 102 v) 47 102 true).run Try.prog w = .ok (.tuple #[v, .bool true]) w := run_ta_yes w _ _ v Try.underlying102
theorem zeroAdd (w : World) : (zeroValue 102).run Try.prog w = .ok (.agg #[.nilIface, .nilIface]) w := by kernel_rfl
theorem taAdd_no (u : TypeId) (v : Value) (w : World) (hne : u ≠ 102) : (Instr.typeAssert (.iface u v) 47 102 true).run Try.prog w = .ok (.tuple #[.agg #[.nilIface, .nilIface], .bool false]) w := run_ta_no w _ _ u v _ Try.underlying102 zeroAdd hne
theorem taAdd_nil (w : World) : (Instr.typeAssert .nilIface 47 102 true).run Try.prog w = .ok (.tuple #[.agg #[.nilIface, .nilIface], .bool false]) w := run_ta_nil w _ _ _ Try.underlying102 zeroAdd
theorem taSub_yes (v : Value) (w : World) : (Instr.typeAssert (.iface 103 v) 47 103 true).run Try.prog w = .ok (.tuple #[v, .bool true]) w := run_ta_yes w _ _ v Try.underlying103
theorem zeroSub (w : World) : (zeroValue 103).run Try.prog w = .ok (.agg #[.nilIface, .nilIface]) w := by kernel_rfl
theorem taSub_no (u : TypeId) (v : Value) (w : World) (hne : u ≠ 103) : (Instr.typeAssert (.iface u v) 47 103 true).run Try.prog w = .ok (.tuple #[.agg #[.nilIface, .nilIface], .bool false]) w := run_ta_no w _ _ u v _ Try.underlying103 zeroSub hne
theorem taSub_nil (w : World) : (Instr.typeAssert .nilIface 47 103 true).run Try.prog w = .ok (.tuple #[.agg #[.nilIface, .nilIface], .bool false]) w := run_ta_nil w _ _ _ Try.underlying103 zeroSub
theorem taMul_yes (v : Value) (w : World) : (Instr.typeAssert (.iface 104 v) 47 104 true).run Try.prog w = .ok (.tuple #[v, .bool true]) w := run_ta_yes w _ _ v Try.underlying104
theorem zeroMul (w : World) : (zeroValue 104).run Try.prog w = .ok (.agg #[.nilIface, .nilIface]) w := by kernel_rfl
theorem taMul_no (u : TypeId) (v : Value) (w : World) (hne : u ≠ 104) : (Instr.typeAssert (.iface u v) 47 104 true).run Try.prog w = .ok (.tuple #[.agg #[.nilIface, .nilIface], .bool false]) w := run_ta_no w _ _ u v _ Try.underlying104 zeroMul hne
theorem taMul_nil (w : World) : (Instr.typeAssert .nilIface 47 104 true).run Try.prog w = .ok (.tuple #[.agg #[.nilIface, .nilIface], .bool false]) w := run_ta_nil w _ _ _ Try.underlying104 zeroMul
theorem taNeg_yes (v : Value) (w : World) : (Instr.typeAssert (.iface 106 v) 47 106 true).run Try.prog w = .ok (.tuple #[v, .bool true]) w := run_ta_yes w _ _ v Try.underlying106
theorem zeroNeg (w : World) : (zeroValue 106).run Try.prog w = .ok (.agg #[.nilIface]) w := by kernel_rfl
theorem taNeg_no (u : TypeId) (v : Value) (w : World) (hne : u ≠ 106) : (Instr.typeAssert (.iface u v) 47 106 true).run Try.prog w = .ok (.tuple #[.agg #[.nilIface], .bool false]) w := run_ta_no w _ _ u v _ Try.underlying106 zeroNeg hne
theorem taNeg_nil (w : World) : (Instr.typeAssert .nilIface 47 106 true).run Try.prog w = .ok (.tuple #[.agg #[.nilIface], .bool false]) w := run_ta_nil w _ _ _ Try.underlying106 zeroNeg
theorem taPow_yes (v : Value) (w : World) : (Instr.typeAssert (.iface 108 v) 47 108 true).run Try.prog w = .ok (.tuple #[v, .bool true]) w := run_ta_yes w _ _ v Try.underlying108
theorem zeroPow (w : World) : (zeroValue 108).run Try.prog w = .ok (.agg #[.nilIface, .int .i64 0]) w := by kernel_rfl
theorem taPow_no (u : TypeId) (v : Value) (w : World) (hne : u ≠ 108) : (Instr.typeAssert (.iface u v) 47 108 true).run Try.prog w = .ok (.tuple #[.agg #[.nilIface, .int .i64 0], .bool false]) w := run_ta_no w _ _ u v _ Try.underlying108 zeroPow hne
theorem taPow_nil (w : World) : (Instr.typeAssert .nilIface 47 108 true).run Try.prog w = .ok (.tuple #[.agg #[.nilIface, .int .i64 0], .bool false]) w := run_ta_nil w _ _ _ Try.underlying108 zeroPow
theorem taTruth_yes (v : Value) (w : World) : (Instr.typeAssert (.iface 62 v) 34 62 true).run Try.prog w = .ok (.tuple #[v, .bool true]) w := run_ta_yes w _ _ v Try.underlying62
theorem zeroTruth (w : World) : (zeroValue 62).run Try.prog w = .ok (.agg #[.bool false]) w := by kernel_rfl
theorem taTruth_no (u : TypeId) (v : Value) (w : World) (hne : u ≠ 62) : (Instr.typeAssert (.iface u v) 34 62 true).run Try.prog w = .ok (.tuple #[.agg #[.bool false], .bool false]) w := run_ta_no w _ _ u v _ Try.underlying62 zeroTruth hne
theorem taTruth_nil (w : World) : (Instr.typeAssert .nilIface 34 62 true).run Try.prog w = .ok (.tuple #[.agg #[.bool false], .bool false]) w := run_ta_nil w _ _ _ Try.underlying62 zeroTruth
theorem taAtom_yes (v : Value) (w : World) : (Instr.typeAssert (.iface 49 v) 34 49 true).run Try.prog w = .ok (.tuple #[v, .bool true]) w := run_ta_yes w _ _ v Try.underlying49
theorem zeroAtom (w : World) : (zeroValue 49).run Try.prog w = .ok (.agg #[.nilIface, .int .i64 0, .nilIface]) w := by kernel_rfl
theorem taAtom_no (u : TypeId) (v : Value) (w : World) (hne : u ≠ 49) : (Instr.typeAssert (.iface u v) 34 49 true).run Try.prog w = .ok (.tuple #[.agg #[.nilIface, .int .i64 0, .nilIface], .bool false]) w := run_ta_no w _ _ u v _ Try.underlying49 zeroAtom hne
theorem taAtom_nil (w : World) : (Instr.typeAssert .nilIface 34 49 true).run Try.prog w = .ok (.tuple #[.agg #[.nilIface, .int .i64 0, .nilIface], .bool false]) w := run_ta_nil w _ _ _ Try.underlying49 zeroAtom
theorem taNot_yes (v : Value) (w : World) : (Instr.typeAssert (.iface 80 v) 34 80 true).run Try.prog w = .ok (.tuple #[v, .bool true]) w := run_ta_yes w _ _ v Try.underlying80
theorem zeroNot (w : World) : (zeroValue 80).run Try.prog w = .ok (.agg #[.nilIface]) w := by kernel_rfl
theorem taNot_no (u : TypeId) (v : Value) (w : World) (hne : u ≠ 80) : (Instr.typeAssert (.iface u v) 34 80 true).run Try.prog w = .ok (.tuple #[.agg #[.nilIface], .bool false]) w := run_ta_no w _ _ u v _ Try.underlying80 zeroNot hne
theorem taNot_nil (w : World) : (Instr.typeAssert .nilIface 34 80 true).run Try.prog w = .ok (.tuple #[.agg #[.nilIface], .bool false]) w := run_ta_nil w _ _ _ Try.underlying80 zeroNot
theorem taAnd_yes (v : Value) (w : World) : (Instr.typeAssert (.iface 82 v) 34 82 true).run Try.prog w = .ok (.tuple #[v, .bool true]) w := run_ta_yes w _ _ v Try.underlying82
theorem zeroAnd (w : World) : (zeroValue 82).run Try.prog w = .ok (.agg #[.nilIface, .nilIface]) w := by kernel_rfl
theorem taAnd_no (u : TypeId) (v : Value) (w : World) (hne : u ≠ 82) : (Instr.typeAssert (.iface u v) 34 82 true).run Try.prog w = .ok (.tuple #[.agg #[.nilIface, .nilIface], .bool false]) w := run_ta_no w _ _ u v _ Try.underlying82 zeroAnd hne
theorem taAnd_nil (w : World) : (Instr.typeAssert .nilIface 34 82 true).run Try.prog w = .ok (.tuple #[.agg #[.nilIface, .nilIface], .bool false]) w := run_ta_nil w _ _ _ Try.underlying82 zeroAnd
theorem taOr_yes (v : Value) (w : World) : (Instr.typeAssert (.iface 83 v) 34 83 true).run Try.prog w = .ok (.tuple #[v, .bool true]) w := run_ta_yes w _ _ v Try.underlying83
theorem zeroOr (w : World) : (zeroValue 83).run Try.prog w = .ok (.agg #[.nilIface, .nilIface]) w := by kernel_rfl
theorem taOr_no (u : TypeId) (v : Value) (w : World) (hne : u ≠ 83) : (Instr.typeAssert (.iface u v) 34 83 true).run Try.prog w = .ok (.tuple #[.agg #[.nilIface, .nilIface], .bool false]) w := run_ta_no w _ _ u v _ Try.underlying83 zeroOr hne
theorem taOr_nil (w : World) : (Instr.typeAssert .nilIface 34 83 true).run Try.prog w = .ok (.tuple #[.agg #[.nilIface, .nilIface], .bool false]) w := run_ta_nil w _ _ _ Try.underlying83 zeroOr
theorem taImplies_yes (v : Value) (w : World) : (Instr.typeAssert (.iface 84 v) 34 84 true).run Try.prog w = .ok (.tuple #[v, .bool true]) w := run_ta_yes w _ _ v Try.underlying84
theorem zeroImplies (w : World) : (zeroValue 84).run Try.prog w = .ok (.agg #[.nilIface, .nilIface]) w := by kernel_rfl
theorem taImplies_no (u : TypeId) (v : Value) (w : World) (hne : u ≠ 84) : (Instr.typeAssert (.iface u v) 34 84 true).run Try.prog w = .ok (.tuple #[.agg #[.nilIface, .nilIface], .bool false]) w := run_ta_no w _ _ u v _ Try.underlying84 zeroImplies hne
theorem taImplies_nil (w : World) : (Instr.typeAssert .nilIface 34 84 true).run Try.prog w = .ok (.tuple #[.agg #[.nilIface, .nilIface], .bool false]) w := run_ta_nil w _ _ _ Try.underlying84 zeroImplies
theorem taIff_yes (v : Value) (w : World) : (Instr.typeAssert (.iface 85 v) 34 85 true).run Try.prog w = .ok (.tuple #[v, .bool true]) w := run_ta_yes w _ _ v Try.underlying85
theorem zeroIff (w : World) : (zeroValue 85).run Try.prog w = .ok (.agg #[.nilIface, .nilIface]) w := by kernel_rfl
theorem taIff_no (u : TypeId) (v : Value) (w : World) (hne : u ≠ 85) : (Instr.typeAssert (.iface u v) 34 85 true).run Try.prog w = .ok (.tuple #[.agg #[.nilIface, .nilIface], .bool false]) w := run_ta_no w _ _ u v _ Try.underlying85 zeroIff hne
theorem taIff_nil (w : World) : (Instr.typeAssert .nilIface 34 85 true).run Try.prog w = .ok (.tuple #[.agg #[.nilIface, .nilIface], .bool false]) w := run_ta_nil w _ _ _ Try.underlying85 zeroIff
theorem taQuant_yes (v : Value) (w : World) : (Instr.typeAssert (.iface 87 v) 34 87 true).run Try.prog w = .ok (.tuple #[v, .bool true]) w := run_ta_yes w _ _ v Try.underlying87
theorem zeroQuant (w : World) : (zeroValue 87).run Try.prog w = .ok (.agg #[.bool false, .string ⟨#[]⟩, .nilIface]) w := by kernel_rfl
theorem taQuant_no (u : TypeId) (v : Value) (w : World) (hne : u ≠ 87) : (Instr.typeAssert (.iface u v) 34 87 true).run Try.prog w = .ok (.tuple #[.agg #[.bool false, .string ⟨#[]⟩, .nilIface], .bool false]) w := run_ta_no w _ _ u v _ Try.underlying87 zeroQuant hne
theorem taQuant_nil (w : World) : (Instr.typeAssert .nilIface 34 87 true).run Try.prog w = .ok (.tuple #[.agg #[.bool false, .string ⟨#[]⟩, .nilIface], .bool false]) w := run_ta_nil w _ _ _ Try.underlying87 zeroQuant
end Fm
end Go.Proofs.Yteneobpacobpdaa
