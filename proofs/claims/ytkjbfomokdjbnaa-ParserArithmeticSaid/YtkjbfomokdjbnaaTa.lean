/-
  What a type switch asks of a term or a formula.
-/
import Derived.Test.YtkjbfomokdjbnaaTm
namespace Go.Proofs.Ytkjbfomokdjbnaa
open Go.RowKit
set_option linter.unusedSimpArgs false
set_option linter.unusedVariables false
namespace Fm
section
variable {P : Program}
theorem run_ta_yes (w : World) (st T : TypeId) (v : Value) {fs : Array Field} (hu : P.underlying T = some (.struct fs)) : (Instr.typeAssert (.iface T v) st T true).run P w = .ok (.tuple #[v, .bool true]) w := by
  simp [Instr.typeAssert, run_underlying hu]
theorem run_ta_no (w : World) (st T u : TypeId) (v z : Value) {fs : Array Field} (hu : P.underlying T = some (.struct fs)) (hz : ∀ w, (zeroValue T).run P w = .ok z w) (hne : u ≠ T) : (Instr.typeAssert (.iface u v) st T true).run P w = .ok (.tuple #[z, .bool false]) w := by
  simp [Instr.typeAssert, run_underlying hu, hne, hz]
theorem run_ta_nil (w : World) (st T : TypeId) (z : Value) {fs : Array Field} (hu : P.underlying T = some (.struct fs)) (hz : ∀ w, (zeroValue T).run P w = .ok z w) : (Instr.typeAssert .nilIface st T true).run P w = .ok (.tuple #[z, .bool false]) w := by
  simp [Instr.typeAssert, run_underlying hu, hz]
end
theorem taNum_yes (v : Value) (w : World) : (Instr.typeAssert (.iface 65 v) 55 65 true).run Try.prog w = .ok (.tuple #[v, .bool true]) w := run_ta_yes w _ _ v Try.underlying65
theorem zeroNum (w : World) : (zeroValue 65).run Try.prog w = .ok (.agg #[.bool false, .slice none 0 0]) w := by kernel_rfl
theorem taNum_no (u : TypeId) (v : Value) (w : World) (hne : u ≠ 65) : (Instr.typeAssert (.iface u v) 55 65 true).run Try.prog w = .ok (.tuple #[.agg #[.bool false, .slice none 0 0], .bool false]) w := run_ta_no w _ _ u v _ Try.underlying65 zeroNum hne
theorem taNum_nil (w : World) : (Instr.typeAssert .nilIface 55 65 true).run Try.prog w = .ok (.tuple #[.agg #[.bool false, .slice none 0 0], .bool false]) w := run_ta_nil w _ _ _ Try.underlying65 zeroNum
theorem taName_yes (v : Value) (w : World) : (Instr.typeAssert (.iface 62 v) 55 62 true).run Try.prog w = .ok (.tuple #[v, .bool true]) w := run_ta_yes w _ _ v Try.underlying62
theorem zeroName (w : World) : (zeroValue 62).run Try.prog w = .ok (.agg #[.string ⟨#[]⟩]) w := by kernel_rfl
theorem taName_no (u : TypeId) (v : Value) (w : World) (hne : u ≠ 62) : (Instr.typeAssert (.iface u v) 55 62 true).run Try.prog w = .ok (.tuple #[.agg #[.string ⟨#[]⟩], .bool false]) w := run_ta_no w _ _ u v _ Try.underlying62 zeroName hne
theorem taName_nil (w : World) : (Instr.typeAssert .nilIface 55 62 true).run Try.prog w = .ok (.tuple #[.agg #[.string ⟨#[]⟩], .bool false]) w := run_ta_nil w _ _ _ Try.underlying62 zeroName
theorem taAdd_yes (v : Value) (w : World) : (Instr.typeAssert (.iface 92 v) 55 92 true).run Try.prog w = .ok (.tuple #[v, .bool true]) w := run_ta_yes w _ _ v Try.underlying92
theorem zeroAdd (w : World) : (zeroValue 92).run Try.prog w = .ok (.agg #[.nilIface, .nilIface]) w := by kernel_rfl
theorem taAdd_no (u : TypeId) (v : Value) (w : World) (hne : u ≠ 92) : (Instr.typeAssert (.iface u v) 55 92 true).run Try.prog w = .ok (.tuple #[.agg #[.nilIface, .nilIface], .bool false]) w := run_ta_no w _ _ u v _ Try.underlying92 zeroAdd hne
theorem taAdd_nil (w : World) : (Instr.typeAssert .nilIface 55 92 true).run Try.prog w = .ok (.tuple #[.agg #[.nilIface, .nilIface], .bool false]) w := run_ta_nil w _ _ _ Try.underlying92 zeroAdd
theorem taSub_yes (v : Value) (w : World) : (Instr.typeAssert (.iface 93 v) 55 93 true).run Try.prog w = .ok (.tuple #[v, .bool true]) w := run_ta_yes w _ _ v Try.underlying93
theorem zeroSub (w : World) : (zeroValue 93).run Try.prog w = .ok (.agg #[.nilIface, .nilIface]) w := by kernel_rfl
theorem taSub_no (u : TypeId) (v : Value) (w : World) (hne : u ≠ 93) : (Instr.typeAssert (.iface u v) 55 93 true).run Try.prog w = .ok (.tuple #[.agg #[.nilIface, .nilIface], .bool false]) w := run_ta_no w _ _ u v _ Try.underlying93 zeroSub hne
theorem taSub_nil (w : World) : (Instr.typeAssert .nilIface 55 93 true).run Try.prog w = .ok (.tuple #[.agg #[.nilIface, .nilIface], .bool false]) w := run_ta_nil w _ _ _ Try.underlying93 zeroSub
theorem taMul_yes (v : Value) (w : World) : (Instr.typeAssert (.iface 94 v) 55 94 true).run Try.prog w = .ok (.tuple #[v, .bool true]) w := run_ta_yes w _ _ v Try.underlying94
theorem zeroMul (w : World) : (zeroValue 94).run Try.prog w = .ok (.agg #[.nilIface, .nilIface]) w := by kernel_rfl
theorem taMul_no (u : TypeId) (v : Value) (w : World) (hne : u ≠ 94) : (Instr.typeAssert (.iface u v) 55 94 true).run Try.prog w = .ok (.tuple #[.agg #[.nilIface, .nilIface], .bool false]) w := run_ta_no w _ _ u v _ Try.underlying94 zeroMul hne
theorem taMul_nil (w : World) : (Instr.typeAssert .nilIface 55 94 true).run Try.prog w = .ok (.tuple #[.agg #[.nilIface, .nilIface], .bool false]) w := run_ta_nil w _ _ _ Try.underlying94 zeroMul
theorem taNeg_yes (v : Value) (w : World) : (Instr.typeAssert (.iface 96 v) 55 96 true).run Try.prog w = .ok (.tuple #[v, .bool true]) w := run_ta_yes w _ _ v Try.underlying96
theorem zeroNeg (w : World) : (zeroValue 96).run Try.prog w = .ok (.agg #[.nilIface]) w := by kernel_rfl
theorem taNeg_no (u : TypeId) (v : Value) (w : World) (hne : u ≠ 96) : (Instr.typeAssert (.iface u v) 55 96 true).run Try.prog w = .ok (.tuple #[.agg #[.nilIface], .bool false]) w := run_ta_no w _ _ u v _ Try.underlying96 zeroNeg hne
theorem taNeg_nil (w : World) : (Instr.typeAssert .nilIface 55 96 true).run Try.prog w = .ok (.tuple #[.agg #[.nilIface], .bool false]) w := run_ta_nil w _ _ _ Try.underlying96 zeroNeg
theorem taPow_yes (v : Value) (w : World) : (Instr.typeAssert (.iface 98 v) 55 98 true).run Try.prog w = .ok (.tuple #[v, .bool true]) w := run_ta_yes w _ _ v Try.underlying98
theorem zeroPow (w : World) : (zeroValue 98).run Try.prog w = .ok (.agg #[.nilIface, .int .i64 0]) w := by kernel_rfl
theorem taPow_no (u : TypeId) (v : Value) (w : World) (hne : u ≠ 98) : (Instr.typeAssert (.iface u v) 55 98 true).run Try.prog w = .ok (.tuple #[.agg #[.nilIface, .int .i64 0], .bool false]) w := run_ta_no w _ _ u v _ Try.underlying98 zeroPow hne
theorem taPow_nil (w : World) : (Instr.typeAssert .nilIface 55 98 true).run Try.prog w = .ok (.tuple #[.agg #[.nilIface, .int .i64 0], .bool false]) w := run_ta_nil w _ _ _ Try.underlying98 zeroPow
theorem taTruth_yes (v : Value) (w : World) : (Instr.typeAssert (.iface 86 v) 24 86 true).run Try.prog w = .ok (.tuple #[v, .bool true]) w := run_ta_yes w _ _ v Try.underlying86
theorem zeroTruth (w : World) : (zeroValue 86).run Try.prog w = .ok (.agg #[.bool false]) w := by kernel_rfl
theorem taTruth_no (u : TypeId) (v : Value) (w : World) (hne : u ≠ 86) : (Instr.typeAssert (.iface u v) 24 86 true).run Try.prog w = .ok (.tuple #[.agg #[.bool false], .bool false]) w := run_ta_no w _ _ u v _ Try.underlying86 zeroTruth hne
theorem taTruth_nil (w : World) : (Instr.typeAssert .nilIface 24 86 true).run Try.prog w = .ok (.tuple #[.agg #[.bool false], .bool false]) w := run_ta_nil w _ _ _ Try.underlying86 zeroTruth
theorem taAtom_yes (v : Value) (w : World) : (Instr.typeAssert (.iface 67 v) 24 67 true).run Try.prog w = .ok (.tuple #[v, .bool true]) w := run_ta_yes w _ _ v Try.underlying67
theorem zeroAtom (w : World) : (zeroValue 67).run Try.prog w = .ok (.agg #[.nilIface, .int .i64 0, .nilIface]) w := by kernel_rfl
theorem taAtom_no (u : TypeId) (v : Value) (w : World) (hne : u ≠ 67) : (Instr.typeAssert (.iface u v) 24 67 true).run Try.prog w = .ok (.tuple #[.agg #[.nilIface, .int .i64 0, .nilIface], .bool false]) w := run_ta_no w _ _ u v _ Try.underlying67 zeroAtom hne
theorem taAtom_nil (w : World) : (Instr.typeAssert .nilIface 24 67 true).run Try.prog w = .ok (.tuple #[.agg #[.nilIface, .int .i64 0, .nilIface], .bool false]) w := run_ta_nil w _ _ _ Try.underlying67 zeroAtom
theorem taNot_yes (v : Value) (w : World) : (Instr.typeAssert (.iface 31 v) 24 31 true).run Try.prog w = .ok (.tuple #[v, .bool true]) w := run_ta_yes w _ _ v Try.underlying31
theorem zeroNot (w : World) : (zeroValue 31).run Try.prog w = .ok (.agg #[.nilIface]) w := by kernel_rfl
theorem taNot_no (u : TypeId) (v : Value) (w : World) (hne : u ≠ 31) : (Instr.typeAssert (.iface u v) 24 31 true).run Try.prog w = .ok (.tuple #[.agg #[.nilIface], .bool false]) w := run_ta_no w _ _ u v _ Try.underlying31 zeroNot hne
theorem taNot_nil (w : World) : (Instr.typeAssert .nilIface 24 31 true).run Try.prog w = .ok (.tuple #[.agg #[.nilIface], .bool false]) w := run_ta_nil w _ _ _ Try.underlying31 zeroNot
theorem taAnd_yes (v : Value) (w : World) : (Instr.typeAssert (.iface 81 v) 24 81 true).run Try.prog w = .ok (.tuple #[v, .bool true]) w := run_ta_yes w _ _ v Try.underlying81
theorem zeroAnd (w : World) : (zeroValue 81).run Try.prog w = .ok (.agg #[.nilIface, .nilIface]) w := by kernel_rfl
theorem taAnd_no (u : TypeId) (v : Value) (w : World) (hne : u ≠ 81) : (Instr.typeAssert (.iface u v) 24 81 true).run Try.prog w = .ok (.tuple #[.agg #[.nilIface, .nilIface], .bool false]) w := run_ta_no w _ _ u v _ Try.underlying81 zeroAnd hne
theorem taAnd_nil (w : World) : (Instr.typeAssert .nilIface 24 81 true).run Try.prog w = .ok (.tuple #[.agg #[.nilIface, .nilIface], .bool false]) w := run_ta_nil w _ _ _ Try.underlying81 zeroAnd
theorem taOr_yes (v : Value) (w : World) : (Instr.typeAssert (.iface 82 v) 24 82 true).run Try.prog w = .ok (.tuple #[v, .bool true]) w := run_ta_yes w _ _ v Try.underlying82
theorem zeroOr (w : World) : (zeroValue 82).run Try.prog w = .ok (.agg #[.nilIface, .nilIface]) w := by kernel_rfl
theorem taOr_no (u : TypeId) (v : Value) (w : World) (hne : u ≠ 82) : (Instr.typeAssert (.iface u v) 24 82 true).run Try.prog w = .ok (.tuple #[.agg #[.nilIface, .nilIface], .bool false]) w := run_ta_no w _ _ u v _ Try.underlying82 zeroOr hne
theorem taOr_nil (w : World) : (Instr.typeAssert .nilIface 24 82 true).run Try.prog w = .ok (.tuple #[.agg #[.nilIface, .nilIface], .bool false]) w := run_ta_nil w _ _ _ Try.underlying82 zeroOr
theorem taImplies_yes (v : Value) (w : World) : (Instr.typeAssert (.iface 83 v) 24 83 true).run Try.prog w = .ok (.tuple #[v, .bool true]) w := run_ta_yes w _ _ v Try.underlying83
theorem zeroImplies (w : World) : (zeroValue 83).run Try.prog w = .ok (.agg #[.nilIface, .nilIface]) w := by kernel_rfl
theorem taImplies_no (u : TypeId) (v : Value) (w : World) (hne : u ≠ 83) : (Instr.typeAssert (.iface u v) 24 83 true).run Try.prog w = .ok (.tuple #[.agg #[.nilIface, .nilIface], .bool false]) w := run_ta_no w _ _ u v _ Try.underlying83 zeroImplies hne
theorem taImplies_nil (w : World) : (Instr.typeAssert .nilIface 24 83 true).run Try.prog w = .ok (.tuple #[.agg #[.nilIface, .nilIface], .bool false]) w := run_ta_nil w _ _ _ Try.underlying83 zeroImplies
theorem taIff_yes (v : Value) (w : World) : (Instr.typeAssert (.iface 84 v) 24 84 true).run Try.prog w = .ok (.tuple #[v, .bool true]) w := run_ta_yes w _ _ v Try.underlying84
theorem zeroIff (w : World) : (zeroValue 84).run Try.prog w = .ok (.agg #[.nilIface, .nilIface]) w := by kernel_rfl
theorem taIff_no (u : TypeId) (v : Value) (w : World) (hne : u ≠ 84) : (Instr.typeAssert (.iface u v) 24 84 true).run Try.prog w = .ok (.tuple #[.agg #[.nilIface, .nilIface], .bool false]) w := run_ta_no w _ _ u v _ Try.underlying84 zeroIff hne
theorem taIff_nil (w : World) : (Instr.typeAssert .nilIface 24 84 true).run Try.prog w = .ok (.tuple #[.agg #[.nilIface, .nilIface], .bool false]) w := run_ta_nil w _ _ _ Try.underlying84 zeroIff
theorem taQuant_yes (v : Value) (w : World) : (Instr.typeAssert (.iface 33 v) 24 33 true).run Try.prog w = .ok (.tuple #[v, .bool true]) w := run_ta_yes w _ _ v Try.underlying33
theorem zeroQuant (w : World) : (zeroValue 33).run Try.prog w = .ok (.agg #[.bool false, .string ⟨#[]⟩, .nilIface]) w := by kernel_rfl
theorem taQuant_no (u : TypeId) (v : Value) (w : World) (hne : u ≠ 33) : (Instr.typeAssert (.iface u v) 24 33 true).run Try.prog w = .ok (.tuple #[.agg #[.bool false, .string ⟨#[]⟩, .nilIface], .bool false]) w := run_ta_no w _ _ u v _ Try.underlying33 zeroQuant hne
theorem taQuant_nil (w : World) : (Instr.typeAssert .nilIface 24 33 true).run Try.prog w = .ok (.tuple #[.agg #[.bool false, .string ⟨#[]⟩, .nilIface], .bool false]) w := run_ta_nil w _ _ _ Try.underlying33 zeroQuant
end Fm
end Go.Proofs.Ytkjbfomokdjbnaa
