/-
  What a type switch asks of a term or a formula.
-/
import Derived.Test.YtjbgdaojhdobkaaTm
namespace Go.Proofs.Ytjbgdaojhdobkaa
open Go.RowKit
set_option linter.unusedSimpArgs false
set_option linter.unusedVariables false
namespace Fm
section
variable {P : Program}
theorem run_ta_yes (w : World) (st T : TypeId) (v : Value) {fs : Array Field} (hu : P.underlying T = some (.struct fs)) : (Instr.typeAssert (.iface T v) st T true).run P w = .ok (.tuple #[v, .bool true]) w := by
  simp [Instr.typeAssert, run_underlying hu]
theorem run_ta_no (w : World) (st T u : TypeId) (v z : Value) {fs : Array Field} (hu : P.underlying T = some (.struct fs)) (hz : ∀ w, (zeroValue T).run P w = .ok z w) (hne : u ≠ T) : (Instr.typeAssert (.iface u v) st T true).run P w = .ok (.tuple #[z, .bool false]) w := by
  simp [Instr.typeAssert, run_underlying hu, hne, hz]
theorem run_ta_nil (w : World) (st T : TypeId) (z : Value) {fs : Array Field} (hu : P.underlying T = some (.struct fs)) (hz : ∀ w, (zeroValue T).run P w = .ok z w) : (Instr.typeAssert .nilIface st T true).run P w = .ok (.tuple #[z, .bool false]) w := by
  simp [Instr.typeAssert, run_underlying hu, hz]
end
theorem taNum_yes (v : Value) (w : World) : (Instr.typeAssert (.iface 80 v) 33 80 true).run Try.prog w = .ok (.tuple #[v, .bool true]) w := run_ta_yes w _ _ v Try.underlying80
theorem zeroNum (w : World) : (zeroValue 80).run Try.prog w = .ok (.agg #[.bool false, .slice none 0 0]) w := by kernel_rfl
theorem taNum_no (u : TypeId) (v : Value) (w : World) (hne : u ≠ 80) : (Instr.typeAssert (.iface u v) 33 80 true).run Try.prog w = .ok (.tuple #[.agg #[.bool false, .slice none 0 0], .bool false]) w := run_ta_no w _ _ u v _ Try.underlying80 zeroNum hne
theorem taNum_nil (w : World) : (Instr.typeAssert .nilIface 33 80 true).run Try.prog w = .ok (.tuple #[.agg #[.bool false, .slice none 0 0], .bool false]) w := run_ta_nil w _ _ _ Try.underlying80 zeroNum
theorem taName_yes (v : Value) (w : World) : (Instr.typeAssert (.iface 82 v) 33 82 true).run Try.prog w = .ok (.tuple #[v, .bool true]) w := run_ta_yes w _ _ v Try.underlying82
theorem zeroName (w : World) : (zeroValue 82).run Try.prog w = .ok (.agg #[.string ⟨#[]⟩]) w := by kernel_rfl
theorem taName_no (u : TypeId) (v : Value) (w : World) (hne : u ≠ 82) : (Instr.typeAssert (.iface u v) 33 82 true).run Try.prog w = .ok (.tuple #[.agg #[.string ⟨#[]⟩], .bool false]) w := run_ta_no w _ _ u v _ Try.underlying82 zeroName hne
theorem taName_nil (w : World) : (Instr.typeAssert .nilIface 33 82 true).run Try.prog w = .ok (.tuple #[.agg #[.string ⟨#[]⟩], .bool false]) w := run_ta_nil w _ _ _ Try.underlying82 zeroName
theorem taAdd_yes (v : Value) (w : World) : (Instr.typeAssert (.iface 88 v) 33 88 true).run Try.prog w = .ok (.tuple #[v, .bool true]) w := run_ta_yes w _ _ v Try.underlying88
theorem zeroAdd (w : World) : (zeroValue 88).run Try.prog w = .ok (.agg #[.nilIface, .nilIface]) w := by kernel_rfl
theorem taAdd_no (u : TypeId) (v : Value) (w : World) (hne : u ≠ 88) : (Instr.typeAssert (.iface u v) 33 88 true).run Try.prog w = .ok (.tuple #[.agg #[.nilIface, .nilIface], .bool false]) w := run_ta_no w _ _ u v _ Try.underlying88 zeroAdd hne
theorem taAdd_nil (w : World) : (Instr.typeAssert .nilIface 33 88 true).run Try.prog w = .ok (.tuple #[.agg #[.nilIface, .nilIface], .bool false]) w := run_ta_nil w _ _ _ Try.underlying88 zeroAdd
theorem taSub_yes (v : Value) (w : World) : (Instr.typeAssert (.iface 75 v) 33 75 true).run Try.prog w = .ok (.tuple #[v, .bool true]) w := run_ta_yes w _ _ v Try.underlying75
theorem zeroSub (w : World) : (zeroValue 75).run Try.prog w = .ok (.agg #[.nilIface, .nilIface]) w := by kernel_rfl
theorem taSub_no (u : TypeId) (v : Value) (w : World) (hne : u ≠ 75) : (Instr.typeAssert (.iface u v) 33 75 true).run Try.prog w = .ok (.tuple #[.agg #[.nilIface, .nilIface], .bool false]) w := run_ta_no w _ _ u v _ Try.underlying75 zeroSub hne
theorem taSub_nil (w : World) : (Instr.typeAssert .nilIface 33 75 true).run Try.prog w = .ok (.tuple #[.agg #[.nilIface, .nilIface], .bool false]) w := run_ta_nil w _ _ _ Try.underlying75 zeroSub
theorem taMul_yes (v : Value) (w : World) : (Instr.typeAssert (.iface 70 v) 33 70 true).run Try.prog w = .ok (.tuple #[v, .bool true]) w := run_ta_yes w _ _ v Try.underlying70
theorem zeroMul (w : World) : (zeroValue 70).run Try.prog w = .ok (.agg #[.nilIface, .nilIface]) w := by kernel_rfl
theorem taMul_no (u : TypeId) (v : Value) (w : World) (hne : u ≠ 70) : (Instr.typeAssert (.iface u v) 33 70 true).run Try.prog w = .ok (.tuple #[.agg #[.nilIface, .nilIface], .bool false]) w := run_ta_no w _ _ u v _ Try.underlying70 zeroMul hne
theorem taMul_nil (w : World) : (Instr.typeAssert .nilIface 33 70 true).run Try.prog w = .ok (.tuple #[.agg #[.nilIface, .nilIface], .bool false]) w := run_ta_nil w _ _ _ Try.underlying70 zeroMul
theorem taNeg_yes (v : Value) (w : World) : (Instr.typeAssert (.iface 74 v) 33 74 true).run Try.prog w = .ok (.tuple #[v, .bool true]) w := run_ta_yes w _ _ v Try.underlying74
theorem zeroNeg (w : World) : (zeroValue 74).run Try.prog w = .ok (.agg #[.nilIface]) w := by kernel_rfl
theorem taNeg_no (u : TypeId) (v : Value) (w : World) (hne : u ≠ 74) : (Instr.typeAssert (.iface u v) 33 74 true).run Try.prog w = .ok (.tuple #[.agg #[.nilIface], .bool false]) w := run_ta_no w _ _ u v _ Try.underlying74 zeroNeg hne
theorem taNeg_nil (w : World) : (Instr.typeAssert .nilIface 33 74 true).run Try.prog w = .ok (.tuple #[.agg #[.nilIface], .bool false]) w := run_ta_nil w _ _ _ Try.underlying74 zeroNeg
theorem taPow_yes (v : Value) (w : World) : (Instr.typeAssert (.iface 72 v) 33 72 true).run Try.prog w = .ok (.tuple #[v, .bool true]) w := run_ta_yes w _ _ v Try.underlying72
theorem zeroPow (w : World) : (zeroValue 72).run Try.prog w = .ok (.agg #[.nilIface, .int .i64 0]) w := by kernel_rfl
theorem taPow_no (u : TypeId) (v : Value) (w : World) (hne : u ≠ 72) : (Instr.typeAssert (.iface u v) 33 72 true).run Try.prog w = .ok (.tuple #[.agg #[.nilIface, .int .i64 0], .bool false]) w := run_ta_no w _ _ u v _ Try.underlying72 zeroPow hne
theorem taPow_nil (w : World) : (Instr.typeAssert .nilIface 33 72 true).run Try.prog w = .ok (.tuple #[.agg #[.nilIface, .int .i64 0], .bool false]) w := run_ta_nil w _ _ _ Try.underlying72 zeroPow
theorem taTruth_yes (v : Value) (w : World) : (Instr.typeAssert (.iface 78 v) 43 78 true).run Try.prog w = .ok (.tuple #[v, .bool true]) w := run_ta_yes w _ _ v Try.underlying78
theorem zeroTruth (w : World) : (zeroValue 78).run Try.prog w = .ok (.agg #[.bool false]) w := by kernel_rfl
theorem taTruth_no (u : TypeId) (v : Value) (w : World) (hne : u ≠ 78) : (Instr.typeAssert (.iface u v) 43 78 true).run Try.prog w = .ok (.tuple #[.agg #[.bool false], .bool false]) w := run_ta_no w _ _ u v _ Try.underlying78 zeroTruth hne
theorem taTruth_nil (w : World) : (Instr.typeAssert .nilIface 43 78 true).run Try.prog w = .ok (.tuple #[.agg #[.bool false], .bool false]) w := run_ta_nil w _ _ _ Try.underlying78 zeroTruth
theorem taAtom_yes (v : Value) (w : World) : (Instr.typeAssert (.iface 91 v) 43 91 true).run Try.prog w = .ok (.tuple #[v, .bool true]) w := run_ta_yes w _ _ v Try.underlying91
theorem zeroAtom (w : World) : (zeroValue 91).run Try.prog w = .ok (.agg #[.nilIface, .int .i64 0, .nilIface]) w := by kernel_rfl
theorem taAtom_no (u : TypeId) (v : Value) (w : World) (hne : u ≠ 91) : (Instr.typeAssert (.iface u v) 43 91 true).run Try.prog w = .ok (.tuple #[.agg #[.nilIface, .int .i64 0, .nilIface], .bool false]) w := run_ta_no w _ _ u v _ Try.underlying91 zeroAtom hne
theorem taAtom_nil (w : World) : (Instr.typeAssert .nilIface 43 91 true).run Try.prog w = .ok (.tuple #[.agg #[.nilIface, .int .i64 0, .nilIface], .bool false]) w := run_ta_nil w _ _ _ Try.underlying91 zeroAtom
theorem taNot_yes (v : Value) (w : World) : (Instr.typeAssert (.iface 93 v) 43 93 true).run Try.prog w = .ok (.tuple #[v, .bool true]) w := run_ta_yes w _ _ v Try.underlying93
theorem zeroNot (w : World) : (zeroValue 93).run Try.prog w = .ok (.agg #[.nilIface]) w := by kernel_rfl
theorem taNot_no (u : TypeId) (v : Value) (w : World) (hne : u ≠ 93) : (Instr.typeAssert (.iface u v) 43 93 true).run Try.prog w = .ok (.tuple #[.agg #[.nilIface], .bool false]) w := run_ta_no w _ _ u v _ Try.underlying93 zeroNot hne
theorem taNot_nil (w : World) : (Instr.typeAssert .nilIface 43 93 true).run Try.prog w = .ok (.tuple #[.agg #[.nilIface], .bool false]) w := run_ta_nil w _ _ _ Try.underlying93 zeroNot
theorem taAnd_yes (v : Value) (w : World) : (Instr.typeAssert (.iface 85 v) 43 85 true).run Try.prog w = .ok (.tuple #[v, .bool true]) w := run_ta_yes w _ _ v Try.underlying85
theorem zeroAnd (w : World) : (zeroValue 85).run Try.prog w = .ok (.agg #[.nilIface, .nilIface]) w := by kernel_rfl
theorem taAnd_no (u : TypeId) (v : Value) (w : World) (hne : u ≠ 85) : (Instr.typeAssert (.iface u v) 43 85 true).run Try.prog w = .ok (.tuple #[.agg #[.nilIface, .nilIface], .bool false]) w := run_ta_no w _ _ u v _ Try.underlying85 zeroAnd hne
theorem taAnd_nil (w : World) : (Instr.typeAssert .nilIface 43 85 true).run Try.prog w = .ok (.tuple #[.agg #[.nilIface, .nilIface], .bool false]) w := run_ta_nil w _ _ _ Try.underlying85 zeroAnd
theorem taOr_yes (v : Value) (w : World) : (Instr.typeAssert (.iface 87 v) 43 87 true).run Try.prog w = .ok (.tuple #[v, .bool true]) w := run_ta_yes w _ _ v Try.underlying87
theorem zeroOr (w : World) : (zeroValue 87).run Try.prog w = .ok (.agg #[.nilIface, .nilIface]) w := by kernel_rfl
theorem taOr_no (u : TypeId) (v : Value) (w : World) (hne : u ≠ 87) : (Instr.typeAssert (.iface u v) 43 87 true).run Try.prog w = .ok (.tuple #[.agg #[.nilIface, .nilIface], .bool false]) w := run_ta_no w _ _ u v _ Try.underlying87 zeroOr hne
theorem taOr_nil (w : World) : (Instr.typeAssert .nilIface 43 87 true).run Try.prog w = .ok (.tuple #[.agg #[.nilIface, .nilIface], .bool false]) w := run_ta_nil w _ _ _ Try.underlying87 zeroOr
theorem taImplies_yes (v : Value) (w : World) : (Instr.typeAssert (.iface 112 v) 43 112 true).run Try.prog w = .ok (.tuple #[v, .bool true]) w := run_ta_yes w _ _ v Try.underlying112
theorem zeroImplies (w : World) : (zeroValue 112).run Try.prog w = .ok (.agg #[.nilIface, .nilIface]) w := by kernel_rfl
theorem taImplies_no (u : TypeId) (v : Value) (w : World) (hne : u ≠ 112) : (Instr.typeAssert (.iface u v) 43 112 true).run Try.prog w = .ok (.tuple #[.agg #[.nilIface, .nilIface], .bool false]) w := run_ta_no w _ _ u v _ Try.underlying112 zeroImplies hne
theorem taImplies_nil (w : World) : (Instr.typeAssert .nilIface 43 112 true).run Try.prog w = .ok (.tuple #[.agg #[.nilIface, .nilIface], .bool false]) w := run_ta_nil w _ _ _ Try.underlying112 zeroImplies
theorem taIff_yes (v : Value) (w : World) : (Instr.typeAssert (.iface 113 v) 43 113 true).run Try.prog w = .ok (.tuple #[v, .bool true]) w := run_ta_yes w _ _ v Try.underlying113
theorem zeroIff (w : World) : (zeroValue 113).run Try.prog w = .ok (.agg #[.nilIface, .nilIface]) w := by kernel_rfl
theorem taIff_no (u : TypeId) (v : Value) (w : World) (hne : u ≠ 113) : (Instr.typeAssert (.iface u v) 43 113 true).run Try.prog w = .ok (.tuple #[.agg #[.nilIface, .nilIface], .bool false]) w := run_ta_no w _ _ u v _ Try.underlying113 zeroIff hne
theorem taIff_nil (w : World) : (Instr.typeAssert .nilIface 43 113 true).run Try.prog w = .ok (.tuple #[.agg #[.nilIface, .nilIface], .bool false]) w := run_ta_nil w _ _ _ Try.underlying113 zeroIff
theorem taQuant_yes (v : Value) (w : World) : (Instr.typeAssert (.iface 52 v) 43 52 true).run Try.prog w = .ok (.tuple #[v, .bool true]) w := run_ta_yes w _ _ v Try.underlying52
theorem zeroQuant (w : World) : (zeroValue 52).run Try.prog w = .ok (.agg #[.bool false, .string ⟨#[]⟩, .nilIface]) w := by kernel_rfl
theorem taQuant_no (u : TypeId) (v : Value) (w : World) (hne : u ≠ 52) : (Instr.typeAssert (.iface u v) 43 52 true).run Try.prog w = .ok (.tuple #[.agg #[.bool false, .string ⟨#[]⟩, .nilIface], .bool false]) w := run_ta_no w _ _ u v _ Try.underlying52 zeroQuant hne
theorem taQuant_nil (w : World) : (Instr.typeAssert .nilIface 43 52 true).run Try.prog w = .ok (.tuple #[.agg #[.bool false, .string ⟨#[]⟩, .nilIface], .bool false]) w := run_ta_nil w _ _ _ Try.underlying52 zeroQuant
end Fm
end Go.Proofs.Ytjbgdaojhdobkaa
