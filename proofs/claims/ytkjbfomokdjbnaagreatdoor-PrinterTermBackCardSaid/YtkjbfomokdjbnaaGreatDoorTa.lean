/-
  What a type switch asks of a term or a formula.
-/
import Derived.Test.YtkjbfomokdjbnaaGreatDoorTm
namespace Go.Proofs.YtkjbfomokdjbnaaGreatDoor
open Go.RowKit
set_option linter.unusedSimpArgs false
set_option linter.unusedVariables false
namespace Fm
section
variable {P : Program}
theorem run_ta_yes (w : World) (st T : TypeId) (v : Value) {fs : Array Field} (hu : P.underlying T = some (.struct fs)) : (Instr.typeAssert (.iface T v) st T true).run P w = .ok (.tuple #[v, .bool true]) w := by
  simp [Instr.typeAssert, run_underlying hu]
theorem run_ta_no (w : World) (st T u : TypeId) (v z : Value) {fs : Array Field} (hu : P.underlying T = some (.struct fs)) (hz : ∀ w, (zeroValue T).run P w = .ok z w) (hne : u ≠ T) : (Instr.typeAssert (.iface u v) st T true).run P w = .ok (.tuple #[z, .bool false]) w := by
  simp [Instr.typeAssert, run_underlying hu, hne, hz]
theorem run_ta_nil (w : World) (st T : TypeId) (z : Value) {fs : Array Field} (hu : P.underlying T = some (.struct fs)) (hz : ∀ w, (zeroValue T).run P w = .ok z w) : (Instr.typeAssert .nilIface st T true).run P w = .ok (.tuple #[z, .bool false]) w := by
  simp [Instr.typeAssert, run_underlying hu, hz]
end
theorem taNum_yes (v : Value) (w : World) : (Instr.typeAssert (.iface 59 v) 33 59 true).run Tryz.prog w = .ok (.tuple #[v, .bool true]) w := run_ta_yes w _ _ v Tryz.underlying59
theorem zeroNum (w : World) : (zeroValue 59).run Tryz.prog w = .ok (.agg #[.bool false, .slice none 0 0]) w := by kernel_rfl
theorem taNum_no (u : TypeId) (v : Value) (w : World) (hne : u ≠ 59) : (Instr.typeAssert (.iface u v) 33 59 true).run Tryz.prog w = .ok (.tuple #[.agg #[.bool false, .slice none 0 0], .bool false]) w := run_ta_no w _ _ u v _ Tryz.underlying59 zeroNum hne
theorem taNum_nil (w : World) : (Instr.typeAssert .nilIface 33 59 true).run Tryz.prog w = .ok (.tuple #[.agg #[.bool false, .slice none 0 0], .bool false]) w := run_ta_nil w _ _ _ Tryz.underlying59 zeroNum
theorem taName_yes (v : Value) (w : World) : (Instr.typeAssert (.iface 47 v) 33 47 true).run Tryz.prog w = .ok (.tuple #[v, .bool true]) w := run_ta_yes w _ _ v Tryz.underlying47
theorem zeroName (w : World) : (zeroValue 47).run Tryz.prog w = .ok (.agg #[.string ⟨#[]⟩]) w := by kernel_rfl
theorem taName_no (u : TypeId) (v : Value) (w : World) (hne : u ≠ 47) : (Instr.typeAssert (.iface u v) 33 47 true).run Tryz.prog w = .ok (.tuple #[.agg #[.string ⟨#[]⟩], .bool false]) w := run_ta_no w _ _ u v _ Tryz.underlying47 zeroName hne
theorem taName_nil (w : World) : (Instr.typeAssert .nilIface 33 47 true).run Tryz.prog w = .ok (.tuple #[.agg #[.string ⟨#[]⟩], .bool false]) w := run_ta_nil w _ _ _ Tryz.underlying47 zeroName
theorem taAdd_yes (v : Value) (w : World) : (Instr.typeAssert (.iface 65 v) 33 65 true).run Tryz.prog w = .ok (.tuple #[v, .bool true]) w := run_ta_yes w _ _ v Tryz.underlying65
theorem zeroAdd (w : World) : (zeroValue 65).run Tryz.prog w = .ok (.agg #[.nilIface, .nilIface]) w := by kernel_rfl
theorem taAdd_no (u : TypeId) (v : Value) (w : World) (hne : u ≠ 65) : (Instr.typeAssert (.iface u v) 33 65 true).run Tryz.prog w = .ok (.tuple #[.agg #[.nilIface, .nilIface], .bool false]) w := run_ta_no w _ _ u v _ Tryz.underlying65 zeroAdd hne
theorem taAdd_nil (w : World) : (Instr.typeAssert .nilIface 33 65 true).run Tryz.prog w = .ok (.tuple #[.agg #[.nilIface, .nilIface], .bool false]) w := run_ta_nil w _ _ _ Tryz.underlying65 zeroAdd
theorem taSub_yes (v : Value) (w : World) : (Instr.typeAssert (.iface 66 v) 33 66 true).run Tryz.prog w = .ok (.tuple #[v, .bool true]) w := run_ta_yes w _ _ v Tryz.underlying66
theorem zeroSub (w : World) : (zeroValue 66).run Tryz.prog w = .ok (.agg #[.nilIface, .nilIface]) w := by kernel_rfl
theorem taSub_no (u : TypeId) (v : Value) (w : World) (hne : u ≠ 66) : (Instr.typeAssert (.iface u v) 33 66 true).run Tryz.prog w = .ok (.tuple #[.agg #[.nilIface, .nilIface], .bool false]) w := run_ta_no w _ _ u v _ Tryz.underlying66 zeroSub hne
theorem taSub_nil (w : World) : (Instr.typeAssert .nilIface 33 66 true).run Tryz.prog w = .ok (.tuple #[.agg #[.nilIface, .nilIface], .bool false]) w := run_ta_nil w _ _ _ Tryz.underlying66 zeroSub
theorem taMul_yes (v : Value) (w : World) : (Instr.typeAssert (.iface 67 v) 33 67 true).run Tryz.prog w = .ok (.tuple #[v, .bool true]) w := run_ta_yes w _ _ v Tryz.underlying67
theorem zeroMul (w : World) : (zeroValue 67).run Tryz.prog w = .ok (.agg #[.nilIface, .nilIface]) w := by kernel_rfl
theorem taMul_no (u : TypeId) (v : Value) (w : World) (hne : u ≠ 67) : (Instr.typeAssert (.iface u v) 33 67 true).run Tryz.prog w = .ok (.tuple #[.agg #[.nilIface, .nilIface], .bool false]) w := run_ta_no w _ _ u v _ Tryz.underlying67 zeroMul hne
theorem taMul_nil (w : World) : (Instr.typeAssert .nilIface 33 67 true).run Tryz.prog w = .ok (.tuple #[.agg #[.nilIface, .nilIface], .bool false]) w := run_ta_nil w _ _ _ Tryz.underlying67 zeroMul
theorem taNeg_yes (v : Value) (w : World) : (Instr.typeAssert (.iface 61 v) 33 61 true).run Tryz.prog w = .ok (.tuple #[v, .bool true]) w := run_ta_yes w _ _ v Tryz.underlying61
theorem zeroNeg (w : World) : (zeroValue 61).run Tryz.prog w = .ok (.agg #[.nilIface]) w := by kernel_rfl
theorem taNeg_no (u : TypeId) (v : Value) (w : World) (hne : u ≠ 61) : (Instr.typeAssert (.iface u v) 33 61 true).run Tryz.prog w = .ok (.tuple #[.agg #[.nilIface], .bool false]) w := run_ta_no w _ _ u v _ Tryz.underlying61 zeroNeg hne
theorem taNeg_nil (w : World) : (Instr.typeAssert .nilIface 33 61 true).run Tryz.prog w = .ok (.tuple #[.agg #[.nilIface], .bool false]) w := run_ta_nil w _ _ _ Tryz.underlying61 zeroNeg
theorem taPow_yes (v : Value) (w : World) : (Instr.typeAssert (.iface 63 v) 33 63 true).run Tryz.prog w = .ok (.tuple #[v, .bool true]) w := run_ta_yes w _ _ v Tryz.underlying63
theorem zeroPow (w : World) : (zeroValue 63).run Tryz.prog w = .ok (.agg #[.nilIface, .int .i64 0]) w := by kernel_rfl
theorem taPow_no (u : TypeId) (v : Value) (w : World) (hne : u ≠ 63) : (Instr.typeAssert (.iface u v) 33 63 true).run Tryz.prog w = .ok (.tuple #[.agg #[.nilIface, .int .i64 0], .bool false]) w := run_ta_no w _ _ u v _ Tryz.underlying63 zeroPow hne
theorem taPow_nil (w : World) : (Instr.typeAssert .nilIface 33 63 true).run Tryz.prog w = .ok (.tuple #[.agg #[.nilIface, .int .i64 0], .bool false]) w := run_ta_nil w _ _ _ Tryz.underlying63 zeroPow
theorem taTruth_yes (v : Value) (w : World) : (Instr.typeAssert (.iface 116 v) 52 116 true).run Tryz.prog w = .ok (.tuple #[v, .bool true]) w := run_ta_yes w _ _ v Tryz.underlying116
theorem zeroTruth (w : World) : (zeroValue 116).run Tryz.prog w = .ok (.agg #[.bool false]) w := by kernel_rfl
theorem taTruth_no (u : TypeId) (v : Value) (w : World) (hne : u ≠ 116) : (Instr.typeAssert (.iface u v) 52 116 true).run Tryz.prog w = .ok (.tuple #[.agg #[.bool false], .bool false]) w := run_ta_no w _ _ u v _ Tryz.underlying116 zeroTruth hne
theorem taTruth_nil (w : World) : (Instr.typeAssert .nilIface 52 116 true).run Tryz.prog w = .ok (.tuple #[.agg #[.bool false], .bool false]) w := run_ta_nil w _ _ _ Tryz.underlying116 zeroTruth
theorem taAtom_yes (v : Value) (w : World) : (Instr.typeAssert (.iface 50 v) 52 50 true).run Tryz.prog w = .ok (.tuple #[v, .bool true]) w := run_ta_yes w _ _ v Tryz.underlying50
theorem zeroAtom (w : World) : (zeroValue 50).run Tryz.prog w = .ok (.agg #[.nilIface, .int .i64 0, .nilIface]) w := by kernel_rfl
theorem taAtom_no (u : TypeId) (v : Value) (w : World) (hne : u ≠ 50) : (Instr.typeAssert (.iface u v) 52 50 true).run Tryz.prog w = .ok (.tuple #[.agg #[.nilIface, .int .i64 0, .nilIface], .bool false]) w := run_ta_no w _ _ u v _ Tryz.underlying50 zeroAtom hne
theorem taAtom_nil (w : World) : (Instr.typeAssert .nilIface 52 50 true).run Tryz.prog w = .ok (.tuple #[.agg #[.nilIface, .int .i64 0, .nilIface], .bool false]) w := run_ta_nil w _ _ _ Tryz.underlying50 zeroAtom
theorem taNot_yes (v : Value) (w : World) : (Instr.typeAssert (.iface 54 v) 52 54 true).run Tryz.prog w = .ok (.tuple #[v, .bool true]) w := run_ta_yes w _ _ v Tryz.underlying54
theorem zeroNot (w : World) : (zeroValue 54).run Tryz.prog w = .ok (.agg #[.nilIface]) w := by kernel_rfl
theorem taNot_no (u : TypeId) (v : Value) (w : World) (hne : u ≠ 54) : (Instr.typeAssert (.iface u v) 52 54 true).run Tryz.prog w = .ok (.tuple #[.agg #[.nilIface], .bool false]) w := run_ta_no w _ _ u v _ Tryz.underlying54 zeroNot hne
theorem taNot_nil (w : World) : (Instr.typeAssert .nilIface 52 54 true).run Tryz.prog w = .ok (.tuple #[.agg #[.nilIface], .bool false]) w := run_ta_nil w _ _ _ Tryz.underlying54 zeroNot
theorem taAnd_yes (v : Value) (w : World) : (Instr.typeAssert (.iface 119 v) 52 119 true).run Tryz.prog w = .ok (.tuple #[v, .bool true]) w := run_ta_yes w _ _ v Tryz.underlying119
theorem zeroAnd (w : World) : (zeroValue 119).run Tryz.prog w = .ok (.agg #[.nilIface, .nilIface]) w := by kernel_rfl
theorem taAnd_no (u : TypeId) (v : Value) (w : World) (hne : u ≠ 119) : (Instr.typeAssert (.iface u v) 52 119 true).run Tryz.prog w = .ok (.tuple #[.agg #[.nilIface, .nilIface], .bool false]) w := run_ta_no w _ _ u v _ Tryz.underlying119 zeroAnd hne
theorem taAnd_nil (w : World) : (Instr.typeAssert .nilIface 52 119 true).run Tryz.prog w = .ok (.tuple #[.agg #[.nilIface, .nilIface], .bool false]) w := run_ta_nil w _ _ _ Tryz.underlying119 zeroAnd
theorem taOr_yes (v : Value) (w : World) : (Instr.typeAssert (.iface 120 v) 52 120 true).run Tryz.prog w = .ok (.tuple #[v, .bool true]) w := run_ta_yes w _ _ v Tryz.underlying120
theorem zeroOr (w : World) : (zeroValue 120).run Tryz.prog w = .ok (.agg #[.nilIface, .nilIface]) w := by kernel_rfl
theorem taOr_no (u : TypeId) (v : Value) (w : World) (hne : u ≠ 120) : (Instr.typeAssert (.iface u v) 52 120 true).run Tryz.prog w = .ok (.tuple #[.agg #[.nilIface, .nilIface], .bool false]) w := run_ta_no w _ _ u v _ Tryz.underlying120 zeroOr hne
theorem taOr_nil (w : World) : (Instr.typeAssert .nilIface 52 120 true).run Tryz.prog w = .ok (.tuple #[.agg #[.nilIface, .nilIface], .bool false]) w := run_ta_nil w _ _ _ Tryz.underlying120 zeroOr
theorem taImplies_yes (v : Value) (w : World) : (Instr.typeAssert (.iface 121 v) 52 121 true).run Tryz.prog w = .ok (.tuple #[v, .bool true]) w := run_ta_yes w _ _ v Tryz.underlying121
theorem zeroImplies (w : World) : (zeroValue 121).run Tryz.prog w = .ok (.agg #[.nilIface, .nilIface]) w := by kernel_rfl
theorem taImplies_no (u : TypeId) (v : Value) (w : World) (hne : u ≠ 121) : (Instr.typeAssert (.iface u v) 52 121 true).run Tryz.prog w = .ok (.tuple #[.agg #[.nilIface, .nilIface], .bool false]) w := run_ta_no w _ _ u v _ Tryz.underlying121 zeroImplies hne
theorem taImplies_nil (w : World) : (Instr.typeAssert .nilIface 52 121 true).run Tryz.prog w = .ok (.tuple #[.agg #[.nilIface, .nilIface], .bool false]) w := run_ta_nil w _ _ _ Tryz.underlying121 zeroImplies
theorem taIff_yes (v : Value) (w : World) : (Instr.typeAssert (.iface 122 v) 52 122 true).run Tryz.prog w = .ok (.tuple #[v, .bool true]) w := run_ta_yes w _ _ v Tryz.underlying122
theorem zeroIff (w : World) : (zeroValue 122).run Tryz.prog w = .ok (.agg #[.nilIface, .nilIface]) w := by kernel_rfl
theorem taIff_no (u : TypeId) (v : Value) (w : World) (hne : u ≠ 122) : (Instr.typeAssert (.iface u v) 52 122 true).run Tryz.prog w = .ok (.tuple #[.agg #[.nilIface, .nilIface], .bool false]) w := run_ta_no w _ _ u v _ Tryz.underlying122 zeroIff hne
theorem taIff_nil (w : World) : (Instr.typeAssert .nilIface 52 122 true).run Tryz.prog w = .ok (.tuple #[.agg #[.nilIface, .nilIface], .bool false]) w := run_ta_nil w _ _ _ Tryz.underlying122 zeroIff
theorem taQuant_yes (v : Value) (w : World) : (Instr.typeAssert (.iface 124 v) 52 124 true).run Tryz.prog w = .ok (.tuple #[v, .bool true]) w := run_ta_yes w _ _ v Tryz.underlying124
theorem zeroQuant (w : World) : (zeroValue 124).run Tryz.prog w = .ok (.agg #[.bool false, .string ⟨#[]⟩, .nilIface]) w := by kernel_rfl
theorem taQuant_no (u : TypeId) (v : Value) (w : World) (hne : u ≠ 124) : (Instr.typeAssert (.iface u v) 52 124 true).run Tryz.prog w = .ok (.tuple #[.agg #[.bool false, .string ⟨#[]⟩, .nilIface], .bool false]) w := run_ta_no w _ _ u v _ Tryz.underlying124 zeroQuant hne
theorem taQuant_nil (w : World) : (Instr.typeAssert .nilIface 52 124 true).run Tryz.prog w = .ok (.tuple #[.agg #[.bool false, .string ⟨#[]⟩, .nilIface], .bool false]) w := run_ta_nil w _ _ _ Tryz.underlying124 zeroQuant
end Fm
end Go.Proofs.YtkjbfomokdjbnaaGreatDoor
