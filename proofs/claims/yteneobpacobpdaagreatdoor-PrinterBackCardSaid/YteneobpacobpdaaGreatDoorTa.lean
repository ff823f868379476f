/-
  What a type switch asks of a term or a formula.
-/
import Derived.Test.YteneobpacobpdaaGreatDoorTm
set_option linter.unusedSimpArgs false
set_option linter.unusedVariables false
namespace Go.Proofs.YteneobpacobpdaaGreatDoor
open Go.RowKit
namespace Fm
section
variable {P : Program}
theorem run_ta_yes (w : World) (st T : TypeId) (v : Value) {fs : Array Field} (hu : P.underlying T = some (.struct fs)) : (Instr.typeAssert (.iface T v) st T true).run P w = .ok (.tuple #[v, .bool true]) w := by
 simp [Instr.typeAssert, run_underlying hu]
theorem run_ta_no (w : World) (st T u : TypeId) (v z : Value) {fs : Array Field} (hu : P.underlying T = some (.struct fs)) (hz : ∀ w, (zeroValue T).run P w = .ok z w) (hne : u ≠ T) : (Instr.typeAssert (.iface u v) st T true).run P w = .ok (.tuple #[z, .bool false]) w := by
 simp [Instr.typeAssert, run_underlying hu, hne, hz]
theorem run_ta_nil (w : World) (st T : TypeId) (z : Value) {fs : Array Field} (hu : P.underlying T = some (.struct fs)) (hz : ∀ w, (zeroValue T).run P w = .ok z w) : (Instr.typeAssert .nilIface st T true).run P w = .ok (.tuple #[z, .bool false]) w := by
 simp [Instr.typeAssert, run_underlying hu, hz]
end
theorem taNum_yes (v : Value) (w : World) : (Instr.typeAssert (.iface 135 v) 49 135 true).run Tryz.prog w = .ok (.tuple #[v, .bool true]) w := run_ta_yes w _ _ v Tryz.underlying135
theorem zeroNum (w : World) : (zeroValue 135).run Tryz.prog w = .ok (.agg #[.bool false, .slice none 0 0]) w := by kernel_rfl
theorem taNum_no (u : TypeId) (v : Value) (w : World) (hne : u ≠ 135) : (Instr.typeAssert (.iface u v) 49 135 true).run Tryz.prog w = .ok (.tuple #[.agg #[.bool false, .slice none 0 0], .bool false]) w := run_ta_no w _ _ u v _ Tryz.underlying135 zeroNum hne
theorem taNum_nil (w : World) : (Instr.typeAssert .nilIface 49 135 true).run Tryz.prog w = .ok (.tuple #[.agg #[.bool false, .slice none 0 0], .bool false]) w := run_ta_nil w _ _ _ Tryz.underlying135 zeroNum
theorem taName_yes (v : Value) (w : World) : (Instr.typeAssert (.iface 47 v) 49 47 true).run Tryz.prog w = .ok (.tuple #[v, .bool true]) w := run_ta_yes w _ _ v Tryz.underlying47
theorem zeroName (w : World) : (zeroValue 47).run Tryz.prog w = .ok (.agg #[.string ⟨#[]⟩]) w := by kernel_rfl
theorem taName_no (u : TypeId) (v : Value) (w : World) (hne : u ≠ 47) : (Instr.typeAssert (.iface u v) 49 47 true).run Tryz.prog w = .ok (.tuple #[.agg #[.string ⟨#[]⟩], .bool false]) w := run_ta_no w _ _ u v _ Tryz.underlying47 zeroName hne
theorem taName_nil (w : World) : (Instr.typeAssert .nilIface 49 47 true).run Tryz.prog w = .ok (.tuple #[.agg #[.string ⟨#[]⟩], .bool false]) w := run_ta_nil w _ _ _ Tryz.underlying47 zeroName
theorem taAdd_yes (v : Value) (w : World) : (Instr.typeAssert (.iface 137 v) 49 137 true).run Tryz.prog w = .ok (.tuple #[v, .bool true]) w := run_ta_yes w _ _ v Tryz.underlying137
theorem zeroAdd (w : World) : (zeroValue 137).run Tryz.prog w = .ok (.agg #[.nilIface, .nilIface]) w := by kernel_rfl
theorem taAdd_no (u : TypeId) (v : Value) (w : World) (hne : u ≠ 137) : (Instr.typeAssert (.iface u v) 49 137 true).run Tryz.prog w = .ok (.tuple #[.agg #[.nilIface, .nilIface], .bool false]) w := run_ta_no w _ _ u v _ Tryz.underlying137 zeroAdd hne
theorem taAdd_nil (w : World) : (Instr.typeAssert .nilIface 49 137 true).run Tryz.prog w = .ok (.tuple #[.agg #[.nilIface, .nilIface], .bool false]) w := run_ta_nil w _ _ _ Tryz.underlying137 zeroAdd
theorem taSub_yes (v : Value) (w : World) : (Instr.typeAssert (.iface 138 v) 49 138 true).run Tryz.prog w = .ok (.tuple #[v, .bool true]) w := run_ta_yes w _ _ v Tryz.underlying138
theorem zeroSub (w : World) : (zeroValue 138).run Tryz.prog w = .ok (.agg #[.nilIface, .nilIface]) w := by kernel_rfl
theorem taSub_no (u : TypeId) (v : Value) (w : World) (hne : u ≠ 138) : (Instr.typeAssert (.iface u v) 49 138 true).run Tryz.prog w = .ok (.tuple #[.agg #[.nilIface, .nilIface], .bool false]) w := run_ta_no w _ _ u v _ Tryz.underlying138 zeroSub hne
theorem taSub_nil (w : World) : (Instr.typeAssert .nilIface 49 138 true).run Tryz.prog w = .ok (.tuple #[.agg #[.nilIface, .nilIface], .bool false]) w := run_ta_nil w _ _ _ Tryz.underlying138 zeroSub
theorem taMul_yes (v : Value) (w : World) : (Instr.typeAssert (.iface 139 v) 49 139 true).run Tryz.prog w = .ok (.tuple #[v, .bool true]) w := run_ta_yes w _ _ v Tryz.underlying139
theorem zeroMul (w : World) : (zeroValue 139).run Tryz.prog w = .ok (.agg #[.nilIface, .nilIface]) w := by kernel_rfl
theorem taMul_no (u : TypeId) (v : Value) (w : World) (hne : u ≠ 139) : (Instr.typeAssert (.iface u v) 49 139 true).run Tryz.prog w = .ok (.tuple #[.agg #[.nilIface, .nilIface], .bool false]) w := run_ta_no w _ _ u v _ Tryz.underlying139 zeroMul hne
theorem taMul_nil (w : World) : (Instr.typeAssert .nilIface 49 139 true).run Tryz.prog w = .ok (.tuple #[.agg #[.nilIface, .nilIface], .bool false]) w := run_ta_nil w _ _ _ Tryz.underlying139 zeroMul
theorem taNeg_yes (v : Value) (w : World) : (Instr.typeAssert (.iface 141 v) 49 141 true).run Tryz.prog w = .ok (.tuple #[v, .bool true]) w := run_ta_yes w _ _ v Tryz.underlying141
theorem zeroNeg (w : World) : (zeroValue 141).run Tryz.prog w = .ok (.agg #[.nilIface]) w := by kernel_rfl
theorem taNeg_no (u : TypeId) (v : Value) (w : World) (hne : u ≠ 141) : (Instr.typeAssert (.iface u v) 49 141 true).run Tryz.prog w = .ok (.tuple #[.agg #[.nilIface], .bool false]) w := run_ta_no w _ _ u v _ Tryz.underlying141 zeroNeg hne
theorem taNeg_nil (w : World) : (Instr.typeAssert .nilIface 49 141 true).run Tryz.prog w = .ok (.tuple #[.agg #[.nilIface], .bool false]) w := run_ta_nil w _ _ _ Tryz.underlying141 zeroNeg
theorem taPow_yes (v : Value) (w : World) : (Instr.typeAssert (.iface 143 v) 49 143 true).run Tryz.prog w = .ok (.tuple #[v, .bool true]) w := run_ta_yes w _ _ v Tryz.underlying143
theorem zeroPow (w : World) : (zeroValue 143).run Tryz.prog w = .ok (.agg #[.nilIface, .int .i64 0]) w := by kernel_rfl
theorem taPow_no (u : TypeId) (v : Value) (w : World) (hne : u ≠ 143) : (Instr.typeAssert (.iface u v) 49 143 true).run Tryz.prog w = .ok (.tuple #[.agg #[.nilIface, .int .i64 0], .bool false]) w := run_ta_no w _ _ u v _ Tryz.underlying143 zeroPow hne
theorem taPow_nil (w : World) : (Instr.typeAssert .nilIface 49 143 true).run Tryz.prog w = .ok (.tuple #[.agg #[.nilIface, .int .i64 0], .bool false]) w := run_ta_nil w _ _ _ Tryz.underlying143 zeroPow
theorem taTruth_yes (v : Value) (w : World) : (Instr.typeAssert (.iface 75 v) 24 75 true).run Tryz.prog w = .ok (.tuple #[v, .bool true]) w := run_ta_yes w _ _ v Tryz.underlying75
theorem zeroTruth (w : World) : (zeroValue 75).run Tryz.prog w = .ok (.agg #[.bool false]) w := by kernel_rfl
theorem taTruth_no (u : TypeId) (v : Value) (w : World) (hne : u ≠ 75) : (Instr.typeAssert (.iface u v) 24 75 true).run Tryz.prog w = .ok (.tuple #[.agg #[.bool false], .bool false]) w := run_ta_no w _ _ u v _ Tryz.underlying75 zeroTruth hne
theorem taTruth_nil (w : World) : (Instr.typeAssert .nilIface 24 75 true).run Tryz.prog w = .ok (.tuple #[.agg #[.bool false], .bool false]) w := run_ta_nil w _ _ _ Tryz.underlying75 zeroTruth
theorem taAtom_yes (v : Value) (w : World) : (Instr.typeAssert (.iface 51 v) 24 51 true).run Tryz.prog w = .ok (.tuple #[v, .bool true]) w := run_ta_yes w _ _ v Tryz.underlying51
theorem zeroAtom (w : World) : (zeroValue 51).run Tryz.prog w = .ok (.agg #[.nilIface, .int .i64 0, .nilIface]) w := by kernel_rfl
theorem taAtom_no (u : TypeId) (v : Value) (w : World) (hne : u ≠ 51) : (Instr.typeAssert (.iface u v) 24 51 true).run Tryz.prog w = .ok (.tuple #[.agg #[.nilIface, .int .i64 0, .nilIface], .bool false]) w := run_ta_no w _ _ u v _ Tryz.underlying51 zeroAtom hne
theorem taAtom_nil (w : World) : (Instr.typeAssert .nilIface 24 51 true).run Tryz.prog w = .ok (.tuple #[.agg #[.nilIface, .int .i64 0, .nilIface], .bool false]) w := run_ta_nil w _ _ _ Tryz.underlying51 zeroAtom
theorem taNot_yes (v : Value) (w : World) : (Instr.typeAssert (.iface 53 v) 24 53 true).run Tryz.prog w = .ok (.tuple #[v, .bool true]) w := run_ta_yes w _ _ v Tryz.underlying53
theorem zeroNot (w : World) : (zeroValue 53).run Tryz.prog w = .ok (.agg #[.nilIface]) w := by kernel_rfl
theorem taNot_no (u : TypeId) (v : Value) (w : World) (hne : u ≠ 53) : (Instr.typeAssert (.iface u v) 24 53 true).run Tryz.prog w = .ok (.tuple #[.agg #[.nilIface], .bool false]) w := run_ta_no w _ _ u v _ Tryz.underlying53 zeroNot hne
theorem taNot_nil (w : World) : (Instr.typeAssert .nilIface 24 53 true).run Tryz.prog w = .ok (.tuple #[.agg #[.nilIface], .bool false]) w := run_ta_nil w _ _ _ Tryz.underlying53 zeroNot
theorem taAnd_yes (v : Value) (w : World) : (Instr.typeAssert (.iface 94 v) 24 94 true).run Tryz.prog w = .ok (.tuple #[v, .bool true]) w := run_ta_yes w _ _ v Tryz.underlying94
theorem zeroAnd (w : World) : (zeroValue 94).run Tryz.prog w = .ok (.agg #[.nilIface, .nilIface]) w := by kernel_rfl
theorem taAnd_no (u : TypeId) (v : Value) (w : World) (hne : u ≠ 94) : (Instr.typeAssert (.iface u v) 24 94 true).run Tryz.prog w = .ok (.tuple #[.agg #[.nilIface, .nilIface], .bool false]) w := run_ta_no w _ _ u v _ Tryz.underlying94 zeroAnd hne
theorem taAnd_nil (w : World) : (Instr.typeAssert .nilIface 24 94 true).run Tryz.prog w = .ok (.tuple #[.agg #[.nilIface, .nilIface], .bool false]) w := run_ta_nil w _ _ _ Tryz.underlying94 zeroAnd
theorem taOr_yes (v : Value) (w : World) : (Instr.typeAssert (.iface 95 v) 24 95 true).run Tryz.prog w = .ok (.tuple #[v, .bool true]) w := run_ta_yes w _ _ v Tryz.underlying95
theorem zeroOr (w : World) : (zeroValue 95).run Tryz.prog w = .ok (.agg #[.nilIface, .nilIface]) w := by kernel_rfl
theorem taOr_no (u : TypeId) (v : Value) (w : World) (hne : u ≠ 95) : (Instr.typeAssert (.iface u v) 24 95 true).run Tryz.prog w = .ok (.tuple #[.agg #[.nilIface, .nilIface], .bool false]) w := run_ta_no w _ _ u v _ Tryz.underlying95 zeroOr hne
theorem taOr_nil (w : World) : (Instr.typeAssert .nilIface 24 95 true).run Tryz.prog w = .ok (.tuple #[.agg #[.nilIface, .nilIface], .bool false]) w := run_ta_nil w _ _ _ Tryz.underlying95 zeroOr
theorem taImplies_yes (v : Value) (w : World) : (Instr.typeAssert (.iface 96 v) 24 96 true).run Tryz.prog w = .ok (.tuple #[v, .bool true]) w := run_ta_yes w _ _ v Tryz.underlying96
theorem zeroImplies (w : World) : (zeroValue 96).run Tryz.prog w = .ok (.agg #[.nilIface, .nilIface]) w := by kernel_rfl
theorem taImplies_no (u : TypeId) (v : Value) (w : World) (hne : u ≠ 96) : (Instr.typeAssert (.iface u v) 24 96 true).run Tryz.prog w = .ok (.tuple #[.agg #[.nilIface, .nilIface], .bool false]) w := run_ta_no w _ _ u v _ Tryz.underlying96 zeroImplies hne
theorem taImplies_nil (w : World) : (Instr.typeAssert .nilIface 24 96 true).run Tryz.prog w = .ok (.tuple #[.agg #[.nilIface, .nilIface], .bool false]) w := run_ta_nil w _ _ _ Tryz.underlying96 zeroImplies
theorem taIff_yes (v : Value) (w : World) : (Instr.typeAssert (.iface 97 v) 24 97 true).run Tryz.prog w = .ok (.tuple #[v, .bool true]) w := run_ta_yes w _ _ v Tryz.underlying97
theorem zeroIff (w : World) : (zeroValue 97).run Tryz.prog w = .ok (.agg #[.nilIface, .nilIface]) w := by kernel_rfl
theorem taIff_no (u : TypeId) (v : Value) (w : World) (hne : u ≠ 97) : (Instr.typeAssert (.iface u v) 24 97 true).run Tryz.prog w = .ok (.tuple #[.agg #[.nilIface, .nilIface], .bool false]) w := run_ta_no w _ _ u v _ Tryz.underlying97 zeroIff hne
theorem taIff_nil (w : World) : (Instr.typeAssert .nilIface 24 97 true).run Tryz.prog w = .ok (.tuple #[.agg #[.nilIface, .nilIface], .bool false]) w := run_ta_nil w _ _ _ Tryz.underlying97 zeroIff
theorem taQuant_yes (v : Value) (w : World) : (Instr.typeAssert (.iface 99 v) 24 99 true).run Tryz.prog w = .ok (.tuple #[v, .bool true]) w := run_ta_yes w _ _ v Tryz.underlying99
theorem zeroQuant (w : World) : (zeroValue 99).run Tryz.prog w = .ok (.agg #[.bool false, .string ⟨#[]⟩, .nilIface]) w := by kernel_rfl
theorem taQuant_no (u : TypeId) (v : Value) (w : World) (hne : u ≠ 99) : (Instr.typeAssert (.iface u v) 24 99 true).run Tryz.prog w = .ok (.tuple #[.agg #[.bool false, .string ⟨#[]⟩, .nilIface], .bool false]) w := run_ta_no w _ _ u v _ Tryz.underlying99 zeroQuant hne
theorem taQuant_nil (w : World) : (Instr.typeAssert .nilIface 24 99 true).run Tryz.prog w = .ok (.tuple #[.agg #[.bool false, .string ⟨#[]⟩, .nilIface], .bool false]) w := run_ta_nil w _ _ _ Tryz.underlying99 zeroQuant
end Fm
end Go.Proofs.YteneobpacobpdaaGreatDoor
