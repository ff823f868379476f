/-
  What a type switch asks of a term or a formula.
-/
import Derived.Test.YtkjbfomokdjbnaaDoorTm
namespace Go.Proofs.YtkjbfomokdjbnaaDoor
open Go.RowKit
set_option linter.unusedSimpArgs false
set_option linter.unusedVariables false
namespace Fm
section
variable {P : Program}
theorem run_ta_yes (w : World) (st T : TypeId) (v : Value) {fs : Array Field} (hu : P.underlying T = some (.struct fs)) : (Instr.typeAssert (.iface T v) st T true).run P w = .ok (.tuple #[v, .bool true]) w := by
  simp [Instr.typeAssert, run_underlying hu]
theorem run_ta_no (w : World) (st T u : TypeId) (v z : Value) {fs : Array Field} (hu : P.underlying T = some (.struct fs)) (hz : ∀ w, (zeroValue T).run P w = .ok z w) (hne : u ≠ T) : (Instr.typeAssert (.iface u v) st T true).run P w = .ok (.tuple #[z, .bool false]) w := by
  simp [Instr.typeAssert, run_underlying hu, hne, hz]
theorem run_ta_nil (w : World) (st T : TypeId) (z : Value) {fs : Array Field} (hu : P.underlying T = some (.struct fs)) (hz : ∀ w, (zeroValue T).run P w = .ok z w) : (Instr.typeAssert .nilIface st T true).run P w = .ok (.tuple #[z, .bool false]) w := by
  simp [Instr.typeAssert, run_underlying hu, hz]
end
theorem taNum_yes (v : Value) (w : World) : (Instr.typeAssert (.iface 86 v) 42 86 true).run Tryd.prog w = .ok (.tuple #[v, .bool true]) w := run_ta_yes w _ _ v Tryd.underlying86
theorem zeroNum (w : World) : (zeroValue 86).run Tryd.prog w = .ok (.agg #[.bool false, .slice none 0 0]) w := by kernel_rfl
theorem taNum_no (u : TypeId) (v : Value) (w : World) (hne : u ≠ 86) : (Instr.typeAssert (.iface u v) 42 86 true).run Tryd.prog w = .ok (.tuple #[.agg #[.bool false, .slice none 0 0], .bool false]) w := run_ta_no w _ _ u v _ Tryd.underlying86 zeroNum hne
theorem taNum_nil (w : World) : (Instr.typeAssert .nilIface 42 86 true).run Tryd.prog w = .ok (.tuple #[.agg #[.bool false, .slice none 0 0], .bool false]) w := run_ta_nil w _ _ _ Tryd.underlying86 zeroNum
theorem taName_yes (v : Value) (w : World) : (Instr.typeAssert (.iface 47 v) 42 47 true).run Tryd.prog w = .ok (.tuple #[v, .bool true]) w := run_ta_yes w _ _ v Tryd.underlying47
theorem zeroName (w : World) : (zeroValue 47).run Tryd.prog w = .ok (.agg #[.string ⟨#[]⟩]) w := by kernel_rfl
theorem taName_no (u : TypeId) (v : Value) (w : World) (hne : u ≠ 47) : (Instr.typeAssert (.iface u v) 42 47 true).run Tryd.prog w = .ok (.tuple #[.agg #[.string ⟨#[]⟩], .bool false]) w := run_ta_no w _ _ u v _ Tryd.underlying47 zeroName hne
theorem taName_nil (w : World) : (Instr.typeAssert .nilIface 42 47 true).run Tryd.prog w = .ok (.tuple #[.agg #[.string ⟨#[]⟩], .bool false]) w := run_ta_nil w _ _ _ Tryd.underlying47 zeroName
theorem taAdd_yes (v : Value) (w : World) : (Instr.typeAssert (.iface 89 v) 42 89 true).run Tryd.prog w = .ok (.tuple #[v, .bool true]) w := run_ta_yes w _ _ v Tryd.underlying89
theorem zeroAdd (w : World) : (zeroValue 89).run Tryd.prog w = .ok (.agg #[.nilIface, .nilIface]) w := by kernel_rfl
theorem taAdd_no (u : TypeId) (v : Value) (w : World) (hne : u ≠ 89) : (Instr.typeAssert (.iface u v) 42 89 true).run Tryd.prog w = .ok (.tuple #[.agg #[.nilIface, .nilIface], .bool false]) w := run_ta_no w _ _ u v _ Tryd.underlying89 zeroAdd hne
theorem taAdd_nil (w : World) : (Instr.typeAssert .nilIface 42 89 true).run Tryd.prog w = .ok (.tuple #[.agg #[.nilIface, .nilIface], .bool false]) w := run_ta_nil w _ _ _ Tryd.underlying89 zeroAdd
theorem taSub_yes (v : Value) (w : World) : (Instr.typeAssert (.iface 56 v) 42 56 true).run Tryd.prog w = .ok (.tuple #[v, .bool true]) w := run_ta_yes w _ _ v Tryd.underlying56
theorem zeroSub (w : World) : (zeroValue 56).run Tryd.prog w = .ok (.agg #[.nilIface, .nilIface]) w := by kernel_rfl
theorem taSub_no (u : TypeId) (v : Value) (w : World) (hne : u ≠ 56) : (Instr.typeAssert (.iface u v) 42 56 true).run Tryd.prog w = .ok (.tuple #[.agg #[.nilIface, .nilIface], .bool false]) w := run_ta_no w _ _ u v _ Tryd.underlying56 zeroSub hne
theorem taSub_nil (w : World) : (Instr.typeAssert .nilIface 42 56 true).run Tryd.prog w = .ok (.tuple #[.agg #[.nilIface, .nilIface], .bool false]) w := run_ta_nil w _ _ _ Tryd.underlying56 zeroSub
theorem taMul_yes (v : Value) (w : World) : (Instr.typeAssert (.iface 57 v) 42 57 true).run Tryd.prog w = .ok (.tuple #[v, .bool true]) w := run_ta_yes w _ _ v Tryd.underlying57
theorem zeroMul (w : World) : (zeroValue 57).run Tryd.prog w = .ok (.agg #[.nilIface, .nilIface]) w := by kernel_rfl
theorem taMul_no (u : TypeId) (v : Value) (w : World) (hne : u ≠ 57) : (Instr.typeAssert (.iface u v) 42 57 true).run Tryd.prog w = .ok (.tuple #[.agg #[.nilIface, .nilIface], .bool false]) w := run_ta_no w _ _ u v _ Tryd.underlying57 zeroMul hne
theorem taMul_nil (w : World) : (Instr.typeAssert .nilIface 42 57 true).run Tryd.prog w = .ok (.tuple #[.agg #[.nilIface, .nilIface], .bool false]) w := run_ta_nil w _ _ _ Tryd.underlying57 zeroMul
theorem taNeg_yes (v : Value) (w : World) : (Instr.typeAssert (.iface 88 v) 42 88 true).run Tryd.prog w = .ok (.tuple #[v, .bool true]) w := run_ta_yes w _ _ v Tryd.underlying88
theorem zeroNeg (w : World) : (zeroValue 88).run Tryd.prog w = .ok (.agg #[.nilIface]) w := by kernel_rfl
theorem taNeg_no (u : TypeId) (v : Value) (w : World) (hne : u ≠ 88) : (Instr.typeAssert (.iface u v) 42 88 true).run Tryd.prog w = .ok (.tuple #[.agg #[.nilIface], .bool false]) w := run_ta_no w _ _ u v _ Tryd.underlying88 zeroNeg hne
theorem taNeg_nil (w : World) : (Instr.typeAssert .nilIface 42 88 true).run Tryd.prog w = .ok (.tuple #[.agg #[.nilIface], .bool false]) w := run_ta_nil w _ _ _ Tryd.underlying88 zeroNeg
theorem taPow_yes (v : Value) (w : World) : (Instr.typeAssert (.iface 49 v) 42 49 true).run Tryd.prog w = .ok (.tuple #[v, .bool true]) w := run_ta_yes w _ _ v Tryd.underlying49
theorem zeroPow (w : World) : (zeroValue 49).run Tryd.prog w = .ok (.agg #[.nilIface, .int .i64 0]) w := by kernel_rfl
theorem taPow_no (u : TypeId) (v : Value) (w : World) (hne : u ≠ 49) : (Instr.typeAssert (.iface u v) 42 49 true).run Tryd.prog w = .ok (.tuple #[.agg #[.nilIface, .int .i64 0], .bool false]) w := run_ta_no w _ _ u v _ Tryd.underlying49 zeroPow hne
theorem taPow_nil (w : World) : (Instr.typeAssert .nilIface 42 49 true).run Tryd.prog w = .ok (.tuple #[.agg #[.nilIface, .int .i64 0], .bool false]) w := run_ta_nil w _ _ _ Tryd.underlying49 zeroPow
theorem taTruth_yes (v : Value) (w : World) : (Instr.typeAssert (.iface 71 v) 33 71 true).run Tryd.prog w = .ok (.tuple #[v, .bool true]) w := run_ta_yes w _ _ v Tryd.underlying71
theorem zeroTruth (w : World) : (zeroValue 71).run Tryd.prog w = .ok (.agg #[.bool false]) w := by kernel_rfl
theorem taTruth_no (u : TypeId) (v : Value) (w : World) (hne : u ≠ 71) : (Instr.typeAssert (.iface u v) 33 71 true).run Tryd.prog w = .ok (.tuple #[.agg #[.bool false], .bool false]) w := run_ta_no w _ _ u v _ Tryd.underlying71 zeroTruth hne
theorem taTruth_nil (w : World) : (Instr.typeAssert .nilIface 33 71 true).run Tryd.prog w = .ok (.tuple #[.agg #[.bool false], .bool false]) w := run_ta_nil w _ _ _ Tryd.underlying71 zeroTruth
theorem taAtom_yes (v : Value) (w : World) : (Instr.typeAssert (.iface 51 v) 33 51 true).run Tryd.prog w = .ok (.tuple #[v, .bool true]) w := run_ta_yes w _ _ v Tryd.underlying51
theorem zeroAtom (w : World) : (zeroValue 51).run Tryd.prog w = .ok (.agg #[.nilIface, .int .i64 0, .nilIface]) w := by kernel_rfl
theorem taAtom_no (u : TypeId) (v : Value) (w : World) (hne : u ≠ 51) : (Instr.typeAssert (.iface u v) 33 51 true).run Tryd.prog w = .ok (.tuple #[.agg #[.nilIface, .int .i64 0, .nilIface], .bool false]) w := run_ta_no w _ _ u v _ Tryd.underlying51 zeroAtom hne
theorem taAtom_nil (w : World) : (Instr.typeAssert .nilIface 33 51 true).run Tryd.prog w = .ok (.tuple #[.agg #[.nilIface, .int .i64 0, .nilIface], .bool false]) w := run_ta_nil w _ _ _ Tryd.underlying51 zeroAtom
theorem taNot_yes (v : Value) (w : World) : (Instr.typeAssert (.iface 68 v) 33 68 true).run Tryd.prog w = .ok (.tuple #[v, .bool true]) w := run_ta_yes w _ _ v Tryd.underlying68
theorem zeroNot (w : World) : (zeroValue 68).run Tryd.prog w = .ok (.agg #[.nilIface]) w := by kernel_rfl
theorem taNot_no (u : TypeId) (v : Value) (w : World) (hne : u ≠ 68) : (Instr.typeAssert (.iface u v) 33 68 true).run Tryd.prog w = .ok (.tuple #[.agg #[.nilIface], .bool false]) w := run_ta_no w _ _ u v _ Tryd.underlying68 zeroNot hne
theorem taNot_nil (w : World) : (Instr.typeAssert .nilIface 33 68 true).run Tryd.prog w = .ok (.tuple #[.agg #[.nilIface], .bool false]) w := run_ta_nil w _ _ _ Tryd.underlying68 zeroNot
theorem taAnd_yes (v : Value) (w : World) : (Instr.typeAssert (.iface 53 v) 33 53 true).run Tryd.prog w = .ok (.tuple #[v, .bool true]) w := run_ta_yes w _ _ v Tryd.underlying53
theorem zeroAnd (w : World) : (zeroValue 53).run Tryd.prog w = .ok (.agg #[.nilIface, .nilIface]) w := by kernel_rfl
theorem taAnd_no (u : TypeId) (v : Value) (w : World) (hne : u ≠ 53) : (Instr.typeAssert (.iface u v) 33 53 true).run Tryd.prog w = .ok (.tuple #[.agg #[.nilIface, .nilIface], .bool false]) w := run_ta_no w _ _ u v _ Tryd.underlying53 zeroAnd hne
theorem taAnd_nil (w : World) : (Instr.typeAssert .nilIface 33 53 true).run Tryd.prog w = .ok (.tuple #[.agg #[.nilIface, .nilIface], .bool false]) w := run_ta_nil w _ _ _ Tryd.underlying53 zeroAnd
theorem taOr_yes (v : Value) (w : World) : (Instr.typeAssert (.iface 94 v) 33 94 true).run Tryd.prog w = .ok (.tuple #[v, .bool true]) w := run_ta_yes w _ _ v Tryd.underlying94
theorem zeroOr (w : World) : (zeroValue 94).run Tryd.prog w = .ok (.agg #[.nilIface, .nilIface]) w := by kernel_rfl
theorem taOr_no (u : TypeId) (v : Value) (w : World) (hne : u ≠ 94) : (Instr.typeAssert (.iface u v) 33 94 true).run Tryd.prog w = .ok (.tuple #[.agg #[.nilIface, .nilIface], .bool false]) w := run_ta_no w _ _ u v _ Tryd.underlying94 zeroOr hne
theorem taOr_nil (w : World) : (Instr.typeAssert .nilIface 33 94 true).run Tryd.prog w = .ok (.tuple #[.agg #[.nilIface, .nilIface], .bool false]) w := run_ta_nil w _ _ _ Tryd.underlying94 zeroOr
theorem taImplies_yes (v : Value) (w : World) : (Instr.typeAssert (.iface 95 v) 33 95 true).run Tryd.prog w = .ok (.tuple #[v, .bool true]) w := run_ta_yes w _ _ v Tryd.underlying95
theorem zeroImplies (w : World) : (zeroValue 95).run Tryd.prog w = .ok (.agg #[.nilIface, .nilIface]) w := by kernel_rfl
theorem taImplies_no (u : TypeId) (v : Value) (w : World) (hne : u ≠ 95) : (Instr.typeAssert (.iface u v) 33 95 true).run Tryd.prog w = .ok (.tuple #[.agg #[.nilIface, .nilIface], .bool false]) w := run_ta_no w _ _ u v _ Tryd.underlying95 zeroImplies hne
theorem taImplies_nil (w : World) : (Instr.typeAssert .nilIface 33 95 true).run Tryd.prog w = .ok (.tuple #[.agg #[.nilIface, .nilIface], .bool false]) w := run_ta_nil w _ _ _ Tryd.underlying95 zeroImplies
theorem taIff_yes (v : Value) (w : World) : (Instr.typeAssert (.iface 96 v) 33 96 true).run Tryd.prog w = .ok (.tuple #[v, .bool true]) w := run_ta_yes w _ _ v Tryd.underlying96
theorem zeroIff (w : World) : (zeroValue 96).run Tryd.prog w = .ok (.agg #[.nilIface, .nilIface]) w := by kernel_rfl
theorem taIff_no (u : TypeId) (v : Value) (w : World) (hne : u ≠ 96) : (Instr.typeAssert (.iface u v) 33 96 true).run Tryd.prog w = .ok (.tuple #[.agg #[.nilIface, .nilIface], .bool false]) w := run_ta_no w _ _ u v _ Tryd.underlying96 zeroIff hne
theorem taIff_nil (w : World) : (Instr.typeAssert .nilIface 33 96 true).run Tryd.prog w = .ok (.tuple #[.agg #[.nilIface, .nilIface], .bool false]) w := run_ta_nil w _ _ _ Tryd.underlying96 zeroIff
theorem taQuant_yes (v : Value) (w : World) : (Instr.typeAssert (.iface 98 v) 33 98 true).run Tryd.prog w = .ok (.tuple #[v, .bool true]) w := run_ta_yes w _ _ v Tryd.underlying98
theorem zeroQuant (w : World) : (zeroValue 98).run Tryd.prog w = .ok (.agg #[.bool false, .string ⟨#[]⟩, .nilIface]) w := by kernel_rfl
theorem taQuant_no (u : TypeId) (v : Value) (w : World) (hne : u ≠ 98) : (Instr.typeAssert (.iface u v) 33 98 true).run Tryd.prog w = .ok (.tuple #[.agg #[.bool false, .string ⟨#[]⟩, .nilIface], .bool false]) w := run_ta_no w _ _ u v _ Tryd.underlying98 zeroQuant hne
theorem taQuant_nil (w : World) : (Instr.typeAssert .nilIface 33 98 true).run Tryd.prog w = .ok (.tuple #[.agg #[.bool false, .string ⟨#[]⟩, .nilIface], .bool false]) w := run_ta_nil w _ _ _ Tryd.underlying98 zeroQuant
end Fm
end Go.Proofs.YtkjbfomokdjbnaaDoor
