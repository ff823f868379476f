/-
  What a type switch asks of a term or a formula.
-/
import Derived.Test.YtkjbfomokdjbnaaGreatTm
namespace Go.Proofs.YtkjbfomokdjbnaaGreat
open Go.RowKit
set_option linter.unusedSimpArgs false
set_option linter.unusedVariables false
namespace Fm
section
variable {P : Program}
theorem run_ta_yes (w : World) (st T : TypeId) (v : Value) {fs : Array Field} (hu : P.underlying T = some (.struct fs)) : (Instr.typeAssert (.iface T v) st T true).run P w = .ok (.tuple #[v, .bool true]) w := by
  simp [Instr.typeAssert, run_underlying hu]
theorem run_ta_no (w : World) (st T u : TypeId) (v z : Value) {fs : Array Field} (hu : P.underlying T = some (.struct fs)) (hz : ∀ w, (zeroValue T).run P w = .ok z w) (hne : u ≠ T) : (Instr.typeAssert (.iface u v) st T true).run P w = .ok (.tuple #[z, .bool false]) w := by
  simp [Instr.typeAssert, run_underlying hu, hne, hz]
theorem run_ta_nil (w : World) (st T : TypeId) (z : Value) {fs : Array Field} (hu : P.underlying T = some (.struct fs)) (hz : ∀ w, (zeroValue T).run P w = .ok z w) : (Instr.typeAssert .nilIface st T true).run P w = .ok (.tuple #[z, .bool false]) w := by
  simp [Instr.typeAssert, run_underlying hu, hz]
end
theorem taNum_yes (v : Value) (w : World) : (Instr.typeAssert (.iface 43 v) 45 43 true).run Tryz.prog w = .ok (.tuple #[v, .bool true]) w := run_ta_yes w _ _ v Tryz.underlying43
theorem zeroNum (w : World) : (zeroValue 43).run Tryz.prog w = .ok (.agg #[.bool false, .slice none 0 0]) w := by kernel_rfl
theorem taNum_no (u : TypeId) (v : Value) (w : World) (hne : u ≠ 43) : (Instr.typeAssert (.iface u v) 45 43 true).run Tryz.prog w = .ok (.tuple #[.agg #[.bool false, .slice none 0 0], .bool false]) w := run_ta_no w _ _ u v _ Tryz.underlying43 zeroNum hne
theorem taNum_nil (w : World) : (Instr.typeAssert .nilIface 45 43 true).run Tryz.prog w = .ok (.tuple #[.agg #[.bool false, .slice none 0 0], .bool false]) w := run_ta_nil w _ _ _ Tryz.underlying43 zeroNum
theorem taName_yes (v : Value) (w : World) : (Instr.typeAssert (.iface 35 v) 45 35 true).run Tryz.prog w = .ok (.tuple #[v, .bool true]) w := run_ta_yes w _ _ v Tryz.underlying35
theorem zeroName (w : World) : (zeroValue 35).run Tryz.prog w = .ok (.agg #[.string ⟨#[]⟩]) w := by kernel_rfl
theorem taName_no (u : TypeId) (v : Value) (w : World) (hne : u ≠ 35) : (Instr.typeAssert (.iface u v) 45 35 true).run Tryz.prog w = .ok (.tuple #[.agg #[.string ⟨#[]⟩], .bool false]) w := run_ta_no w _ _ u v _ Tryz.underlying35 zeroName hne
theorem taName_nil (w : World) : (Instr.typeAssert .nilIface 45 35 true).run Tryz.prog w = .ok (.tuple #[.agg #[.string ⟨#[]⟩], .bool false]) w := run_ta_nil w _ _ _ Tryz.underlying35 zeroName
theorem taAdd_yes (v : Value) (w : World) : (Instr.typeAssert (.iface 103 v) 45 103 true).run Tryz.prog w = .ok (.tuple #[v, .bool true]) w := run_ta_yes w _ _ v Tryz.underlying103
theorem zeroAdd (w : World) : (zeroValue 103).run Tryz.prog w = .ok (.agg #[.nilIface, .nilIface]) w := by kernel_rfl
theorem taAdd_no (u : TypeId) (v : Value) (w : World) (hne : u ≠ 103) : (Instr.typeAssert (.iface u v) 45 103 true).run Tryz.prog w = .ok (.tuple #[.agg #[.nilIface, .nilIface], .bool false]) w := run_ta_no w _ _ u v _ Tryz.underlying103 zeroAdd hne
theorem taAdd_nil (w : World) : (Instr.typeAssert .nilIface 45 103 true).run Tryz.prog w = .ok (.tuple #[.agg #[.nilIface, .nilIface], .bool false]) w := run_ta_nil w _ _ _ Tryz.underlying103 zeroAdd
theorem taSub_yes (v : Value) (w : World) : (Instr.typeAssert (.iface 104 v) 45 104 true).run Tryz.prog w = .ok (.tuple #[v, .bool true]) w := run_ta_yes w _ _ v Tryz.underlying104
theorem zeroSub (w : World) : (zeroValue 104).run Tryz.prog w = .ok (.agg #[.nilIface, .nilIface]) w := by kernel_rfl
theorem taSub_no (u : TypeId) (v : Value) (w : World) (hne : u ≠ 104) : (Instr.typeAssert (.iface u v) 45 104 true).run Tryz.prog w = .ok (.tuple #[.agg #[.nilIface, .nilIface], .bool false]) w := run_ta_no w _ _ u v _ Tryz.underlying104 zeroSub hne
theorem taSub_nil (w : World) : (Instr.typeAssert .nilIface 45 104 true).run Tryz.prog w = .ok (.tuple #[.agg #[.nilIface, .nilIface], .bool false]) w := run_ta_nil w _ _ _ Tryz.underlying104 zeroSub
theorem taMul_yes (v : Value) (w : World) : (Instr.typeAssert (.iface 105 v) 45 105 true).run Tryz.prog w = .ok (.tuple #[v, .bool true]) w := run_ta_yes w _ _ v Tryz.underlying105
theorem zeroMul (w : World) : (zeroValue 105).run Tryz.prog w = .ok (.agg #[.nilIface, .nilIface]) w := by kernel_rfl
theorem taMul_no (u : TypeId) (v : Value) (w : World) (hne : u ≠ 105) : (Instr.typeAssert (.iface u v) 45 105 true).run Tryz.prog w = .ok (.tuple #[.agg #[.nilIface, .nilIface], .bool false]) w := run_ta_no w _ _ u v _ Tryz.underlying105 zeroMul hne
theorem taMul_nil (w : World) : (Instr.typeAssert .nilIface 45 105 true).run Tryz.prog w = .ok (.tuple #[.agg #[.nilIface, .nilIface], .bool false]) w := run_ta_nil w _ _ _ Tryz.underlying105 zeroMul
theorem taNeg_yes (v : Value) (w : World) : (Instr.typeAssert (.iface 107 v) 45 107 true).run Tryz.prog w = .ok (.tuple #[v, .bool true]) w := run_ta_yes w _ _ v Tryz.underlying107
theorem zeroNeg (w : World) : (zeroValue 107).run Tryz.prog w = .ok (.agg #[.nilIface]) w := by kernel_rfl
theorem taNeg_no (u : TypeId) (v : Value) (w : World) (hne : u ≠ 107) : (Instr.typeAssert (.iface u v) 45 107 true).run Tryz.prog w = .ok (.tuple #[.agg #[.nilIface], .bool false]) w := run_ta_no w _ _ u v _ Tryz.underlying107 zeroNeg hne
theorem taNeg_nil (w : World) : (Instr.typeAssert .nilIface 45 107 true).run Tryz.prog w = .ok (.tuple #[.agg #[.nilIface], .bool false]) w := run_ta_nil w _ _ _ Tryz.underlying107 zeroNeg
theorem taPow_yes (v : Value) (w : World) : (Instr.typeAssert (.iface 109 v) 45 109 true).run Tryz.prog w = .ok (.tuple #[v, .bool true]) w := run_ta_yes w _ _ v Tryz.underlying109
theorem zeroPow (w : World) : (zeroValue 109).run Tryz.prog w = .ok (.agg #[.nilIface, .int .i64 0]) w := by kernel_rfl
theorem taPow_no (u : TypeId) (v : Value) (w : World) (hne : u ≠ 109) : (Instr.typeAssert (.iface u v) 45 109 true).run Tryz.prog w = .ok (.tuple #[.agg #[.nilIface, .int .i64 0], .bool false]) w := run_ta_no w _ _ u v _ Tryz.underlying109 zeroPow hne
theorem taPow_nil (w : World) : (Instr.typeAssert .nilIface 45 109 true).run Tryz.prog w = .ok (.tuple #[.agg #[.nilIface, .int .i64 0], .bool false]) w := run_ta_nil w _ _ _ Tryz.underlying109 zeroPow
theorem taTruth_yes (v : Value) (w : World) : (Instr.typeAssert (.iface 80 v) 24 80 true).run Tryz.prog w = .ok (.tuple #[v, .bool true]) w := run_ta_yes w _ _ v Tryz.underlying80
theorem zeroTruth (w : World) : (zeroValue 80).run Tryz.prog w = .ok (.agg #[.bool false]) w := by kernel_rfl
theorem taTruth_no (u : TypeId) (v : Value) (w : World) (hne : u ≠ 80) : (Instr.typeAssert (.iface u v) 24 80 true).run Tryz.prog w = .ok (.tuple #[.agg #[.bool false], .bool false]) w := run_ta_no w _ _ u v _ Tryz.underlying80 zeroTruth hne
theorem taTruth_nil (w : World) : (Instr.typeAssert .nilIface 24 80 true).run Tryz.prog w = .ok (.tuple #[.agg #[.bool false], .bool false]) w := run_ta_nil w _ _ _ Tryz.underlying80 zeroTruth
theorem taAtom_yes (v : Value) (w : World) : (Instr.typeAssert (.iface 47 v) 24 47 true).run Tryz.prog w = .ok (.tuple #[v, .bool true]) w := run_ta_yes w _ _ v Tryz.underlying47
theorem zeroAtom (w : World) : (zeroValue 47).run Tryz.prog w = .ok (.agg #[.nilIface, .int .i64 0, .nilIface]) w := by kernel_rfl
theorem taAtom_no (u : TypeId) (v : Value) (w : World) (hne : u ≠ 47) : (Instr.typeAssert (.iface u v) 24 47 true).run Tryz.prog w = .ok (.tuple #[.agg #[.nilIface, .int .i64 0, .nilIface], .bool false]) w := run_ta_no w _ _ u v _ Tryz.underlying47 zeroAtom hne
theorem taAtom_nil (w : World) : (Instr.typeAssert .nilIface 24 47 true).run Tryz.prog w = .ok (.tuple #[.agg #[.nilIface, .int .i64 0, .nilIface], .bool false]) w := run_ta_nil w _ _ _ Tryz.underlying47 zeroAtom
theorem taNot_yes (v : Value) (w : World) : (Instr.typeAssert (.iface 50 v) 24 50 true).run Tryz.prog w = .ok (.tuple #[v, .bool true]) w := run_ta_yes w _ _ v Tryz.underlying50
theorem zeroNot (w : World) : (zeroValue 50).run Tryz.prog w = .ok (.agg #[.nilIface]) w := by kernel_rfl
theorem taNot_no (u : TypeId) (v : Value) (w : World) (hne : u ≠ 50) : (Instr.typeAssert (.iface u v) 24 50 true).run Tryz.prog w = .ok (.tuple #[.agg #[.nilIface], .bool false]) w := run_ta_no w _ _ u v _ Tryz.underlying50 zeroNot hne
theorem taNot_nil (w : World) : (Instr.typeAssert .nilIface 24 50 true).run Tryz.prog w = .ok (.tuple #[.agg #[.nilIface], .bool false]) w := run_ta_nil w _ _ _ Tryz.underlying50 zeroNot
theorem taAnd_yes (v : Value) (w : World) : (Instr.typeAssert (.iface 84 v) 24 84 true).run Tryz.prog w = .ok (.tuple #[v, .bool true]) w := run_ta_yes w _ _ v Tryz.underlying84
theorem zeroAnd (w : World) : (zeroValue 84).run Tryz.prog w = .ok (.agg #[.nilIface, .nilIface]) w := by kernel_rfl
theorem taAnd_no (u : TypeId) (v : Value) (w : World) (hne : u ≠ 84) : (Instr.typeAssert (.iface u v) 24 84 true).run Tryz.prog w = .ok (.tuple #[.agg #[.nilIface, .nilIface], .bool false]) w := run_ta_no w _ _ u v _ Tryz.underlying84 zeroAnd hne
theorem taAnd_nil (w : World) : (Instr.typeAssert .nilIface 24 84 true).run Tryz.prog w = .ok (.tuple #[.agg #[.nilIface, .nilIface], .bool false]) w := run_ta_nil w _ _ _ Tryz.underlying84 zeroAnd
theorem taOr_yes (v : Value) (w : World) : (Instr.typeAssert (.iface 85 v) 24 85 true).run Tryz.prog w = .ok (.tuple #[v, .bool true]) w := run_ta_yes w _ _ v Tryz.underlying85
theorem zeroOr (w : World) : (zeroValue 85).run Tryz.prog w = .ok (.agg #[.nilIface, .nilIface]) w := by kernel_rfl
theorem taOr_no (u : TypeId) (v : Value) (w : World) (hne : u ≠ 85) : (Instr.typeAssert (.iface u v) 24 85 true).run Tryz.prog w = .ok (.tuple #[.agg #[.nilIface, .nilIface], .bool false]) w := run_ta_no w _ _ u v _ Tryz.underlying85 zeroOr hne
theorem taOr_nil (w : World) : (Instr.typeAssert .nilIface 24 85 true).run Tryz.prog w = .ok (.tuple #[.agg #[.nilIface, .nilIface], .bool false]) w := run_ta_nil w _ _ _ Tryz.underlying85 zeroOr
theorem taImplies_yes (v : Value) (w : World) : (Instr.typeAssert (.iface 86 v) 24 86 true).run Tryz.prog w = .ok (.tuple #[v, .bool true]) w := run_ta_yes w _ _ v Tryz.underlying86
theorem zeroImplies (w : World) : (zeroValue 86).run Tryz.prog w = .ok (.agg #[.nilIface, .nilIface]) w := by kernel_rfl
theorem taImplies_no (u : TypeId) (v : Value) (w : World) (hne : u ≠ 86) : (Instr.typeAssert (.iface u v) 24 86 true).run Tryz.prog w = .ok (.tuple #[.agg #[.nilIface, .nilIface], .bool false]) w := run_ta_no w _ _ u v _ Tryz.underlying86 zeroImplies hne
theorem taImplies_nil (w : World) : (Instr.typeAssert .nilIface 24 86 true).run Tryz.prog w = .ok (.tuple #[.agg #[.nilIface, .nilIface], .bool false]) w := run_ta_nil w _ _ _ Tryz.underlying86 zeroImplies
theorem taIff_yes (v : Value) (w : World) : (Instr.typeAssert (.iface 87 v) 24 87 true).run Tryz.prog w = .ok (.tuple #[v, .bool true]) w := run_ta_yes w _ _ v Tryz.underlying87
theorem zeroIff (w : World) : (zeroValue 87).run Tryz.prog w = .ok (.agg #[.nilIface, .nilIface]) w := by kernel_rfl
theorem taIff_no (u : TypeId) (v : Value) (w : World) (hne : u ≠ 87) : (Instr.typeAssert (.iface u v) 24 87 true).run Tryz.prog w = .ok (.tuple #[.agg #[.nilIface, .nilIface], .bool false]) w := run_ta_no w _ _ u v _ Tryz.underlying87 zeroIff hne
theorem taIff_nil (w : World) : (Instr.typeAssert .nilIface 24 87 true).run Tryz.prog w = .ok (.tuple #[.agg #[.nilIface, .nilIface], .bool false]) w := run_ta_nil w _ _ _ Tryz.underlying87 zeroIff
theorem taQuant_yes (v : Value) (w : World) : (Instr.typeAssert (.iface 89 v) 24 89 true).run Tryz.prog w = .ok (.tuple #[v, .bool true]) w := run_ta_yes w _ _ v Tryz.underlying89
theorem zeroQuant (w : World) : (zeroValue 89).run Tryz.prog w = .ok (.agg #[.bool false, .string ⟨#[]⟩, .nilIface]) w := by kernel_rfl
theorem taQuant_no (u : TypeId) (v : Value) (w : World) (hne : u ≠ 89) : (Instr.typeAssert (.iface u v) 24 89 true).run Tryz.prog w = .ok (.tuple #[.agg #[.bool false, .string ⟨#[]⟩, .nilIface], .bool false]) w := run_ta_no w _ _ u v _ Tryz.underlying89 zeroQuant hne
theorem taQuant_nil (w : World) : (Instr.typeAssert .nilIface 24 89 true).run Tryz.prog w = .ok (.tuple #[.agg #[.bool false, .string ⟨#[]⟩, .nilIface], .bool false]) w := run_ta_nil w _ _ _ Tryz.underlying89 zeroQuant
end Fm
end Go.Proofs.YtkjbfomokdjbnaaGreat
