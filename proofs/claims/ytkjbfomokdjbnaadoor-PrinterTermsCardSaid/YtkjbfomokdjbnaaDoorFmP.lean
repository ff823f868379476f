/-
  formula.PlainTerm: the tree of a term.
-/
import Derived.Test.YtkjbfomokdjbnaaDoorFmO
import Derived.Test.YtkjbfomokdjbnaaDoorTa
import Derived.Deep.RegionHeld3
import Derived.Outline
namespace Go.Proofs.YtkjbfomokdjbnaaDoor
open Go.RowKit
set_option linter.unusedSimpArgs false
set_option linter.unusedVariables false
namespace Fm
attribute [local go_sem] run_store taNum_yes taNum_no taNum_nil taName_yes taName_no taName_nil taAdd_yes taAdd_no taAdd_nil taSub_yes taSub_no taSub_nil taMul_yes taMul_no taMul_nil taNeg_yes taNeg_no taNeg_nil taPow_yes taPow_no taPow_nil

def hd0 (k : Int) : Hd := ⟨k, false, [], ⟨#[]⟩, 0, 0, false, false⟩
def plainT : Tm → Tr
  | .odd => .mk (hd0 1) []
  | .num neg abs => .mk { hd0 1 with neg := normB neg abs, abs := trimN abs } []
  | .name s => .mk { hd0 2 with name := s } []
  | .add l r => .mk (hd0 3) [plainT l, plainT r]
  | .sub l r => .mk (hd0 4) [plainT l, plainT r]
  | .mul l r => .mk (hd0 5) [plainT l, plainT r]
  | .neg t => .mk (hd0 6) [plainT t]
  | .pow t e => .mk { hd0 7 with exp := max e 0 } [plainT t]
/-- its numbers are short -/
def SmT : Tm → Prop
  | .odd => True
  | .num _ abs => abs.length ≤ 1000000
  | .name _ => True
  | .add l r => SmT l ∧ SmT r
  | .sub l r => SmT l ∧ SmT r
  | .mul l r => SmT l ∧ SmT r
  | .neg t => SmT t
  | .pow t _ => SmT t

/-- a call that gives back a new tree -/
def TreePost (T : Tr) (w : World) (e : Ending) (w' : World) : Prop :=
  ∃ A1 n1 c1 A2 n2 c2, e = .returned (.agg #[.int .i64 T.h.k, .bool T.h.neg, .slice A1 n1 c1, .string T.h.name, .int .i64 T.h.exp, .int .i64 T.h.rel, .bool T.h.truth, .bool T.h.all, .slice A2 n2 c2]) ∧ TreeAt w' (Fr w w') T (hdC T.h (.slice A1 n1 c1) (.slice A2 n2 c2)) ∧ Below w.heap.size w w'

/-- blocks made behind the first d -/
abbrev Fd (w : World) (d : Nat) (w' : World) : Nat → Prop := fun b => w.heap.size + d ≤ b ∧ b < w'.heap.size

theorem AbsAt.empty {w : World} {S : Nat → Prop} : AbsAt w S (.slice none 0 0) [] := ⟨SS.nil, (fun x hx => by cases hx), Nat.zero_le _⟩
theorem no_kids {w2 : World} {S : Nat → Prop} {hd : Hd} {va : Value} (ha : AbsAt w2 S va hd.abs) (hn : hd.name.size ≤ 9223372036854775807) : TreeAt w2 S (.mk hd []) (hdC hd va (.slice none 0 0)) :=
  TreeAt.of (xs := []) ha hn (by simp) SS.nil TrsC.nil

/-- the result's nine cells, stored -/
abbrev set9 (w : World) (X : Nat) (u0 u1 u2 u3 u4 u5 u6 u7 u8 : Value) : World :=
  ((((((((w.setCell ⟨X, 0, none⟩ u0).setCell ⟨X, 1, none⟩ u1).setCell ⟨X, 2, none⟩ u2).setCell ⟨X, 3, none⟩ u3).setCell ⟨X, 4, none⟩ u4).setCell ⟨X, 5, none⟩ u5).setCell ⟨X, 6, none⟩ u6).setCell ⟨X, 7, none⟩ u7).setCell ⟨X, 8, none⟩ u8
theorem TreeAt.set9 {w : World} {S : Nat → Prop} {t : Tr} {cs : List Value} (h : TreeAt w S t cs) {X : Nat} (hX : ¬ S X) (u0 u1 u2 u3 u4 u5 u6 u7 u8 : Value) : TreeAt (set9 w X u0 u1 u2 u3 u4 u5 u6 u7 u8) S t cs :=
  ((((((((h.setCell u0 hX).setCell u1 hX).setCell u2 hX).setCell u3 hX).setCell u4 hX).setCell u5 hX).setCell u6 hX).setCell u7 hX).setCell u8 hX
theorem below_set9 {B X : Nat} {a w : World} (h : Below B a w) (hX : B ≤ X) (u0 u1 u2 u3 u4 u5 u6 u7 u8 : Value) : Below B a (set9 w X u0 u1 u2 u3 u4 u5 u6 u7 u8) :=
  ((((((((h.setCell (p := ⟨X, 0, none⟩) hX u0).setCell (p := ⟨X, 1, none⟩) hX u1).setCell (p := ⟨X, 2, none⟩) hX u2).setCell (p := ⟨X, 3, none⟩) hX u3).setCell (p := ⟨X, 4, none⟩) hX u4).setCell (p := ⟨X, 5, none⟩) hX u5).setCell (p := ⟨X, 6, none⟩) hX u6).setCell (p := ⟨X, 7, none⟩) hX u7).setCell (p := ⟨X, 8, none⟩) hX u8
theorem size_set9 (w : World) (X : Nat) (u0 u1 u2 u3 u4 u5 u6 u7 u8 : Value) : (set9 w X u0 u1 u2 u3 u4 u5 u6 u7 u8).heap.size = w.heap.size := by simp

end Fm
end Go.Proofs.YtkjbfomokdjbnaaDoor

/-
  formula.PlainTerm: the leaves, and the whole.
-/
namespace Go.Proofs.YtkjbfomokdjbnaaDoor
open Go.RowKit
set_option linter.unusedSimpArgs false
set_option linter.unusedVariables false
namespace Fm
attribute [local go_sem] run_store taNum_yes taNum_no taNum_nil taName_yes taName_no taName_nil taAdd_yes taAdd_no taAdd_nil taSub_yes taSub_no taSub_nil taMul_yes taMul_no taMul_nil taNeg_yes taNeg_no taNeg_nil taPow_yes taPow_no taPow_nil
end Fm
end Go.Proofs.YtkjbfomokdjbnaaDoor
