/-
  formula.OfTerm: what it accepts, and the term that it gives.
-/
import Derived.Test.YtkjbfomokdjbnaaGreatTm
import Derived.Test.YtkjbfomokdjbnaaGreatFmL
namespace Go.Proofs.YtkjbfomokdjbnaaGreat
open Go.RowKit
set_option linter.unusedSimpArgs false
set_option linter.unusedVariables false
namespace Fm

mutual
def Sm : Tr → Prop
  | .mk h ks => h.abs.length ≤ 20 ∧ h.name.size ≤ 40 ∧ SmL ks
def SmL : List Tr → Prop
  | [] => True
  | k :: ks => Sm k ∧ SmL ks
end
theorem SmL.at_ : ∀ {l : List Tr} (h : SmL l) {i : Nat} {k : Tr}, l[i]? = some k → Sm k
  | [], _, i, k, h => by simp at h
  | a :: l, hs, i, k, h => by
    unfold SmL at hs
    match i with
    | 0 => simp at h; subst h; exact hs.1
    | i + 1 => exact SmL.at_ hs.2 (by simpa using h)

def OfTPost (t : Tr) (w : World) (e : Ending) (w' : World) : Prop :=
  match ofT t with
  | none => e = .returned (.tuple #[.nilIface, .int .i64 9]) ∧ Below w.heap.size w w'
  | some tm => ∃ v, e = .returned (.tuple #[v, .int .i64 0]) ∧ TmAt w' (Fr w w') tm v ∧ Below w.heap.size w w'
theorem OfTPost.no {t : Tr} {w w' : World} {e : Ending} (h : OfTPost t w e w') (hn : ofT t = none) : e = .returned (.tuple #[.nilIface, .int .i64 9]) ∧ Below w.heap.size w w' := by
  unfold OfTPost at h; rw [hn] at h; exact h
theorem OfTPost.yes {t : Tr} {w w' : World} {e : Ending} (h : OfTPost t w e w') {tm : Tm} (hn : ofT t = some tm) : ∃ v, e = .returned (.tuple #[v, .int .i64 0]) ∧ TmAt w' (Fr w w') tm v ∧ Below w.heap.size w w' := by
  unfold OfTPost at h; rw [hn] at h; exact h
theorem OfTPost.mkNo {t : Tr} {w w' : World} (hn : ofT t = none) (hb : Below w.heap.size w w') : OfTPost t w (.returned (.tuple #[.nilIface, .int .i64 9])) w' := by
  unfold OfTPost; rw [hn]; exact ⟨rfl, hb⟩
theorem OfTPost.mkYes {t : Tr} {w w' : World} {tm : Tm} {v : Value} (hn : ofT t = some tm) (hv : TmAt w' (Fr w w') tm v) (hb : Below w.heap.size w w') : OfTPost t w (.returned (.tuple #[v, .int .i64 0])) w' := by
  unfold OfTPost; rw [hn]; exact ⟨v, rfl, hv, hb⟩

/-- the parts that are ready -/
structure Parts (w wr : World) (i : Nat) (ps : List Tm) (v0 v1 : Value) : Prop where
  one0 : v0.oneCell' = true
  one1 : v1.oneCell' = true
  i0 : 0 < i → ∃ u x, v0 = .iface u x
  i1 : 1 < i → ∃ u x, v1 = .iface u x
  p0 : 0 < i → TmAt wr (fun b => w.heap.size + 2 ≤ b ∧ b < wr.heap.size) (ps.getD 0 .odd) v0
  p1 : 1 < i → TmAt wr (fun b => w.heap.size + 2 ≤ b ∧ b < wr.heap.size) (ps.getD 1 .odd) v1

end Fm
end Go.Proofs.YtkjbfomokdjbnaaGreat
