/-
  The reference's strength, small, in, two.
-/
import Derived.Test.YtkjbfomokdjbnaaDoorDcF
import Derived.Test.YtkjbfomokdjbnaaDoorFmP
import Derived.Test.YtkjbfomokdjbnaaDoorFmI
import Derived.Test.YtkjbfomokdjbnaaDoorFmL
import Derived.Lib.QuietBelow
import Derived.BigQuiet
import Derived.Deep.QuietTactic
import Derived.IntWalk
namespace Go.Proofs.YtkjbfomokdjbnaaDoor
open Go.RowKit Go.Sort
set_option linter.unusedSimpArgs false
set_option linter.unusedVariables false
namespace Rt
open Fm Dc
attribute [local go_sem] run_store
def StrPost (s : ByteArray) (w : World) (e : Ending) (w' : World) : Prop := e = .returned (.string s) ∧ Below w.heap.size w w'
/-- the strength of a kind -/
def StC (k st : Int) : Prop := ∀ w, Calls Tryd.prog 71 #[.int .i64 k] w fun e w' => e = .returned (.int .i64 st) ∧ Below w.heap.size w w'
def bsR (l : List UInt8) : ByteArray := ⟨l.toArray⟩
theorem bs_app (l m : List UInt8) : bsR (l ++ m) = bsR l ++ bsR m := by
  unfold bsR
  apply ByteArray.ext
  simp
theorem bs_sz (l : List UInt8) : (bsR l).size = l.length := by
  show l.toArray.size = l.length
  simp
theorem enc_digit (d : Nat) (h : d < 10) : Utf8.encode (48 + (d : Int)) = bsR [asc d] := by
  rcases (by omega : d = 0 ∨ d = 1 ∨ d = 2 ∨ d = 3 ∨ d = 4 ∨ d = 5 ∨ d = 6 ∨ d = 7 ∨ d = 8 ∨ d = 9) with rfl | rfl | rfl | rfl | rfl | rfl | rfl | rfl | rfl | rfl
  all_goals rfl
theorem num_ten {n : Nat} (h : ¬ n < 10) : bsR (fmtL false n) = bsR (fmtL false (n / 10)) ++ bsR [asc (n % 10)] := by
  rw [← bs_app]
  have h1 : ¬ n = 0 := by omega
  have h2 : ¬ n / 10 = 0 := by omega
  unfold fmtL
  rw [if_neg h1, if_neg h2, revd_pos (n := n) (by omega), List.reverse_cons, List.map_append]
  simp
theorem num_one {n : Nat} (h : n < 10) : bsR (fmtL false n) = bsR [asc n] := by
  unfold fmtL
  by_cases h0 : n = 0
  · subst h0; rfl
  · rw [if_neg h0, revd_pos (by omega), show n / 10 = 0 by omega, revd_zero, show n % 10 = n by omega]
    rfl
theorem fmt_le (q k : Nat) (hk : 1 ≤ k) (h : (revd q).length ≤ k) : (fmtL false q).length ≤ k + 1 := by
  unfold fmtL
  split
  · simp
  · simp
    omega
end Rt
end Go.Proofs.YtkjbfomokdjbnaaDoor
