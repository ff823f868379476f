/-
  The reference's room, kids, isTerm, Is.
-/
import Derived.Test.YtkjbfomokdjbnaaFmJ
namespace Go.Proofs.Ytkjbfomokdjbnaa
open Go.RowKit
set_option linter.unusedSimpArgs false
set_option linter.unusedVariables false
namespace Fm

theorem ret_int {k : IntKind} {a b : Int} (h : a = b) : Ending.returned (.int k a) = .returned (.int k b) := by rw [h]
theorem ret_bool {a b : Bool} (h : a = b) : Ending.returned (.bool a) = .returned (.bool b) := by rw [h]
abbrev TT : TypeId := 47

mutual
def roomF : Tr → Int → Int → Int
  | .mk _ ks, n, d => if d = 0 then -1 else roomL ks (n - 1) (d - 1)
def roomL : List Tr → Int → Int → Int
  | [], n, _ => n
  | k :: ks, n, d => if n < 0 then -1 else roomL ks (roomF k n d) d
end
mutual
theorem roomF_le : ∀ (t : Tr) (n d : Int), 0 ≤ n → -1 ≤ roomF t n d ∧ roomF t n d ≤ n
  | .mk _ ks, n, d, h => by
    unfold roomF
    split
    · omega
    · have := roomL_le ks (n - 1) (d - 1) (by omega)
      omega
theorem roomL_le : ∀ (l : List Tr) (n d : Int), -1 ≤ n → -1 ≤ roomL l n d ∧ roomL l n d ≤ n
  | [], n, d, h => by unfold roomL; omega
  | k :: ks, n, d, h => by
    unfold roomL
    split
    · omega
    · have h1 := roomF_le k n d (by omega)
      have := roomL_le ks (roomF k n d) d h1.1
      omega
end

theorem roomL_neg (l : List Tr) (n d : Int) (hl : l ≠ []) (h : n < 0) : roomL l n d = -1 := by
  cases l with
  | nil => exact absurd rfl hl
  | cons k ks => unfold roomL; rw [if_pos h]
theorem roomL_cons (k : Tr) (ks : List Tr) (n d : Int) (h : 0 ≤ n) : roomL (k :: ks) n d = roomL ks (roomF k n d) d := by
  conv => lhs; unfold roomL
  rw [if_neg (by omega)]
theorem drop_at {α : Type} {l : List α} {i : Nat} {x : α} (h : l[i]? = some x) : l.drop i = x :: l.drop (i + 1) := by
  obtain ⟨hi, rfl⟩ := List.getElem?_eq_some_iff.1 h
  exact List.drop_eq_getElem_cons hi
theorem mem_at {α : Type} {l : List α} {i : Nat} {x : α} (h : l[i]? = some x) : x ∈ l := by
  obtain ⟨hi, rfl⟩ := List.getElem?_eq_some_iff.1 h
  exact List.getElem_mem hi

/-! ### kids, isTerm, Is -/
def kidsN (k : Int) : Int × Bool :=
  if k = 1 ∨ k = 2 ∨ k = 8 then (0, true) else if k = 6 ∨ k = 7 then (1, true) else if k = 3 ∨ k = 4 ∨ k = 5 ∨ k = 9 then (2, true)
  else if k = 10 ∨ k = 15 then (1, false) else if k = 11 ∨ k = 12 ∨ k = 13 ∨ k = 14 then (2, false) else (-1, false)
end Fm
end Go.Proofs.Ytkjbfomokdjbnaa
