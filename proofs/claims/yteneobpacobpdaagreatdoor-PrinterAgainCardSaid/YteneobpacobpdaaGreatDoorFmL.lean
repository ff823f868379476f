/-
  The reference's room, kids, isTerm, Is.
-/
import Derived.Test.YteneobpacobpdaaGreatDoorFmI
import Derived.Deep.AppendLies
namespace Go.Proofs.YteneobpacobpdaaGreatDoor
open Go.RowKit
set_option linter.unusedSimpArgs false
set_option linter.unusedVariables false
namespace Fm

theorem ret_int {k : IntKind} {a b : Int} (h : a = b) : Ending.returned (.int k a) = .returned (.int k b) := by rw [h]
theorem ret_bool {a b : Bool} (h : a = b) : Ending.returned (.bool a) = .returned (.bool b) := by rw [h]
abbrev TT : TypeId := 39


theorem drop_at {α : Type} {l : List α} {i : Nat} {x : α} (h : l[i]? = some x) : l.drop i = x :: l.drop (i + 1) := by
  obtain ⟨hi, rfl⟩ := List.getElem?_eq_some_iff.1 h
  exact List.drop_eq_getElem_cons hi
theorem mem_at {α : Type} {l : List α} {i : Nat} {x : α} (h : l[i]? = some x) : x ∈ l := by
  obtain ⟨hi, rfl⟩ := List.getElem?_eq_some_iff.1 h
  exact List.getElem_mem hi

/-! ### kids, isTerm, Is -/
end Fm
end Go.Proofs.YteneobpacobpdaaGreatDoor

/-
  The reference's List and Few.
-/
namespace Go.Proofs.YteneobpacobpdaaGreatDoor
open Go.RowKit
set_option linter.unusedSimpArgs false
set_option linter.unusedVariables false
namespace Fm

theorem SS.one {w : World} {S : Nat → Prop} {size n : Nat} {v : Value} {xs : List Value} (h : SS w S size v n xs) : True := trivial

def depC (L : List (Tr × Int)) : List Value := L.map fun p => .int .i64 p.2
def ListPost (L : List (Tr × Int)) (S : Nat → Prop) (w : World) (e : Ending) (w' : World) : Prop :=
  ∃ g1 c1 g2 c2 xs, e = .returned (.tuple #[.slice (some ⟨g1, 0, none⟩) L.length c1, .slice (some ⟨g2, 0, none⟩) L.length c2]) ∧ w'.ownsRow w.heap.size TT 9 (.slice (some ⟨g1, 0, none⟩) L.length c1) L.length xs ∧
    TrsC w' S (L.map (·.1)) xs ∧ w'.ownsRow w.heap.size 3 1 (.slice (some ⟨g2, 0, none⟩) L.length c2) L.length (depC L) ∧ Below w.heap.size w w'
/-- the relation of the loop: the two rows so far -/
structure ListRel (L : List (Tr × Int)) (S : Nat → Prop) (B : Nat) (v1 v2 : Value) (wr : World) : Prop where
  ex : ∃ g1 c1 g2 c2 xs, v1 = .slice (some ⟨g1, 0, none⟩) L.length c1 ∧ v2 = .slice (some ⟨g2, 0, none⟩) L.length c2 ∧ wr.ownsRow B TT 9 v1 L.length xs ∧ TrsC wr S (L.map (·.1)) xs ∧ wr.ownsRow B 3 1 v2 L.length (depC L)

theorem ListPost.named {L : List (Tr × Int)} {S : Nat → Prop} {w w' : World} {e : Ending} (h : ListPost L S w e w') (n : Nat) (hn : n = L.length) :
    ∃ g1 c1 g2 c2 xs, e = .returned (.tuple #[.slice (some ⟨g1, 0, none⟩) n c1, .slice (some ⟨g2, 0, none⟩) n c2]) ∧ w'.ownsRow w.heap.size TT 9 (.slice (some ⟨g1, 0, none⟩) n c1) n xs ∧
    TrsC w' S (L.map (·.1)) xs ∧ w'.ownsRow w.heap.size 3 1 (.slice (some ⟨g2, 0, none⟩) n c2) n (depC L) ∧ Below w.heap.size w w' := by
  subst hn; exact h
theorem ListRel.named {L : List (Tr × Int)} {S : Nat → Prop} {B : Nat} {v1 v2 : Value} {w : World} (h : ListRel L S B v1 v2 w) (n : Nat) (hn : n = L.length) :
    ∃ g1 c1 g2 c2 xs, v1 = .slice (some ⟨g1, 0, none⟩) n c1 ∧ v2 = .slice (some ⟨g2, 0, none⟩) n c2 ∧ w.ownsRow B TT 9 v1 n xs ∧ TrsC w S (L.map (·.1)) xs ∧ w.ownsRow B 3 1 v2 n (depC L) := by
  subst hn; exact h.ex
/-- what a growing row of the call's own leaves alone -/
theorem grown_row {w w2 w3 : World} {base size n : Nat} {e : TypeId} {v : Value} {xs : List Value} (ho : w2.ownsRow (w.heap.size + 1) e size v n xs) (hs : w.heap.size < w2.heap.size) (hg : w2.grownBy w3 v.ownBlock) :
    Below w.heap.size w2 w3 ∧ w3.heap[w.heap.size]? = w2.heap[w.heap.size]? :=
  ⟨(Below.refl _ w2).grown hg (by omega) (fun k hk => by have := (ho.lt k hk).1; omega), hg.block _ hs (fun e => by have := (ho.lt _ e.symm).1; omega)⟩
theorem Box.grown {w w2 w3 : World} {base size n : Nat} {e : TypeId} {v : Value} {xs : List Value} {cs : Array Value} {T : TypeId} (h : Box w w2 w.heap.size cs T) (ho : w2.ownsRow (w.heap.size + 1) e size v n xs) (hg : w2.grownBy w3 v.ownBlock) : Box w w3 w.heap.size cs T := by
  obtain ⟨h1, h2⟩ := grown_row (base := base) ho h.lt hg
  exact ⟨h.below.trans h1, h2.trans h.cells⟩

/-! ### Few -/
end Fm
end Go.Proofs.YteneobpacobpdaaGreatDoor
