/-
  The reference's Has, Free.
-/
import Derived.Test.YtkjbfomokdjbnaaGreatFmY
import Derived.Test.YtkjbfomokdjbnaaGreatMem
import Derived.Deep.RegionLaw
import Derived.Test.YtkjbfomokdjbnaaGreatFmL
namespace Go.Proofs.YtkjbfomokdjbnaaGreat
open Go.RowKit
set_option linter.unusedSimpArgs false
set_option linter.unusedVariables false
namespace Fm
attribute [local go_sem] run_store

mutual
/-- the names that occur free, as the reference collects them -/
def freeR : Tr → List ByteArray → List ByteArray → List ByteArray
  | .mk h ks, bd, out => if h.k = 2 ∧ h.name ∉ bd ∧ h.name ∉ out then out ++ [h.name] else freeRL ks (if h.k = 15 then bd ++ [h.name] else bd) out
def freeRL : List Tr → List ByteArray → List ByteArray → List ByteArray
  | [], _, out => out
  | k :: ks, bd, out => freeRL ks bd (freeR k bd out)
end
theorem freeRL_append (a b : List Tr) (bd out : List ByteArray) : freeRL (a ++ b) bd out = freeRL b bd (freeRL a bd out) := by
  induction a generalizing out with
  | nil => rfl
  | cons k a ih =>
    show freeRL (k :: (a ++ b)) bd out = _
    conv => lhs; unfold freeRL
    conv => rhs; arg 3; unfold freeRL
    exact ih _
theorem freeRL_take (ks : List Tr) (i : Nat) (k : Tr) (h : ks[i]? = some k) (bd out : List ByteArray) : freeRL (ks.take (i + 1)) bd out = freeR k bd (freeRL (ks.take i) bd out) := by
  obtain ⟨hi, rfl⟩ := List.getElem?_eq_some_iff.1 h
  rw [List.take_succ_eq_append_getElem hi, freeRL_append]; rfl
mutual
theorem freeR_len : ∀ (t : Tr) (bd out : List ByteArray), (freeR t bd out).length ≤ out.length + nn t
  | .mk h ks, bd, out => by
    unfold freeR nn
    split
    · simp
    · have := freeRL_len ks (if h.k = 15 then bd ++ [h.name] else bd) out; omega
theorem freeRL_len : ∀ (ks : List Tr) (bd out : List ByteArray), (freeRL ks bd out).length ≤ out.length + nnL ks
  | [], bd, out => by unfold freeRL nnL; omega
  | k :: ks, bd, out => by
    unfold freeRL nnL
    have := freeRL_len ks bd (freeR k bd out)
    have := freeR_len k bd out
    omega
end

theorem tri_ne {a b : Nat} (h : a < b) : a ≠ b := by omega
/-- a list of names that reads so, nil if it is empty -/
def BdAt (w : World) (S : Nat → Prop) (v : Value) (l : List ByteArray) : Prop := StrsAt w S v l ∧ (l = [] → v = .slice none 0 0)

/-! fr_marker -/

theorem owns_cell {w : World} {b : Nat} {h : b < w.heap.size} : True := trivial
end Fm
end Go.Proofs.YtkjbfomokdjbnaaGreat

/-
  The reference's Parts and Bound.
-/
namespace Go.Proofs.YtkjbfomokdjbnaaGreat
open Go.RowKit
set_option linter.unusedSimpArgs false
set_option linter.unusedVariables false
namespace Fm
attribute [local go_sem] run_store

def partsL (L : List (Tr × Int)) : List (Tr × Int) := L.filter fun p => !termK p.1.h.k
def PartsPost (L : List (Tr × Int)) (S : Nat → Prop) (w : World) (e : Ending) (w' : World) : Prop :=
  ∃ v1 v2 xs, e = .returned (.tuple #[v1, v2]) ∧ w'.ownsRow w.heap.size TT 9 v1 L.length xs ∧ TrsC w' S (L.map (·.1)) xs ∧ w'.ownsRow w.heap.size 3 1 v2 L.length (depC L) ∧ Below w.heap.size w w'
/-- the two rows so far, their blocks from B on -/
def PRel (L : List (Tr × Int)) (S : Nat → Prop) (B : Nat) (v1 v2 : Value) (wr : World) : Prop :=
  ∃ xs, wr.ownsRow B TT 9 v1 L.length xs ∧ TrsC wr S (L.map (·.1)) xs ∧ wr.ownsRow B 3 1 v2 L.length (depC L)
/-- element i of a row of trees, its cells in a later world -/
theorem row_tree {w1 wr : World} {B g n c : Nat} {S : Nat → Prop} {ys : List Value} {ts : List Tr} (ho : w1.ownsRow B TT 9 (.slice (some ⟨g, 0, none⟩) n c) n ys) (ht : TrsC w1 S ts ys) (hn : n = ts.length) (hb : Below w1.heap.size w1 wr) (i : Nat) (hi : i < n) :
    ∃ td A1 n1 c1 A2 n2 c2 k neg nm ex rl tr al, ts[i]? = some td ∧ TreeAt w1 S td [.int .i64 k, .bool neg, .slice A1 n1 c1, .string nm, .int .i64 ex, .int .i64 rl, .bool tr, .bool al, .slice A2 n2 c2] ∧ td.h.k = k ∧ td.h.name = nm ∧
      wr.cell? ⟨g, i * 9, none⟩ = some (.int .i64 k) ∧ wr.cell? ⟨g, i * 9 + 1, none⟩ = some (.bool neg) ∧ wr.cell? ⟨g, i * 9 + 2, none⟩ = some (.slice A1 n1 c1) ∧
      wr.cell? ⟨g, i * 9 + 3, none⟩ = some (.string nm) ∧ wr.cell? ⟨g, i * 9 + 4, none⟩ = some (.int .i64 ex) ∧ wr.cell? ⟨g, i * 9 + 5, none⟩ = some (.int .i64 rl) ∧
      wr.cell? ⟨g, i * 9 + 6, none⟩ = some (.bool tr) ∧ wr.cell? ⟨g, i * 9 + 7, none⟩ = some (.bool al) ∧ wr.cell? ⟨g, i * 9 + 8, none⟩ = some (.slice A2 n2 c2) := by
  obtain ⟨cs, h1, h2⟩ := ht.get i (by omega)
  obtain ⟨va, vk, ys', hcs, _⟩ := h1.cells
  obtain ⟨A1, n1, c1, A2, n2, c2, k, neg, nm, ex, rl, tr, al, rfl⟩ := h1.nine
  simp only [hdC, List.cons.injEq, and_true] at hcs
  have hg : g < w1.heap.size := (ho.lt g rfl).2
  have hc : ∀ j u, [Value.int .i64 k, .bool neg, .slice A1 n1 c1, .string nm, .int .i64 ex, .int .i64 rl, .bool tr, .bool al, .slice A2 n2 c2][j]? = some u → wr.cell? ⟨g, i * 9 + j, none⟩ = some u := fun j u hj => by
    have h3 := ho.cells (g := g) rfl _ _ (h2 j u hj)
    have e : (⟨g, 0, none⟩ : Addr).add (i * 9 + j) = ⟨g, i * 9 + j, none⟩ := by
      unfold Addr.add; split
      · rename_i h5; simp [h5]
      · simp
    rw [e] at h3
    exact (hb.cell (p := ⟨g, i * 9 + j, none⟩) hg).trans h3
  refine ⟨_, A1, n1, c1, A2, n2, c2, k, neg, nm, ex, rl, tr, al, List.getElem?_eq_getElem (by omega), h1, ?_, ?_, hc 0 _ rfl, hc 1 _ rfl, hc 2 _ rfl, hc 3 _ rfl, hc 4 _ rfl, hc 5 _ rfl, hc 6 _ rfl, hc 7 _ rfl, hc 8 _ rfl⟩
  · have := hcs.1; injection this with _ h; exact h.symm
  · have := hcs.2.2.2.1; injection this with h; exact h.symm
theorem row_form {w : World} {B n size : Nat} {e : TypeId} {v : Value} {xs : List Value} (hsz : 0 < size) (h : w.ownsRow B e size v n xs) : ∃ A c, v = .slice A n c := by
  rcases h.2 with ⟨rfl, h0⟩ | ⟨g, cap, cur, rfl, _⟩
  · have : n = 0 := by
      have h1 := h.1; rw [h0] at h1; simp at h1
      rcases h1 with h1 | h1 <;> omega
    subst this; exact ⟨_, _, rfl⟩
  · exact ⟨_, _, rfl⟩
theorem partsL_take {L : List (Tr × Int)} {i : Nat} {p : Tr × Int} (h : L[i]? = some p) : partsL (L.take (i + 1)) = partsL (L.take i) ++ (if termK p.1.h.k then [] else [p]) := by
  obtain ⟨hi, rfl⟩ := List.getElem?_eq_some_iff.1 h
  rw [List.take_succ_eq_append_getElem hi]
  unfold partsL
  rw [List.filter_append]
  cases hk : termK L[i].1.h.k <;> simp [hk]
theorem partsL_len (L : List (Tr × Int)) (i : Nat) : (partsL (L.take i)).length ≤ L.length := by
  unfold partsL
  have := List.length_filter_le (fun p : Tr × Int => !termK p.1.h.k) (L.take i)
  have : (L.take i).length ≤ L.length := by rw [List.length_take]; omega
  omega
/-- the quantifiers among these trees -/
def qNames (L : List (Tr × Int)) : List ByteArray := (L.filter fun p => decide (p.1.h.k = 15)).map fun p => p.1.h.name
theorem qNames_take {L : List (Tr × Int)} {i : Nat} {p : Tr × Int} (h : L[i]? = some p) : qNames (L.take (i + 1)) = qNames (L.take i) ++ (if p.1.h.k = 15 then [p.1.h.name] else []) := by
  obtain ⟨hi, rfl⟩ := List.getElem?_eq_some_iff.1 h
  rw [List.take_succ_eq_append_getElem hi]
  unfold qNames
  rw [List.filter_append, List.map_append]
  by_cases hk : L[i].1.h.k = 15 <;> simp [hk]
theorem qNames_len (L : List (Tr × Int)) (i : Nat) : (qNames (L.take i)).length ≤ L.length := by
  unfold qNames
  have := List.length_filter_le (fun p : Tr × Int => decide (p.1.h.k = 15)) (L.take i)
  have : (L.take i).length ≤ L.length := by rw [List.length_take]; omega
  rw [List.length_map]
  omega
end Fm
end Go.Proofs.YtkjbfomokdjbnaaGreat
