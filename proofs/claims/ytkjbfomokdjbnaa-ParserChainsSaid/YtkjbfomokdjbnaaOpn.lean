/-
  An argument that is a slice, opened row by row: the cells of each element and its own reading.
-/
import Derived.Test.YtkjbfomokdjbnaaMem
import Derived.ChangeArms
import Derived.Deep.Fields
import Derived.ChangeShapes
import Derived.WideShapes
import Derived.OpenShut
namespace Go.Proofs.Ytkjbfomokdjbnaa
open Go.RowKit Go.ChangeShapes Go.WideShapes
set_option linter.unusedSimpArgs false
set_option linter.unusedVariables false

theorem list_of {α : Type} {n : Nat} {P : Nat → α → Prop} (h : ∀ i, i < n → ∃ x, P i x) : ∃ l : List α, l.length = n ∧ ∀ i (hi : i < l.length), P i l[i] := by
  induction n with
  | zero => exact ⟨[], rfl, fun i hi => absurd hi (by simp)⟩
  | succ n ih =>
    obtain ⟨l, hl, hp⟩ := ih (fun i hi => h i (by omega))
    obtain ⟨x, hx⟩ := h n (by omega)
    refine ⟨l ++ [x], by simp [hl], fun i hi => ?_⟩
    by_cases hlt : i < l.length
    · rw [List.getElem_append_left hlt]; exact hp i hlt
    · have : i = n := by simp at hi; omega
      subst this
      rw [List.getElem_append_right (by omega)]
      simp only [hl, Nat.sub_self, List.getElem_cons_zero]
      exact hx

section
variable {H : Type} {enc : TypeId × Value → H} {P : Program} {w : World} {base : Nat} {spare : Nat → Bool} {held : Bool}

theorem cell_lt {a : Addr} {v : Value} (h : w.cell? a = some v) : a.block < w.heap.size := by
  unfold World.cell? at h
  split at h
  · rename_i hb; exact (Array.getElem?_eq_some_iff.1 hb).1
  · cases h

/-- a slice, row by row -/
theorem open_rows {t e : TypeId} {k fuel : Nat} {cs : List Value} {x : DataW H × List MemPlace} (ht : P.underlying t = some (.slice e)) (hc : P.cellsOf e = k) (hk : 0 < k) (h : DataW.trod enc P w base spare held fuel t cs = some x) :
    ∃ A len cap n, cs = [.slice A len cap] ∧ n < fuel ∧ len ≤ cap ∧ cap ≤ maxLen ∧ (0 < len → ∃ b o, A = some ⟨b, o, none⟩ ∧ b < w.heap.size ∧
      ∀ i, i < len → ∃ cs' x', cs'.length = k ∧ (∀ j u, cs'[j]? = some u → w.cell? ⟨b, o + i * k + j, none⟩ = some u) ∧ DataW.trod enc P w base spare held n e cs' = some x') := by
  have hf : 0 < fuel := by cases fuel with | zero => simp [DataW.trod] at h | succ n => omega
  rcases DataW.trod_slice ht h with ⟨h0, _⟩ | ⟨a, len, cap, elems, rest, n, hfu, rfl, rfl, hb, hl, hm, hlen, hel, _, _⟩
  · exact ⟨none, 0, 0, 0, h0, hf, Nat.le_refl _, by unfold maxLen; omega, fun h => absurd h (by omega)⟩
  · refine ⟨some a, len, cap, n, rfl, by omega, hl, hm, fun h0 => ?_⟩
    have row : ∀ i, i < len → ∃ cs' x', cs'.length = k ∧ (∀ j, j < k → w.cell? ((a.add (i * k)).add j) = cs'[j]?) ∧ DataW.trod enc P w base spare held n e cs' = some x' := by
      intro i hi
      have h1 := hel i hi
      rw [hc, List.getElem?_eq_getElem (by omega)] at h1
      obtain ⟨cs', h2, h3⟩ := Option.bind_eq_some_iff.1 h1
      obtain ⟨_, hcl, hat⟩ := World.cells?_some h2
      exact ⟨cs', _, hcl, hat, h3⟩
    obtain ⟨b, o, sp⟩ := a
    obtain ⟨cs0, _, hcl, hat, _⟩ := row 0 h0
    have h00 := hat 0 hk
    rw [add_add, Nat.zero_mul, List.getElem?_eq_getElem (by omega)] at h00
    have hsp : sp = none := by simpa [Addr.add] using World.cell?_spot h00
    subst hsp
    refine ⟨b, o, rfl, by simpa [Addr.add] using cell_lt h00, fun i hi => ?_⟩
    obtain ⟨cs', x', h1, h2, h3⟩ := row i hi
    refine ⟨cs', x', h1, fun j u hj => ?_, h3⟩
    have hj' : j < k := by rw [← h1]; exact (List.getElem?_eq_some_iff.1 hj).1
    have h4 := h2 j hj'
    rw [add_add, hj] at h4
    have e : (⟨b, o, none⟩ : Addr).add (i * k + j) = ⟨b, o + i * k + j, none⟩ := by
      unfold Addr.add; split
      · rename_i h5; simp [h5] <;> omega
      · simp; omega
    rw [← e]; exact h4
end
end Go.Proofs.Ytkjbfomokdjbnaa
