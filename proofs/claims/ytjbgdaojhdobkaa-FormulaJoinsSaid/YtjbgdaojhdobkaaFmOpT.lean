/-
  Opening an argument that is a list of trees.
-/
import Derived.Test.YtjbgdaojhdobkaaFmOpn
namespace Go.Proofs.Ytjbgdaojhdobkaa
open Go.RowKit Go.ChangeShapes Go.WideShapes
set_option linter.unusedSimpArgs false
set_option linter.unusedVariables false
namespace Fm
section
variable {H : Type} {enc : TypeId × Value → H} {w : World} {base : Nat} {spare : Nat → Bool} {held : Bool}
theorem open_trees {fuel : Nat} {cs : List Value} {x : DataW H × List MemPlace} (h : DataW.trod enc Try.prog w base spare held fuel 27 cs = some x) :
    ∃ A n c, cs = [.slice A n c] ∧ ∃ ts xs, n = ts.length ∧ SS w (fun b => b < w.heap.size) 9 (.slice A n c) n xs ∧ TrsC w (fun b => b < w.heap.size) ts xs := by
  obtain ⟨A2, n2, cp2, m2, e7, hm2, hc, hmx, hrow⟩ := open_rows Try.underlying27 (show Try.prog.cellsOf TT = 9 by kernel_rfl) (by decide) h
  refine ⟨A2, n2, cp2, e7, ?_⟩
  by_cases h0 : 0 < n2
  · obtain ⟨b, o, rfl, hb, hr⟩ := hrow h0
    have hP : ∀ i, i < n2 → ∃ p : Tr × List Value, TreeAt w (fun b => b < w.heap.size) p.1 p.2 ∧ ∀ j u, p.2[j]? = some u → w.cell? ⟨b, o + i * 9 + j, none⟩ = some u := by
      intro i hi
      obtain ⟨cs', x', h1, h2, h3⟩ := hr i hi
      obtain ⟨t, ht⟩ := open_tree m2 m2 (Nat.le_refl _) cs' x' h1 h3
      exact ⟨(t, cs'), ht, h2⟩
    obtain ⟨l, hl, hp⟩ := list_of hP
    obtain ⟨f1, f2⟩ := rows_flat (w := w) (b := b) (k := 9) (l.map (·.2)) o (fun i hi => by
      have hi' : i < l.length := by simpa using hi
      simp only [List.getElem_map]
      exact ⟨(hp i hi').1.len, (hp i hi').2⟩)
    exact ⟨l.map (·.1), (l.map (·.2)).flatten, by rw [List.length_map, hl], ⟨some ⟨b, o, none⟩, cp2, rfl, hc, by rw [f1]; simp [hl], fun _ => ⟨b, o, rfl, hb, f2⟩⟩, trsC_of l (fun i hi => (hp i hi).1)⟩
  · have : n2 = 0 := by omega
    subst this
    exact ⟨[], [], rfl, ⟨A2, cp2, rfl, Nat.zero_le _, rfl, fun h => absurd h (by omega)⟩, TrsC.nil⟩
end
end Fm
end Go.Proofs.Ytjbgdaojhdobkaa
