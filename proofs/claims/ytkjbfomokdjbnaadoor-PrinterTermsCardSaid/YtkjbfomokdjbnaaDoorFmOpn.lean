/-
  An argument that is a tree, opened.
-/
import Derived.Test.YtkjbfomokdjbnaaDoorMem
import Derived.Test.YtkjbfomokdjbnaaDoorFmO
namespace Go.Proofs.YtkjbfomokdjbnaaDoor
open Go.RowKit Go.ChangeShapes Go.WideShapes
set_option linter.unusedSimpArgs false
set_option linter.unusedVariables false
namespace Fm

theorem rows_flat {w : World} {b k : Nat} : ∀ (l : List (List Value)) (o : Nat), (∀ i (hi : i < l.length), l[i].length = k ∧ ∀ j u, l[i][j]? = some u → w.cell? ⟨b, o + i * k + j, none⟩ = some u) →
    l.flatten.length = l.length * k ∧ ∀ j u, l.flatten[j]? = some u → w.cell? ⟨b, o + j, none⟩ = some u
  | [], o, h => ⟨by simp, fun j u hj => by simp at hj⟩
  | a :: l, o, h => by
    have h0 := h 0 (by simp)
    simp only [List.getElem_cons_zero] at h0
    have ih := rows_flat l (o + k) (fun i hi => by
      have h1 := h (i + 1) (by simp; omega)
      simp only [List.getElem_cons_succ] at h1
      refine ⟨h1.1, fun j u hj => ?_⟩
      have := h1.2 j u hj
      rw [show o + k + i * k + j = o + (i + 1) * k + j by rw [Nat.succ_mul]; omega]; exact this)
    refine ⟨by rw [List.flatten_cons, List.length_append, ih.1, h0.1, List.length_cons, Nat.succ_mul]; omega, fun j u hj => ?_⟩
    rw [List.flatten_cons] at hj
    by_cases hlt : j < a.length
    · rw [List.getElem?_append_left hlt] at hj
      have := h0.2 j u hj
      simpa using this
    · rw [List.getElem?_append_right (by omega)] at hj
      have := ih.2 _ u hj
      rw [show o + k + (j - a.length) = o + j by rw [h0.1] at hlt ⊢; omega] at this
      exact this
theorem trsC_of {w : World} {S : Nat → Prop} : ∀ (l : List (Tr × List Value)), (∀ i (hi : i < l.length), TreeAt w S l[i].1 l[i].2) → TrsC w S (l.map (·.1)) (l.map (·.2)).flatten
  | [], _ => by simp only [List.map_nil, List.flatten_nil]; exact TrsC.nil
  | a :: l, h => by
    have h0 := h 0 (by simp)
    have ih := trsC_of l (fun i hi => h (i + 1) (by simp; omega))
    simp only [List.map_cons, List.flatten_cons]
    exact TrsC.append (TrsC.one h0) ih

section
variable {H : Type} {enc : TypeId × Value → H} {w : World} {base : Nat} {spare : Nat → Bool} {held : Bool}

theorem open_abs {fuel : Nat} {cs : List Value} {x : DataW H × List MemPlace} (h : DataW.trod enc Tryd.prog w base spare held fuel 23 cs = some x) :
    ∃ A n c l, cs = [.slice A n c] ∧ AbsAt w (fun b => b < w.heap.size) (.slice A n c) l := by
  obtain ⟨A, n, c, m, rfl, _, hc, hm, hrow⟩ := open_rows Tryd.underlying23 (show Tryd.prog.cellsOf 128 = 1 by kernel_rfl) (by decide) h
  refine ⟨A, n, c, ?_⟩
  have hm' : c ≤ 9223372036854775807 := by have := hm; unfold maxLen at this; omega
  by_cases h0 : 0 < n
  · obtain ⟨b, o, rfl, hb, hr⟩ := hrow h0
    have hP : ∀ i, i < n → ∃ z : Nat, z < 4294967296 ∧ w.cell? ⟨b, o + i, none⟩ = some (u32V z) := by
      intro i hi
      obtain ⟨cs', x', h1, h2, h3⟩ := hr i hi
      obtain ⟨z, rfl, _, hz⟩ := DataW.trod_int Tryd.underlying128 h3
      have h4 := h2 0 _ rfl
      have hz2 : 0 ≤ z ∧ z ≤ 4294967295 := by simpa [Lit.wf, IntKind.min, IntKind.max, IntKind.bits, IntKind.signed] using hz
      refine ⟨z.toNat, by omega, ?_⟩
      rw [Nat.mul_one, Nat.add_zero] at h4
      unfold u32V
      rw [h4, Int.toNat_of_nonneg hz2.1]
    obtain ⟨l, hl, hp⟩ := list_of hP
    refine ⟨l, rfl, ⟨some ⟨b, o, none⟩, c, by rw [hl], by omega, by simp, fun _ => ⟨b, o, rfl, hb, fun j u hj => ?_⟩⟩, ?_, by omega⟩
    · rw [List.getElem?_map] at hj
      obtain ⟨z, hz, rfl⟩ := Option.map_eq_some_iff.1 hj
      obtain ⟨hj', rfl⟩ := List.getElem?_eq_some_iff.1 hz
      exact (hp j hj').2
    · intro z hz
      obtain ⟨i, hi, rfl⟩ := List.getElem_of_mem hz
      exact (hp i hi).1
  · have : n = 0 := by omega
    subst this
    exact ⟨[], rfl, ⟨A, c, rfl, by simp, by simp, fun h => absurd h (by simp)⟩, (fun x hx => by cases hx), by simp⟩

set_option maxRecDepth 100000 in
theorem open_int {fuel : Nat} {cs : List Value} {x : DataW H × List MemPlace} (hl : cs.length = 2) (h : DataW.trod enc Tryd.prog w base spare held fuel 25 cs = some x) :
    ∃ neg A n c l, cs = [.bool neg, .slice A n c] ∧ AbsAt w (fun b => b < w.heap.size) (.slice A n c) l := by
  obtain ⟨xs, m, _, _, hlen, hxl, hf⟩ := DataW.trod_struct Tryd.underlying25 h
  match cs, hl with
  | [c0, c1], _ =>
    have g0 : DataW.trod enc Tryd.prog w base spare held m 4 (([c0, c1].drop 0).take (Tryd.prog.cellsOf 4)) = xs[0]? := hf 0 _ rfl
    have g1 : DataW.trod enc Tryd.prog w base spare held m 23 (([c0, c1].drop 1).take (Tryd.prog.cellsOf 23)) = xs[1]? := hf 1 _ rfl
    rw [show Tryd.prog.cellsOf 4 = 1 by kernel_rfl] at g0
    rw [show Tryd.prog.cellsOf 23 = 1 by kernel_rfl] at g1
    have hxl' : xs.length = 2 := hxl
    rw [List.getElem?_eq_getElem (by omega)] at g0 g1
    obtain ⟨neg, e0, _⟩ := DataW.trod_bool Tryd.underlying4 g0
    obtain ⟨A, n, c, l, e1, ha⟩ := open_abs g1
    simp only [List.drop_zero, List.drop_succ_cons, List.take_succ_cons, List.take_zero, List.cons.injEq, and_true] at e0 e1
    subst e0; subst e1
    exact ⟨neg, A, n, c, l, rfl, ha⟩

end
end Fm
end Go.Proofs.YtkjbfomokdjbnaaDoor

/-
  An argument that is a tree, opened: its exponents and limbs lie in the range of their types.
-/
namespace Go.Proofs.YtkjbfomokdjbnaaDoor
open Go.RowKit Go.ChangeShapes Go.WideShapes
set_option linter.unusedSimpArgs false
set_option linter.unusedVariables false
namespace Fm
def WfH (h : Hd) : Prop := (Lit.int .i64 h.exp).wf = true ∧ ∀ x ∈ h.abs, x < 4294967296
mutual
def WfT : Tr → Prop
  | .mk h ks => WfH h ∧ WfL ks
def WfL : List Tr → Prop
  | [] => True
  | k :: ks => WfT k ∧ WfL ks
end
theorem WfT.of {h : Hd} {ks : List Tr} (hh : WfH h) (hk : WfL ks) : WfT (.mk h ks) := by unfold WfT; exact ⟨hh, hk⟩
theorem WfL.nil : WfL [] := by unfold WfL; trivial
theorem wfL_of : ∀ (l : List (Tr × List Value)), (∀ i (hi : i < l.length), WfT l[i].1) → WfL (l.map (·.1))
  | [], _ => WfL.nil
  | a :: l, h => by
    have h0 := h 0 (by simp)
    have ih := wfL_of l (fun i hi => h (i + 1) (by simp; omega))
    simp only [List.map_cons]
    unfold WfL
    exact ⟨h0, ih⟩
section
variable {H : Type} {enc : TypeId × Value → H} {w : World} {base : Nat} {spare : Nat → Bool} {held : Bool}
set_option maxRecDepth 100000 in
theorem open_treeW : ∀ (N fuel : Nat), fuel ≤ N → ∀ (cs : List Value) (x : DataW H × List MemPlace), cs.length = 9 → DataW.trod enc Tryd.prog w base spare held fuel TT cs = some x → ∃ t, TreeAt w (fun b => b < w.heap.size) t cs ∧ WfT t := by
  intro N
  induction N with
  | zero =>
      intro fuel hf cs x hl h; have : fuel = 0 := by omega
      subst this; simp [DataW.trod] at h
  | succ N ih =>
    intro fuel hfu cs x hl h
    obtain ⟨xs, m, hm, _, hlen, hxl, hf⟩ := DataW.trod_struct Tryd.underlying29 h
    match cs, hl with
    | [c0, c1, c2, c3, c4, c5, c6, c7, c8], _ =>
      have g0 : DataW.trod enc Tryd.prog w base spare held m 3 (([c0, c1, c2, c3, c4, c5, c6, c7, c8].drop 0).take (Tryd.prog.cellsOf 3)) = xs[0]? := hf 0 _ rfl
      have g1 : DataW.trod enc Tryd.prog w base spare held m 25 (([c0, c1, c2, c3, c4, c5, c6, c7, c8].drop 1).take (Tryd.prog.cellsOf 25)) = xs[1]? := hf 1 _ rfl
      have g2 : DataW.trod enc Tryd.prog w base spare held m 9 (([c0, c1, c2, c3, c4, c5, c6, c7, c8].drop 3).take (Tryd.prog.cellsOf 9)) = xs[2]? := hf 2 _ rfl
      have g3 : DataW.trod enc Tryd.prog w base spare held m 3 (([c0, c1, c2, c3, c4, c5, c6, c7, c8].drop 4).take (Tryd.prog.cellsOf 3)) = xs[3]? := hf 3 _ rfl
      have g4 : DataW.trod enc Tryd.prog w base spare held m 26 (([c0, c1, c2, c3, c4, c5, c6, c7, c8].drop 5).take (Tryd.prog.cellsOf 26)) = xs[4]? := hf 4 _ rfl
      have g5 : DataW.trod enc Tryd.prog w base spare held m 4 (([c0, c1, c2, c3, c4, c5, c6, c7, c8].drop 6).take (Tryd.prog.cellsOf 4)) = xs[5]? := hf 5 _ rfl
      have g6 : DataW.trod enc Tryd.prog w base spare held m 4 (([c0, c1, c2, c3, c4, c5, c6, c7, c8].drop 7).take (Tryd.prog.cellsOf 4)) = xs[6]? := hf 6 _ rfl
      have g7 : DataW.trod enc Tryd.prog w base spare held m 27 (([c0, c1, c2, c3, c4, c5, c6, c7, c8].drop 8).take (Tryd.prog.cellsOf 27)) = xs[7]? := hf 7 _ rfl
      rw [show Tryd.prog.cellsOf 3 = 1 by kernel_rfl] at g0 g3
      rw [show Tryd.prog.cellsOf 25 = 2 by kernel_rfl] at g1
      rw [show Tryd.prog.cellsOf 9 = 1 by kernel_rfl] at g2
      rw [show Tryd.prog.cellsOf 26 = 1 by kernel_rfl] at g4
      rw [show Tryd.prog.cellsOf 4 = 1 by kernel_rfl] at g5 g6
      rw [show Tryd.prog.cellsOf 27 = 1 by kernel_rfl] at g7
      have hxl' : xs.length = 8 := hxl
      rw [List.getElem?_eq_getElem (by omega)] at g0 g1 g2 g3 g4 g5 g6 g7
      obtain ⟨k, e0, _, _⟩ := DataW.trod_int Tryd.underlying3 g0
      obtain ⟨neg, A1, n1, cp1, ab, e1, hab⟩ := open_int rfl g1
      obtain ⟨nm, e2, _, hnm⟩ := DataW.trod_string Tryd.underlying9 g2
      obtain ⟨ex, e3, _, hex⟩ := DataW.trod_int Tryd.underlying3 g3
      obtain ⟨rl, e4, _, _⟩ := DataW.trod_int Tryd.underlying26 g4
      obtain ⟨tr, e5, _⟩ := DataW.trod_bool Tryd.underlying4 g5
      obtain ⟨al, e6, _⟩ := DataW.trod_bool Tryd.underlying4 g6
      obtain ⟨A2, n2, cp2, m2, e7, hm2, hc, hmx, hrow⟩ := open_rows Tryd.underlying27 (show Tryd.prog.cellsOf TT = 9 by kernel_rfl) (by decide) g7
      simp only [List.drop_zero, List.drop_succ_cons, List.take_succ_cons, List.take_zero, List.cons.injEq, and_true] at e0 e1 e2 e3 e4 e5 e6 e7
      obtain ⟨e1, e1'⟩ := e1
      subst e0; subst e1; subst e1'; subst e2; subst e3; subst e4; subst e5; subst e6; subst e7
      have hmx' : cp2 ≤ 9223372036854775807 := by have := hmx; unfold maxLen at this; omega
      have hnm' : nm.size ≤ 9223372036854775807 := by have := hnm; unfold maxLen at this; omega
      by_cases h0 : 0 < n2
      · obtain ⟨b, o, rfl, hb, hr⟩ := hrow h0
        have hP : ∀ i, i < n2 → ∃ p : Tr × List Value, (TreeAt w (fun b => b < w.heap.size) p.1 p.2 ∧ WfT p.1) ∧ ∀ j u, p.2[j]? = some u → w.cell? ⟨b, o + i * 9 + j, none⟩ = some u := by
          intro i hi
          obtain ⟨cs', x', h1, h2, h3⟩ := hr i hi
          obtain ⟨t, ht⟩ := ih m2 (by omega) cs' x' h1 h3
          exact ⟨(t, cs'), ht, h2⟩
        obtain ⟨l, hl, hp⟩ := list_of hP
        obtain ⟨f1, f2⟩ := rows_flat (w := w) (b := b) (k := 9) (l.map (·.2)) o (fun i hi => by
          have hi' : i < l.length := by simpa using hi
          simp only [List.getElem_map]
          exact ⟨(hp i hi').1.1.len, (hp i hi').2⟩)
        refine ⟨.mk ⟨k, neg, ab, nm, ex, rl, tr, al⟩ (l.map (·.1)), TreeAt.of (xs := (l.map (·.2)).flatten) hab hnm' (by rw [List.length_map]; omega) ⟨some ⟨b, o, none⟩, cp2, by rw [List.length_map, hl], by rw [List.length_map]; omega, by rw [f1]; simp, fun _ => ⟨b, o, rfl, hb, f2⟩⟩ (trsC_of l (fun i hi => (hp i hi).1.1)), WfT.of ⟨hex, hab.2.1⟩ (wfL_of l (fun i hi => (hp i hi).1.2))⟩
      · have : n2 = 0 := by omega
        subst this
        exact ⟨.mk ⟨k, neg, ab, nm, ex, rl, tr, al⟩ [], TreeAt.of (xs := []) hab hnm' (by simp) ⟨A2, cp2, rfl, by simp, by simp, fun h => absurd h (by simp)⟩ TrsC.nil, WfT.of ⟨hex, hab.2.1⟩ WfL.nil⟩
end
end Fm
end Go.Proofs.YtkjbfomokdjbnaaDoor
