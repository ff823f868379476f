/-
  formula.Nodes at an atom.
-/
import Derived.Test.YtjbgdaojhdobkaaFmG
namespace Go.Proofs.Ytjbgdaojhdobkaa
open Go.RowKit Go.Sort
set_option linter.unusedSimpArgs false
set_option linter.unusedVariables false
namespace Fm
attribute [local go_sem] run_store taAtom_yes taAtom_no taAtom_nil

set_option maxRecDepth 100000 in
set_option maxHeartbeats 4000000 in
theorem nodes_atom (l : Tm) (rel : Int) (r : Tm) : nodesOk (.atom l rel r) := by
  intro v S w hS hT hb
  obtain ⟨vl, vr, rfl, hl, hr⟩ := hT
  show Calls Try.prog 30 #[.iface 91 (.agg #[vl, .int .i64 rel, vr])] w _
  have hc0 := hl.one
  have hc2 := hr.one
  obtain ⟨W, hW⟩ : ∃ W, w.alloc (.cells #[vl, .int .i64 rel, vr] 91) = W := ⟨_, rfl⟩
  have hx : Box w W w.heap.size #[vl, .int .i64 rel, vr] 91 := by rw [← hW]; exact Box.new w _ _
  have s0 : W.cell? ⟨w.heap.size, 0, none⟩ = some vl := hx.cell 0
  have s2 : W.cell? ⟨w.heap.size, 2, none⟩ = some vr := hx.cell 2
  obtain ⟨p, hp⟩ : ∃ p, p = tn l := ⟨_, rfl⟩
  obtain ⟨q, hq⟩ : ∃ q, q = tn r := ⟨_, rfl⟩
  have hpq : p + q + 1 ≤ 1000000 := by unfold fnn at hb; omega
  have hL : ∀ d os, _ := fun d os => termNodes_any l vl S (grow (redrawn W d) os) (fun b hb => Nat.lt_of_lt_of_le (hS b hb) (Nat.le_trans hx.below.size (below_regrown W d os).size)) ((hl.below hS hx.below).below (fun b hb => Nat.lt_of_lt_of_le (hS b hb) hx.below.size) (below_regrown W d os)) (by omega)
  have hR : ∀ d os, _ := fun d os => termNodes_any r vr S (grow (redrawn W d) os) (fun b hb => Nat.lt_of_lt_of_le (hS b hb) (Nat.le_trans hx.below.size (below_regrown W d os).size)) ((hr.below hS hx.below).below (fun b hb => Nat.lt_of_lt_of_le (hS b hb) hx.below.size) (below_regrown W d os)) (by omega)
  rw [← hp] at hL
  rw [← hq] at hR
  have HL := Lib.hid hL
  have HR := Lib.hid hR
  have HX := Lib.hid hx
  have hfn : fnn (.atom l rel r) = p + q + 1 := by unfold fnn; rw [hp, hq]
  rw [hfn]
  have r0 := fun d os => cell_regrown s0 d os
  have r2 := fun d os => cell_regrown s2 d os
  have hw1 : IntKind.i64.wrap ((p : Int) + q) = p + q := IntWalk.i64_in _ (by omega)
  have hw2 : IntKind.i64.wrap (1 + ((p : Int) + q)) = 1 + (p + q) := IntWalk.i64_in _ (by omega)
  clear hL hR hx hl hr hS hb hp hq hfn
  go_enter Try.func30, Try.ntmps30
  go_wp2_with fail
  refine wp_region_quiet_below (by kernel_rfl) (by kernel_rfl) ?_
  (repeat (quiet_step (first | (with_reducible exact Calls.regrown_of (HL.out _ _)) | (with_reducible exact Calls.regrown_of (HR.out _ _)))))
  refine wpQuiet_nil ?_
  rintro _ ⟨⟨d, os⟩, rfl⟩
  have hb2 := below_regrown W d os
  go_wp2_with (first
    | (go_at_call 67; refine (parts_Atom vl vr rel _).mono ?_; intro e w3 hp; obtain ⟨A, c, rfl, _, hb3⟩ := hp))
  refine wp_loop_rounds 1 ?_
  rw [rounds_succ]
  go_wp2
  go_ret
  exact ⟨ret_int (by omega), (HX.out.below.trans (hb2.mono HX.out.below.size)).trans (hb3.mono (Nat.le_trans HX.out.below.size hb2.size))⟩
theorem nodes_any : ∀ t, nodesOk t := by
  refine Fo.ind fun f ih => ?_
  by_cases ha : ∃ l e r, f = .atom l e r
  · obtain ⟨l, e, r, rfl⟩ := ha; exact nodes_atom l e r
  · exact nodes_other f (fun l e r h => ha ⟨l, e, r, h⟩) ih
end Fm
end Go.Proofs.Ytjbgdaojhdobkaa
