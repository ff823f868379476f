/-
  awake answers true.
-/
import Derived.Test.YtjbgdaojhdobkaaFmE
import Derived.Test.YtjbgdaojhdobkaaFmH
import Derived.Test.YtjbgdaojhdobkaaFmPF
import Derived.Test.YtjbgdaojhdobkaaOpn
namespace Go.Proofs.Ytjbgdaojhdobkaa
open Go.RowKit
set_option linter.unusedSimpArgs false
set_option linter.unusedVariables false
namespace Fm
attribute [local go_sem] run_store

def fo0 : Fo := .atom (.name ⟨#[120]⟩) 1 (.num false [3])
theorem free_fo0 : freeN fo0 = [⟨#[120]⟩] := by
  simp [freeN, fo0, walkS, namesT, freeStep]
theorem fnn_fo0 : fnn fo0 = 3 := rfl
theorem own_one {w : World} {B : Nat} {e : TypeId} {v u : Value} (h : w.ownsRow B e 1 v 1 [u]) : ∃ g c, v = .slice (some ⟨g, 0, none⟩) 1 c ∧ w.cell? ⟨g, 0, none⟩ = some u := by
  obtain ⟨g, c, rfl, _, _⟩ := h.form (by omega)
  have := h.cells (g := g) rfl 0 u rfl
  exact ⟨g, c, rfl, by simpa [Addr.add] using this⟩

theorem field_kind (x0 x1 x2 x3 x4 x5 x6 x7 x8 : Value) (w : World) : (Instr.field 29 (.agg #[x0, x1, x2, x3, x4, x5, x6, x7, x8]) 0).run Try.prog w = .ok x0 w := by kernel_rfl
attribute [local go_sem] field_kind

set_option maxRecDepth 100000 in
set_option maxHeartbeats 4000000 in
theorem awake_any (w : World) : Calls Try.prog 15 #[] w fun e w' => e = .returned (.bool true) ∧ Below w.heap.size w w' := by
  obtain ⟨W, hW⟩ : ∃ W, (w.alloc (.cells #[.int .u32 3] 102)).alloc (.cells #[.iface 82 (.agg #[.string ⟨#[120]⟩]), .int .i64 1, .iface 80 (.agg #[.bool false, .slice (some ⟨w.heap.size, 0, none⟩) 1 1])] 91) = W := ⟨_, rfl⟩
  have hy : Box w W (w.heap.size + 1) #[.iface 82 (.agg #[.string ⟨#[120]⟩]), .int .i64 1, .iface 80 (.agg #[.bool false, .slice (some ⟨w.heap.size, 0, none⟩) 1 1])] 91 := by rw [← hW]; exact Box.second w _ _ _
  have s0 : W.cell? ⟨w.heap.size + 1, 0, none⟩ = some (.iface 82 (.agg #[.string ⟨#[120]⟩])) := hy.cell 0
  have s1 : W.cell? ⟨w.heap.size + 1, 1, none⟩ = some (.int .i64 1) := hy.cell 1
  have s2 : W.cell? ⟨w.heap.size + 1, 2, none⟩ = some (.iface 80 (.agg #[.bool false, .slice (some ⟨w.heap.size, 0, none⟩) 1 1])) := hy.cell 2
  have hab : AbsAt W (fun b => b < W.heap.size) (.slice (some ⟨w.heap.size, 0, none⟩) 1 1) [3] := by
    have h := AbsAt.of_row (w := W) (g := w.heap.size) (n := 1) (l := [3]) (by
      rw [← hW, Below.heap_alloc _ _ _ (by simp)]
      exact heap_alloc_new w _) rfl (by simp) (by simp) (fun b => b < W.heap.size) (by rw [← hW]; simp; omega)
    exact h
  have hT : FoAt W (fun b => b < W.heap.size) fo0 (.iface 91 (.agg #[.iface 82 (.agg #[.string ⟨#[120]⟩]), .int .i64 1, .iface 80 (.agg #[.bool false, .slice (some ⟨w.heap.size, 0, none⟩) 1 1])])) :=
    ⟨_, _, rfl, ⟨rfl, by decide⟩, ⟨_, _, _, rfl, hab⟩⟩
  have hF := free_any fo0 _ _ W (fun b h => h) hT (by simp [fo0, fsz, namesT])
  rw [free_fo0] at hF
  have HF := Lib.hid hF
  have HT := Lib.hid hT
  have HY := Lib.hid hy
  have HBW := Lib.hid hy.below
  clear hF hT hy hab
  go_enter Try.func15, Try.ntmps15
  go_wp2_with (first
    | (go_at_call 26; refine HF.out.mono ?_; intro e w1 hp; obtain ⟨v1, rfl, ho, hb⟩ := hp; obtain ⟨g, c, rfl, hc⟩ := own_one ho; have t0 : w1.cell? ⟨w.heap.size + 1, 0, none⟩ = some (.iface 82 (.agg #[.string ⟨#[120]⟩])) := (HY.out.step hb).cell 0; have t1 : w1.cell? ⟨w.heap.size + 1, 1, none⟩ = some (.int .i64 1) := (HY.out.step hb).cell 1; have t2 : w1.cell? ⟨w.heap.size + 1, 2, none⟩ = some (.iface 80 (.agg #[.bool false, .slice (some ⟨w.heap.size, 0, none⟩) 1 1])) := (HY.out.step hb).cell 2; have HB := Lib.hid hb; have HC := Lib.hid hc; clear ho hb hW s0 s1 s2 hc)
    | (go_at_call 30; refine (nodes_any fo0 _ _ w1 (fun b h => Nat.lt_of_lt_of_le h HB.out.size) (HT.out.below (fun b h => h) HB.out) (by decide)).mono ?_; rintro e w2 ⟨rfl, hb2⟩; rw [fnn_fo0]; have u0 : w2.cell? ⟨w.heap.size + 1, 0, none⟩ = some (.iface 82 (.agg #[.string ⟨#[120]⟩])) := (HY.out.step (HB.out.trans (hb2.mono HB.out.size))).cell 0; have u1 : w2.cell? ⟨w.heap.size + 1, 1, none⟩ = some (.int .i64 1) := (HY.out.step (HB.out.trans (hb2.mono HB.out.size))).cell 1; have u2 : w2.cell? ⟨w.heap.size + 1, 2, none⟩ = some (.iface 80 (.agg #[.bool false, .slice (some ⟨w.heap.size, 0, none⟩) 1 1])) := (HY.out.step (HB.out.trans (hb2.mono HB.out.size))).cell 2; have hc2 : w2.cell? ⟨g, 0, none⟩ = some (.string ⟨#[120]⟩) := (hb2.cell (p := ⟨g, 0, none⟩) (cell_lt HC.out)).trans HC.out; have HB2 := Lib.hid hb2; clear hb2 t0 t1 t2)
    | (go_at_call 23; refine (plain_any fo0 _ _ w2 (fun b h => Nat.lt_of_lt_of_le h (HB.out.trans (HB2.out.mono HB.out.size)).size) (HT.out.below (fun b h => h) (HB.out.trans (HB2.out.mono HB.out.size))) (by simp [fo0, SmF, SmT])).mono ?_; intro e w3 hp; obtain ⟨a1, a2, a3, a4, a5, a6, rfl, _, hb3⟩ := hp; (have hk0 : (plainF fo0).h.k = 9 := rfl); rw [hk0]; have HB3 := Lib.hid hb3; clear hb3))
  go_ret
  exact ⟨rfl, HBW.out.trans ((HB.out.trans ((HB2.out.trans (HB3.out.mono HB2.out.size)).mono HB.out.size)).mono HBW.out.size)⟩
end Fm
end Go.Proofs.Ytjbgdaojhdobkaa
