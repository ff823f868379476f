/-
  cylinderref37.plus, Canon: a canonical tree, every negative number replaced.
-/
import Derived.Test.YteneobpacobpdaaGreatDoorFmC
import Derived.Test.YteneobpacobpdaaGreatDoorFmW
import Derived.Test.YteneobpacobpdaaGreatDoorFmT2
import Derived.Test.YteneobpacobpdaaGreatDoorPrG
set_option linter.unusedSimpArgs false
set_option linter.unusedVariables false
namespace Go.Proofs.YteneobpacobpdaaGreatDoor
open Go.RowKit
namespace Pl
open Fm Pr Dc
attribute [local go_sem] run_store
abbrev FxS (S : Nat → Prop) (w : World) (vk : Value) (wr : World) : Nat → Prop := fun b => S b ∨ Fx w vk wr b
def RenRel (S : Nat → Prop) (w wr : World) (i : Nat) (done : List Tr) (vk : Value) : Prop := ∃ xs, wr.ownsRow (w.heap.size + 3) TT 9 vk i xs ∧ TrsC wr (FxS S w vk wr) done xs
theorem RenRel.set {S : Nat → Prop} {w wr : World} {i : Nat} {done : List Tr} {vk : Value} (hS : ∀ b, S b → b < w.heap.size) (h : RenRel S w wr i done vk) {X j : Nat} (hX : w.heap.size ≤ X ∧ X < w.heap.size + 3) (u : Value) : RenRel S w (wr.setCell ⟨X, j, none⟩ u) i done vk := by
 obtain ⟨xs, h1, h2⟩ := h
 have hs : (wr.setCell ⟨X, j, none⟩ u).heap.size = wr.heap.size := by simp
 refine ⟨xs, ownsRow_setCell_below h1 hX.2 u, TrsC.more (fun b hb => ?_) _ _ (h2.setCell u (fun hh => ?_))⟩
 ·rcases hb with hb | hb
  ·exact .inl hb
  ·exact .inr ⟨hb.1, by rw [hs]; exact hb.2.1, hb.2.2⟩
 ·rcases hh with hh | hh
  ·have := hS X hh; omega
  ·have := hh.1; omega
theorem RenRel.step {S : Nat → Prop} {w wr w2 w4 : World} {ob : Obj} {i g cap : Nat} {done : List Tr} {vk : Value} {T : Tr} {cs xs : List Value} (hS : ∀ b, S b → b < w.heap.size) (h1 : wr.ownsRow (w.heap.size + 3) TT 9 vk i xs) (h2 : TrsC wr (FxS S w vk wr) done xs) (hsz : w.heap.size + 3 ≤ wr.heap.size)
  (hb2 : Below wr.heap.size wr w2) (hT : TreeAt w2 (fun b => S b ∨ (wr.heap.size ≤ b ∧ b < w2.heap.size)) T cs) (ho : w4.ownsRow (w.heap.size + 3) TT 9 (.slice (some ⟨g, 0, none⟩) (i + 1) cap) (i + 1) (xs ++ cs)) (hg : (w2.alloc ob).grownBy w4 vk.ownBlock) (hat : vk.ownBlock = some g ∨ g = w2.heap.size + 1) :
  RenRel S w w4 (i + 1) (done ++ [T]) (.slice (some ⟨g, 0, none⟩) (i + 1) cap) := by
 have hb3 : Below wr.heap.size wr (w2.alloc ob) := hb2.alloc hb2.size ob
 have hs3 := hb3.size
 have hs2 := hb2.size
 have hsa : (w2.alloc ob).heap.size = w2.heap.size + 1 := by simp
 have hs4 := hg.size
 have hal : Below w2.heap.size w2 (w2.alloc ob) := (Below.refl _ w2).alloc (Nat.le_refl _) ob
 have hrow : ∀ k, vk.ownBlock = some k → w.heap.size + 3 ≤ k ∧ k < wr.heap.size := fun k hk => h1.lt k hk
 have hgl : w.heap.size + 3 ≤ g := by rcases hat with h | h; exact (hrow g h).1; omega
 have k1 : ∀ p : Addr, FxS S w vk wr p.block → w4.cell? p = wr.cell? p := fun p hp => by
  have hlt : p.block < wr.heap.size := by
   rcases hp with hp | hp
   ·have := hS _ hp; omega
   ·exact hp.2.1
  have hne : some p.block ≠ vk.ownBlock := fun e => by
   rcases hp with hp | hp
   ·have := hS _ hp; have := (hrow _ e.symm).1; omega
   ·exact hp.2.2 e.symm
  exact (World.cell?_of_block (hg.block p.block (by omega) hne)).trans (hb3.cell hlt)
 have m1 : ∀ b, FxS S w vk wr b → FxS S w (.slice (some ⟨g, 0, none⟩) (i + 1) cap) w4 b := fun b hb => by
  rcases hb with hb | hb
  ·exact .inl hb
  ·refine .inr ⟨hb.1, by have := hb.2.1; omega, fun e => ?_⟩
   have e2 : g = b := by simpa [Value.ownBlock] using e
   rcases hat with h | h
   ·exact hb.2.2 (by rw [h, e2])
   ·have := hb.2.1; omega
 have k2 : ∀ p : Addr, (S p.block ∨ (wr.heap.size ≤ p.block ∧ p.block < w2.heap.size)) → w4.cell? p = w2.cell? p := fun p hp => by
  have hlt : p.block < w2.heap.size := by
   rcases hp with hp | hp
   ·have := hS _ hp; omega
   ·exact hp.2
  have hne : some p.block ≠ vk.ownBlock := fun e => by
   have h5 := hrow _ e.symm
   rcases hp with hp | hp
   ·have := hS _ hp; omega
   ·omega
  exact (World.cell?_of_block (hg.block p.block (by omega) hne)).trans (hal.cell hlt)
 have m2 : ∀ b, (S b ∨ (wr.heap.size ≤ b ∧ b < w2.heap.size)) → FxS S w (.slice (some ⟨g, 0, none⟩) (i + 1) cap) w4 b := fun b hb => by
  rcases hb with hb | hb
  ·exact .inl hb
  ·refine .inr ⟨by omega, by omega, fun e => ?_⟩
   have e2 : g = b := by simpa [Value.ownBlock] using e
   rcases hat with h | h
   ·have := hrow _ h; omega
   ·omega
 exact ⟨xs ++ cs, ho, TrsC.append (TrsC.more m1 _ _ (TrsC.keep k1 _ _ h2)) (TrsC.one (TreeAt.more m2 _ _ (TreeAt.keep k2 _ _ hT)))⟩
end Pl
end Go.Proofs.YteneobpacobpdaaGreatDoor
