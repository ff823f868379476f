/-
  The reference's Canon: the canonical tree.
-/
import Derived.Test.YteneobpacobpdaaGreatDoorFmP
import Derived.Test.YteneobpacobpdaaGreatDoorFmI
import Derived.Test.YteneobpacobpdaaGreatDoorFmL
import Derived.Deep.RegionLaw
import Derived.Deep.CutRange
import Derived.Deep.CutBlock
set_option linter.unusedSimpArgs false
set_option linter.unusedVariables false
namespace Go.Proofs.YteneobpacobpdaaGreatDoor
open Go.RowKit
namespace Fm
def canonH (h : Hd) : Hd :=
 if h.k = 1 then { hd0 1 with neg := normB h.neg h.abs, abs := trimN h.abs }
 else if h.k = 2 then { hd0 2 with name := h.name }
 else if h.k = 7 then { hd0 7 with exp := h.exp }
 else if h.k = 8 then { hd0 8 with truth := h.truth }
 else if h.k = 9 then { hd0 9 with rel := h.rel }
 else if h.k = 15 then { hd0 15 with all := h.all, name := h.name }
 else hd0 h.k
mutual
def canonT : Tr → Tr
 | .mk h ks => .mk (canonH h) (canonL ks)
def canonL : List Tr → List Tr
 | [] => []
 | k :: ks => canonT k :: canonL ks
end
theorem canonT_mk (h : Hd) (ks : List Tr) : canonT (.mk h ks) = .mk (canonH h) (canonL ks) := by conv => lhs; unfold canonT
abbrev Fx (w : World) (vk : Value) (wr : World) : Nat → Prop := fun b => w.heap.size + 3 ≤ b ∧ b < wr.heap.size ∧ vk.ownBlock ≠ some b
def CanRel (w wr : World) (i : Nat) (done : List Tr) (va : Value) (ab : List Nat) (vk : Value) : Prop :=
 (∃ xs, wr.ownsRow (w.heap.size + 3) TT 9 vk i xs ∧ TrsC wr (Fx w vk wr) done xs) ∧ AbsAt wr (Fx w vk wr) va ab
theorem CanRel.below {w wr w2 : World} {i : Nat} {done : List Tr} {va vk : Value} {ab : List Nat} (h : CanRel w wr i done va ab vk) (hb : Below wr.heap.size wr w2) : CanRel w w2 i done va ab vk := by
 obtain ⟨⟨xs, h1, h2⟩, h3⟩ := h
 have hs := hb.size
 refine ⟨⟨xs, own_below h1 hb, TrsC.more (fun b hb => ⟨hb.1, by omega, hb.2.2⟩) _ _ (h2.below (fun b hb => hb.2.1) hb)⟩, (h3.below (fun b hb => hb.2.1) hb).more (fun b hb => ⟨hb.1, by omega, hb.2.2⟩)⟩
theorem CanRel.set {w wr : World} {i : Nat} {done : List Tr} {va vk : Value} {ab : List Nat} (h : CanRel w wr i done va ab vk) {X j : Nat} (hX : X < w.heap.size + 3) (u : Value) : CanRel w (wr.setCell ⟨X, j, none⟩ u) i done va ab vk := by
 obtain ⟨⟨xs, h1, h2⟩, h3⟩ := h
 have hs : (wr.setCell ⟨X, j, none⟩ u).heap.size = wr.heap.size := by simp
 refine ⟨⟨xs, ownsRow_setCell_below h1 hX u, TrsC.more (fun b hb => ⟨hb.1, by rw [hs]; exact hb.2.1, hb.2.2⟩) _ _ (h2.setCell u (fun hh => by have := hh.1; omega))⟩, (h3.setCell u (fun hh => by have := hh.1; omega)).more (fun b hb => ⟨hb.1, by rw [hs]; exact hb.2.1, hb.2.2⟩)⟩
theorem CanRel.push {w wr w4 : World} {i g cap : Nat} {done : List Tr} {va vk : Value} {ab : List Nat} {T : Tr} {cs xs : List Value} (h1 : wr.ownsRow (w.heap.size + 3) TT 9 vk i xs) (h2 : TrsC wr (Fx w vk wr) done xs) (h3 : AbsAt wr (Fx w vk wr) va ab)
  (hT : TreeAt wr (Fx w vk wr) T cs) (ho : w4.ownsRow (w.heap.size + 3) TT 9 (.slice (some ⟨g, 0, none⟩) (i + 1) cap) (i + 1) (xs ++ cs)) (hg : wr.grownBy w4 vk.ownBlock) (hat : vk.ownBlock = some g ∨ g = wr.heap.size) :
  CanRel w w4 (i + 1) (done ++ [T]) va ab (.slice (some ⟨g, 0, none⟩) (i + 1) cap) := by
 have hk : ∀ p : Addr, Fx w vk wr p.block → w4.cell? p = wr.cell? p := fun p hp => World.cell?_of_block (hg.block p.block hp.2.1 (fun e => hp.2.2 e.symm))
 have hm : ∀ b, Fx w vk wr b → Fx w (.slice (some ⟨g, 0, none⟩) (i + 1) cap) w4 b := fun b hb => ⟨hb.1, Nat.lt_of_lt_of_le hb.2.1 hg.size, fun e => by
  have e2 : g = b := by simpa [Value.ownBlock] using e
  rcases hat with h | h
  ·exact hb.2.2 (by rw [h, e2])
  ·have := hb.2.1; omega⟩
 exact ⟨⟨xs ++ cs, ho, TrsC.append (TrsC.more hm _ _ (TrsC.keep hk _ _ h2)) (TrsC.one (TreeAt.more hm _ _ (TreeAt.keep hk _ _ hT)))⟩, (h3.keep hk).more hm⟩
theorem CanRel.step {w wr w2 w4 : World} {ob : Obj} {i g cap : Nat} {done : List Tr} {va vk : Value} {ab : List Nat} {T : Tr} {cs xs : List Value} (h1 : wr.ownsRow (w.heap.size + 3) TT 9 vk i xs) (h2 : TrsC wr (Fx w vk wr) done xs) (h3 : AbsAt wr (Fx w vk wr) va ab) (hsz : w.heap.size + 3 ≤ wr.heap.size)
  (hb2 : Below wr.heap.size wr w2) (hT : TreeAt w2 (fun b => wr.heap.size ≤ b ∧ b < w2.heap.size) T cs) (ho : w4.ownsRow (w.heap.size + 3) TT 9 (.slice (some ⟨g, 0, none⟩) (i + 1) cap) (i + 1) (xs ++ cs)) (hg : (w2.alloc ob).grownBy w4 vk.ownBlock) (hat : vk.ownBlock = some g ∨ g = w2.heap.size + 1) :
  CanRel w w4 (i + 1) (done ++ [T]) va ab (.slice (some ⟨g, 0, none⟩) (i + 1) cap) := by
 have hb3 : Below wr.heap.size wr (w2.alloc ob) := hb2.alloc hb2.size ob
 have hs := hb3.size
 have hal : Below w2.heap.size w2 (w2.alloc ob) := (Below.refl _ w2).alloc (Nat.le_refl _) ob
 refine CanRel.push (wr := w2.alloc ob) (own_below h1 hb3) (TrsC.more (fun b hb => ⟨hb.1, by omega, hb.2.2⟩) _ _ (h2.below (fun b hb => hb.2.1) hb3)) ((h3.below (fun b hb => hb.2.1) hb3).more (fun b hb => ⟨hb.1, by omega, hb.2.2⟩)) (TreeAt.more (fun b hb => ⟨by omega, by have := hb.2; simp; omega, fun e => ?_⟩) _ _ (hT.below (fun b hb => hb.2) hal)) ho hg (by rcases hat with h | h; exact .inl h; exact .inr (by simp; exact h))
 have := own_row_lt h1 _ e
 have := hb.1
 omega
end Fm
end Go.Proofs.YteneobpacobpdaaGreatDoor
