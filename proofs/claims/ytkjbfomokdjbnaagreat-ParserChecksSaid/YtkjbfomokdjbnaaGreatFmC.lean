/-
  The reference's Canon: the canonical tree.
-/
import Derived.Test.YtkjbfomokdjbnaaGreatFmP
import Derived.Test.YtkjbfomokdjbnaaGreatFmI
import Derived.Test.YtkjbfomokdjbnaaGreatFmL
import Derived.Deep.RegionLaw
import Derived.Deep.CutRange
import Derived.Deep.CutBlock
namespace Go.Proofs.YtkjbfomokdjbnaaGreat
open Go.RowKit
set_option linter.unusedSimpArgs false
set_option linter.unusedVariables false
namespace Fm

def canonH (h : Hd) : Hd :=
  if h.k = 1 then { hd0 1 with neg := normB h.neg h.abs, abs := trimN h.abs }
  else if h.k = 2 then { hd0 2 with name := h.name }
  else if h.k = 7 then { hd0 7 with exp := h.exp }
  else if h.k = 8 then { hd0 8 with truth := h.truth }
  else if h.k = 9 then { hd0 9 with rel := h.rel }
  else if h.k = 15 then { hd0 15 with all := h.all, name := h.name }
  else hd0 h.k
mutual
def canonT : Tr → Tr
  | .mk h ks => .mk (canonH h) (canonL ks)
def canonL : List Tr → List Tr
  | [] => []
  | k :: ks => canonT k :: canonL ks
end
theorem canonT_mk (h : Hd) (ks : List Tr) : canonT (.mk h ks) = .mk (canonH h) (canonL ks) := by conv => lhs; unfold canonT
theorem canonL_len : ∀ ks, (canonL ks).length = ks.length
  | [] => by unfold canonL; rfl
  | k :: ks => by unfold canonL; rw [List.length_cons, List.length_cons, canonL_len ks]
theorem canonL_take : ∀ (ks : List Tr) (i : Nat) (kd : Tr), ks[i]? = some kd → canonL (ks.take (i + 1)) = canonL (ks.take i) ++ [canonT kd]
  | [], i, kd, h => by simp at h
  | k :: ks, 0, kd, h => by
    simp at h; subst h; rw [List.take_succ_cons]; simp [canonL]
  | k :: ks, i + 1, kd, h => by
    rw [List.take_succ_cons, List.take_succ_cons]
    conv => lhs; unfold canonL
    conv => rhs; arg 1; unfold canonL
    rw [canonL_take ks i kd (by simpa using h)]; rfl
theorem nn_at {ks : List Tr} {i : Nat} {kd : Tr} (h : ks[i]? = some kd) : nn kd ≤ nnL ks := by
  have h1 := nnL_take_succ ks i kd h
  have h2 := nnL_take ks (i + 1)
  omega
theorem len_nnL : ∀ ks : List Tr, ks.length ≤ nnL ks
  | [] => by unfold nnL; simp
  | k :: ks => by unfold nnL; have := len_nnL ks; have := nn_pos k; simp only [List.length_cons]; omega

/-- the blocks a result's inner parts lie in: made since, and not the row that grows -/
abbrev Fx (w : World) (vk : Value) (wr : World) : Nat → Prop := fun b => w.heap.size + 3 ≤ b ∧ b < wr.heap.size ∧ vk.ownBlock ≠ some b
def CanRel (w wr : World) (i : Nat) (done : List Tr) (va : Value) (ab : List Nat) (vk : Value) : Prop :=
  (∃ xs, wr.ownsRow (w.heap.size + 3) TT 9 vk i xs ∧ TrsC wr (Fx w vk wr) done xs) ∧ AbsAt wr (Fx w vk wr) va ab

theorem CanRel.below {w wr w2 : World} {i : Nat} {done : List Tr} {va vk : Value} {ab : List Nat} (h : CanRel w wr i done va ab vk) (hb : Below wr.heap.size wr w2) : CanRel w w2 i done va ab vk := by
  obtain ⟨⟨xs, h1, h2⟩, h3⟩ := h
  have hs := hb.size
  refine ⟨⟨xs, own_below h1 hb, TrsC.more (fun b hb => ⟨hb.1, by omega, hb.2.2⟩) _ _ (h2.below (fun b hb => hb.2.1) hb)⟩, (h3.below (fun b hb => hb.2.1) hb).more (fun b hb => ⟨hb.1, by omega, hb.2.2⟩)⟩
theorem CanRel.set {w wr : World} {i : Nat} {done : List Tr} {va vk : Value} {ab : List Nat} (h : CanRel w wr i done va ab vk) {X j : Nat} (hX : X < w.heap.size + 3) (u : Value) : CanRel w (wr.setCell ⟨X, j, none⟩ u) i done va ab vk := by
  obtain ⟨⟨xs, h1, h2⟩, h3⟩ := h
  have hs : (wr.setCell ⟨X, j, none⟩ u).heap.size = wr.heap.size := by simp
  refine ⟨⟨xs, ownsRow_setCell_below h1 hX u, TrsC.more (fun b hb => ⟨hb.1, by rw [hs]; exact hb.2.1, hb.2.2⟩) _ _ (h2.setCell u (fun hh => by have := hh.1; omega))⟩, (h3.setCell u (fun hh => by have := hh.1; omega)).more (fun b hb => ⟨hb.1, by rw [hs]; exact hb.2.1, hb.2.2⟩)⟩
theorem CanRel.push {w wr w4 : World} {i g cap : Nat} {done : List Tr} {va vk : Value} {ab : List Nat} {T : Tr} {cs xs : List Value} (h1 : wr.ownsRow (w.heap.size + 3) TT 9 vk i xs) (h2 : TrsC wr (Fx w vk wr) done xs) (h3 : AbsAt wr (Fx w vk wr) va ab)
    (hT : TreeAt wr (Fx w vk wr) T cs) (ho : w4.ownsRow (w.heap.size + 3) TT 9 (.slice (some ⟨g, 0, none⟩) (i + 1) cap) (i + 1) (xs ++ cs)) (hg : wr.grownBy w4 vk.ownBlock) (hat : vk.ownBlock = some g ∨ g = wr.heap.size) :
    CanRel w w4 (i + 1) (done ++ [T]) va ab (.slice (some ⟨g, 0, none⟩) (i + 1) cap) := by
  have hk : ∀ p : Addr, Fx w vk wr p.block → w4.cell? p = wr.cell? p := fun p hp => World.cell?_of_block (hg.block p.block hp.2.1 (fun e => hp.2.2 e.symm))
  have hm : ∀ b, Fx w vk wr b → Fx w (.slice (some ⟨g, 0, none⟩) (i + 1) cap) w4 b := fun b hb => ⟨hb.1, Nat.lt_of_lt_of_le hb.2.1 hg.size, fun e => by
    have e2 : g = b := by simpa [Value.ownBlock] using e
    rcases hat with h | h
    · exact hb.2.2 (by rw [h, e2])
    · have := hb.2.1; omega⟩
  exact ⟨⟨xs ++ cs, ho, TrsC.append (TrsC.more hm _ _ (TrsC.keep hk _ _ h2)) (TrsC.one (TreeAt.more hm _ _ (TreeAt.keep hk _ _ hT)))⟩, (h3.keep hk).more hm⟩
theorem Box.grownB {w w2 w3 : World} {b size n : Nat} {e : TypeId} {v : Value} {xs : List Value} {cs : Array Value} {T : TypeId} (h : Box w w2 b cs T) (ho : w2.ownsRow (w.heap.size + 3) e size v n xs) (hb : b < w.heap.size + 3) (hg : w2.grownBy w3 v.ownBlock) : Box w w3 b cs T :=
  ⟨h.below.grown hg h.below.size (fun k hk => by have := (ho.lt k hk).1; omega), (hg.block _ h.lt (fun e => by have := (ho.lt _ e.symm).1; omega)).trans h.cells⟩
theorem Box.setJ {w wr : World} {b : Nat} {cs : Array Value} {T : TypeId} (h : Box w wr b cs T) (hb : w.heap.size ≤ b) (j : Nat) (u : Value) : Box w (wr.setCell ⟨b, j, none⟩ u) b (cs.setIfInBounds j u) T :=
  ⟨h.below.setCell (p := ⟨b, j, none⟩) hb u, by simp [World.setCell, Array.getElem?_modify, h.cells]⟩
theorem Box.set9_other {w wr : World} {b X : Nat} {cs : Array Value} {T : TypeId} (h : Box w wr b cs T) (hX : w.heap.size ≤ X ∧ b ≠ X) (u0 u1 u2 u3 u4 u5 u6 u7 u8 : Value) : Box w (set9 wr X u0 u1 u2 u3 u4 u5 u6 u7 u8) b cs T := by
  have h0 := h.setOther (j := 0) hX u0
  have h1 := h0.setOther (j := 1) hX u1
  have h2 := h1.setOther (j := 2) hX u2
  have h3 := h2.setOther (j := 3) hX u3
  have h4 := h3.setOther (j := 4) hX u4
  have h5 := h4.setOther (j := 5) hX u5
  have h6 := h5.setOther (j := 6) hX u6
  have h7 := h6.setOther (j := 7) hX u7
  exact h7.setOther (j := 8) hX u8
theorem Box.set9_at {w wr : World} {b : Nat} {x0 x1 x2 x3 x4 x5 x6 x7 x8 : Value} {T : TypeId} (h : Box w wr b #[x0, x1, x2, x3, x4, x5, x6, x7, x8] T) (hb : w.heap.size ≤ b) (u0 u1 u2 u3 u4 u5 u6 u7 u8 : Value) : Box w (set9 wr b u0 u1 u2 u3 u4 u5 u6 u7 u8) b #[u0, u1, u2, u3, u4, u5, u6, u7, u8] T := by
  have h0 : Box w _ b #[u0, x1, x2, x3, x4, x5, x6, x7, x8] T := h.setJ hb 0 u0
  have h1 : Box w _ b #[u0, u1, x2, x3, x4, x5, x6, x7, x8] T := h0.setJ hb 1 u1
  have h2 : Box w _ b #[u0, u1, u2, x3, x4, x5, x6, x7, x8] T := h1.setJ hb 2 u2
  have h3 : Box w _ b #[u0, u1, u2, u3, x4, x5, x6, x7, x8] T := h2.setJ hb 3 u3
  have h4 : Box w _ b #[u0, u1, u2, u3, u4, x5, x6, x7, x8] T := h3.setJ hb 4 u4
  have h5 : Box w _ b #[u0, u1, u2, u3, u4, u5, x6, x7, x8] T := h4.setJ hb 5 u5
  have h6 : Box w _ b #[u0, u1, u2, u3, u4, u5, u6, x7, x8] T := h5.setJ hb 6 u6
  have h7 : Box w _ b #[u0, u1, u2, u3, u4, u5, u6, u7, x8] T := h6.setJ hb 7 u7
  exact h7.setJ hb 8 u8
theorem oneC_hdC (h : Hd) (A1 : Option Addr) (n1 c1 : Nat) (A2 : Option Addr) (n2 c2 : Nat) : ∀ u ∈ hdC h (.slice A1 n1 c1) (.slice A2 n2 c2), u.oneCell' = true := by
  intro u hu
  simp only [hdC, List.mem_cons, List.not_mem_nil, or_false] at hu
  rcases hu with rfl | rfl | rfl | rfl | rfl | rfl | rfl | rfl | rfl <;> rfl
theorem Box.third (w : World) (o o2 : Obj) (cs : Array Value) (T : TypeId) : Box w (((w.alloc o).alloc o2).alloc (.cells cs T)) (w.heap.size + 1 + 1) cs T := by
  have h := heap_alloc_new ((w.alloc o).alloc o2) (.cells cs T)
  have e : ((w.alloc o).alloc o2).heap.size = w.heap.size + 1 + 1 := by simp
  rw [e] at h
  exact ⟨(((Below.refl _ w).alloc (Nat.le_refl _) _).alloc (by simp) _).alloc (by simp; omega) _, h⟩
/-- old cells stay where the row grows -/
theorem kept_of {w w2 w4 : World} {o : Obj} {v : Value} {n : Nat} {xs : List Value} (ho : w2.ownsRow (w.heap.size + 3) TT 9 v n xs) (hg : (w2.alloc o).grownBy w4 v.ownBlock) (hs : w.heap.size ≤ w2.heap.size) : ∀ p : Addr, p.block < w.heap.size → w4.cell? p = w2.cell? p := fun p hp =>
  (World.cell?_of_block (hg.block p.block (by simp; omega) (fun e => by have := (ho.lt _ e.symm).1; omega))).trans (World.cell?_alloc_lt w2 o p (by omega))

theorem canonH_name (h : Hd) (hn : h.name.size ≤ 40) : (canonH h).name.size ≤ 9223372036854775807 := by
  unfold canonH
  (repeat' split) <;> first | (show h.name.size ≤ _; omega) | (show (⟨#[]⟩ : ByteArray).size ≤ _; decide)
theorem CanRel.step {w wr w2 w4 : World} {ob : Obj} {i g cap : Nat} {done : List Tr} {va vk : Value} {ab : List Nat} {T : Tr} {cs xs : List Value} (h1 : wr.ownsRow (w.heap.size + 3) TT 9 vk i xs) (h2 : TrsC wr (Fx w vk wr) done xs) (h3 : AbsAt wr (Fx w vk wr) va ab) (hsz : w.heap.size + 3 ≤ wr.heap.size)
    (hb2 : Below wr.heap.size wr w2) (hT : TreeAt w2 (fun b => wr.heap.size ≤ b ∧ b < w2.heap.size) T cs) (ho : w4.ownsRow (w.heap.size + 3) TT 9 (.slice (some ⟨g, 0, none⟩) (i + 1) cap) (i + 1) (xs ++ cs)) (hg : (w2.alloc ob).grownBy w4 vk.ownBlock) (hat : vk.ownBlock = some g ∨ g = w2.heap.size + 1) :
    CanRel w w4 (i + 1) (done ++ [T]) va ab (.slice (some ⟨g, 0, none⟩) (i + 1) cap) := by
  have hb3 : Below wr.heap.size wr (w2.alloc ob) := hb2.alloc hb2.size ob
  have hs := hb3.size
  have hal : Below w2.heap.size w2 (w2.alloc ob) := (Below.refl _ w2).alloc (Nat.le_refl _) ob
  refine CanRel.push (wr := w2.alloc ob) (own_below h1 hb3) (TrsC.more (fun b hb => ⟨hb.1, by omega, hb.2.2⟩) _ _ (h2.below (fun b hb => hb.2.1) hb3)) ((h3.below (fun b hb => hb.2.1) hb3).more (fun b hb => ⟨hb.1, by omega, hb.2.2⟩)) (TreeAt.more (fun b hb => ⟨by omega, by have := hb.2; simp; omega, fun e => ?_⟩) _ _ (hT.below (fun b hb => hb.2) hal)) ho hg (by rcases hat with h | h; exact .inl h; exact .inr (by simp; exact h))
  have := own_row_lt h1 _ e
  have := hb.1
  omega

end Fm
end Go.Proofs.YtkjbfomokdjbnaaGreat
