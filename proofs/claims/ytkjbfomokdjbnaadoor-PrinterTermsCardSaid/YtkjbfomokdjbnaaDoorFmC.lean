/-
  The reference's Canon: the canonical tree.
-/
import Derived.Test.YtkjbfomokdjbnaaDoorFmP
import Derived.Test.YtkjbfomokdjbnaaDoorFmI
import Derived.Test.YtkjbfomokdjbnaaDoorFmL
import Derived.Deep.RegionLaw
import Derived.Deep.CutRange
import Derived.Deep.CutBlock
namespace Go.Proofs.YtkjbfomokdjbnaaDoor
open Go.RowKit
set_option linter.unusedSimpArgs false
set_option linter.unusedVariables false
namespace Fm

def canonH (h : Hd) : Hd :=
  if h.k = 1 then { hd0 1 with neg := normB h.neg h.abs, abs := trimN h.abs }
  else if h.k = 2 then { hd0 2 with name := h.name }
  else if h.k = 7 then { hd0 7 with exp := h.exp }
  else if h.k = 8 then { hd0 8 with truth := h.truth }
  else if h.k = 9 then { hd0 9 with rel := h.rel }
  else if h.k = 15 then { hd0 15 with all := h.all, name := h.name }
  else hd0 h.k
mutual
def canonT : Tr → Tr
  | .mk h ks => .mk (canonH h) (canonL ks)
def canonL : List Tr → List Tr
  | [] => []
  | k :: ks => canonT k :: canonL ks
end
theorem canonT_mk (h : Hd) (ks : List Tr) : canonT (.mk h ks) = .mk (canonH h) (canonL ks) := by conv => lhs; unfold canonT
theorem canonL_len : ∀ ks, (canonL ks).length = ks.length
  | [] => by unfold canonL; rfl
  | k :: ks => by unfold canonL; rw [List.length_cons, List.length_cons, canonL_len ks]
theorem canonL_take : ∀ (ks : List Tr) (i : Nat) (kd : Tr), ks[i]? = some kd → canonL (ks.take (i + 1)) = canonL (ks.take i) ++ [canonT kd]
  | [], i, kd, h => by simp at h
  | k :: ks, 0, kd, h => by
    simp at h; subst h; rw [List.take_succ_cons]; simp [canonL]
  | k :: ks, i + 1, kd, h => by
    rw [List.take_succ_cons, List.take_succ_cons]
    conv => lhs; unfold canonL
    conv => rhs; arg 1; unfold canonL
    rw [canonL_take ks i kd (by simpa using h)]; rfl
theorem nn_at {ks : List Tr} {i : Nat} {kd : Tr} (h : ks[i]? = some kd) : nn kd ≤ nnL ks := by
  have h1 := nnL_take_succ ks i kd h
  have h2 := nnL_take ks (i + 1)
  omega
theorem len_nnL : ∀ ks : List Tr, ks.length ≤ nnL ks
  | [] => by unfold nnL; simp
  | k :: ks => by unfold nnL; have := len_nnL ks; have := nn_pos k; simp only [List.length_cons]; omega

/-- the blocks a result's inner parts lie in: made since, and not the row that grows -/
abbrev Fx (w : World) (vk : Value) (wr : World) : Nat → Prop := fun b => w.heap.size + 3 ≤ b ∧ b < wr.heap.size ∧ vk.ownBlock ≠ some b
def CanRel (w wr : World) (i : Nat) (done : List Tr) (va : Value) (ab : List Nat) (vk : Value) : Prop :=
  (∃ xs, wr.ownsRow (w.heap.size + 3) TT 9 vk i xs ∧ TrsC wr (Fx w vk wr) done xs) ∧ AbsAt wr (Fx w vk wr) va ab

theorem CanRel.below {w wr w2 : World} {i : Nat} {done : List Tr} {va vk : Value} {ab : List Nat} (h : CanRel w wr i done va ab vk) (hb : Below wr.heap.size wr w2) : CanRel w w2 i done va ab vk := by
  obtain ⟨⟨xs, h1, h2⟩, h3⟩ := h
  have hs := hb.size
  refine ⟨⟨xs, own_below h1 hb, TrsC.more (fun b hb => ⟨hb.1, by omega, hb.2.2⟩) _ _ (h2.below (fun b hb => hb.2.1) hb)⟩, (h3.below (fun b hb => hb.2.1) hb).more (fun b hb => ⟨hb.1, by omega, hb.2.2⟩)⟩
theorem CanRel.set {w wr : World} {i : Nat} {done : List Tr} {va vk : Value} {ab : List Nat} (h : CanRel w wr i done va ab vk) {X j : Nat} (hX : X < w.heap.size + 3) (u : Value) : CanRel w (wr.setCell ⟨X, j, none⟩ u) i done va ab vk := by
  obtain ⟨⟨xs, h1, h2⟩, h3⟩ := h
  have hs : (wr.setCell ⟨X, j, none⟩ u).heap.size = wr.heap.size := by simp
  refine ⟨⟨xs, ownsRow_setCell_below h1 hX u, TrsC.more (fun b hb => ⟨hb.1, by rw [hs]; exact hb.2.1, hb.2.2⟩) _ _ (h2.setCell u (fun hh => by have := hh.1; omega))⟩, (h3.setCell u (fun hh => by have := hh.1; omega)).more (fun b hb => ⟨hb.1, by rw [hs]; exact hb.2.1, hb.2.2⟩)⟩
theorem CanRel.push {w wr w4 : World} {i g cap : Nat} {done : List Tr} {va vk : Value} {ab : List Nat} {T : Tr} {cs xs : List Value} (h1 : wr.ownsRow (w.heap.size + 3) TT 9 vk i xs) (h2 : TrsC wr (Fx w vk wr) done xs) (h3 : AbsAt wr (Fx w vk wr) va ab)
    (hT : TreeAt wr (Fx w vk wr) T cs) (ho : w4.ownsRow (w.heap.size + 3) TT 9 (.slice (some ⟨g, 0, none⟩) (i + 1) cap) (i + 1) (xs ++ cs)) (hg : wr.grownBy w4 vk.ownBlock) (hat : vk.ownBlock = some g ∨ g = wr.heap.size) :
    CanRel w w4 (i + 1) (done ++ [T]) va ab (.slice (some ⟨g, 0, none⟩) (i + 1) cap) := by
  have hk : ∀ p : Addr, Fx w vk wr p.block → w4.cell? p = wr.cell? p := fun p hp => World.cell?_of_block (hg.block p.block hp.2.1 (fun e => hp.2.2 e.symm))
  have hm : ∀ b, Fx w vk wr b → Fx w (.slice (some ⟨g, 0, none⟩) (i + 1) cap) w4 b := fun b hb => ⟨hb.1, Nat.lt_of_lt_of_le hb.2.1 hg.size, fun e => by
    have e2 : g = b := by simpa [Value.ownBlock] using e
    rcases hat with h | h
    · exact hb.2.2 (by rw [h, e2])
    · have := hb.2.1; omega⟩
  exact ⟨⟨xs ++ cs, ho, TrsC.append (TrsC.more hm _ _ (TrsC.keep hk _ _ h2)) (TrsC.one (TreeAt.more hm _ _ (TreeAt.keep hk _ _ hT)))⟩, (h3.keep hk).more hm⟩
theorem Box.grownB {w w2 w3 : World} {b size n : Nat} {e : TypeId} {v : Value} {xs : List Value} {cs : Array Value} {T : TypeId} (h : Box w w2 b cs T) (ho : w2.ownsRow (w.heap.size + 3) e size v n xs) (hb : b < w.heap.size + 3) (hg : w2.grownBy w3 v.ownBlock) : Box w w3 b cs T :=
  ⟨h.below.grown hg h.below.size (fun k hk => by have := (ho.lt k hk).1; omega), (hg.block _ h.lt (fun e => by have := (ho.lt _ e.symm).1; omega)).trans h.cells⟩
theorem Box.setJ {w wr : World} {b : Nat} {cs : Array Value} {T : TypeId} (h : Box w wr b cs T) (hb : w.heap.size ≤ b) (j : Nat) (u : Value) : Box w (wr.setCell ⟨b, j, none⟩ u) b (cs.setIfInBounds j u) T :=
  ⟨h.below.setCell (p := ⟨b, j, none⟩) hb u, by simp [World.setCell, Array.getElem?_modify, h.cells]⟩
theorem Box.set9_other {w wr : World} {b X : Nat} {cs : Array Value} {T : TypeId} (h : Box w wr b cs T) (hX : w.heap.size ≤ X ∧ b ≠ X) (u0 u1 u2 u3 u4 u5 u6 u7 u8 : Value) : Box w (set9 wr X u0 u1 u2 u3 u4 u5 u6 u7 u8) b cs T := by
  have h0 := h.setOther (j := 0) hX u0
  have h1 := h0.setOther (j := 1) hX u1
  have h2 := h1.setOther (j := 2) hX u2
  have h3 := h2.setOther (j := 3) hX u3
  have h4 := h3.setOther (j := 4) hX u4
  have h5 := h4.setOther (j := 5) hX u5
  have h6 := h5.setOther (j := 6) hX u6
  have h7 := h6.setOther (j := 7) hX u7
  exact h7.setOther (j := 8) hX u8
theorem Box.set9_at {w wr : World} {b : Nat} {x0 x1 x2 x3 x4 x5 x6 x7 x8 : Value} {T : TypeId} (h : Box w wr b #[x0, x1, x2, x3, x4, x5, x6, x7, x8] T) (hb : w.heap.size ≤ b) (u0 u1 u2 u3 u4 u5 u6 u7 u8 : Value) : Box w (set9 wr b u0 u1 u2 u3 u4 u5 u6 u7 u8) b #[u0, u1, u2, u3, u4, u5, u6, u7, u8] T := by
  have h0 : Box w _ b #[u0, x1, x2, x3, x4, x5, x6, x7, x8] T := h.setJ hb 0 u0
  have h1 : Box w _ b #[u0, u1, x2, x3, x4, x5, x6, x7, x8] T := h0.setJ hb 1 u1
  have h2 : Box w _ b #[u0, u1, u2, x3, x4, x5, x6, x7, x8] T := h1.setJ hb 2 u2
  have h3 : Box w _ b #[u0, u1, u2, u3, x4, x5, x6, x7, x8] T := h2.setJ hb 3 u3
  have h4 : Box w _ b #[u0, u1, u2, u3, u4, x5, x6, x7, x8] T := h3.setJ hb 4 u4
  have h5 : Box w _ b #[u0, u1, u2, u3, u4, u5, x6, x7, x8] T := h4.setJ hb 5 u5
  have h6 : Box w _ b #[u0, u1, u2, u3, u4, u5, u6, x7, x8] T := h5.setJ hb 6 u6
  have h7 : Box w _ b #[u0, u1, u2, u3, u4, u5, u6, u7, x8] T := h6.setJ hb 7 u7
  exact h7.setJ hb 8 u8
theorem oneC_hdC (h : Hd) (A1 : Option Addr) (n1 c1 : Nat) (A2 : Option Addr) (n2 c2 : Nat) : ∀ u ∈ hdC h (.slice A1 n1 c1) (.slice A2 n2 c2), u.oneCell' = true := by
  intro u hu
  simp only [hdC, List.mem_cons, List.not_mem_nil, or_false] at hu
  rcases hu with rfl | rfl | rfl | rfl | rfl | rfl | rfl | rfl | rfl <;> rfl
theorem Box.third (w : World) (o o2 : Obj) (cs : Array Value) (T : TypeId) : Box w (((w.alloc o).alloc o2).alloc (.cells cs T)) (w.heap.size + 1 + 1) cs T := by
  have h := heap_alloc_new ((w.alloc o).alloc o2) (.cells cs T)
  have e : ((w.alloc o).alloc o2).heap.size = w.heap.size + 1 + 1 := by simp
  rw [e] at h
  exact ⟨(((Below.refl _ w).alloc (Nat.le_refl _) _).alloc (by simp) _).alloc (by simp; omega) _, h⟩
/-- old cells stay where the row grows -/
theorem kept_of {w w2 w4 : World} {o : Obj} {v : Value} {n : Nat} {xs : List Value} (ho : w2.ownsRow (w.heap.size + 3) TT 9 v n xs) (hg : (w2.alloc o).grownBy w4 v.ownBlock) (hs : w.heap.size ≤ w2.heap.size) : ∀ p : Addr, p.block < w.heap.size → w4.cell? p = w2.cell? p := fun p hp =>
  (World.cell?_of_block (hg.block p.block (by simp; omega) (fun e => by have := (ho.lt _ e.symm).1; omega))).trans (World.cell?_alloc_lt w2 o p (by omega))

theorem canonH_name (h : Hd) (hn : h.name.size ≤ 40) : (canonH h).name.size ≤ 9223372036854775807 := by
  unfold canonH
  (repeat' split) <;> first | (show h.name.size ≤ _; omega) | (show (⟨#[]⟩ : ByteArray).size ≤ _; decide)
theorem CanRel.step {w wr w2 w4 : World} {ob : Obj} {i g cap : Nat} {done : List Tr} {va vk : Value} {ab : List Nat} {T : Tr} {cs xs : List Value} (h1 : wr.ownsRow (w.heap.size + 3) TT 9 vk i xs) (h2 : TrsC wr (Fx w vk wr) done xs) (h3 : AbsAt wr (Fx w vk wr) va ab) (hsz : w.heap.size + 3 ≤ wr.heap.size)
    (hb2 : Below wr.heap.size wr w2) (hT : TreeAt w2 (fun b => wr.heap.size ≤ b ∧ b < w2.heap.size) T cs) (ho : w4.ownsRow (w.heap.size + 3) TT 9 (.slice (some ⟨g, 0, none⟩) (i + 1) cap) (i + 1) (xs ++ cs)) (hg : (w2.alloc ob).grownBy w4 vk.ownBlock) (hat : vk.ownBlock = some g ∨ g = w2.heap.size + 1) :
    CanRel w w4 (i + 1) (done ++ [T]) va ab (.slice (some ⟨g, 0, none⟩) (i + 1) cap) := by
  have hb3 : Below wr.heap.size wr (w2.alloc ob) := hb2.alloc hb2.size ob
  have hs := hb3.size
  have hal : Below w2.heap.size w2 (w2.alloc ob) := (Below.refl _ w2).alloc (Nat.le_refl _) ob
  refine CanRel.push (wr := w2.alloc ob) (own_below h1 hb3) (TrsC.more (fun b hb => ⟨hb.1, by omega, hb.2.2⟩) _ _ (h2.below (fun b hb => hb.2.1) hb3)) ((h3.below (fun b hb => hb.2.1) hb3).more (fun b hb => ⟨hb.1, by omega, hb.2.2⟩)) (TreeAt.more (fun b hb => ⟨by omega, by have := hb.2; simp; omega, fun e => ?_⟩) _ _ (hT.below (fun b hb => hb.2) hal)) ho hg (by rcases hat with h | h; exact .inl h; exact .inr (by simp; exact h))
  have := own_row_lt h1 _ e
  have := hb.1
  omega

set_option maxRecDepth 100000 in
set_option maxHeartbeats 16000000 in
theorem canon_any : ∀ (t : Tr) (cs : List Value) (S : Nat → Prop) (w : World), (∀ b, S b → b < w.heap.size) → TreeAt w S t cs → Sm t → nn t ≤ 100000 → Calls Tryd.prog 39 #[.agg cs.toArray] w (TreePost (canonT t) w) := by
  refine Tr.ind fun h ks ih => ?_
  intro cs S w hS hT hsm0 hnn0
  obtain ⟨A1, n1, c1, A2, K, c2, xs, rfl, hK, hKc, hK64, hn1, hnm, hab, hks, htr⟩ := hT.mkN
  have hnn : nnL ks < 100000 := by have := hnn0; unfold nn at this; omega
  have hsm1 := hsm0
  unfold Sm at hsm1
  obtain ⟨hs1, hs2, hsm⟩ := hsm1
  have hnmH := canonH_name h hs2
  obtain ⟨H, hH⟩ : ∃ H, canonH h = H := ⟨_, rfl⟩
  rw [hH] at hnmH
  have hpl : canonT (.mk h ks) = .mk H (canonL ks) := by rw [canonT_mk, hH]
  rw [hpl]
  obtain ⟨k, ng, ab, nm, ex, rl, tr, al⟩ := h
  dsimp only at hs1 hs2 hab hn1 hnm
  unfold hdC
  dsimp only
  have hkl := len_nnL ks
  have hK2 : K < 100000 := by omega
  obtain ⟨i0, hi0, hz0, hz1, hz2⟩ := info_parts infoTree
  obtain ⟨W, hW⟩ : ∃ W, (((w.alloc (.cells #[.int .i64 k, .bool ng, .slice A1 n1 c1, .string nm, .int .i64 ex, .int .i64 rl, .bool tr, .bool al, .slice A2 K c2] TT)).alloc (.cells #[.int .i64 0, .bool false, .slice none 0 0, .string ⟨#[]⟩, .int .i64 0, .int .i64 0, .bool false, .bool false, .slice none 0 0] TT)).alloc (.cells #[.int .i64 0, .bool false, .slice none 0 0, .string ⟨#[]⟩, .int .i64 0, .int .i64 0, .bool false, .bool false, .slice none 0 0] TT)) = W := ⟨_, rfl⟩
  have hx : Box w W (w.heap.size) #[.int .i64 k, .bool ng, .slice A1 n1 c1, .string nm, .int .i64 ex, .int .i64 rl, .bool tr, .bool al, .slice A2 K c2] TT := by rw [← hW]; exact ((Box.new w _ _).alloc _).alloc _
  have hr : Box w W (w.heap.size + 1) #[.int .i64 0, .bool false, .slice none 0 0, .string ⟨#[]⟩, .int .i64 0, .int .i64 0, .bool false, .bool false, .slice none 0 0] TT := by rw [← hW]; exact (Box.second w _ _ _).alloc _
  have ho : Box w W (w.heap.size + 1 + 1) #[.int .i64 0, .bool false, .slice none 0 0, .string ⟨#[]⟩, .int .i64 0, .int .i64 0, .bool false, .bool false, .slice none 0 0] TT := by rw [← hW]; exact Box.third w _ _ _ _
  obtain ⟨W1, hW1⟩ : ∃ W1, (((((((((W.setCell ⟨w.heap.size + 1 + 1, 0, none⟩ (.int .i64 k)).setCell ⟨w.heap.size + 1 + 1, 1, none⟩ (.bool false)).setCell ⟨w.heap.size + 1 + 1, 2, none⟩ (.slice none 0 0)).setCell ⟨w.heap.size + 1 + 1, 3, none⟩ (.string ⟨#[]⟩)).setCell ⟨w.heap.size + 1 + 1, 4, none⟩ (.int .i64 0)).setCell ⟨w.heap.size + 1 + 1, 5, none⟩ (.int .i64 0)).setCell ⟨w.heap.size + 1 + 1, 6, none⟩ (.bool false)).setCell ⟨w.heap.size + 1 + 1, 7, none⟩ (.bool false)).setCell ⟨w.heap.size + 1 + 1, 8, none⟩ (.slice none 0 0)) = W1 := ⟨_, rfl⟩
  have hx1 : Box w W1 (w.heap.size) #[.int .i64 k, .bool ng, .slice A1 n1 c1, .string nm, .int .i64 ex, .int .i64 rl, .bool tr, .bool al, .slice A2 K c2] TT := by rw [← hW1]; exact hx.set9_other ⟨by omega, by omega⟩ _ _ _ _ _ _ _ _ _
  have hr1 : Box w W1 (w.heap.size + 1) #[.int .i64 0, .bool false, .slice none 0 0, .string ⟨#[]⟩, .int .i64 0, .int .i64 0, .bool false, .bool false, .slice none 0 0] TT := by rw [← hW1]; exact hr.set9_other ⟨by omega, by omega⟩ _ _ _ _ _ _ _ _ _
  have ho1 : Box w W1 (w.heap.size + 1 + 1) #[.int .i64 k, .bool false, .slice none 0 0, .string ⟨#[]⟩, .int .i64 0, .int .i64 0, .bool false, .bool false, .slice none 0 0] TT := by rw [← hW1]; exact ho.set9_at (by omega) _ _ _ _ _ _ _ _ _
  have hsz1 : W1.heap.size = w.heap.size + 3 := by rw [← hW1, ← hW]; simp
  obtain ⟨b0, b1, b2, b3, b4, b5, b6, b7, b8⟩ := hx.c9
  have zc := ho.cell
  have zf := ho.fz
  obtain ⟨d0, d1, d2, d3, d4, d5, d6, d7, d8⟩ := hx1.c9
  have yc := ho1.cell
  have yf := ho1.fz
  have IH := Lib.hid ih
  have HK := Lib.hid hK
  have HKS := Lib.hid hks
  have HTR := Lib.hid htr
  have HSM := Lib.hid hsm
  have HNN := Lib.hid hnn
  have HHH := Lib.hid hH
  have HAB := Lib.hid hab
  have HX1 := Lib.hid hx1
  have HR1 := Lib.hid hr1
  have HO1 := Lib.hid ho1
  have HNH := Lib.hid hnmH
  clear ih hK hks htr hsm hnn hab hpl hkl hx hr ho hx1 hr1 ho1 hH hT hsm0 hnn0 hnmH hn1
  go_enter Tryd.func39, Tryd.ntmps39
  go_upto_block 0 with fail
  clear hW hW1
  go_cut [1, 2, 3] from 5 to 43 (fun s1 s2 s3 wx => s1 = .pointer (some ⟨w.heap.size, 0, none⟩) ∧ s2 = .pointer (some ⟨w.heap.size + 1, 0, none⟩) ∧ s3 = .pointer (some ⟨w.heap.size + 1 + 1, 0, none⟩) ∧ Box w wx (w.heap.size) #[.int .i64 k, .bool ng, .slice A1 n1 c1, .string nm, .int .i64 ex, .int .i64 rl, .bool tr, .bool al, .slice A2 K c2] TT ∧ Box w wx (w.heap.size + 1) #[.int .i64 0, .bool false, .slice none 0 0, .string ⟨#[]⟩, .int .i64 0, .int .i64 0, .bool false, .bool false, .slice none 0 0] TT ∧ ∃ Ac nc cc, Box w wx (w.heap.size + 1 + 1) #[.int .i64 H.k, .bool H.neg, .slice Ac nc cc, .string H.name, .int .i64 H.exp, .int .i64 H.rel, .bool H.truth, .bool H.all, .slice none 0 0] TT ∧ Hid (CanRel w wx 0 [] (.slice Ac nc cc) H.abs (.slice none 0 0)))
  case first =>
    rcases (show k = 1 ∨ k = 2 ∨ k = 7 ∨ k = 8 ∨ k = 9 ∨ k = 15 ∨ (k ≠ 1 ∧ k ≠ 2 ∧ k ≠ 7 ∧ k ≠ 8 ∧ k ≠ 9 ∧ k ≠ 15) by omega) with rfl | rfl | rfl | rfl | rfl | rfl | ⟨k1, k2, k3, k4, k5, k6⟩
    · obtain ⟨r, hrr⟩ : ∃ r, r = normB ng ab := ⟨_, rfl⟩
      obtain rfl : H = { hd0 1 with neg := r, abs := trimN ab } := by rw [← HHH.out, hrr]; rfl
      have HRR := Lib.hid hrr
      have HN := Lib.hid (rint_any ng ab (.slice A1 n1 c1) S W1 (fun b hb => by have := hS b hb; omega) (HAB.out.below hS HX1.out.below) (by omega))
      clear hrr
      go_wp2_with (go_at_call 66; refine HN.out.mono ?_; intro e w2 hq; obtain ⟨Ac, nc, cc, rfl, hA2, hb2⟩ := hq.named r HRR.out; clear hq; have ec := (HO1.out.step hb2).cell; have ef := (HO1.out.step hb2).fz; obtain ⟨W2, hW2⟩ : ∃ W2, ((w2.setCell ⟨w.heap.size + 1 + 1, 1, none⟩ (.bool r)).setCell ⟨w.heap.size + 1 + 1, 2, none⟩ (.slice Ac nc cc)) = W2 := ⟨_, rfl⟩; have hx2 : Box w W2 (w.heap.size) #[.int .i64 1, .bool ng, .slice A1 n1 c1, .string nm, .int .i64 ex, .int .i64 rl, .bool tr, .bool al, .slice A2 K c2] TT := (by rw [← hW2]; exact (((HX1.out.step hb2).setOther ⟨by omega, by omega⟩ _).setOther ⟨by omega, by omega⟩ _)); have hr2 : Box w W2 (w.heap.size + 1) #[.int .i64 0, .bool false, .slice none 0 0, .string ⟨#[]⟩, .int .i64 0, .int .i64 0, .bool false, .bool false, .slice none 0 0] TT := (by rw [← hW2]; exact (((HR1.out.step hb2).setOther ⟨by omega, by omega⟩ _).setOther ⟨by omega, by omega⟩ _)); have ho2 : Box w W2 (w.heap.size + 1 + 1) #[.int .i64 1, .bool r, .slice Ac nc cc, .string ⟨#[]⟩, .int .i64 0, .int .i64 0, .bool false, .bool false, .slice none 0 0] TT := (by rw [← hW2]; exact (((HO1.out.step hb2).setJ (by omega) 1 _).setJ (by omega) 2 _)); have hcr : CanRel w W2 0 [] (.slice Ac nc cc) (trimN ab) (.slice none 0 0) := (by rw [← hW2]; exact CanRel.set (CanRel.set ⟨⟨[], World.ownsRow_nil _ _ _ _, TrsC.nil⟩, hA2.more (fun b hb => ⟨by omega, hb.2, by simp [Value.ownBlock]⟩)⟩ (by omega) _) (by omega) _); have HX2 := Lib.hid hx2; have HR2 := Lib.hid hr2; have HO2 := Lib.hid ho2; have HCR := Lib.hid hcr; clear hx2 hr2 ho2 hcr hA2)
      go_meet
      exact ⟨rfl, rfl, rfl, HX2.out, HR2.out, Ac, nc, cc, HO2.out, HCR⟩
    · obtain rfl : H = { hd0 2 with name := nm } := by rw [← HHH.out]; rfl
      obtain ⟨W2, hW2⟩ : ∃ W2, (W1.setCell ⟨w.heap.size + 1 + 1, 3, none⟩ (.string nm)) = W2 := ⟨_, rfl⟩
      have hx2 : Box w W2 (w.heap.size) #[.int .i64 2, .bool ng, .slice A1 n1 c1, .string nm, .int .i64 ex, .int .i64 rl, .bool tr, .bool al, .slice A2 K c2] TT := by rw [← hW2]; exact (HX1.out.setOther ⟨by omega, by omega⟩ _)
      have hr2 : Box w W2 (w.heap.size + 1) #[.int .i64 0, .bool false, .slice none 0 0, .string ⟨#[]⟩, .int .i64 0, .int .i64 0, .bool false, .bool false, .slice none 0 0] TT := by rw [← hW2]; exact (HR1.out.setOther ⟨by omega, by omega⟩ _)
      have ho2 : Box w W2 (w.heap.size + 1 + 1) #[.int .i64 2, .bool false, .slice none 0 0, .string nm, .int .i64 0, .int .i64 0, .bool false, .bool false, .slice none 0 0] TT := by rw [← hW2]; exact (HO1.out.setJ (by omega) 3 _)
      have hcr : CanRel w W2 0 [] (.slice none 0 0) [] (.slice none 0 0) := ⟨⟨[], World.ownsRow_nil _ _ _ _, TrsC.nil⟩, AbsAt.empty⟩
      have HX2 := Lib.hid hx2
      have HR2 := Lib.hid hr2
      have HO2 := Lib.hid ho2
      have HCR := Lib.hid hcr
      clear hx2 hr2 ho2 hcr
      go_wp2_with fail
      go_meet
      exact ⟨rfl, rfl, rfl, HX2.out, HR2.out, none, 0, 0, HO2.out, HCR⟩
    · obtain rfl : H = { hd0 7 with exp := ex } := by rw [← HHH.out]; rfl
      obtain ⟨W2, hW2⟩ : ∃ W2, (W1.setCell ⟨w.heap.size + 1 + 1, 4, none⟩ (.int .i64 ex)) = W2 := ⟨_, rfl⟩
      have hx2 : Box w W2 (w.heap.size) #[.int .i64 7, .bool ng, .slice A1 n1 c1, .string nm, .int .i64 ex, .int .i64 rl, .bool tr, .bool al, .slice A2 K c2] TT := by rw [← hW2]; exact (HX1.out.setOther ⟨by omega, by omega⟩ _)
      have hr2 : Box w W2 (w.heap.size + 1) #[.int .i64 0, .bool false, .slice none 0 0, .string ⟨#[]⟩, .int .i64 0, .int .i64 0, .bool false, .bool false, .slice none 0 0] TT := by rw [← hW2]; exact (HR1.out.setOther ⟨by omega, by omega⟩ _)
      have ho2 : Box w W2 (w.heap.size + 1 + 1) #[.int .i64 7, .bool false, .slice none 0 0, .string ⟨#[]⟩, .int .i64 ex, .int .i64 0, .bool false, .bool false, .slice none 0 0] TT := by rw [← hW2]; exact (HO1.out.setJ (by omega) 4 _)
      have hcr : CanRel w W2 0 [] (.slice none 0 0) [] (.slice none 0 0) := ⟨⟨[], World.ownsRow_nil _ _ _ _, TrsC.nil⟩, AbsAt.empty⟩
      have HX2 := Lib.hid hx2
      have HR2 := Lib.hid hr2
      have HO2 := Lib.hid ho2
      have HCR := Lib.hid hcr
      clear hx2 hr2 ho2 hcr
      go_wp2_with fail
      go_meet
      exact ⟨rfl, rfl, rfl, HX2.out, HR2.out, none, 0, 0, HO2.out, HCR⟩
    · obtain rfl : H = { hd0 8 with truth := tr } := by rw [← HHH.out]; rfl
      obtain ⟨W2, hW2⟩ : ∃ W2, (W1.setCell ⟨w.heap.size + 1 + 1, 6, none⟩ (.bool tr)) = W2 := ⟨_, rfl⟩
      have hx2 : Box w W2 (w.heap.size) #[.int .i64 8, .bool ng, .slice A1 n1 c1, .string nm, .int .i64 ex, .int .i64 rl, .bool tr, .bool al, .slice A2 K c2] TT := by rw [← hW2]; exact (HX1.out.setOther ⟨by omega, by omega⟩ _)
      have hr2 : Box w W2 (w.heap.size + 1) #[.int .i64 0, .bool false, .slice none 0 0, .string ⟨#[]⟩, .int .i64 0, .int .i64 0, .bool false, .bool false, .slice none 0 0] TT := by rw [← hW2]; exact (HR1.out.setOther ⟨by omega, by omega⟩ _)
      have ho2 : Box w W2 (w.heap.size + 1 + 1) #[.int .i64 8, .bool false, .slice none 0 0, .string ⟨#[]⟩, .int .i64 0, .int .i64 0, .bool tr, .bool false, .slice none 0 0] TT := by rw [← hW2]; exact (HO1.out.setJ (by omega) 6 _)
      have hcr : CanRel w W2 0 [] (.slice none 0 0) [] (.slice none 0 0) := ⟨⟨[], World.ownsRow_nil _ _ _ _, TrsC.nil⟩, AbsAt.empty⟩
      have HX2 := Lib.hid hx2
      have HR2 := Lib.hid hr2
      have HO2 := Lib.hid ho2
      have HCR := Lib.hid hcr
      clear hx2 hr2 ho2 hcr
      go_wp2_with fail
      go_meet
      exact ⟨rfl, rfl, rfl, HX2.out, HR2.out, none, 0, 0, HO2.out, HCR⟩
    · obtain rfl : H = { hd0 9 with rel := rl } := by rw [← HHH.out]; rfl
      obtain ⟨W2, hW2⟩ : ∃ W2, (W1.setCell ⟨w.heap.size + 1 + 1, 5, none⟩ (.int .i64 rl)) = W2 := ⟨_, rfl⟩
      have hx2 : Box w W2 (w.heap.size) #[.int .i64 9, .bool ng, .slice A1 n1 c1, .string nm, .int .i64 ex, .int .i64 rl, .bool tr, .bool al, .slice A2 K c2] TT := by rw [← hW2]; exact (HX1.out.setOther ⟨by omega, by omega⟩ _)
      have hr2 : Box w W2 (w.heap.size + 1) #[.int .i64 0, .bool false, .slice none 0 0, .string ⟨#[]⟩, .int .i64 0, .int .i64 0, .bool false, .bool false, .slice none 0 0] TT := by rw [← hW2]; exact (HR1.out.setOther ⟨by omega, by omega⟩ _)
      have ho2 : Box w W2 (w.heap.size + 1 + 1) #[.int .i64 9, .bool false, .slice none 0 0, .string ⟨#[]⟩, .int .i64 0, .int .i64 rl, .bool false, .bool false, .slice none 0 0] TT := by rw [← hW2]; exact (HO1.out.setJ (by omega) 5 _)
      have hcr : CanRel w W2 0 [] (.slice none 0 0) [] (.slice none 0 0) := ⟨⟨[], World.ownsRow_nil _ _ _ _, TrsC.nil⟩, AbsAt.empty⟩
      have HX2 := Lib.hid hx2
      have HR2 := Lib.hid hr2
      have HO2 := Lib.hid ho2
      have HCR := Lib.hid hcr
      clear hx2 hr2 ho2 hcr
      go_wp2_with fail
      go_meet
      exact ⟨rfl, rfl, rfl, HX2.out, HR2.out, none, 0, 0, HO2.out, HCR⟩
    · obtain rfl : H = { hd0 15 with all := al, name := nm } := by rw [← HHH.out]; rfl
      obtain ⟨W2, hW2⟩ : ∃ W2, ((W1.setCell ⟨w.heap.size + 1 + 1, 7, none⟩ (.bool al)).setCell ⟨w.heap.size + 1 + 1, 3, none⟩ (.string nm)) = W2 := ⟨_, rfl⟩
      have hx2 : Box w W2 (w.heap.size) #[.int .i64 15, .bool ng, .slice A1 n1 c1, .string nm, .int .i64 ex, .int .i64 rl, .bool tr, .bool al, .slice A2 K c2] TT := by rw [← hW2]; exact ((HX1.out.setOther ⟨by omega, by omega⟩ _).setOther ⟨by omega, by omega⟩ _)
      have hr2 : Box w W2 (w.heap.size + 1) #[.int .i64 0, .bool false, .slice none 0 0, .string ⟨#[]⟩, .int .i64 0, .int .i64 0, .bool false, .bool false, .slice none 0 0] TT := by rw [← hW2]; exact ((HR1.out.setOther ⟨by omega, by omega⟩ _).setOther ⟨by omega, by omega⟩ _)
      have ho2 : Box w W2 (w.heap.size + 1 + 1) #[.int .i64 15, .bool false, .slice none 0 0, .string nm, .int .i64 0, .int .i64 0, .bool false, .bool al, .slice none 0 0] TT := by rw [← hW2]; exact ((HO1.out.setJ (by omega) 7 _).setJ (by omega) 3 _)
      have hcr : CanRel w W2 0 [] (.slice none 0 0) [] (.slice none 0 0) := ⟨⟨[], World.ownsRow_nil _ _ _ _, TrsC.nil⟩, AbsAt.empty⟩
      have qb : Box w (W1.setCell ⟨w.heap.size + 1 + 1, 7, none⟩ (.bool al)) (w.heap.size + 1 + 1) #[.int .i64 15, .bool false, .slice none 0 0, .string ⟨#[]⟩, .int .i64 0, .int .i64 0, .bool false, .bool al, .slice none 0 0] TT := (HO1.out.setJ (by omega) 7 _)
      have qx : Box w (W1.setCell ⟨w.heap.size + 1 + 1, 7, none⟩ (.bool al)) (w.heap.size) #[.int .i64 15, .bool ng, .slice A1 n1 c1, .string nm, .int .i64 ex, .int .i64 rl, .bool tr, .bool al, .slice A2 K c2] TT := (HX1.out.setOther ⟨by omega, by omega⟩ _)
      have qc := qb.cell
      have qf := qb.fz
      obtain ⟨q0, q1, q2, q3, q4, q5, q6, q7, q8⟩ := qx.c9
      clear qb qx
      have HX2 := Lib.hid hx2
      have HR2 := Lib.hid hr2
      have HO2 := Lib.hid ho2
      have HCR := Lib.hid hcr
      clear hx2 hr2 ho2 hcr
      go_wp2_with fail
      go_meet
      exact ⟨rfl, rfl, rfl, HX2.out, HR2.out, none, 0, 0, HO2.out, HCR⟩
    · have f1 : (k == 1) = false := by simpa using k1
      have f2 : (k == 2) = false := by simpa using k2
      have f7 : (k == 7) = false := by simpa using k3
      have f8 : (k == 8) = false := by simpa using k4
      have f9 : (k == 9) = false := by simpa using k5
      have f15 : (k == 15) = false := by simpa using k6
      obtain rfl : H = hd0 k := by rw [← HHH.out]; unfold canonH; simp only [k1, k2, k3, k4, k5, k6, if_false]
      have hx2 : Box w W1 (w.heap.size) #[.int .i64 k, .bool ng, .slice A1 n1 c1, .string nm, .int .i64 ex, .int .i64 rl, .bool tr, .bool al, .slice A2 K c2] TT := by exact HX1.out
      have hr2 : Box w W1 (w.heap.size + 1) #[.int .i64 0, .bool false, .slice none 0 0, .string ⟨#[]⟩, .int .i64 0, .int .i64 0, .bool false, .bool false, .slice none 0 0] TT := by exact HR1.out
      have ho2 : Box w W1 (w.heap.size + 1 + 1) #[.int .i64 k, .bool false, .slice none 0 0, .string ⟨#[]⟩, .int .i64 0, .int .i64 0, .bool false, .bool false, .slice none 0 0] TT := by exact HO1.out
      have hcr : CanRel w W1 0 [] (.slice none 0 0) [] (.slice none 0 0) := ⟨⟨[], World.ownsRow_nil _ _ _ _, TrsC.nil⟩, AbsAt.empty⟩
      have HX2 := Lib.hid hx2
      have HR2 := Lib.hid hr2
      have HO2 := Lib.hid ho2
      have HCR := Lib.hid hcr
      clear hx2 hr2 ho2 hcr
      go_wp2_with fail
      go_meet
      exact ⟨rfl, rfl, rfl, HX2.out, HR2.out, none, 0, 0, HO2.out, HCR⟩
  case rest =>
    obtain ⟨rfl, rfl, rfl, hx2, hr2, Ac, nc, cc, ho2, hcr⟩ := hcut
    have f8 : wc.cell? ⟨w.heap.size, 8, none⟩ = some (.slice A2 K c2) := hx2.cell 8
    have HX2 := Lib.hid hx2
    have HR2 := Lib.hid hr2
    have HO2 := Lib.hid ho2
    clear hx2 hr2 ho2
    go_wp2_with fail
    go_loopw [47] (fun a_ wr => ∃ (i : Nat) (A3 : Option Addr) (c3 : Nat), i ≤ K ∧ a_ = .int .i64 i ∧ Box w wr (w.heap.size) #[.int .i64 k, .bool ng, .slice A1 n1 c1, .string nm, .int .i64 ex, .int .i64 rl, .bool tr, .bool al, .slice A2 K c2] TT ∧ Box w wr (w.heap.size + 1) #[.int .i64 0, .bool false, .slice none 0 0, .string ⟨#[]⟩, .int .i64 0, .int .i64 0, .bool false, .bool false, .slice none 0 0] TT ∧ Box w wr (w.heap.size + 1 + 1) #[.int .i64 H.k, .bool H.neg, .slice Ac nc cc, .string H.name, .int .i64 H.exp, .int .i64 H.rel, .bool H.truth, .bool H.all, .slice A3 i c3] TT ∧ Hid (CanRel w wr i (canonL (ks.take i)) (.slice Ac nc cc) H.abs (.slice A3 i c3)) ∧ w.heap.size + 3 ≤ wr.heap.size) (fun a_ _ => K - (intOf a_).toNat)
    case atStart => exact ⟨0, none, 0, Nat.zero_le _, rfl, HX2.out, HR2.out, HO2.out, hcr, (show w.heap.size + 3 ≤ wc.heap.size from by have := HO2.out.lt; omega)⟩
    case round =>
      obtain ⟨i, A3, c3, hi, rfl, hbx, hbr, hbo, hrel, hsz⟩ := hrel
      have b8w : wr.cell? ⟨w.heap.size, 8, none⟩ = some (.slice A2 K c2) := hbx.cell 8
      have o8w : wr.cell? ⟨w.heap.size + 1 + 1, 8, none⟩ = some (.slice A3 i c3) := hbo.cell 8
      have HBX := Lib.hid hbx
      have HBR := Lib.hid hbr
      have HBO := Lib.hid hbo
      have HSZ := Lib.hid hsz
      have hbel := hbx.below
      by_cases hlt : i < K
      · obtain ⟨kd, b, o, B1, m1, e1, B2, m2, e2, hkd, rfl, hb, hT, k0, k1, k2, k3, k4, k5, k6, k7, k8⟩ := kid_cells (HKS.out.below hS hbel) (HTR.out.below hS hbel) HK.out i hlt
        obtain ⟨⟨ys, hown, htrs⟩, habs⟩ := hrel.out
        obtain ⟨Tk, hTk⟩ : ∃ Tk, Tk = canonT kd := ⟨_, rfl⟩
        have hC : ∀ w', Below wr.heap.size wr w' → _ := fun w' hb' => IH.out kd (mem_at hkd) _ S w' (fun b hb => Nat.lt_of_lt_of_le (hS b hb) (Nat.le_trans hbel.size hb'.size)) (hT.below (fun b hb => Nat.lt_of_lt_of_le (hS b hb) hbel.size) hb') (SmL.at_ HSM.out hkd) (by have := nn_at hkd; have := HNN.out; omega)
        rw [← hTk] at hC
        have HDN := Lib.hid (show canonL (ks.take (i + 1)) = canonL (ks.take i) ++ [Tk] by rw [hTk]; exact canonL_take ks i kd hkd)
        have HC := Lib.hid hC
        have HOW := Lib.hid hown
        have HTS := Lib.hid htrs
        have HAB2 := Lib.hid habs
        have hblt : b < wr.heap.size := Nat.lt_of_lt_of_le (hS b hb) hbel.size
        have HBB := Lib.hid (hS b hb)
        have hbn1 : ¬ b = w.heap.size + 1 + 1 := by have := hS b hb; omega
        have hbn2 : ¬ w.heap.size + 1 + 1 = b := by have := hS b hb; omega
        have HD : Below wr.heap.size wr wr.drew := (Below.refl _ wr).drew
        have hstep := Lib.hid (show ∀ wn, Below wr.drew.heap.size wr.drew wn → Below wr.heap.size wr wn from fun wn h2 => HD.trans h2)
        have HSZ2 := Lib.hid hbel.size
        clear hC hown htrs habs hkd hb hT hTk hbx hbr hbo hsz
        go_wp2_with fail
        go_region_law (first | (go_simp; (go_at_call 39; refine (HC.out _ HD).mono ?_; rintro e w2 ⟨a1, a2, a3, a4, a5, a6, rfl, htL, hbl⟩; have hb2 := hstep.out _ hbl; have HTL := Lib.hid htL; have hbL := Lib.hid hbl; clear htL hbl; have hX2 := Lib.hid (HBX.out.step hb2); have hO2 := Lib.hid (HBO.out.step hb2); have b8' : w2.cell? ⟨w.heap.size, 8, none⟩ = some (.slice (some ⟨b, o, none⟩) K c2) := hX2.out.cell 8; have o8' : w2.cell? ⟨w.heap.size + 1 + 1, 8, none⟩ = some (.slice A3 i c3) := hO2.out.cell 8; have o8a : ∀ ob, (w2.alloc ob).cell? ⟨w.heap.size + 1 + 1, 8, none⟩ = some (.slice A3 i c3) := fun ob => (hO2.out.alloc ob).cell 8; have HOW2 := Lib.hid (own_below HOW.out hb2); have t0 := (hb2.cell (p := ⟨b, o + i * 9, none⟩) hblt).trans k0; have t1 := (hb2.cell (p := ⟨b, o + i * 9 + 1, none⟩) hblt).trans k1; have t2 := (hb2.cell (p := ⟨b, o + i * 9 + 2, none⟩) hblt).trans k2; have t3 := (hb2.cell (p := ⟨b, o + i * 9 + 3, none⟩) hblt).trans k3; have t4 := (hb2.cell (p := ⟨b, o + i * 9 + 4, none⟩) hblt).trans k4; have t5 := (hb2.cell (p := ⟨b, o + i * 9 + 5, none⟩) hblt).trans k5; have t6 := (hb2.cell (p := ⟨b, o + i * 9 + 6, none⟩) hblt).trans k6; have t7 := (hb2.cell (p := ⟨b, o + i * 9 + 7, none⟩) hblt).trans k7; have t8 := (hb2.cell (p := ⟨b, o + i * 9 + 8, none⟩) hblt).trans k8; have hs2 := hb2.size; have HSZ3 := Lib.hid (Nat.le_trans HSZ2.out hb2.size))) | (refine step_append_two _ (by rfl) _ _ 27 27 (by rfl) (w.heap.size + 3) TT i0 _ 9 104 Tryd.underlying27 Tryd.underlying27 hi0 hz0 hz1 hz2 rfl (by decide) _ i ys (by rfl) (own_below HOW2.out ((Below.refl _ w2).alloc (Nat.le_refl _) _)) ⟨w2.heap.size, 0, none⟩ 1 1 (hdC Tk.h (.slice a1 a2 a3) (.slice a4 a5 a6)) (by rfl) (by rfl) (cells_new w2 _ TT _ rfl) (oneC_hdC Tk.h _ _ _ _ _ _) (by omega) (by unfold maxLen; omega) (by omega) (by have := HSZ.out; simp; omega) (w2.heap.size + 1) (by simp) ?_; intro g cap w4 hown4 hgrow hat hlt4; have hX4 := Lib.hid ((hX2.out.alloc _).grownB (own_below HOW2.out ((Below.refl _ w2).alloc (Nat.le_refl _) _)) (by omega) hgrow); have hO4 := Lib.hid ((hO2.out.alloc _).grownB (own_below HOW2.out ((Below.refl _ w2).alloc (Nat.le_refl _) _)) (by omega) hgrow); have b8'' : w4.cell? ⟨w.heap.size, 8, none⟩ = some (.slice (some ⟨b, o, none⟩) K c2) := hX4.out.cell 8; have o8'' : w4.cell? ⟨w.heap.size + 1 + 1, 8, none⟩ = some (.slice A3 i c3) := hO4.out.cell 8; have of'' := hO4.out.fz; have v8 : ∀ u, (w4.setCell ⟨w.heap.size + 1 + 1, 8, none⟩ u).cell? ⟨w.heap.size, 8, none⟩ = some (.slice (some ⟨b, o, none⟩) K c2) := (fun u => (World.cell?_setCell_other _ _ _ u (fun e => by injection e with e; omega)).trans b8''); have hbw := Lib.hid (kept_of HOW2.out hgrow HSZ3.out); have u0 := (hbw.out ⟨b, o + i * 9, none⟩ HBB.out).trans t0; have u1 := (hbw.out ⟨b, o + i * 9 + 1, none⟩ HBB.out).trans t1; have u2 := (hbw.out ⟨b, o + i * 9 + 2, none⟩ HBB.out).trans t2; have u3 := (hbw.out ⟨b, o + i * 9 + 3, none⟩ HBB.out).trans t3; have u4 := (hbw.out ⟨b, o + i * 9 + 4, none⟩ HBB.out).trans t4; have u5 := (hbw.out ⟨b, o + i * 9 + 5, none⟩ HBB.out).trans t5; have u6 := (hbw.out ⟨b, o + i * 9 + 6, none⟩ HBB.out).trans t6; have u7 := (hbw.out ⟨b, o + i * 9 + 7, none⟩ HBB.out).trans t7; have u8 := (hbw.out ⟨b, o + i * 9 + 8, none⟩ HBB.out).trans t8))
        go_wp2
        all_goals
          go_roundw
          case rel =>
            have hHS := HSZ.out
            have hR2 := ((HBR.out.step hb2).alloc _).grownB (own_below HOW2.out ((Below.refl _ w2).alloc (Nat.le_refl _) _)) (by omega) hgrow
            refine ⟨i + 1, some ⟨g, 0, none⟩, cap, by omega, by go_num, hX4.out.setOther ⟨by omega, by omega⟩ _, hR2.setOther ⟨by omega, by omega⟩ _, hO4.out.setJ (by omega) 8 _, Lib.hid ?_, by simp; have := hgrow.size; simp at this; omega⟩
            rw [HDN.out]
            exact CanRel.set (CanRel.step HOW.out HTS.out HAB2.out HSZ.out hb2 HTL.out hown4 hgrow hat) (by omega) _
          case measure => simp [intOf]; omega
      · have hiK : i = K := by omega
        subst hiK
        have xc := HBR.out.cell
        have xf := HBR.out.fz
        obtain ⟨g0, g1, g2, g3, g4, g5, g6, g7, g8⟩ := hbo.c9
        have HREL := hrel
        clear hrel hbx hbr hbo
        go_wp2_with fail
        refine bodyPost_ret (v := .agg #[.int .i64 H.k, .bool H.neg, .slice Ac nc cc, .string H.name, .int .i64 H.exp, .int .i64 H.rel, .bool H.truth, .bool H.all, .slice A3 i c3]) (by simp [results, Tryd.results39, go_sem, xc, xf]) rfl ?_
        obtain ⟨⟨ys, h1, h2⟩, h3⟩ := HREL.out
        rw [List.take_of_length_le (by have := HK.out; omega)] at h2
        have hln : i = (canonL ks).length := by rw [canonL_len]; exact HK.out
        have hS1 := SS.of_own h1
        have h4 : TreeAt wr (fun b => w.heap.size + 3 ≤ b ∧ b < wr.heap.size) (.mk H (canonL ks)) (hdC H (.slice Ac nc cc) (.slice A3 i c3)) := TreeAt.of (h3.more (fun b hb => ⟨hb.1, hb.2.1⟩)) HNH.out (by omega) (by rw [← hln]; exact hS1) (TrsC.more (fun b hb => ⟨hb.1, hb.2.1⟩) _ _ h2)
        refine ⟨Ac, nc, cc, A3, i, c3, rfl, TreeAt.more (fun b hb => ⟨by omega, by rw [size_set9]; exact hb.2⟩) _ _ (h4.set9 (X := w.heap.size + 1) (fun h => by have := h.1; omega) _ _ _ _ _ _ _ _ _), below_set9 hbel (Nat.le_succ _) _ _ _ _ _ _ _ _ _⟩
end Fm
end Go.Proofs.YtkjbfomokdjbnaaDoor
