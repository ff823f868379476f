/-
  cylinderref37.plus, Canon: a canonical tree, every negative number replaced.
-/
import Derived.Test.YtkjbfomokdjbnaaDoorFmC
import Derived.Test.YtkjbfomokdjbnaaDoorFmW
import Derived.Test.YtkjbfomokdjbnaaDoorFmT2
import Derived.Test.YtkjbfomokdjbnaaDoorPrG
namespace Go.Proofs.YtkjbfomokdjbnaaDoor
open Go.RowKit
set_option linter.unusedSimpArgs false
set_option linter.unusedVariables false
namespace Pl
open Fm Pr Dc
attribute [local go_sem] run_store
mutual
def plusT : Tr → Tr
  | .mk h ks => if h.k = 1 ∧ h.neg = true then .mk (hd0 6) [.mk { hd0 1 with abs := h.abs } []] else .mk h (plusL ks)
def plusL : List Tr → List Tr
  | [] => []
  | k :: ks => plusT k :: plusL ks
end
theorem plusL_map : ∀ ks, plusL ks = ks.map plusT
  | [] => by unfold plusL; rfl
  | k :: ks => by unfold plusL; rw [plusL_map ks]; rfl
theorem plus_num {h : Hd} {ks : List Tr} (hk : h.k = 1 ∧ h.neg = true) : plusT (.mk h ks) = .mk (hd0 6) [.mk { hd0 1 with abs := h.abs } []] := by
  conv => lhs; unfold plusT
  rw [if_pos hk]
theorem plus_mk {h : Hd} {ks : List Tr} (hk : ¬ (h.k = 1 ∧ h.neg = true)) : plusT (.mk h ks) = .mk h (ks.map plusT) := by
  conv => lhs; unfold plusT
  rw [if_neg hk, plusL_map]
def RnPost (S : Nat → Prop) (T : Tr) (w : World) (e : Ending) (w' : World) : Prop :=
  ∃ A1 n1 c1 A2 n2 c2, e = .returned (.agg #[.int .i64 T.h.k, .bool T.h.neg, .slice A1 n1 c1, .string T.h.name, .int .i64 T.h.exp, .int .i64 T.h.rel, .bool T.h.truth, .bool T.h.all, .slice A2 n2 c2]) ∧ TreeAt w' (fun b => S b ∨ (w.heap.size ≤ b ∧ b < w'.heap.size)) T (hdC T.h (.slice A1 n1 c1) (.slice A2 n2 c2)) ∧ Below w.heap.size w w'
abbrev FxS (S : Nat → Prop) (w : World) (vk : Value) (wr : World) : Nat → Prop := fun b => S b ∨ Fx w vk wr b
def RenRel (S : Nat → Prop) (w wr : World) (i : Nat) (done : List Tr) (vk : Value) : Prop := ∃ xs, wr.ownsRow (w.heap.size + 3) TT 9 vk i xs ∧ TrsC wr (FxS S w vk wr) done xs
theorem RenRel.set {S : Nat → Prop} {w wr : World} {i : Nat} {done : List Tr} {vk : Value} (hS : ∀ b, S b → b < w.heap.size) (h : RenRel S w wr i done vk) {X j : Nat} (hX : w.heap.size ≤ X ∧ X < w.heap.size + 3) (u : Value) : RenRel S w (wr.setCell ⟨X, j, none⟩ u) i done vk := by
  obtain ⟨xs, h1, h2⟩ := h
  have hs : (wr.setCell ⟨X, j, none⟩ u).heap.size = wr.heap.size := by simp
  refine ⟨xs, ownsRow_setCell_below h1 hX.2 u, TrsC.more (fun b hb => ?_) _ _ (h2.setCell u (fun hh => ?_))⟩
  · rcases hb with hb | hb
    · exact .inl hb
    · exact .inr ⟨hb.1, by rw [hs]; exact hb.2.1, hb.2.2⟩
  · rcases hh with hh | hh
    · have := hS X hh; omega
    · have := hh.1; omega
theorem RenRel.step {S : Nat → Prop} {w wr w2 w4 : World} {ob : Obj} {i g cap : Nat} {done : List Tr} {vk : Value} {T : Tr} {cs xs : List Value} (hS : ∀ b, S b → b < w.heap.size) (h1 : wr.ownsRow (w.heap.size + 3) TT 9 vk i xs) (h2 : TrsC wr (FxS S w vk wr) done xs) (hsz : w.heap.size + 3 ≤ wr.heap.size)
    (hb2 : Below wr.heap.size wr w2) (hT : TreeAt w2 (fun b => S b ∨ (wr.heap.size ≤ b ∧ b < w2.heap.size)) T cs) (ho : w4.ownsRow (w.heap.size + 3) TT 9 (.slice (some ⟨g, 0, none⟩) (i + 1) cap) (i + 1) (xs ++ cs)) (hg : (w2.alloc ob).grownBy w4 vk.ownBlock) (hat : vk.ownBlock = some g ∨ g = w2.heap.size + 1) :
    RenRel S w w4 (i + 1) (done ++ [T]) (.slice (some ⟨g, 0, none⟩) (i + 1) cap) := by
  have hb3 : Below wr.heap.size wr (w2.alloc ob) := hb2.alloc hb2.size ob
  have hs3 := hb3.size
  have hs2 := hb2.size
  have hsa : (w2.alloc ob).heap.size = w2.heap.size + 1 := by simp
  have hs4 := hg.size
  have hal : Below w2.heap.size w2 (w2.alloc ob) := (Below.refl _ w2).alloc (Nat.le_refl _) ob
  have hrow : ∀ k, vk.ownBlock = some k → w.heap.size + 3 ≤ k ∧ k < wr.heap.size := fun k hk => h1.lt k hk
  have hgl : w.heap.size + 3 ≤ g := by rcases hat with h | h; exact (hrow g h).1; omega
  have k1 : ∀ p : Addr, FxS S w vk wr p.block → w4.cell? p = wr.cell? p := fun p hp => by
    have hlt : p.block < wr.heap.size := by
      rcases hp with hp | hp
      · have := hS _ hp; omega
      · exact hp.2.1
    have hne : some p.block ≠ vk.ownBlock := fun e => by
      rcases hp with hp | hp
      · have := hS _ hp; have := (hrow _ e.symm).1; omega
      · exact hp.2.2 e.symm
    exact (World.cell?_of_block (hg.block p.block (by omega) hne)).trans (hb3.cell hlt)
  have m1 : ∀ b, FxS S w vk wr b → FxS S w (.slice (some ⟨g, 0, none⟩) (i + 1) cap) w4 b := fun b hb => by
    rcases hb with hb | hb
    · exact .inl hb
    · refine .inr ⟨hb.1, by have := hb.2.1; omega, fun e => ?_⟩
      have e2 : g = b := by simpa [Value.ownBlock] using e
      rcases hat with h | h
      · exact hb.2.2 (by rw [h, e2])
      · have := hb.2.1; omega
  have k2 : ∀ p : Addr, (S p.block ∨ (wr.heap.size ≤ p.block ∧ p.block < w2.heap.size)) → w4.cell? p = w2.cell? p := fun p hp => by
    have hlt : p.block < w2.heap.size := by
      rcases hp with hp | hp
      · have := hS _ hp; omega
      · exact hp.2
    have hne : some p.block ≠ vk.ownBlock := fun e => by
      have h5 := hrow _ e.symm
      rcases hp with hp | hp
      · have := hS _ hp; omega
      · omega
    exact (World.cell?_of_block (hg.block p.block (by omega) hne)).trans (hal.cell hlt)
  have m2 : ∀ b, (S b ∨ (wr.heap.size ≤ b ∧ b < w2.heap.size)) → FxS S w (.slice (some ⟨g, 0, none⟩) (i + 1) cap) w4 b := fun b hb => by
    rcases hb with hb | hb
    · exact .inl hb
    · refine .inr ⟨by omega, by omega, fun e => ?_⟩
      have e2 : g = b := by simpa [Value.ownBlock] using e
      rcases hat with h | h
      · have := hrow _ h; omega
      · omega
  exact ⟨xs ++ cs, ho, TrsC.append (TrsC.more m1 _ _ (TrsC.keep k1 _ _ h2)) (TrsC.one (TreeAt.more m2 _ _ (TreeAt.keep k2 _ _ hT)))⟩
theorem map_take_succ (g : Tr → Tr) {ks : List Tr} {i : Nat} {kd : Tr} (h : ks[i]? = some kd) : (ks.take (i + 1)).map g = (ks.take i).map g ++ [g kd] := by
  have hi := (List.getElem?_eq_some_iff.1 h).1
  have hk := (List.getElem?_eq_some_iff.1 h).2
  rw [List.take_succ_eq_append_getElem hi, hk, List.map_append]; rfl
/-- the loop is done -/
theorem ren_done {S : Nat → Prop} {w wr : World} {H : Hd} {ks : List Tr} {g : Tr → Tr} {A1 A3 : Option Addr} {n1 c1 i c3 : Nat} (hS : ∀ b, S b → b < w.heap.size) (hi : i = ks.length) (ha : AbsAt w S (.slice A1 n1 c1) H.abs) (hn : H.name.size ≤ 9223372036854775807 ∧ ks.length ≤ 9223372036854775807)
    (h : RenRel S w wr i ((ks.take i).map g) (.slice A3 i c3)) (hb : Below w.heap.size w wr) (hsz : w.heap.size + 3 ≤ wr.heap.size) {u0 u1 u2 u3 u4 u5 u6 u7 u8 : Value} :
    RnPost S (.mk H (ks.map g)) w (.returned (.agg #[.int .i64 H.k, .bool H.neg, .slice A1 n1 c1, .string H.name, .int .i64 H.exp, .int .i64 H.rel, .bool H.truth, .bool H.all, .slice A3 i c3])) (set9 wr (w.heap.size + 1) u0 u1 u2 u3 u4 u5 u6 u7 u8) := by
  obtain ⟨ys, h1, h2⟩ := h
  subst hi
  rw [List.take_length] at h2
  have hln : ks.length = (ks.map g).length := by rw [List.length_map]
  have hS1 := SS.of_own h1
  have h4 : TreeAt wr (fun b => S b ∨ (w.heap.size + 3 ≤ b ∧ b < wr.heap.size)) (.mk H (ks.map g)) (hdC H (.slice A1 n1 c1) (.slice A3 ks.length c3)) :=
    TreeAt.of ((ha.below hS hb).more (fun b hb => .inl hb)) hn.1 (by rw [← hln]; exact hn.2) (by rw [← hln]; exact hS1.more (fun b hb => .inr hb)) (TrsC.more (fun b hb => by rcases hb with h | h; exact .inl h; exact .inr ⟨h.1, h.2.1⟩) _ _ h2)
  refine ⟨A1, n1, c1, A3, ks.length, c3, rfl, TreeAt.more (fun b hb => ?_) _ _ (h4.set9 (X := w.heap.size + 1) (fun h => ?_) _ _ _ _ _ _ _ _ _), below_set9 hb (Nat.le_succ _) _ _ _ _ _ _ _ _ _⟩
  · rw [size_set9]
    rcases hb with h | h
    · exact .inl h
    · exact .inr ⟨by omega, h.2⟩
  · rcases h with h | h
    · have := hS _ h; omega
    · omega

theorem neg_tree {S : Nat → Prop} {w W : World} {v : Value} {abs : List Nat} (hS : ∀ b, S b → b < w.heap.size) (hb : Below w.heap.size w W) (hs : w.heap.size ≤ W.heap.size) (ha : AbsAt w S v abs) :
    TreeAt (W.alloc (.cells (hdC { hd0 1 with abs := abs } v (.slice none 0 0)).toArray TT)) (fun b => S b ∨ (w.heap.size ≤ b ∧ b < (W.alloc (.cells (hdC { hd0 1 with abs := abs } v (.slice none 0 0)).toArray TT)).heap.size)) (.mk (hd0 6) [.mk { hd0 1 with abs := abs } []]) (hdC (hd0 6) (.slice none 0 0) (.slice (some ⟨W.heap.size, 0, none⟩) 1 1)) := by
  have hb2 := hb.alloc hs (.cells (hdC { hd0 1 with abs := abs } v (.slice none 0 0)).toArray TT)
  have h1 : TreeAt (W.alloc (.cells (hdC { hd0 1 with abs := abs } v (.slice none 0 0)).toArray TT)) (fun b => S b ∨ (w.heap.size ≤ b ∧ b < (W.alloc (.cells (hdC { hd0 1 with abs := abs } v (.slice none 0 0)).toArray TT)).heap.size)) (.mk { hd0 1 with abs := abs } []) (hdC { hd0 1 with abs := abs } v (.slice none 0 0)) :=
    no_kids ((ha.below hS hb2).more (fun b h => .inl h)) (Nat.zero_le _)
  refine TreeAt.of (xs := hdC { hd0 1 with abs := abs } v (.slice none 0 0)) AbsAt.empty (Nat.zero_le _) (by simp) ⟨_, _, rfl, Nat.le_refl _, rfl, fun _ => ⟨W.heap.size, 0, rfl, .inr ⟨hs, by simp⟩, fun j u hj => ?_⟩⟩ (TrsC.one h1)
  rw [Nat.zero_add, cell_new]
  simpa using hj
set_option maxRecDepth 100000 in
set_option maxHeartbeats 16000000 in
theorem plus_any : ∀ (t : Tr) (cs : List Value) (S : Nat → Prop) (w : World), (∀ b, S b → b < w.heap.size) → TreeAt w S t cs → nn t ≤ 100000 → Calls Tryd.prog 38 #[.agg cs.toArray] w (RnPost S (plusT t) w) := by
  refine Tr.ind fun h ks ih => ?_
  intro cs S w hS hT hnn0
  obtain ⟨A1, n1, c1, A2, K, c2, xs, rfl, hK, hKc, hK64, hn1, hnm, hab, hks, htr⟩ := hT.mkN
  have hnn : nnL ks < 100000 := by have := hnn0; unfold nn at this; omega
  have hkl := len_nnL ks
  have hK2 : K < 100000 := by omega
  obtain ⟨i0, hi0, hz0, hz1, hz2⟩ := info_parts infoTree
  have IHp := Lib.hid ih
  have HS := Lib.hid hS
  have HK := Lib.hid hK
  have HKS := Lib.hid hks
  have HTR := Lib.hid htr
  have HNN := Lib.hid hnn
  unfold hdC
  by_cases hq : h.k = 1 ∧ h.neg = true
  · rw [plus_num hq]
    obtain ⟨k, neg, abs, name, exp, rel, truth, all⟩ := h
    obtain ⟨hq1, hq2⟩ := hq
    simp only at hq1 hq2
    subst hq1 hq2
    have HAB := Lib.hid hab
    clear hab hks htr hT hnn0 hnn ih hS hK hkl hn1 hnm
    go_enter Tryd.func38, Tryd.ntmps38
    go_wp2
    refine bodyPost_ret (v := .agg #[.int .i64 6, .bool false, .slice none 0 0, .string ⟨#[]⟩, .int .i64 0, .int .i64 0, .bool false, .bool false, .slice (some ⟨w.heap.size + 1 + 1, 0, none⟩) 1 1]) (by simp [results, Tryd.results38, go_sem]) rfl ?_
    have hb : Below w.heap.size w ((w.alloc (.cells #[.int .i64 1, .bool true, .slice A1 n1 c1, .string name, .int .i64 exp, .int .i64 rel, .bool truth, .bool all, .slice A2 K c2] TT)).alloc (.cells #[.int .i64 6, .bool false, .slice none 0 0, .string ⟨#[]⟩, .int .i64 0, .int .i64 0, .bool false, .bool false, .slice (some ⟨w.heap.size + 1 + 1, 0, none⟩) 1 1] TT)) := ((Below.refl _ w).alloc (Nat.le_refl _) _).alloc (by simp) _
    have hT := neg_tree HS.out hb (by simp; omega) HAB.out
    refine ⟨none, 0, 0, some ⟨w.heap.size + 1 + 1, 0, none⟩, 1, 1, rfl, ?_, hb.alloc (by simp; omega) _⟩
    rw [show ((w.alloc (.cells #[.int .i64 1, .bool true, .slice A1 n1 c1, .string name, .int .i64 exp, .int .i64 rel, .bool truth, .bool all, .slice A2 K c2] TT)).alloc (.cells #[.int .i64 6, .bool false, .slice none 0 0, .string ⟨#[]⟩, .int .i64 0, .int .i64 0, .bool false, .bool false, .slice (some ⟨w.heap.size + 1 + 1, 0, none⟩) 1 1] TT)).heap.size = w.heap.size + 1 + 1 by simp] at hT
    exact hT
  · rw [plus_mk hq]
    have HAB := Lib.hid hab
    have HNM := Lib.hid (show h.name.size ≤ 9223372036854775807 ∧ ks.length ≤ 9223372036854775807 from ⟨hnm, by omega⟩)
    have hcase : ((h.k == 1) = true ∧ h.neg = false) ∨ ((h.k == 1) = false ∧ True) := by
      by_cases e1 : h.k = 1
      · have e3 : ¬ h.neg = true := fun e => hq ⟨e1, e⟩
        simp [e1, e3]
      · simp [e1]
    clear hab hks htr hT hnn0 hnn ih hS hK hq hkl hn1 hnm
    rcases hcase with ⟨f1, fn⟩ | ⟨f1, -⟩
    · obtain ⟨xk, xneg, xabs, xname, xexp, xrel, xtruth, xall⟩ := h
      simp only at f1 fn
      subst fn
      simp only at HAB HNM
      go_enter Tryd.func38, Tryd.ntmps38
      go_wp2
      go_loopw [25] (fun a_ wr => ∃ (i : Nat) (A3 : Option Addr) (c3 : Nat), i ≤ K ∧ a_ = .int .i64 i ∧ Box w wr (w.heap.size) #[.int .i64 xk, .bool false, .slice A1 n1 c1, .string xname, .int .i64 xexp, .int .i64 xrel, .bool xtruth, .bool xall, .slice A2 K c2] TT ∧ Box w wr (w.heap.size + 1) #[.int .i64 0, .bool false, .slice none 0 0, .string ⟨#[]⟩, .int .i64 0, .int .i64 0, .bool false, .bool false, .slice none 0 0] TT ∧ Box w wr (w.heap.size + 1 + 1) #[.int .i64 xk, .bool false, .slice A1 n1 c1, .string xname, .int .i64 xexp, .int .i64 xrel, .bool xtruth, .bool xall, .slice A3 i c3] TT ∧ Hid (RenRel S w wr i ((ks.take i).map (plusT)) (.slice A3 i c3)) ∧ w.heap.size + 3 ≤ wr.heap.size) (fun a_ _ => K - (intOf a_).toNat)
      case atStart => exact ⟨0, none, 0, Nat.zero_le _, rfl, ((Box.new w _ _).alloc _).alloc _, (Box.second w _ _ _).alloc _, Box.third w _ _ _ _, Lib.hid ⟨[], World.ownsRow_nil _ _ _ _, TrsC.nil⟩, by simp⟩
      case round =>
        obtain ⟨i, A3, c3, hi, rfl, hbx, hbr, hbo, hrel, hsz⟩ := hrel
        have b8w : wr.cell? ⟨w.heap.size, 8, none⟩ = some (.slice A2 K c2) := hbx.cell 8
        have o8w : wr.cell? ⟨w.heap.size + 1 + 1, 8, none⟩ = some (.slice A3 i c3) := hbo.cell 8
        have HBX := Lib.hid hbx
        have HBR := Lib.hid hbr
        have HBO := Lib.hid hbo
        have HSZ := Lib.hid hsz
        have hbel := hbx.below
        by_cases hlt : i < K
        · obtain ⟨kd, b, o, B1, m1, e1, B2, m2, e2, hkd, rfl, hb, hT, k0, k1, k2, k3, k4, k5, k6, k7, k8⟩ := kid_cells (HKS.out.below HS.out hbel) (HTR.out.below HS.out hbel) HK.out i hlt
          obtain ⟨ys, hown, htrs⟩ := hrel.out
          obtain ⟨Tk, hTk⟩ : ∃ Tk, Tk = plusT kd := ⟨_, rfl⟩
          have hC : ∀ w', Below wr.heap.size wr w' → _ := fun w' hb' => IHp.out kd (mem_at hkd) _ S w' (fun b hb => Nat.lt_of_lt_of_le (HS.out b hb) (Nat.le_trans hbel.size hb'.size)) (hT.below (fun b hb => Nat.lt_of_lt_of_le (HS.out b hb) hbel.size) hb') (by have := nn_at hkd; have := HNN.out; omega)
          rw [← hTk] at hC
          have HDN := Lib.hid (show (ks.take (i + 1)).map (plusT) = (ks.take i).map (plusT) ++ [Tk] by rw [hTk, map_take_succ _ hkd])
          have HC := Lib.hid hC
          have HOW := Lib.hid hown
          have HTS := Lib.hid htrs
          have hblt : b < wr.heap.size := Nat.lt_of_lt_of_le (HS.out b hb) hbel.size
          have HBB := Lib.hid (HS.out b hb)
          have hbn1 : ¬ b = w.heap.size + 1 + 1 := by have := HS.out b hb; omega
          have hbn2 : ¬ w.heap.size + 1 + 1 = b := by have := HS.out b hb; omega
          have HD : Below wr.heap.size wr wr.drew := (Below.refl _ wr).drew
          have hstep := Lib.hid (show ∀ wn, Below wr.drew.heap.size wr.drew wn → Below wr.heap.size wr wn from fun wn h2 => HD.trans h2)
          have HSZ2 := Lib.hid hbel.size
          clear hC hown htrs hkd hb hT hTk hbx hbr hbo hsz
          go_wp2_with fail
          go_region_law (first | (go_simp; (go_at_call 38; refine (HC.out _ HD).mono ?_; rintro e w2 ⟨a1, a2, a3, a4, a5, a6, rfl, htL, hbl⟩; have hb2 := hstep.out _ hbl; have HTL := Lib.hid htL; have hbL := Lib.hid hbl; clear htL hbl; have hX2 := Lib.hid (HBX.out.step hb2); have hO2 := Lib.hid (HBO.out.step hb2); have b8' : w2.cell? ⟨w.heap.size, 8, none⟩ = some (.slice (some ⟨b, o, none⟩) K c2) := hX2.out.cell 8; have o8' : w2.cell? ⟨w.heap.size + 1 + 1, 8, none⟩ = some (.slice A3 i c3) := hO2.out.cell 8; have o8a : ∀ ob, (w2.alloc ob).cell? ⟨w.heap.size + 1 + 1, 8, none⟩ = some (.slice A3 i c3) := fun ob => (hO2.out.alloc ob).cell 8; have HOW2 := Lib.hid (own_below HOW.out hb2); have t0 := (hb2.cell (p := ⟨b, o + i * 9, none⟩) hblt).trans k0; have t1 := (hb2.cell (p := ⟨b, o + i * 9 + 1, none⟩) hblt).trans k1; have t2 := (hb2.cell (p := ⟨b, o + i * 9 + 2, none⟩) hblt).trans k2; have t3 := (hb2.cell (p := ⟨b, o + i * 9 + 3, none⟩) hblt).trans k3; have t4 := (hb2.cell (p := ⟨b, o + i * 9 + 4, none⟩) hblt).trans k4; have t5 := (hb2.cell (p := ⟨b, o + i * 9 + 5, none⟩) hblt).trans k5; have t6 := (hb2.cell (p := ⟨b, o + i * 9 + 6, none⟩) hblt).trans k6; have t7 := (hb2.cell (p := ⟨b, o + i * 9 + 7, none⟩) hblt).trans k7; have t8 := (hb2.cell (p := ⟨b, o + i * 9 + 8, none⟩) hblt).trans k8; have hs2 := hb2.size; have HSZ3 := Lib.hid (Nat.le_trans HSZ2.out hb2.size))) | (refine step_append_two _ (by rfl) _ _ 27 27 (by rfl) (w.heap.size + 3) TT i0 _ 9 104 Tryd.underlying27 Tryd.underlying27 hi0 hz0 hz1 hz2 rfl (by decide) _ i ys (by rfl) (own_below HOW2.out ((Below.refl _ w2).alloc (Nat.le_refl _) _)) ⟨w2.heap.size, 0, none⟩ 1 1 (hdC Tk.h (.slice a1 a2 a3) (.slice a4 a5 a6)) (by rfl) (by rfl) (cells_new w2 _ TT _ rfl) (oneC_hdC Tk.h _ _ _ _ _ _) (by omega) (by unfold maxLen; omega) (by omega) (by have := HSZ.out; simp; omega) (w2.heap.size + 1) (by simp) ?_; intro g cap w4 hown4 hgrow hat hlt4; have hX4 := Lib.hid ((hX2.out.alloc _).grownB (own_below HOW2.out ((Below.refl _ w2).alloc (Nat.le_refl _) _)) (by omega) hgrow); have hO4 := Lib.hid ((hO2.out.alloc _).grownB (own_below HOW2.out ((Below.refl _ w2).alloc (Nat.le_refl _) _)) (by omega) hgrow); have b8'' : w4.cell? ⟨w.heap.size, 8, none⟩ = some (.slice (some ⟨b, o, none⟩) K c2) := hX4.out.cell 8; have o8'' : w4.cell? ⟨w.heap.size + 1 + 1, 8, none⟩ = some (.slice A3 i c3) := hO4.out.cell 8; have of'' := hO4.out.fz; have v8 : ∀ u, (w4.setCell ⟨w.heap.size + 1 + 1, 8, none⟩ u).cell? ⟨w.heap.size, 8, none⟩ = some (.slice (some ⟨b, o, none⟩) K c2) := (fun u => (World.cell?_setCell_other _ _ _ u (fun e => by injection e with e; omega)).trans b8''); have hbw := Lib.hid (kept_of HOW2.out hgrow HSZ3.out); have u0 := (hbw.out ⟨b, o + i * 9, none⟩ HBB.out).trans t0; have u1 := (hbw.out ⟨b, o + i * 9 + 1, none⟩ HBB.out).trans t1; have u2 := (hbw.out ⟨b, o + i * 9 + 2, none⟩ HBB.out).trans t2; have u3 := (hbw.out ⟨b, o + i * 9 + 3, none⟩ HBB.out).trans t3; have u4 := (hbw.out ⟨b, o + i * 9 + 4, none⟩ HBB.out).trans t4; have u5 := (hbw.out ⟨b, o + i * 9 + 5, none⟩ HBB.out).trans t5; have u6 := (hbw.out ⟨b, o + i * 9 + 6, none⟩ HBB.out).trans t6; have u7 := (hbw.out ⟨b, o + i * 9 + 7, none⟩ HBB.out).trans t7; have u8 := (hbw.out ⟨b, o + i * 9 + 8, none⟩ HBB.out).trans t8))
          go_wp2
          all_goals
            go_roundw
            case rel =>
              have hHS := HSZ.out
              have hR2 := ((HBR.out.step hb2).alloc _).grownB (own_below HOW2.out ((Below.refl _ w2).alloc (Nat.le_refl _) _)) (by omega) hgrow
              refine ⟨i + 1, some ⟨g, 0, none⟩, cap, by omega, by go_num, hX4.out.setOther ⟨by omega, by omega⟩ _, hR2.setOther ⟨by omega, by omega⟩ _, hO4.out.setJ (by omega) 8 _, Lib.hid ?_, by simp; have := hgrow.size; simp at this; omega⟩
              rw [HDN.out]
              exact RenRel.set HS.out (RenRel.step HS.out HOW.out HTS.out HSZ.out hb2 HTL.out hown4 hgrow hat) ⟨by omega, by omega⟩ _
            case measure => simp [intOf]; omega
        · have hiK : i = K := by omega
          subst hiK
          have xc := HBR.out.cell
          have xf := HBR.out.fz
          obtain ⟨g0, g1, g2, g3, g4, g5, g6, g7, g8⟩ := hbo.c9
          have HREL := hrel
          clear hrel hbx hbr hbo
          go_wp2_with fail
          refine bodyPost_ret (v := .agg #[.int .i64 xk, .bool false, .slice A1 n1 c1, .string xname, .int .i64 xexp, .int .i64 xrel, .bool xtruth, .bool xall, .slice A3 i c3]) (by simp [results, Tryd.results38, go_sem, xc, xf]) rfl ?_
          exact ren_done (H := ⟨xk, false, xabs, xname, xexp, xrel, xtruth, xall⟩) HS.out (by have := HK.out; omega) HAB.out HNM.out HREL.out hbel hsz
    · go_enter Tryd.func38, Tryd.ntmps38
      go_wp2
      go_loopw [25] (fun a_ wr => ∃ (i : Nat) (A3 : Option Addr) (c3 : Nat), i ≤ K ∧ a_ = .int .i64 i ∧ Box w wr (w.heap.size) #[.int .i64 h.k, .bool h.neg, .slice A1 n1 c1, .string h.name, .int .i64 h.exp, .int .i64 h.rel, .bool h.truth, .bool h.all, .slice A2 K c2] TT ∧ Box w wr (w.heap.size + 1) #[.int .i64 0, .bool false, .slice none 0 0, .string ⟨#[]⟩, .int .i64 0, .int .i64 0, .bool false, .bool false, .slice none 0 0] TT ∧ Box w wr (w.heap.size + 1 + 1) #[.int .i64 h.k, .bool h.neg, .slice A1 n1 c1, .string h.name, .int .i64 h.exp, .int .i64 h.rel, .bool h.truth, .bool h.all, .slice A3 i c3] TT ∧ Hid (RenRel S w wr i ((ks.take i).map (plusT)) (.slice A3 i c3)) ∧ w.heap.size + 3 ≤ wr.heap.size) (fun a_ _ => K - (intOf a_).toNat)
      case atStart => exact ⟨0, none, 0, Nat.zero_le _, rfl, ((Box.new w _ _).alloc _).alloc _, (Box.second w _ _ _).alloc _, Box.third w _ _ _ _, Lib.hid ⟨[], World.ownsRow_nil _ _ _ _, TrsC.nil⟩, by simp⟩
      case round =>
        obtain ⟨i, A3, c3, hi, rfl, hbx, hbr, hbo, hrel, hsz⟩ := hrel
        have b8w : wr.cell? ⟨w.heap.size, 8, none⟩ = some (.slice A2 K c2) := hbx.cell 8
        have o8w : wr.cell? ⟨w.heap.size + 1 + 1, 8, none⟩ = some (.slice A3 i c3) := hbo.cell 8
        have HBX := Lib.hid hbx
        have HBR := Lib.hid hbr
        have HBO := Lib.hid hbo
        have HSZ := Lib.hid hsz
        have hbel := hbx.below
        by_cases hlt : i < K
        · obtain ⟨kd, b, o, B1, m1, e1, B2, m2, e2, hkd, rfl, hb, hT, k0, k1, k2, k3, k4, k5, k6, k7, k8⟩ := kid_cells (HKS.out.below HS.out hbel) (HTR.out.below HS.out hbel) HK.out i hlt
          obtain ⟨ys, hown, htrs⟩ := hrel.out
          obtain ⟨Tk, hTk⟩ : ∃ Tk, Tk = plusT kd := ⟨_, rfl⟩
          have hC : ∀ w', Below wr.heap.size wr w' → _ := fun w' hb' => IHp.out kd (mem_at hkd) _ S w' (fun b hb => Nat.lt_of_lt_of_le (HS.out b hb) (Nat.le_trans hbel.size hb'.size)) (hT.below (fun b hb => Nat.lt_of_lt_of_le (HS.out b hb) hbel.size) hb') (by have := nn_at hkd; have := HNN.out; omega)
          rw [← hTk] at hC
          have HDN := Lib.hid (show (ks.take (i + 1)).map (plusT) = (ks.take i).map (plusT) ++ [Tk] by rw [hTk, map_take_succ _ hkd])
          have HC := Lib.hid hC
          have HOW := Lib.hid hown
          have HTS := Lib.hid htrs
          have hblt : b < wr.heap.size := Nat.lt_of_lt_of_le (HS.out b hb) hbel.size
          have HBB := Lib.hid (HS.out b hb)
          have hbn1 : ¬ b = w.heap.size + 1 + 1 := by have := HS.out b hb; omega
          have hbn2 : ¬ w.heap.size + 1 + 1 = b := by have := HS.out b hb; omega
          have HD : Below wr.heap.size wr wr.drew := (Below.refl _ wr).drew
          have hstep := Lib.hid (show ∀ wn, Below wr.drew.heap.size wr.drew wn → Below wr.heap.size wr wn from fun wn h2 => HD.trans h2)
          have HSZ2 := Lib.hid hbel.size
          clear hC hown htrs hkd hb hT hTk hbx hbr hbo hsz
          go_wp2_with fail
          go_region_law (first | (go_simp; (go_at_call 38; refine (HC.out _ HD).mono ?_; rintro e w2 ⟨a1, a2, a3, a4, a5, a6, rfl, htL, hbl⟩; have hb2 := hstep.out _ hbl; have HTL := Lib.hid htL; have hbL := Lib.hid hbl; clear htL hbl; have hX2 := Lib.hid (HBX.out.step hb2); have hO2 := Lib.hid (HBO.out.step hb2); have b8' : w2.cell? ⟨w.heap.size, 8, none⟩ = some (.slice (some ⟨b, o, none⟩) K c2) := hX2.out.cell 8; have o8' : w2.cell? ⟨w.heap.size + 1 + 1, 8, none⟩ = some (.slice A3 i c3) := hO2.out.cell 8; have o8a : ∀ ob, (w2.alloc ob).cell? ⟨w.heap.size + 1 + 1, 8, none⟩ = some (.slice A3 i c3) := fun ob => (hO2.out.alloc ob).cell 8; have HOW2 := Lib.hid (own_below HOW.out hb2); have t0 := (hb2.cell (p := ⟨b, o + i * 9, none⟩) hblt).trans k0; have t1 := (hb2.cell (p := ⟨b, o + i * 9 + 1, none⟩) hblt).trans k1; have t2 := (hb2.cell (p := ⟨b, o + i * 9 + 2, none⟩) hblt).trans k2; have t3 := (hb2.cell (p := ⟨b, o + i * 9 + 3, none⟩) hblt).trans k3; have t4 := (hb2.cell (p := ⟨b, o + i * 9 + 4, none⟩) hblt).trans k4; have t5 := (hb2.cell (p := ⟨b, o + i * 9 + 5, none⟩) hblt).trans k5; have t6 := (hb2.cell (p := ⟨b, o + i * 9 + 6, none⟩) hblt).trans k6; have t7 := (hb2.cell (p := ⟨b, o + i * 9 + 7, none⟩) hblt).trans k7; have t8 := (hb2.cell (p := ⟨b, o + i * 9 + 8, none⟩) hblt).trans k8; have hs2 := hb2.size; have HSZ3 := Lib.hid (Nat.le_trans HSZ2.out hb2.size))) | (refine step_append_two _ (by rfl) _ _ 27 27 (by rfl) (w.heap.size + 3) TT i0 _ 9 104 Tryd.underlying27 Tryd.underlying27 hi0 hz0 hz1 hz2 rfl (by decide) _ i ys (by rfl) (own_below HOW2.out ((Below.refl _ w2).alloc (Nat.le_refl _) _)) ⟨w2.heap.size, 0, none⟩ 1 1 (hdC Tk.h (.slice a1 a2 a3) (.slice a4 a5 a6)) (by rfl) (by rfl) (cells_new w2 _ TT _ rfl) (oneC_hdC Tk.h _ _ _ _ _ _) (by omega) (by unfold maxLen; omega) (by omega) (by have := HSZ.out; simp; omega) (w2.heap.size + 1) (by simp) ?_; intro g cap w4 hown4 hgrow hat hlt4; have hX4 := Lib.hid ((hX2.out.alloc _).grownB (own_below HOW2.out ((Below.refl _ w2).alloc (Nat.le_refl _) _)) (by omega) hgrow); have hO4 := Lib.hid ((hO2.out.alloc _).grownB (own_below HOW2.out ((Below.refl _ w2).alloc (Nat.le_refl _) _)) (by omega) hgrow); have b8'' : w4.cell? ⟨w.heap.size, 8, none⟩ = some (.slice (some ⟨b, o, none⟩) K c2) := hX4.out.cell 8; have o8'' : w4.cell? ⟨w.heap.size + 1 + 1, 8, none⟩ = some (.slice A3 i c3) := hO4.out.cell 8; have of'' := hO4.out.fz; have v8 : ∀ u, (w4.setCell ⟨w.heap.size + 1 + 1, 8, none⟩ u).cell? ⟨w.heap.size, 8, none⟩ = some (.slice (some ⟨b, o, none⟩) K c2) := (fun u => (World.cell?_setCell_other _ _ _ u (fun e => by injection e with e; omega)).trans b8''); have hbw := Lib.hid (kept_of HOW2.out hgrow HSZ3.out); have u0 := (hbw.out ⟨b, o + i * 9, none⟩ HBB.out).trans t0; have u1 := (hbw.out ⟨b, o + i * 9 + 1, none⟩ HBB.out).trans t1; have u2 := (hbw.out ⟨b, o + i * 9 + 2, none⟩ HBB.out).trans t2; have u3 := (hbw.out ⟨b, o + i * 9 + 3, none⟩ HBB.out).trans t3; have u4 := (hbw.out ⟨b, o + i * 9 + 4, none⟩ HBB.out).trans t4; have u5 := (hbw.out ⟨b, o + i * 9 + 5, none⟩ HBB.out).trans t5; have u6 := (hbw.out ⟨b, o + i * 9 + 6, none⟩ HBB.out).trans t6; have u7 := (hbw.out ⟨b, o + i * 9 + 7, none⟩ HBB.out).trans t7; have u8 := (hbw.out ⟨b, o + i * 9 + 8, none⟩ HBB.out).trans t8))
          go_wp2
          all_goals
            go_roundw
            case rel =>
              have hHS := HSZ.out
              have hR2 := ((HBR.out.step hb2).alloc _).grownB (own_below HOW2.out ((Below.refl _ w2).alloc (Nat.le_refl _) _)) (by omega) hgrow
              refine ⟨i + 1, some ⟨g, 0, none⟩, cap, by omega, by go_num, hX4.out.setOther ⟨by omega, by omega⟩ _, hR2.setOther ⟨by omega, by omega⟩ _, hO4.out.setJ (by omega) 8 _, Lib.hid ?_, by simp; have := hgrow.size; simp at this; omega⟩
              rw [HDN.out]
              exact RenRel.set HS.out (RenRel.step HS.out HOW.out HTS.out HSZ.out hb2 HTL.out hown4 hgrow hat) ⟨by omega, by omega⟩ _
            case measure => simp [intOf]; omega
        · have hiK : i = K := by omega
          subst hiK
          have xc := HBR.out.cell
          have xf := HBR.out.fz
          obtain ⟨g0, g1, g2, g3, g4, g5, g6, g7, g8⟩ := hbo.c9
          have HREL := hrel
          clear hrel hbx hbr hbo
          go_wp2_with fail
          refine bodyPost_ret (v := .agg #[.int .i64 h.k, .bool h.neg, .slice A1 n1 c1, .string h.name, .int .i64 h.exp, .int .i64 h.rel, .bool h.truth, .bool h.all, .slice A3 i c3]) (by simp [results, Tryd.results38, go_sem, xc, xf]) rfl ?_
          exact ren_done (H := h) HS.out (by have := HK.out; omega) HAB.out HNM.out HREL.out hbel hsz
end Pl
end Go.Proofs.YtkjbfomokdjbnaaDoor
