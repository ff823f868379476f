/-
  The reference's renamed: the renamed tree, in old memory and new.
-/
import Derived.Test.YtjbgdaojhdobkaaRnP
namespace Go.Proofs.Ytjbgdaojhdobkaa
open Go.RowKit
set_option linter.unusedSimpArgs false
set_option linter.unusedVariables false
namespace Rn
open Fm
attribute [local go_sem] run_store
theorem map_take_succ (g : Tr → Tr) {ks : List Tr} {i : Nat} {kd : Tr} (h : ks[i]? = some kd) : (ks.take (i + 1)).map g = (ks.take i).map g ++ [g kd] := by
  have hi := (List.getElem?_eq_some_iff.1 h).1
  have hk := (List.getElem?_eq_some_iff.1 h).2
  rw [List.take_succ_eq_append_getElem hi, hk, List.map_append]; rfl
/-- the loop is done -/
theorem ren_done {S : Nat → Prop} {w wr : World} {H : Hd} {ks : List Tr} {g : Tr → Tr} {A1 A3 : Option Addr} {n1 c1 i c3 : Nat} (hS : ∀ b, S b → b < w.heap.size) (hi : i = ks.length) (ha : AbsAt w S (.slice A1 n1 c1) H.abs) (hn : H.name.size ≤ 9223372036854775807 ∧ ks.length ≤ 9223372036854775807)
    (h : RenRel S w wr i ((ks.take i).map g) (.slice A3 i c3)) (hb : Below w.heap.size w wr) (hsz : w.heap.size + 3 ≤ wr.heap.size) {u0 u1 u2 u3 u4 u5 u6 u7 u8 : Value} :
    RnPost S (.mk H (ks.map g)) w (.returned (.agg #[.int .i64 H.k, .bool H.neg, .slice A1 n1 c1, .string H.name, .int .i64 H.exp, .int .i64 H.rel, .bool H.truth, .bool H.all, .slice A3 i c3])) (set9 wr (w.heap.size + 1) u0 u1 u2 u3 u4 u5 u6 u7 u8) := by
  obtain ⟨ys, h1, h2⟩ := h
  subst hi
  rw [List.take_length] at h2
  have hln : ks.length = (ks.map g).length := by rw [List.length_map]
  have hS1 := SS.of_own h1
  have h4 : TreeAt wr (fun b => S b ∨ (w.heap.size + 3 ≤ b ∧ b < wr.heap.size)) (.mk H (ks.map g)) (hdC H (.slice A1 n1 c1) (.slice A3 ks.length c3)) :=
    TreeAt.of ((ha.below hS hb).more (fun b hb => .inl hb)) hn.1 (by rw [← hln]; exact hn.2) (by rw [← hln]; exact hS1.more (fun b hb => .inr hb)) (TrsC.more (fun b hb => by rcases hb with h | h; exact .inl h; exact .inr ⟨h.1, h.2.1⟩) _ _ h2)
  refine ⟨A1, n1, c1, A3, ks.length, c3, rfl, TreeAt.more (fun b hb => ?_) _ _ (h4.set9 (X := w.heap.size + 1) (fun h => ?_) _ _ _ _ _ _ _ _ _), below_set9 hb (Nat.le_succ _) _ _ _ _ _ _ _ _ _⟩
  · rw [size_set9]
    rcases hb with h | h
    · exact .inl h
    · exact .inr ⟨by omega, h.2⟩
  · rcases h with h | h
    · have := hS _ h; omega
    · omega

set_option maxRecDepth 100000 in
set_option maxHeartbeats 16000000 in
theorem ren_any (fr to_ : ByteArray) (hto : to_.size ≤ 9223372036854775807) : ∀ (t : Tr) (cs : List Value) (S : Nat → Prop) (w : World), (∀ b, S b → b < w.heap.size) → TreeAt w S t cs → nn t ≤ 100000 → Calls Try.prog 83 #[.agg cs.toArray, .string fr, .string to_] w (RnPost S (renT fr to_ t) w) := by
  refine Tr.ind fun h ks ih => ?_
  intro cs S w hS hT hnn0
  by_cases hq : h.k = 15 ∧ h.name = fr
  · exact ren_ret fr to_ h ks hq.1 hq.2 cs S w hS hT
  obtain ⟨A1, n1, c1, A2, K, c2, xs, rfl, hK, hKc, hK64, hn1, hnm, hab, hks, htr⟩ := hT.mkN
  have hnn : nnL ks < 100000 := by have := hnn0; unfold nn at this; omega
  have hkl := len_nnL ks
  have hK2 : K < 100000 := by omega
  obtain ⟨i0, hi0, hz0, hz1, hz2⟩ := info_parts infoTree
  have IH := Lib.hid ih
  have HS := Lib.hid hS
  have HK := Lib.hid hK
  have HKS := Lib.hid hks
  have HTR := Lib.hid htr
  have HNN := Lib.hid hnn
  unfold hdC
  by_cases h2 : h.k = 2 ∧ h.name = fr
  · have e : renT fr to_ (.mk h ks) = .mk { h with name := to_ } (ks.map (renT fr to_)) := by rw [renT_mk, if_neg hq, if_pos h2]
    rw [e]
    have f15 : (h.k == 15) = false := by simpa using (show ¬ h.k = 15 by omega)
    have f2 : (h.k == 2) = true := by simpa using h2.1
    have nf : (h.name.toList == fr.toList) = true := by rw [h2.2]; simp
    have HAB : Hid (AbsAt w S (.slice A1 n1 c1) { h with name := to_ }.abs) := Lib.hid hab
    have HNM : Hid ({ h with name := to_ }.name.size ≤ 9223372036854775807 ∧ ks.length ≤ 9223372036854775807) := Lib.hid ⟨hto, by omega⟩
    clear hab hks htr hT hnn0 hnn ih hS hK hq h2 e hkl hn1 hnm
    go_enter Try.func83, Try.ntmps83
    go_wp2
    go_loopw [35] (fun a_ wr => ∃ (i : Nat) (A3 : Option Addr) (c3 : Nat), i ≤ K ∧ a_ = .int .i64 i ∧ Box w wr (w.heap.size) #[.int .i64 h.k, .bool h.neg, .slice A1 n1 c1, .string h.name, .int .i64 h.exp, .int .i64 h.rel, .bool h.truth, .bool h.all, .slice A2 K c2] TT ∧ Box w wr (w.heap.size + 1) #[.int .i64 0, .bool false, .slice none 0 0, .string ⟨#[]⟩, .int .i64 0, .int .i64 0, .bool false, .bool false, .slice none 0 0] TT ∧ Box w wr (w.heap.size + 1 + 1) #[.int .i64 h.k, .bool h.neg, .slice A1 n1 c1, .string to_, .int .i64 h.exp, .int .i64 h.rel, .bool h.truth, .bool h.all, .slice A3 i c3] TT ∧ Hid (RenRel S w wr i ((ks.take i).map (renT fr to_)) (.slice A3 i c3)) ∧ w.heap.size + 3 ≤ wr.heap.size) (fun a_ _ => K - (intOf a_).toNat)
    case atStart => exact ⟨0, none, 0, Nat.zero_le _, rfl, ((Box.new w _ _).alloc _).alloc _, (Box.second w _ _ _).alloc _, Box.third w _ _ _ _, Lib.hid ⟨[], World.ownsRow_nil _ _ _ _, TrsC.nil⟩, by simp⟩
    case round =>
      obtain ⟨i, A3, c3, hi, rfl, hbx, hbr, hbo, hrel, hsz⟩ := hrel
      have b8w : wr.cell? ⟨w.heap.size, 8, none⟩ = some (.slice A2 K c2) := hbx.cell 8
      have o8w : wr.cell? ⟨w.heap.size + 1 + 1, 8, none⟩ = some (.slice A3 i c3) := hbo.cell 8
      have HBX := Lib.hid hbx
      have HBR := Lib.hid hbr
      have HBO := Lib.hid hbo
      have HSZ := Lib.hid hsz
      have hbel := hbx.below
      by_cases hlt : i < K
      · obtain ⟨kd, b, o, B1, m1, e1, B2, m2, e2, hkd, rfl, hb, hT, k0, k1, k2, k3, k4, k5, k6, k7, k8⟩ := kid_cells (HKS.out.below HS.out hbel) (HTR.out.below HS.out hbel) HK.out i hlt
        obtain ⟨ys, hown, htrs⟩ := hrel.out
        obtain ⟨Tk, hTk⟩ : ∃ Tk, Tk = renT fr to_ kd := ⟨_, rfl⟩
        have hC : ∀ w', Below wr.heap.size wr w' → _ := fun w' hb' => IH.out kd (mem_at hkd) _ S w' (fun b hb => Nat.lt_of_lt_of_le (HS.out b hb) (Nat.le_trans hbel.size hb'.size)) (hT.below (fun b hb => Nat.lt_of_lt_of_le (HS.out b hb) hbel.size) hb') (by have := nn_at hkd; have := HNN.out; omega)
        rw [← hTk] at hC
        have HDN := Lib.hid (show (ks.take (i + 1)).map (renT fr to_) = (ks.take i).map (renT fr to_) ++ [Tk] by rw [hTk, map_take_succ _ hkd])
        have HC := Lib.hid hC
        have HOW := Lib.hid hown
        have HTS := Lib.hid htrs
        have hblt : b < wr.heap.size := Nat.lt_of_lt_of_le (HS.out b hb) hbel.size
        have HBB := Lib.hid (HS.out b hb)
        have hbn1 : ¬ b = w.heap.size + 1 + 1 := by have := HS.out b hb; omega
        have hbn2 : ¬ w.heap.size + 1 + 1 = b := by have := HS.out b hb; omega
        have HD : Below wr.heap.size wr wr.drew := (Below.refl _ wr).drew
        have hstep := Lib.hid (show ∀ wn, Below wr.drew.heap.size wr.drew wn → Below wr.heap.size wr wn from fun wn h2 => HD.trans h2)
        have HSZ2 := Lib.hid hbel.size
        clear hC hown htrs hkd hb hT hTk hbx hbr hbo hsz
        go_wp2_with fail
        go_region_law (first | (go_simp; (go_at_call 83; refine (HC.out _ HD).mono ?_; rintro e w2 ⟨a1, a2, a3, a4, a5, a6, rfl, htL, hbl⟩; have hb2 := hstep.out _ hbl; have HTL := Lib.hid htL; have hbL := Lib.hid hbl; clear htL hbl; have hX2 := Lib.hid (HBX.out.step hb2); have hO2 := Lib.hid (HBO.out.step hb2); have b8' : w2.cell? ⟨w.heap.size, 8, none⟩ = some (.slice (some ⟨b, o, none⟩) K c2) := hX2.out.cell 8; have o8' : w2.cell? ⟨w.heap.size + 1 + 1, 8, none⟩ = some (.slice A3 i c3) := hO2.out.cell 8; have o8a : ∀ ob, (w2.alloc ob).cell? ⟨w.heap.size + 1 + 1, 8, none⟩ = some (.slice A3 i c3) := fun ob => (hO2.out.alloc ob).cell 8; have HOW2 := Lib.hid (own_below HOW.out hb2); have t0 := (hb2.cell (p := ⟨b, o + i * 9, none⟩) hblt).trans k0; have t1 := (hb2.cell (p := ⟨b, o + i * 9 + 1, none⟩) hblt).trans k1; have t2 := (hb2.cell (p := ⟨b, o + i * 9 + 2, none⟩) hblt).trans k2; have t3 := (hb2.cell (p := ⟨b, o + i * 9 + 3, none⟩) hblt).trans k3; have t4 := (hb2.cell (p := ⟨b, o + i * 9 + 4, none⟩) hblt).trans k4; have t5 := (hb2.cell (p := ⟨b, o + i * 9 + 5, none⟩) hblt).trans k5; have t6 := (hb2.cell (p := ⟨b, o + i * 9 + 6, none⟩) hblt).trans k6; have t7 := (hb2.cell (p := ⟨b, o + i * 9 + 7, none⟩) hblt).trans k7; have t8 := (hb2.cell (p := ⟨b, o + i * 9 + 8, none⟩) hblt).trans k8; have hs2 := hb2.size; have HSZ3 := Lib.hid (Nat.le_trans HSZ2.out hb2.size))) | (refine step_append_two _ (by rfl) _ _ 27 27 (by rfl) (w.heap.size + 3) TT i0 _ 9 104 Try.underlying27 Try.underlying27 hi0 hz0 hz1 hz2 rfl (by decide) _ i ys (by rfl) (own_below HOW2.out ((Below.refl _ w2).alloc (Nat.le_refl _) _)) ⟨w2.heap.size, 0, none⟩ 1 1 (hdC Tk.h (.slice a1 a2 a3) (.slice a4 a5 a6)) (by rfl) (by rfl) (cells_new w2 _ TT _ rfl) (oneC_hdC Tk.h _ _ _ _ _ _) (by omega) (by unfold maxLen; omega) (by omega) (by have := HSZ.out; simp; omega) (w2.heap.size + 1) (by simp) ?_; intro g cap w4 hown4 hgrow hat hlt4; have hX4 := Lib.hid ((hX2.out.alloc _).grownB (own_below HOW2.out ((Below.refl _ w2).alloc (Nat.le_refl _) _)) (by omega) hgrow); have hO4 := Lib.hid ((hO2.out.alloc _).grownB (own_below HOW2.out ((Below.refl _ w2).alloc (Nat.le_refl _) _)) (by omega) hgrow); have b8'' : w4.cell? ⟨w.heap.size, 8, none⟩ = some (.slice (some ⟨b, o, none⟩) K c2) := hX4.out.cell 8; have o8'' : w4.cell? ⟨w.heap.size + 1 + 1, 8, none⟩ = some (.slice A3 i c3) := hO4.out.cell 8; have of'' := hO4.out.fz; have v8 : ∀ u, (w4.setCell ⟨w.heap.size + 1 + 1, 8, none⟩ u).cell? ⟨w.heap.size, 8, none⟩ = some (.slice (some ⟨b, o, none⟩) K c2) := (fun u => (World.cell?_setCell_other _ _ _ u (fun e => by injection e with e; omega)).trans b8''); have hbw := Lib.hid (kept_of HOW2.out hgrow HSZ3.out); have u0 := (hbw.out ⟨b, o + i * 9, none⟩ HBB.out).trans t0; have u1 := (hbw.out ⟨b, o + i * 9 + 1, none⟩ HBB.out).trans t1; have u2 := (hbw.out ⟨b, o + i * 9 + 2, none⟩ HBB.out).trans t2; have u3 := (hbw.out ⟨b, o + i * 9 + 3, none⟩ HBB.out).trans t3; have u4 := (hbw.out ⟨b, o + i * 9 + 4, none⟩ HBB.out).trans t4; have u5 := (hbw.out ⟨b, o + i * 9 + 5, none⟩ HBB.out).trans t5; have u6 := (hbw.out ⟨b, o + i * 9 + 6, none⟩ HBB.out).trans t6; have u7 := (hbw.out ⟨b, o + i * 9 + 7, none⟩ HBB.out).trans t7; have u8 := (hbw.out ⟨b, o + i * 9 + 8, none⟩ HBB.out).trans t8))
        go_wp2
        all_goals
          go_roundw
          case rel =>
            have hHS := HSZ.out
            have hR2 := ((HBR.out.step hb2).alloc _).grownB (own_below HOW2.out ((Below.refl _ w2).alloc (Nat.le_refl _) _)) (by omega) hgrow
            refine ⟨i + 1, some ⟨g, 0, none⟩, cap, by omega, by go_num, hX4.out.setOther ⟨by omega, by omega⟩ _, hR2.setOther ⟨by omega, by omega⟩ _, hO4.out.setJ (by omega) 8 _, Lib.hid ?_, by simp; have := hgrow.size; simp at this; omega⟩
            rw [HDN.out]
            exact RenRel.set HS.out (RenRel.step HS.out HOW.out HTS.out HSZ.out hb2 HTL.out hown4 hgrow hat) ⟨by omega, by omega⟩ _
          case measure => simp [intOf]; omega
      · have hiK : i = K := by omega
        subst hiK
        have xc := HBR.out.cell
        have xf := HBR.out.fz
        obtain ⟨g0, g1, g2, g3, g4, g5, g6, g7, g8⟩ := hbo.c9
        have HREL := hrel
        clear hrel hbx hbr hbo
        go_wp2_with fail
        refine bodyPost_ret (v := .agg #[.int .i64 h.k, .bool h.neg, .slice A1 n1 c1, .string to_, .int .i64 h.exp, .int .i64 h.rel, .bool h.truth, .bool h.all, .slice A3 i c3]) (by simp [results, Try.results83, go_sem, xc, xf]) rfl ?_
        exact ren_done (H := { h with name := to_ }) HS.out (by have := HK.out; omega) HAB.out HNM.out HREL.out hbel hsz
  · have e : renT fr to_ (.mk h ks) = .mk h (ks.map (renT fr to_)) := by rw [renT_mk, if_neg hq, if_neg h2]
    rw [e]
    have HAB := Lib.hid hab
    have HNM := Lib.hid (show h.name.size ≤ 9223372036854775807 ∧ ks.length ≤ 9223372036854775807 from ⟨hnm, by omega⟩)
    have hcase : ((h.k == 15) = true ∧ (h.k == 2) = false ∧ (h.name.toList == fr.toList) = false) ∨ ((h.k == 15) = false ∧ (h.k == 2) = true ∧ (h.name.toList == fr.toList) = false) ∨ ((h.k == 15) = false ∧ (h.k == 2) = false ∧ True) := by
      have nm : (h.name.toList == fr.toList) = decide (h.name = fr) := name_eq h.name fr
      rw [nm]
      by_cases e1 : h.k = 15
      · have e3 : ¬ h.name = fr := fun e => hq ⟨e1, e⟩
        simp [e1, e3]
      · by_cases e2 : h.k = 2
        · have e3 : ¬ h.name = fr := fun e => h2 ⟨e2, e⟩
          simp [e2, e3]
        · simp [e1, e2]
    clear hab hks htr hT hnn0 hnn ih hS hK hq h2 e hkl hn1 hnm
    rcases hcase with ⟨f15, f2, nf⟩ | ⟨f15, f2, nf⟩ | ⟨f15, f2, -⟩
    all_goals
      go_enter Try.func83, Try.ntmps83
      go_wp2
      go_loopw [35] (fun a_ wr => ∃ (i : Nat) (A3 : Option Addr) (c3 : Nat), i ≤ K ∧ a_ = .int .i64 i ∧ Box w wr (w.heap.size) #[.int .i64 h.k, .bool h.neg, .slice A1 n1 c1, .string h.name, .int .i64 h.exp, .int .i64 h.rel, .bool h.truth, .bool h.all, .slice A2 K c2] TT ∧ Box w wr (w.heap.size + 1) #[.int .i64 0, .bool false, .slice none 0 0, .string ⟨#[]⟩, .int .i64 0, .int .i64 0, .bool false, .bool false, .slice none 0 0] TT ∧ Box w wr (w.heap.size + 1 + 1) #[.int .i64 h.k, .bool h.neg, .slice A1 n1 c1, .string h.name, .int .i64 h.exp, .int .i64 h.rel, .bool h.truth, .bool h.all, .slice A3 i c3] TT ∧ Hid (RenRel S w wr i ((ks.take i).map (renT fr to_)) (.slice A3 i c3)) ∧ w.heap.size + 3 ≤ wr.heap.size) (fun a_ _ => K - (intOf a_).toNat)
      case atStart => exact ⟨0, none, 0, Nat.zero_le _, rfl, ((Box.new w _ _).alloc _).alloc _, (Box.second w _ _ _).alloc _, Box.third w _ _ _ _, Lib.hid ⟨[], World.ownsRow_nil _ _ _ _, TrsC.nil⟩, by simp⟩
      case round =>
        obtain ⟨i, A3, c3, hi, rfl, hbx, hbr, hbo, hrel, hsz⟩ := hrel
        have b8w : wr.cell? ⟨w.heap.size, 8, none⟩ = some (.slice A2 K c2) := hbx.cell 8
        have o8w : wr.cell? ⟨w.heap.size + 1 + 1, 8, none⟩ = some (.slice A3 i c3) := hbo.cell 8
        have HBX := Lib.hid hbx
        have HBR := Lib.hid hbr
        have HBO := Lib.hid hbo
        have HSZ := Lib.hid hsz
        have hbel := hbx.below
        by_cases hlt : i < K
        · obtain ⟨kd, b, o, B1, m1, e1, B2, m2, e2, hkd, rfl, hb, hT, k0, k1, k2, k3, k4, k5, k6, k7, k8⟩ := kid_cells (HKS.out.below HS.out hbel) (HTR.out.below HS.out hbel) HK.out i hlt
          obtain ⟨ys, hown, htrs⟩ := hrel.out
          obtain ⟨Tk, hTk⟩ : ∃ Tk, Tk = renT fr to_ kd := ⟨_, rfl⟩
          have hC : ∀ w', Below wr.heap.size wr w' → _ := fun w' hb' => IH.out kd (mem_at hkd) _ S w' (fun b hb => Nat.lt_of_lt_of_le (HS.out b hb) (Nat.le_trans hbel.size hb'.size)) (hT.below (fun b hb => Nat.lt_of_lt_of_le (HS.out b hb) hbel.size) hb') (by have := nn_at hkd; have := HNN.out; omega)
          rw [← hTk] at hC
          have HDN := Lib.hid (show (ks.take (i + 1)).map (renT fr to_) = (ks.take i).map (renT fr to_) ++ [Tk] by rw [hTk, map_take_succ _ hkd])
          have HC := Lib.hid hC
          have HOW := Lib.hid hown
          have HTS := Lib.hid htrs
          have hblt : b < wr.heap.size := Nat.lt_of_lt_of_le (HS.out b hb) hbel.size
          have HBB := Lib.hid (HS.out b hb)
          have hbn1 : ¬ b = w.heap.size + 1 + 1 := by have := HS.out b hb; omega
          have hbn2 : ¬ w.heap.size + 1 + 1 = b := by have := HS.out b hb; omega
          have HD : Below wr.heap.size wr wr.drew := (Below.refl _ wr).drew
          have hstep := Lib.hid (show ∀ wn, Below wr.drew.heap.size wr.drew wn → Below wr.heap.size wr wn from fun wn h2 => HD.trans h2)
          have HSZ2 := Lib.hid hbel.size
          clear hC hown htrs hkd hb hT hTk hbx hbr hbo hsz
          go_wp2_with fail
          go_region_law (first | (go_simp; (go_at_call 83; refine (HC.out _ HD).mono ?_; rintro e w2 ⟨a1, a2, a3, a4, a5, a6, rfl, htL, hbl⟩; have hb2 := hstep.out _ hbl; have HTL := Lib.hid htL; have hbL := Lib.hid hbl; clear htL hbl; have hX2 := Lib.hid (HBX.out.step hb2); have hO2 := Lib.hid (HBO.out.step hb2); have b8' : w2.cell? ⟨w.heap.size, 8, none⟩ = some (.slice (some ⟨b, o, none⟩) K c2) := hX2.out.cell 8; have o8' : w2.cell? ⟨w.heap.size + 1 + 1, 8, none⟩ = some (.slice A3 i c3) := hO2.out.cell 8; have o8a : ∀ ob, (w2.alloc ob).cell? ⟨w.heap.size + 1 + 1, 8, none⟩ = some (.slice A3 i c3) := fun ob => (hO2.out.alloc ob).cell 8; have HOW2 := Lib.hid (own_below HOW.out hb2); have t0 := (hb2.cell (p := ⟨b, o + i * 9, none⟩) hblt).trans k0; have t1 := (hb2.cell (p := ⟨b, o + i * 9 + 1, none⟩) hblt).trans k1; have t2 := (hb2.cell (p := ⟨b, o + i * 9 + 2, none⟩) hblt).trans k2; have t3 := (hb2.cell (p := ⟨b, o + i * 9 + 3, none⟩) hblt).trans k3; have t4 := (hb2.cell (p := ⟨b, o + i * 9 + 4, none⟩) hblt).trans k4; have t5 := (hb2.cell (p := ⟨b, o + i * 9 + 5, none⟩) hblt).trans k5; have t6 := (hb2.cell (p := ⟨b, o + i * 9 + 6, none⟩) hblt).trans k6; have t7 := (hb2.cell (p := ⟨b, o + i * 9 + 7, none⟩) hblt).trans k7; have t8 := (hb2.cell (p := ⟨b, o + i * 9 + 8, none⟩) hblt).trans k8; have hs2 := hb2.size; have HSZ3 := Lib.hid (Nat.le_trans HSZ2.out hb2.size))) | (refine step_append_two _ (by rfl) _ _ 27 27 (by rfl) (w.heap.size + 3) TT i0 _ 9 104 Try.underlying27 Try.underlying27 hi0 hz0 hz1 hz2 rfl (by decide) _ i ys (by rfl) (own_below HOW2.out ((Below.refl _ w2).alloc (Nat.le_refl _) _)) ⟨w2.heap.size, 0, none⟩ 1 1 (hdC Tk.h (.slice a1 a2 a3) (.slice a4 a5 a6)) (by rfl) (by rfl) (cells_new w2 _ TT _ rfl) (oneC_hdC Tk.h _ _ _ _ _ _) (by omega) (by unfold maxLen; omega) (by omega) (by have := HSZ.out; simp; omega) (w2.heap.size + 1) (by simp) ?_; intro g cap w4 hown4 hgrow hat hlt4; have hX4 := Lib.hid ((hX2.out.alloc _).grownB (own_below HOW2.out ((Below.refl _ w2).alloc (Nat.le_refl _) _)) (by omega) hgrow); have hO4 := Lib.hid ((hO2.out.alloc _).grownB (own_below HOW2.out ((Below.refl _ w2).alloc (Nat.le_refl _) _)) (by omega) hgrow); have b8'' : w4.cell? ⟨w.heap.size, 8, none⟩ = some (.slice (some ⟨b, o, none⟩) K c2) := hX4.out.cell 8; have o8'' : w4.cell? ⟨w.heap.size + 1 + 1, 8, none⟩ = some (.slice A3 i c3) := hO4.out.cell 8; have of'' := hO4.out.fz; have v8 : ∀ u, (w4.setCell ⟨w.heap.size + 1 + 1, 8, none⟩ u).cell? ⟨w.heap.size, 8, none⟩ = some (.slice (some ⟨b, o, none⟩) K c2) := (fun u => (World.cell?_setCell_other _ _ _ u (fun e => by injection e with e; omega)).trans b8''); have hbw := Lib.hid (kept_of HOW2.out hgrow HSZ3.out); have u0 := (hbw.out ⟨b, o + i * 9, none⟩ HBB.out).trans t0; have u1 := (hbw.out ⟨b, o + i * 9 + 1, none⟩ HBB.out).trans t1; have u2 := (hbw.out ⟨b, o + i * 9 + 2, none⟩ HBB.out).trans t2; have u3 := (hbw.out ⟨b, o + i * 9 + 3, none⟩ HBB.out).trans t3; have u4 := (hbw.out ⟨b, o + i * 9 + 4, none⟩ HBB.out).trans t4; have u5 := (hbw.out ⟨b, o + i * 9 + 5, none⟩ HBB.out).trans t5; have u6 := (hbw.out ⟨b, o + i * 9 + 6, none⟩ HBB.out).trans t6; have u7 := (hbw.out ⟨b, o + i * 9 + 7, none⟩ HBB.out).trans t7; have u8 := (hbw.out ⟨b, o + i * 9 + 8, none⟩ HBB.out).trans t8))
          go_wp2
          all_goals
            go_roundw
            case rel =>
              have hHS := HSZ.out
              have hR2 := ((HBR.out.step hb2).alloc _).grownB (own_below HOW2.out ((Below.refl _ w2).alloc (Nat.le_refl _) _)) (by omega) hgrow
              refine ⟨i + 1, some ⟨g, 0, none⟩, cap, by omega, by go_num, hX4.out.setOther ⟨by omega, by omega⟩ _, hR2.setOther ⟨by omega, by omega⟩ _, hO4.out.setJ (by omega) 8 _, Lib.hid ?_, by simp; have := hgrow.size; simp at this; omega⟩
              rw [HDN.out]
              exact RenRel.set HS.out (RenRel.step HS.out HOW.out HTS.out HSZ.out hb2 HTL.out hown4 hgrow hat) ⟨by omega, by omega⟩ _
            case measure => simp [intOf]; omega
        · have hiK : i = K := by omega
          subst hiK
          have xc := HBR.out.cell
          have xf := HBR.out.fz
          obtain ⟨g0, g1, g2, g3, g4, g5, g6, g7, g8⟩ := hbo.c9
          have HREL := hrel
          clear hrel hbx hbr hbo
          go_wp2_with fail
          refine bodyPost_ret (v := .agg #[.int .i64 h.k, .bool h.neg, .slice A1 n1 c1, .string h.name, .int .i64 h.exp, .int .i64 h.rel, .bool h.truth, .bool h.all, .slice A3 i c3]) (by simp [results, Try.results83, go_sem, xc, xf]) rfl ?_
          exact ren_done (H := h) HS.out (by have := HK.out; omega) HAB.out HNM.out HREL.out hbel hsz
end Rn
end Go.Proofs.Ytjbgdaojhdobkaa
