/-
  The reference's Format.
-/
import Derived.Test.YtkjbfomokdjbnaaDoorRtC
namespace Go.Proofs.YtkjbfomokdjbnaaDoor
open Go.RowKit
set_option linter.unusedSimpArgs false
set_option linter.unusedVariables false
namespace Rt
open Fm Dc Pr Va Pl
attribute [local go_sem] run_store
/-- a node's name is one, where it has one -/
def okH (h : Hd) : Bool := if (h.k = 2 ∨ h.k = 15) ∧ validB h.name.data.toList = false then false else true
theorem nmd_mk (h : Hd) (ks : List Tr) : nmdT (.mk h ks) = (okH h && nmdL ks) := by
  conv => lhs; unfold nmdT
  unfold okH
  split <;> simp
mutual
theorem all_F : ∀ (t : Tr) (d : Int), (flatF t d).all (fun p => okH p.1.h) = nmdT t
  | .mk h ks, d => by
    unfold flatF
    rw [List.all_cons, all_L ks (d + 1), nmd_mk]
    rfl
theorem all_L : ∀ (l : List Tr) (d : Int), (flatL l d).all (fun p => okH p.1.h) = nmdL l
  | [], d => by unfold flatL nmdL; rfl
  | k :: ks, d => by
    unfold flatL
    rw [List.all_append, all_F k d, all_L ks d, nmdL_cons]
end
mutual
theorem sm_F : ∀ (t : Tr) (d : Int), Sm t → ∀ p ∈ flatF t d, p.1.h.name.size ≤ 1000000
  | .mk h ks, d, hs, p, hp => by
    unfold Sm at hs
    unfold flatF at hp
    rcases List.mem_cons.1 hp with rfl | hp
    · show h.name.size ≤ 1000000
      omega
    · exact sm_L ks (d + 1) hs.2.2 p hp
theorem sm_L : ∀ (l : List Tr) (d : Int), SmL l → ∀ p ∈ flatL l d, p.1.h.name.size ≤ 1000000
  | [], d, hs, p, hp => by unfold flatL at hp; cases hp
  | k :: ks, d, hs, p, hp => by
    unfold SmL at hs
    unfold flatL at hp
    rcases List.mem_append.1 hp with hp | hp
    · exact sm_F k d hs.1 p hp
    · exact sm_L ks d hs.2 p hp
end
theorem okH_can (h : Hd) : okH (canonH h) = okH h := by
  unfold okH canonH
  by_cases h2 : h.k = 2
  · simp [h2, hd0]
  · by_cases h15 : h.k = 15
    · simp [h15, hd0]
    · rw [if_neg (c := (h.k = 2 ∨ h.k = 15) ∧ _) (by rintro ⟨a | a, _⟩ <;> contradiction)]
      have hk : ¬ ((canonH h).k = 2 ∨ (canonH h).k = 15) := by
        unfold canonH
        repeat' split
        all_goals simp [hd0]
        all_goals omega
      unfold canonH at hk
      rw [if_neg (fun a => hk a.1)]
mutual
theorem nmd_can : ∀ t : Tr, nmdT (canonT t) = nmdT t
  | .mk h ks => by rw [canonT_mk, nmd_mk, nmd_mk, okH_can, nmdL_can ks]
theorem nmdL_can : ∀ l : List Tr, nmdL (canonL l) = nmdL l
  | [] => by unfold canonL; rfl
  | k :: ks => by unfold canonL; rw [nmdL_cons, nmdL_cons, nmd_can k, nmdL_can ks]
end
theorem all_take {L : List (Tr × Int)} {i : Nat} {p : Tr × Int} (hp : L[i]? = some p) : (L.take (i + 1)).all (fun p => okH p.1.h) = ((L.take i).all (fun p => okH p.1.h) && okH p.1.h) := by
  obtain ⟨hi, rfl⟩ := List.getElem?_eq_some_iff.1 hp
  rw [List.take_succ_eq_append_getElem hi, List.all_append]
  simp
theorem all_not {L : List (Tr × Int)} {i : Nat} (h : (L.take i).all (fun p => okH p.1.h) = false) : L.all (fun p => okH p.1.h) = false := by
  rw [← List.take_append_drop i L, List.all_append, h]
  rfl
/-- what the reference's Format gives -/
def RfPost (ok : Bool) (s : ByteArray) (w : World) (e : Ending) (w' : World) : Prop :=
  (e = if ok then .returned (.tuple #[.string s, .int .i64 0]) else .returned (.tuple #[.string ⟨#[]⟩, .int .i64 7])) ∧ Below w.heap.size w w'
set_option maxRecDepth 100000 in
set_option maxHeartbeats 8000000 in
theorem rformat_any (t : Tr) (cs : List Value) (S : Nat → Prop) (w : World) (hS : ∀ b, S b → b < w.heap.size) (hT : TreeAt w S t cs) (hsm : Sm t) (hn : nn t ≤ 100000) (s : ByteArray) (htx : TxC (plusT (canonT t)) s) :
    Calls Tryd.prog 11 #[.agg cs.toArray] w (RfPost (nmdT t) s w) := by
  obtain ⟨A1, n1, c1, A2, n2, c2, k, neg, nm, ex, rl, tr, al, rfl⟩ := hT.nine
  have hx := Box.new w #[.int .i64 k, .bool neg, .slice A1 n1 c1, .string nm, .int .i64 ex, .int .i64 rl, .bool tr, .bool al, .slice A2 n2 c2] TT
  have HX := Lib.hid hx
  have HC := Lib.hid (list_any t _ S 0 _ (fun b hb => Nat.lt_of_lt_of_le (hS b hb) hx.below.size) (hT.below hS hx.below) hn (by omega) (by omega))
  have hcn := fun w' (hb : Below w.heap.size w w') => rcanon_any t _ S w' (fun b h => Nat.lt_of_lt_of_le (hS b h) hb.size) (hT.below hS hb) hsm hn
  obtain ⟨T, hTT⟩ : ∃ T, T = plusT (canonT t) := ⟨_, rfl⟩
  rw [← hTT] at hcn htx
  have HCN := Lib.hid hcn
  have HTX := Lib.hid htx
  obtain ⟨L, hL⟩ : ∃ L, L = flatF t 0 := ⟨_, rfl⟩
  have HNM := Lib.hid (show L.all (fun p => okH p.1.h) = nmdT t by rw [hL, all_F])
  have HSM := Lib.hid (show ∀ p ∈ L, p.1.h.name.size ≤ 1000000 by rw [hL]; exact sm_F t 0 hsm)
  obtain ⟨N, hN⟩ : ∃ N, N = L.length := ⟨_, rfl⟩
  have hN1 : N ≤ 100000 := by rw [hN, hL, flatF_len]; exact hn
  rw [← hL] at HC
  obtain ⟨R, hR⟩ : ∃ R, R = nmdT t := ⟨_, rfl⟩
  rw [← hR] at HNM ⊢
  have HN := Lib.hid hN
  clear hx hT hL hN hS hn hcn htx hTT hsm hR
  go_enter Tryd.func11, Tryd.ntmps11
  go_wp2_with (go_at_call 29; refine HC.out.mono ?_; intro e w1 hp; obtain ⟨g1, d1, g2, d2, ys, rfl, hoA, htA, hoB, hb1⟩ := hp.named N HN.out; clear hp; have HOA := Lib.hid hoA; have HTA := Lib.hid htA; have HB1 := Lib.hid hb1; clear hoA htA hoB hb1)
  have hs1 : w.heap.size ≤ w1.heap.size := Nat.le_trans HX.out.below.size HB1.out.size
  go_loopw [14] (fun a_ wr => ∃ (i : Nat), i ≤ N ∧ a_ = .int .i64 i ∧ Below w1.heap.size w1 wr ∧ Hid ((L.take i).all (fun p => okH p.1.h) = true)) (fun a_ _ => N - (intOf a_).toNat)
  case atStart => exact ⟨0, Nat.zero_le _, rfl, Below.refl _ _, Lib.hid rfl⟩
  case round =>
    obtain ⟨i, hi, rfl, hbr, ho⟩ := hrel
    by_cases hlt : i < N
    · obtain ⟨td, B1, m1, e1, B2, m2, e2, k', neg', nm', ex', rl', tr', al', htd, hTd, hk', hnm', g0, g1', g2', g3, g4, g5, g6, g7, g8⟩ := row_tree HOA.out HTA.out (by rw [List.length_map]; exact HN.out) hbr i hlt
      obtain ⟨p, hp⟩ : ∃ p, L[i]? = some p := ⟨_, List.getElem?_eq_getElem (by have := HN.out; omega)⟩
      obtain rfl : p.1 = td := by rw [List.getElem?_map, hp] at htd; simpa using htd
      have hstep := all_take hp
      rw [ho.out, Bool.true_and] at hstep
      have hsz : nm'.size ≤ 1000000 := by rw [← hnm']; exact HSM.out p (List.mem_of_getElem? hp)
      have hok : okH p.1.h = if (k' = 2 ∨ k' = 15) ∧ validB nm'.data.toList = false then false else true := by unfold okH; rw [hk', hnm']
      rw [hok] at hstep
      have HST := Lib.hid hstep
      have HBR := Lib.hid hbr
      have HVA := Lib.hid (fun w => rvalid_any nm' w hsz)
      obtain ⟨vb, hvb⟩ : ∃ vb, vb = validB nm'.data.toList := ⟨_, rfl⟩
      rw [← hvb] at HST HVA
      have hbs := hbr.size
      clear hstep hok hbr hTd hk' hnm' htd hp hsz hvb
      by_cases h2 : k' = 2
      · subst h2
        cases vb
        · have HF := Lib.hid (show R = false from by
            rw [← HNM.out]
            exact all_not (by rw [HST.out]; simp))
          go_wp2_with (go_at_call 30; refine (HVA.out _).mono ?_; rintro e w5 ⟨rfl, hb5⟩; have HB5 := Lib.hid (HBR.out.trans (hb5.mono HBR.out.size)); clear hb5)
          go_ret2
          exact ⟨by rw [HF.out]; rfl, HX.out.below.trans ((HB1.out.trans (HB5.out.mono HB1.out.size)).mono HX.out.below.size)⟩
        · have HNX := Lib.hid (show (L.take (i + 1)).all (fun p => okH p.1.h) = true by rw [HST.out]; simp)
          go_wp2_with (go_at_call 30; refine (HVA.out _).mono ?_; rintro e w5 ⟨rfl, hb5⟩; have HB5 := Lib.hid (HBR.out.trans (hb5.mono HBR.out.size)); clear hb5)
          go_roundw
          case rel => exact ⟨i + 1, by omega, by go_num, HB5.out, HNX⟩
          case measure => simp [intOf]; omega
      · have hk2 : (k' == 2) = false := by simpa using h2
        by_cases h15 : k' = 15
        · subst h15
          cases vb
          · have HF := Lib.hid (show R = false from by
              rw [← HNM.out]
              exact all_not (by rw [HST.out]; simp))
            go_wp2_with (go_at_call 30; refine (HVA.out _).mono ?_; rintro e w5 ⟨rfl, hb5⟩; have HB5 := Lib.hid (HBR.out.trans (hb5.mono HBR.out.size)); clear hb5)
            go_ret2
            exact ⟨by rw [HF.out]; rfl, HX.out.below.trans ((HB1.out.trans (HB5.out.mono HB1.out.size)).mono HX.out.below.size)⟩
          · have HNX := Lib.hid (show (L.take (i + 1)).all (fun p => okH p.1.h) = true by rw [HST.out]; simp)
            go_wp2_with (go_at_call 30; refine (HVA.out _).mono ?_; rintro e w5 ⟨rfl, hb5⟩; have HB5 := Lib.hid (HBR.out.trans (hb5.mono HBR.out.size)); clear hb5)
            go_roundw
            case rel => exact ⟨i + 1, by omega, by go_num, HB5.out, HNX⟩
            case measure => simp [intOf]; omega
        · have hk0 : (k' == 15) = false := by simpa using h15
          have HNX := Lib.hid (show (L.take (i + 1)).all (fun p => okH p.1.h) = true by rw [HST.out, if_neg (fun a => by rcases a.1 with b | b <;> contradiction)])
          clear h15 h2 HST HVA
          go_wp2
          go_roundw
          case rel => exact ⟨i + 1, by omega, by go_num, HBR.out, HNX⟩
          case measure => simp [intOf]; omega
    · have HF := Lib.hid (show R = true from by
        have h1 : L.take i = L := List.take_of_length_le (by have := HN.out; omega)
        have h2 := ho.out
        rw [h1, HNM.out] at h2
        exact h2)
      have HBR := Lib.hid hbr
      have hx2 := (HX.out.step HB1.out).step (hbr.mono (Nat.le_refl _))
      have HX2 := Lib.hid hx2
      obtain ⟨f0, f1, f2, f3, f4, f5, f6, f7, f8⟩ := hx2.c9
      clear ho hx2
      go_wp2_with fail
      refine (HCN.out _ HX2.out.below).mono ?_
      intro e w3 hq
      obtain ⟨b1, b2, b3, b4, b5, b6, y1, y2, y3, y4, y5, y6, y7, rfl, htL, hb3⟩ := hq.cells
      have HTL := Lib.hid (TreeAt.more (fun b h => h.2) _ _ htL : TreeAt w3 (fun b => b < w3.heap.size) T _)
      have HX3 := Lib.hid (HX2.out.step hb3)
      clear hq htL hb3
      go_wp2_with fail
      refine (HTX.out _ _ _ (fun b h => h) HTL.out).mono ?_
      rintro e w4 ⟨rfl, hb4⟩
      have HX4 := Lib.hid (HX3.out.step hb4)
      clear hb4
      go_wp2
      go_ret2
      exact ⟨by rw [HF.out]; rfl, HX4.out.below⟩
end Rt
end Go.Proofs.YtkjbfomokdjbnaaDoor
