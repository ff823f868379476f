/-
  The parser: product, term.
-/
import Derived.Test.YteneobpacobpdaaGreatDoorHy
import Derived.Test.YteneobpacobpdaaGreatDoorPaM
set_option linter.unusedSimpArgs false
set_option linter.unusedVariables false
set_option maxRecDepth 100000
set_option maxHeartbeats 16000000
namespace Go.Proofs.YteneobpacobpdaaGreatDoor
open Go.RowKit
namespace Pa
open Lx Fm Dc
attribute [local go_sem] run_store fieldTok0 fieldTok2
attribute [local go_sem] anF_Num anF_Name anF_Add anF_Sub anF_Mul anF_Neg anF_Pow anF_Truth anF_Atom anF_Not anF_And anF_Or anF_Implies anF_Iff anF_Quant anT_Num anT_Name anT_Add anT_Sub anT_Mul anT_Neg anT_Pow
theorem QAt.one {C : Cx} {w : World} {q : Option Tm} {v : Value} (h : QAt C w q v) : v.oneCell' = true := by
 cases q with
 | none => obtain rfl := h; rfl
 | some t => exact PVAt.one (show PVAt w (Gp C.pb C.mb w) (.tm t) v from h)
def productRel (C : Cx) (w : World) (s : PS) (r : Option PV) (s' : PS) (a6 a7 : Value) (wr : World) : Prop :=
 (∃ v, v = a6 ∧ a7 = .bool false ∧ r = none ∧ v.oneCell' = true ∧ C.At s' wr ∧ C.O w wr) ∨
 (∃ x u z s1, a6 = .iface u z ∧ a7 = .bool true ∧ C.V wr (.tm x) (.iface u z) ∧ C.At s1 wr ∧ C.O w wr ∧ Big C.T (.prodL x) s1 r s' ∧ Gd s1 ∧ s.next ≤ s1.next)
theorem product_walk (C : Cx) (q : Option Tm) (vq : Value) (s : PS) (r : Option PV) (s' : PS) (hB : Big C.T (.prod q) s r s') (hg : Gd s) (ih : IH C (mea C.T (.prod q) s)) (w : World) (h : C.At s w) (hq : QAt C w q vq) :
  Calls Tryz.prog 121 #[C.p, vq] w (FPost C r s' w) := by
 have hn := h.hn
 have hnext := h.next
 have hlen := h.len
 have IH := h_ ih
 have hoq : vq.oneCell' = true := hq.one
 have hfirst : Calls Tryz.prog 123 #[C.p, vq] w fun e w1 => ∃ v ok, e = .returned (.tuple #[v, .bool ok]) ∧ v.oneCell' = true ∧ productRel C w s r s' v (.bool ok) w1 := by
  cases hB with
  | pd_no h1 =>
   refine (ih _ _ (mea_same (by simp [lvl])) _ _ h1 hg (notEncl (by simp)) w h _ hq).mono ?_
   rintro e w1 ⟨v, rfl, hov, hP, hO⟩
   exact ⟨v, false, rfl, hov, .inl ⟨v, rfl, rfl, rfl, hov, hP, hO⟩⟩
  | pd_go h1 h2 =>
   refine (ih _ _ (mea_same (by simp [lvl])) _ _ h1 hg (notEncl (by simp)) w h _ hq).mono ?_
   rintro e w1 ⟨u, z, rfl, hv, hP, hO⟩
   exact ⟨_, true, rfl, hv.one, .inr ⟨_, u, z, _, rfl, rfl, hv, hP, hO, h2, h1.gd hg, h1.mono⟩⟩
 have HF := h_ hfirst
 have HHN := h_ hn
 clear hfirst hB ih h hn hg hq
 obtain ⟨Cb, Cpb, Cmb, CT, CA, Cn, Cc⟩ := C
 dsimp only at *
 go_enter Tryz.func121, Tryz.ntmps121
 go_wp2_with fail
 refine HF.out.mono ?_
 rintro e w1 ⟨v1, ok1, rfl, hov1, hrel1⟩
 have HR1 := h_ hrel1
 clear hrel1
 go_wp2_with fail
 go_loopw [6, 7] (fun a6 a7 wr => Hid (productRel ⟨Cb, Cpb, Cmb, CT, CA, Cn, Cc⟩ w s r s' a6 a7 wr)) (fun _ a7 wr => msr Cn Cpb a7 wr)
 case atStart => exact HR1
 case round =>
  rcases hrel.out with ⟨v, rfl, rfl, hr, hov, hP, hO⟩ | ⟨x, u, z, s1, rfl, rfl, hv, hP, hO, hb, hg1, hs1⟩
  ·have HE := h_ (show FPost ⟨Cb, Cpb, Cmb, CT, CA, Cn, Cc⟩ r s' w (.returned (.tuple #[v, .bool false])) wr by rw [hr]; exact ⟨v, rfl, hov, hP, hO⟩)
   clear hrel hr hP hO
   go_wp2
   go_ret2
   exact HE.out
  ·have hmt := msr_true hP
   have HN1 := h_ hP.next
   have HP0 := h_ hP
   have HO0 := h_ hO
   have HV0 := h_ hv
   have HG1 := h_ hg1
   have HSQ := h_ hs1
   cases hb with
   | pdL_end hse0 =>
    have HS0 := h_ (fun w2 h2 => sees_any Cb Cpb Cmb Cn Cc CT CA s' ⟨#[42]⟩ false w2 h2 hse0)
    clear hrel hv hP hO hg1 hs1 hse0 hmt
    go_wp2_with fail
    refine (HS0.out wr HP0.out).mono ?_
    rintro e w1_ ⟨rfl, hb2⟩
    have HV1 := h_ (HV0.out.owns (Owns.of_below hb2 (Fp Cpb Cmb)))
    have HP1 := h_ (HP0.out.below hb2)
    have HO1 := h_ (HO0.out.trans (Owns.of_below hb2 (Fp Cpb Cmb)))
    clear hb2
    have HE := h_ (show FPost ⟨Cb, Cpb, Cmb, CT, CA, Cn, Cc⟩ (some (.tm x)) s' w (.returned (.tuple #[.iface u z, .bool true])) w1_ from ⟨u, z, rfl, HV1.out, HP1.out, HO1.out⟩)
    go_wp2
    go_ret2
    exact HE.out
   | @pdL_bad _ _ _ hse0 h1 =>
    have hlt := sees_lt hse0
    have HS0 := h_ (fun w2 h2 => sees_any Cb Cpb Cmb Cn Cc CT CA s1 ⟨#[42]⟩ true w2 h2 hse0)
    have HKp := h_ (fun w2 h2 => peek_any Cb Cpb Cmb Cn Cc CT CA s1 w2 h2)
    obtain ⟨t, ht⟩ : ∃ t, t = pk CT s1 := ⟨_, rfl⟩
    rw [← ht] at HKp
    obtain ⟨y, hy⟩ : ∃ y, y = bs t.text := ⟨_, rfl⟩
    rw [← hy] at HKp
    have HLT := h_ (show s1.next < Cn by rw [HHN.out]; exact hlt)
    have HI := h_ (fun w2 => IH.out _ _ (mea_adv (Nat.lt_of_le_of_lt hs1 (Nat.lt_succ_self _)) (Nat.lt_of_le_of_lt hs1 hlt)) _ _ h1 hg1.c_adv (notEncl (by simp)) w2)
    clear hrel hv hP hO hg1 hs1 h1 hlt ht hy hse0
    go_wp2_with fail
    refine (HS0.out wr HP0.out).mono ?_
    rintro e w1_ ⟨rfl, hb2⟩
    have HV1 := h_ (HV0.out.owns (Owns.of_below hb2 (Fp Cpb Cmb)))
    have HP1 := h_ (HP0.out.below hb2)
    have HO1 := h_ (HO0.out.trans (Owns.of_below hb2 (Fp Cpb Cmb)))
    clear hb2
    go_wp2_with fail
    refine (HKp.out w1_ HP1.out).mono ?_
    rintro e wp ⟨rfl, hbp⟩
    have hbel : Below wp.heap.size wp (wp.alloc (.cells #[.int .i64 t.kind, .string y, .int .i64 t.pos] tTok)) := (Below.refl _ _).alloc (Nat.le_refl _) _
    have hx := Box.new wp #[.int .i64 t.kind, .string y, .int .i64 t.pos] tTok
    have hpp := HP1.out.below hbp
    have hpW := hpp.below hbel
    have hoW := (Owns.of_below hbp (Fp Cpb Cmb)).trans (Owns.of_below hbel _)
    obtain ⟨W, hWW⟩ : ∃ W, wp.alloc (.cells #[.int .i64 t.kind, .string y, .int .i64 t.pos] tTok) = W := ⟨_, rfl⟩
    rw [hWW] at hpW hoW hx
    obtain ⟨c0, c1, c2, c3, c4, c5, c6⟩ := hpW.cells
    have cf := hpW.fz
    have x0 : W.cell? ⟨wp.heap.size, 0, none⟩ = some (.int .i64 t.kind) := hx.cell 0
    have x1 : W.cell? ⟨wp.heap.size, 1, none⟩ = some (.string y) := hx.cell 1
    have x2 : W.cell? ⟨wp.heap.size, 2, none⟩ = some (.int .i64 t.pos) := hx.cell 2
    have xf := hx.fz
    have hltC := HLT.out
    have hne : wp.heap.size ≠ Cpb := Nat.ne_of_gt (show Cpb < wp.heap.size from hpp.lt)
    have hne2 : wp.heap.size ≠ Cmb := Nat.ne_of_gt (show Cmb < wp.heap.size from hpp.map.lt)
    have hpS := hpW.advs HLT.out
    have hoS := hoW.trans (owns_set W ⟨Cpb, 1, none⟩ (.int .i64 ((s1.next : Int) + 1)) (.inl rfl))
    have hbx : (W.setCell ⟨Cpb, 1, none⟩ (.int .i64 ((s1.next : Int) + 1))).heap[wp.heap.size]? = some (.cells #[.int .i64 t.kind, .string y, .int .i64 t.pos] tTok (0, 0)) := (Below.heap_setCell _ _ _ _ hne).trans hx.cells
    have HVS := h_ (HV1.out.owns hoS)
    have HOS := h_ (HO1.out.trans hoS)
    have HPS := h_ hpS
    have HBX := h_ hbx
    have HNF := h_ (show ¬ Fp Cpb Cmb wp.heap.size from fun e => e.elim hne hne2)
    obtain ⟨wS, hwS⟩ : ∃ wS, W.setCell ⟨Cpb, 1, none⟩ (.int .i64 ((s1.next : Int) + 1)) = wS := ⟨_, rfl⟩
    rw [hwS] at HVS HOS HPS HBX
    clear hbp hbel hx hpp hpW hoW hpS hoS hbx hne2
    go_wp2_with fail
    refine (HI.out wS HPS.out _ rfl).mono ?_
    rintro e w9 ⟨v9, rfl, hov9, hP9, hO9⟩
    have HE := h_ (show FPost ⟨Cb, Cpb, Cmb, CT, CA, Cn, Cc⟩ none s' w (.returned (.tuple #[.nilIface, .bool false])) w9 from ⟨_, rfl, rfl, hP9, HOS.out.trans hO9⟩)
    clear hP9 hO9
    go_wp2
    go_ret2
    exact HE.out
   | @pdL_go _ _ y s2 _ _ hse0 h1 h2 =>
    have hlt := sees_lt hse0
    have HS0 := h_ (fun w2 h2 => sees_any Cb Cpb Cmb Cn Cc CT CA s1 ⟨#[42]⟩ true w2 h2 hse0)
    have HKp := h_ (fun w2 h2 => peek_any Cb Cpb Cmb Cn Cc CT CA s1 w2 h2)
    obtain ⟨t, ht⟩ : ∃ t, t = pk CT s1 := ⟨_, rfl⟩
    rw [← ht] at HKp h2
    obtain ⟨yb, hy⟩ : ∃ yb, yb = bs t.text := ⟨_, rfl⟩
    rw [← hy] at HKp
    have HLT := h_ (show s1.next < Cn by rw [HHN.out]; exact hlt)
    have HI := h_ (fun w2 => IH.out _ _ (mea_adv (Nat.lt_of_le_of_lt hs1 (Nat.lt_succ_self _)) (Nat.lt_of_le_of_lt hs1 hlt)) _ _ h1 hg1.c_adv (notEncl (by simp)) w2)
    have HB1 := h_ h1
    have HB2 := h_ h2
    have HY := h_ hy
    clear hrel hv hP hO hg1 hs1 h1 h2 hlt ht hy hse0
    go_wp2_with fail
    refine (HS0.out wr HP0.out).mono ?_
    rintro e w1_ ⟨rfl, hb2⟩
    have HV1 := h_ (HV0.out.owns (Owns.of_below hb2 (Fp Cpb Cmb)))
    have HP1 := h_ (HP0.out.below hb2)
    have HO1 := h_ (HO0.out.trans (Owns.of_below hb2 (Fp Cpb Cmb)))
    clear hb2
    go_wp2_with fail
    refine (HKp.out w1_ HP1.out).mono ?_
    rintro e wp ⟨rfl, hbp⟩
    have hbel : Below wp.heap.size wp (wp.alloc (.cells #[.int .i64 t.kind, .string yb, .int .i64 t.pos] tTok)) := (Below.refl _ _).alloc (Nat.le_refl _) _
    have hx := Box.new wp #[.int .i64 t.kind, .string yb, .int .i64 t.pos] tTok
    have hpp := HP1.out.below hbp
    have hpW := hpp.below hbel
    have hoW := (Owns.of_below hbp (Fp Cpb Cmb)).trans (Owns.of_below hbel _)
    obtain ⟨W, hWW⟩ : ∃ W, wp.alloc (.cells #[.int .i64 t.kind, .string yb, .int .i64 t.pos] tTok) = W := ⟨_, rfl⟩
    rw [hWW] at hpW hoW hx
    obtain ⟨c0, c1, c2, c3, c4, c5, c6⟩ := hpW.cells
    have cf := hpW.fz
    have x0 : W.cell? ⟨wp.heap.size, 0, none⟩ = some (.int .i64 t.kind) := hx.cell 0
    have x1 : W.cell? ⟨wp.heap.size, 1, none⟩ = some (.string yb) := hx.cell 1
    have x2 : W.cell? ⟨wp.heap.size, 2, none⟩ = some (.int .i64 t.pos) := hx.cell 2
    have xf := hx.fz
    have hltC := HLT.out
    have hne : wp.heap.size ≠ Cpb := Nat.ne_of_gt (show Cpb < wp.heap.size from hpp.lt)
    have hne2 : wp.heap.size ≠ Cmb := Nat.ne_of_gt (show Cmb < wp.heap.size from hpp.map.lt)
    have hpS := hpW.advs HLT.out
    have hoS := hoW.trans (owns_set W ⟨Cpb, 1, none⟩ (.int .i64 ((s1.next : Int) + 1)) (.inl rfl))
    have hbx : (W.setCell ⟨Cpb, 1, none⟩ (.int .i64 ((s1.next : Int) + 1))).heap[wp.heap.size]? = some (.cells #[.int .i64 t.kind, .string yb, .int .i64 t.pos] tTok (0, 0)) := (Below.heap_setCell _ _ _ _ hne).trans hx.cells
    have HVS := h_ (HV1.out.owns hoS)
    have HOS := h_ (HO1.out.trans hoS)
    have HPS := h_ hpS
    have HBX := h_ hbx
    have HNF := h_ (show ¬ Fp Cpb Cmb wp.heap.size from fun e => e.elim hne hne2)
    obtain ⟨wS, hwS⟩ : ∃ wS, W.setCell ⟨Cpb, 1, none⟩ (.int .i64 ((s1.next : Int) + 1)) = wS := ⟨_, rfl⟩
    rw [hwS] at HVS HOS HPS HBX
    clear hbp hbel hx hpp hpW hoW hpS hoS hbx hne2
    go_wp2_with fail
    refine (HI.out wS HPS.out _ rfl).mono ?_
    rintro e w9 ⟨u9, z9, rfl, hv9, hP9, hO9⟩
    have HV9 := h_ hv9
    have HX9 := h_ (HVS.out.owns hO9)
    have HP9 := h_ hP9
    have hbx9 := (hO9.same wp.heap.size (Array.getElem?_eq_some_iff.1 HBX.out).1 HNF.out).trans HBX.out
    have HBX9 := h_ hbx9
    have b0 : w9.cell? ⟨wp.heap.size, 0, none⟩ = some (.int .i64 t.kind) := by simp [World.cell?, hbx9]
    have b1 : w9.cell? ⟨wp.heap.size, 1, none⟩ = some (.string yb) := by simp [World.cell?, hbx9]
    have b2 : w9.cell? ⟨wp.heap.size, 2, none⟩ = some (.int .i64 t.pos) := by simp [World.cell?, hbx9]
    have HO9 := h_ (HOS.out.trans hO9)
    clear hv9 hP9 hO9 hbx9 c0 c1 c2 c3 c4 c5 c6 cf x0 x1 x2 xf hWW hwS
    have hbelV : Below w9.heap.size w9 (w9.alloc (.cells #[.iface u z, .iface u9 z9] tMul)) := (Below.refl _ _).alloc (Nat.le_refl _) _
    have hxV := Box.new w9 #[.iface u z, .iface u9 z9] tMul
    have bx := (hbelV.block wp.heap.size (Array.getElem?_eq_some_iff.1 HBX9.out).1).trans HBX9.out
    have hpV := HP9.out.below hbelV
    have hoV := Owns.of_below hbelV (Fp Cpb Cmb)
    have HNM := h_ (show ¬ Fp Cpb Cmb w9.heap.size from fun e => e.elim (Nat.ne_of_gt (show Cpb < w9.heap.size from HP9.out.lt)) (Nat.ne_of_gt (show Cmb < w9.heap.size from HP9.out.map.lt)))
    obtain ⟨V, hVV⟩ : ∃ V, w9.alloc (.cells #[.iface u z, .iface u9 z9] tMul) = V := ⟨_, rfl⟩
    rw [hVV] at hbelV hxV bx hpV hoV
    have HPV := h_ hpV
    have HVV := h_ (HV9.out.owns hoV)
    have HXV := h_ (HX9.out.owns hoV)
    have HOV := h_ (HO9.out.trans hoV)
    have HBV := h_ bx
    have HBM := h_ hxV
    have b0 : V.cell? ⟨wp.heap.size, 0, none⟩ = some (.int .i64 t.kind) := by simp [World.cell?, bx]
    have b1 : V.cell? ⟨wp.heap.size, 1, none⟩ = some (.string yb) := by simp [World.cell?, bx]
    have b2 : V.cell? ⟨wp.heap.size, 2, none⟩ = some (.int .i64 t.pos) := by simp [World.cell?, bx]
    have m0 : V.cell? ⟨w9.heap.size, 0, none⟩ = some (.iface u z) := hxV.cell 0
    have m1 : V.cell? ⟨w9.heap.size, 1, none⟩ = some (.iface u9 z9) := hxV.cell 1
    clear hbelV hxV bx hpV hoV
    have hbelU : Below V.heap.size V (V.alloc (.cells #[.iface u z, .iface u9 z9] tTe)) := (Below.refl _ _).alloc (Nat.le_refl _) _
    have hxU := Box.new V #[.iface u z, .iface u9 z9] tTe
    have hoU := Owns.of_below hbelU (Fp Cpb Cmb)
    have hpU := HPV.out.below hbelU
    have hv1 := HXV.out.owns hoU
    have hv2 := HVV.out.owns hoU
    have hM := measure_any Cb Cpb Cmb Cn Cc CT CA s2 t (.mul x y) (.iface tMul (.agg #[.iface u z, .iface u9 z9])) [x, y] [.iface u z, .iface u9 z9] V.heap.size 2 rfl rfl (Gp Cpb Cmb (V.alloc (.cells #[.iface u z, .iface u9 z9] tTe))) (V.alloc (.cells #[.iface u z, .iface u9 z9] tTe)) (fun b hb => hb.1) hpU ⟨_, _, rfl, hv1.1, hv2.1⟩ ⟨hv1.2.2, hv2.2.2⟩ hxU.cells (fun i tt hi => by
     match i, hi with
     | 0, hi => simp at hi; subst hi; exact ⟨_, rfl, hv1.1, hv1.2.2⟩
     | 1, hi => simp at hi; subst hi; exact ⟨_, rfl, hv2.1, hv2.2.2⟩
     | k + 2, hi => simp at hi) (by decide)
    rw [← HY.out] at hM
    have HM := h_ hM
    have HVU := h_ hv2
    have HXU := h_ hv1
    have HOU := h_ (HOV.out.trans hoU)
    have HBU := h_ hbelU
    clear hbelU hxU hoU hpU hv1 hv2 hM
    go_wp2_with fail
    refine HM.out.mono ?_
    rintro e wM ⟨rfl, hPM, hOM⟩
    have HPM := h_ hPM
    have HVM := h_ (HVU.out.owns hOM)
    have HXM := h_ (HXU.out.owns hOM)
    have HOM := h_ (HOU.out.trans hOM)
    have hbm := (hOM.same w9.heap.size (Nat.lt_of_lt_of_le HBM.out.lt HBU.out.size) HNM.out).trans ((HBU.out.block _ HBM.out.lt).trans HBM.out.cells)
    have n0 : wM.cell? ⟨w9.heap.size, 0, none⟩ = some (.iface u z) := by simp [World.cell?, hbm]
    have n1 : wM.cell? ⟨w9.heap.size, 1, none⟩ = some (.iface u9 z9) := by simp [World.cell?, hbm]
    clear hbm m0 m1
    have HM1 := h_ (msr_true (C := ⟨Cb, Cpb, Cmb, CT, CA, Cn, Cc⟩) hPM)
    clear hPM hOM b0 b1 b2 hVV
    have HRel := h_ (show productRel ⟨Cb, Cpb, Cmb, CT, CA, Cn, Cc⟩ w s r s' (.iface tMul (.agg #[.iface u z, .iface u9 z9])) (.bool true) wM from .inr ⟨(.mul x y), _, _, meas s2 t (.mul x y) [x, y], rfl, rfl, ⟨⟨_, _, rfl, HXM.out.1, HVM.out.1⟩, by simp, HXM.out.2.2, HVM.out.2.2⟩, HPM.out, HOM.out, HB2.out, (HB1.out.gd HG1.out.c_adv).c_meas _ _ _, by rw [meas_next]; exact Nat.le_trans HSQ.out (Nat.le_trans (Nat.le_succ _) HB1.out.mono)⟩)
    go_wp2
    go_roundw
    case rel => exact HRel
    case measure =>
     have e1 := HM1.out
     have e2 := HN1.out
     have e3 : s1.next + 1 ≤ s2.next := HB1.out.mono
     have e4 := meas_next s2 t (.mul x y) [x, y]
     show msr Cn Cpb (.bool true) wM < msr Cn Cpb (.bool true) wr
     rw [hmt]
     omega
end Pa
end Go.Proofs.YteneobpacobpdaaGreatDoor
namespace Go.Proofs.YteneobpacobpdaaGreatDoor
open Go.RowKit
namespace Pa
open Lx Fm Dc
attribute [local go_sem] run_store fieldTok0 fieldTok2
attribute [local go_sem] anF_Num anF_Name anF_Add anF_Sub anF_Mul anF_Neg anF_Pow anF_Truth anF_Atom anF_Not anF_And anF_Or anF_Implies anF_Iff anF_Quant anT_Num anT_Name anT_Add anT_Sub anT_Mul anT_Neg anT_Pow
def termRel (C : Cx) (w : World) (s : PS) (r : Option PV) (s' : PS) (a6 a7 : Value) (wr : World) : Prop :=
 (∃ v, v = a6 ∧ a7 = .bool false ∧ r = none ∧ v.oneCell' = true ∧ C.At s' wr ∧ C.O w wr) ∨
 (∃ x u z s1, a6 = .iface u z ∧ a7 = .bool true ∧ C.V wr (.tm x) (.iface u z) ∧ C.At s1 wr ∧ C.O w wr ∧ Big C.T (.termL x) s1 r s' ∧ Gd s1 ∧ s.next ≤ s1.next)
theorem term_walk (C : Cx) (q : Option Tm) (vq : Value) (s : PS) (r : Option PV) (s' : PS) (hB : Big C.T (.term q) s r s') (hg : Gd s) (ih : IH C (mea C.T (.term q) s)) (w : World) (h : C.At s w) (hq : QAt C w q vq) :
  Calls Tryz.prog 117 #[C.p, vq] w (FPost C r s' w) := by
 have hn := h.hn
 have hnext := h.next
 have hlen := h.len
 have IH := h_ ih
 have hoq : vq.oneCell' = true := hq.one
 have hfirst : Calls Tryz.prog 121 #[C.p, vq] w fun e w1 => ∃ v ok, e = .returned (.tuple #[v, .bool ok]) ∧ v.oneCell' = true ∧ termRel C w s r s' v (.bool ok) w1 := by
  cases hB with
  | te_no h1 =>
   refine (ih _ _ (mea_same (by simp [lvl])) _ _ h1 hg (notEncl (by simp)) w h _ hq).mono ?_
   rintro e w1 ⟨v, rfl, hov, hP, hO⟩
   exact ⟨v, false, rfl, hov, .inl ⟨v, rfl, rfl, rfl, hov, hP, hO⟩⟩
  | te_go h1 h2 =>
   refine (ih _ _ (mea_same (by simp [lvl])) _ _ h1 hg (notEncl (by simp)) w h _ hq).mono ?_
   rintro e w1 ⟨u, z, rfl, hv, hP, hO⟩
   exact ⟨_, true, rfl, hv.one, .inr ⟨_, u, z, _, rfl, rfl, hv, hP, hO, h2, h1.gd hg, h1.mono⟩⟩
 have HF := h_ hfirst
 have HHN := h_ hn
 clear hfirst hB ih h hn hg hq
 obtain ⟨Cb, Cpb, Cmb, CT, CA, Cn, Cc⟩ := C
 dsimp only at *
 go_enter Tryz.func117, Tryz.ntmps117
 go_wp2_with fail
 refine HF.out.mono ?_
 rintro e w1 ⟨v1, ok1, rfl, hov1, hrel1⟩
 have HR1 := h_ hrel1
 clear hrel1
 go_wp2_with fail
 go_loopw [6, 7] (fun a6 a7 wr => Hid (termRel ⟨Cb, Cpb, Cmb, CT, CA, Cn, Cc⟩ w s r s' a6 a7 wr)) (fun _ a7 wr => msr Cn Cpb a7 wr)
 case atStart => exact HR1
 case round =>
  rcases hrel.out with ⟨v, rfl, rfl, hr, hov, hP, hO⟩ | ⟨x, u, z, s1, rfl, rfl, hv, hP, hO, hb, hg1, hs1⟩
  ·have HE := h_ (show FPost ⟨Cb, Cpb, Cmb, CT, CA, Cn, Cc⟩ r s' w (.returned (.tuple #[v, .bool false])) wr by rw [hr]; exact ⟨v, rfl, hov, hP, hO⟩)
   clear hrel hr hP hO
   go_wp2
   go_ret2
   exact HE.out
  ·have hmt := msr_true hP
   have HN1 := h_ hP.next
   have HP0 := h_ hP
   have HO0 := h_ hO
   have HV0 := h_ hv
   have HG1 := h_ hg1
   have HSQ := h_ hs1
   cases hb with
   | teL_end hsee =>
    have hse0 : sees CT s' cPlus = false := by simp at hsee; exact hsee.1
    have hse1 : sees CT s' cMinus = false := by simp at hsee; exact hsee.2
    have HS0 := h_ (fun w2 h2 => sees_any Cb Cpb Cmb Cn Cc CT CA s' ⟨#[43]⟩ false w2 h2 hse0)
    have HS1 := h_ (fun w2 h2 => sees_any Cb Cpb Cmb Cn Cc CT CA s' ⟨#[45]⟩ false w2 h2 hse1)
    clear hrel hv hP hO hg1 hs1 hsee hse0 hse1 hmt
    go_wp2_with fail
    refine (HS0.out wr HP0.out).mono ?_
    rintro e w1_ ⟨rfl, hb2⟩
    have HV1 := h_ (HV0.out.owns (Owns.of_below hb2 (Fp Cpb Cmb)))
    have HP1 := h_ (HP0.out.below hb2)
    have HO1 := h_ (HO0.out.trans (Owns.of_below hb2 (Fp Cpb Cmb)))
    clear hb2
    go_wp2_with fail
    refine (HS1.out w1_ HP1.out).mono ?_
    rintro e w2_ ⟨rfl, hb2⟩
    have HV2 := h_ (HV1.out.owns (Owns.of_below hb2 (Fp Cpb Cmb)))
    have HP2 := h_ (HP1.out.below hb2)
    have HO2 := h_ (HO1.out.trans (Owns.of_below hb2 (Fp Cpb Cmb)))
    clear hb2
    have HE := h_ (show FPost ⟨Cb, Cpb, Cmb, CT, CA, Cn, Cc⟩ (some (.tm x)) s' w (.returned (.tuple #[.iface u z, .bool true])) w2_ from ⟨u, z, rfl, HV2.out, HP2.out, HO2.out⟩)
    go_wp2
    go_ret2
    exact HE.out
   | @teL_bad _ _ _ hsee h1 =>
    by_cases hse0 : sees CT s1 cPlus = true
    case pos =>
     have hlt := sees_lt hse0
     have HS0 := h_ (fun w2 h2 => sees_any Cb Cpb Cmb Cn Cc CT CA s1 ⟨#[43]⟩ true w2 h2 hse0)
     have HKp := h_ (fun w2 h2 => peek_any Cb Cpb Cmb Cn Cc CT CA s1 w2 h2)
     obtain ⟨t, ht⟩ : ∃ t, t = pk CT s1 := ⟨_, rfl⟩
     rw [← ht] at HKp
     obtain ⟨y, hy⟩ : ∃ y, y = bs t.text := ⟨_, rfl⟩
     rw [← hy] at HKp
     have HLT := h_ (show s1.next < Cn by rw [HHN.out]; exact hlt)
     have HI := h_ (fun w2 => IH.out _ _ (mea_adv (Nat.lt_of_le_of_lt hs1 (Nat.lt_succ_self _)) (Nat.lt_of_le_of_lt hs1 hlt)) _ _ h1 hg1.c_adv (notEncl (by simp)) w2)
     clear hrel hv hP hO hg1 hs1 h1 hlt ht hy hsee hse0
     go_wp2_with fail
     refine (HS0.out wr HP0.out).mono ?_
     rintro e w1_ ⟨rfl, hb2⟩
     have HV1 := h_ (HV0.out.owns (Owns.of_below hb2 (Fp Cpb Cmb)))
     have HP1 := h_ (HP0.out.below hb2)
     have HO1 := h_ (HO0.out.trans (Owns.of_below hb2 (Fp Cpb Cmb)))
     clear hb2
     go_wp2_with fail
     refine (HKp.out w1_ HP1.out).mono ?_
     rintro e wp ⟨rfl, hbp⟩
     have hbel : Below wp.heap.size wp (wp.alloc (.cells #[.int .i64 t.kind, .string y, .int .i64 t.pos] tTok)) := (Below.refl _ _).alloc (Nat.le_refl _) _
     have hx := Box.new wp #[.int .i64 t.kind, .string y, .int .i64 t.pos] tTok
     have hpp := HP1.out.below hbp
     have hpW := hpp.below hbel
     have hoW := (Owns.of_below hbp (Fp Cpb Cmb)).trans (Owns.of_below hbel _)
     obtain ⟨W, hWW⟩ : ∃ W, wp.alloc (.cells #[.int .i64 t.kind, .string y, .int .i64 t.pos] tTok) = W := ⟨_, rfl⟩
     rw [hWW] at hpW hoW hx
     obtain ⟨c0, c1, c2, c3, c4, c5, c6⟩ := hpW.cells
     have cf := hpW.fz
     have x0 : W.cell? ⟨wp.heap.size, 0, none⟩ = some (.int .i64 t.kind) := hx.cell 0
     have x1 : W.cell? ⟨wp.heap.size, 1, none⟩ = some (.string y) := hx.cell 1
     have x2 : W.cell? ⟨wp.heap.size, 2, none⟩ = some (.int .i64 t.pos) := hx.cell 2
     have xf := hx.fz
     have hltC := HLT.out
     have hne : wp.heap.size ≠ Cpb := Nat.ne_of_gt (show Cpb < wp.heap.size from hpp.lt)
     have hne2 : wp.heap.size ≠ Cmb := Nat.ne_of_gt (show Cmb < wp.heap.size from hpp.map.lt)
     have hpS := hpW.advs HLT.out
     have hoS := hoW.trans (owns_set W ⟨Cpb, 1, none⟩ (.int .i64 ((s1.next : Int) + 1)) (.inl rfl))
     have hbx : (W.setCell ⟨Cpb, 1, none⟩ (.int .i64 ((s1.next : Int) + 1))).heap[wp.heap.size]? = some (.cells #[.int .i64 t.kind, .string y, .int .i64 t.pos] tTok (0, 0)) := (Below.heap_setCell _ _ _ _ hne).trans hx.cells
     have HVS := h_ (HV1.out.owns hoS)
     have HOS := h_ (HO1.out.trans hoS)
     have HPS := h_ hpS
     have HBX := h_ hbx
     have HNF := h_ (show ¬ Fp Cpb Cmb wp.heap.size from fun e => e.elim hne hne2)
     obtain ⟨wS, hwS⟩ : ∃ wS, W.setCell ⟨Cpb, 1, none⟩ (.int .i64 ((s1.next : Int) + 1)) = wS := ⟨_, rfl⟩
     rw [hwS] at HVS HOS HPS HBX
     clear hbp hbel hx hpp hpW hoW hpS hoS hbx hne2
     go_wp2_with fail
     refine (HI.out wS HPS.out _ rfl).mono ?_
     rintro e w9 ⟨v9, rfl, hov9, hP9, hO9⟩
     have HE := h_ (show FPost ⟨Cb, Cpb, Cmb, CT, CA, Cn, Cc⟩ none s' w (.returned (.tuple #[.nilIface, .bool false])) w9 from ⟨_, rfl, rfl, hP9, HOS.out.trans hO9⟩)
     clear hP9 hO9
     go_wp2
     go_ret2
     exact HE.out
    case neg =>
     have hse0 : sees CT s1 cPlus = false := by simpa using hse0
     have hse1 : sees CT s1 cMinus = true := by rw [hse0] at hsee; simpa using hsee
     have hlt := sees_lt hse1
     have HS0 := h_ (fun w2 h2 => sees_any Cb Cpb Cmb Cn Cc CT CA s1 ⟨#[43]⟩ false w2 h2 hse0)
     have HS1 := h_ (fun w2 h2 => sees_any Cb Cpb Cmb Cn Cc CT CA s1 ⟨#[45]⟩ true w2 h2 hse1)
     have HKp := h_ (fun w2 h2 => peek_any Cb Cpb Cmb Cn Cc CT CA s1 w2 h2)
     obtain ⟨t, ht⟩ : ∃ t, t = pk CT s1 := ⟨_, rfl⟩
     rw [← ht] at HKp
     obtain ⟨y, hy⟩ : ∃ y, y = bs t.text := ⟨_, rfl⟩
     rw [← hy] at HKp
     have HLT := h_ (show s1.next < Cn by rw [HHN.out]; exact hlt)
     have HI := h_ (fun w2 => IH.out _ _ (mea_adv (Nat.lt_of_le_of_lt hs1 (Nat.lt_succ_self _)) (Nat.lt_of_le_of_lt hs1 hlt)) _ _ h1 hg1.c_adv (notEncl (by simp)) w2)
     clear hrel hv hP hO hg1 hs1 h1 hlt ht hy hsee hse0 hse1
     go_wp2_with fail
     refine (HS0.out wr HP0.out).mono ?_
     rintro e w1_ ⟨rfl, hb2⟩
     have HV1 := h_ (HV0.out.owns (Owns.of_below hb2 (Fp Cpb Cmb)))
     have HP1 := h_ (HP0.out.below hb2)
     have HO1 := h_ (HO0.out.trans (Owns.of_below hb2 (Fp Cpb Cmb)))
     clear hb2
     go_wp2_with fail
     refine (HS1.out w1_ HP1.out).mono ?_
     rintro e w2_ ⟨rfl, hb2⟩
     have HV2 := h_ (HV1.out.owns (Owns.of_below hb2 (Fp Cpb Cmb)))
     have HP2 := h_ (HP1.out.below hb2)
     have HO2 := h_ (HO1.out.trans (Owns.of_below hb2 (Fp Cpb Cmb)))
     clear hb2
     go_wp2_with fail
     refine (HKp.out w2_ HP2.out).mono ?_
     rintro e wp ⟨rfl, hbp⟩
     have hbel : Below wp.heap.size wp (wp.alloc (.cells #[.int .i64 t.kind, .string y, .int .i64 t.pos] tTok)) := (Below.refl _ _).alloc (Nat.le_refl _) _
     have hx := Box.new wp #[.int .i64 t.kind, .string y, .int .i64 t.pos] tTok
     have hpp := HP2.out.below hbp
     have hpW := hpp.below hbel
     have hoW := (Owns.of_below hbp (Fp Cpb Cmb)).trans (Owns.of_below hbel _)
     obtain ⟨W, hWW⟩ : ∃ W, wp.alloc (.cells #[.int .i64 t.kind, .string y, .int .i64 t.pos] tTok) = W := ⟨_, rfl⟩
     rw [hWW] at hpW hoW hx
     obtain ⟨c0, c1, c2, c3, c4, c5, c6⟩ := hpW.cells
     have cf := hpW.fz
     have x0 : W.cell? ⟨wp.heap.size, 0, none⟩ = some (.int .i64 t.kind) := hx.cell 0
     have x1 : W.cell? ⟨wp.heap.size, 1, none⟩ = some (.string y) := hx.cell 1
     have x2 : W.cell? ⟨wp.heap.size, 2, none⟩ = some (.int .i64 t.pos) := hx.cell 2
     have xf := hx.fz
     have hltC := HLT.out
     have hne : wp.heap.size ≠ Cpb := Nat.ne_of_gt (show Cpb < wp.heap.size from hpp.lt)
     have hne2 : wp.heap.size ≠ Cmb := Nat.ne_of_gt (show Cmb < wp.heap.size from hpp.map.lt)
     have hpS := hpW.advs HLT.out
     have hoS := hoW.trans (owns_set W ⟨Cpb, 1, none⟩ (.int .i64 ((s1.next : Int) + 1)) (.inl rfl))
     have hbx : (W.setCell ⟨Cpb, 1, none⟩ (.int .i64 ((s1.next : Int) + 1))).heap[wp.heap.size]? = some (.cells #[.int .i64 t.kind, .string y, .int .i64 t.pos] tTok (0, 0)) := (Below.heap_setCell _ _ _ _ hne).trans hx.cells
     have HVS := h_ (HV2.out.owns hoS)
     have HOS := h_ (HO2.out.trans hoS)
     have HPS := h_ hpS
     have HBX := h_ hbx
     have HNF := h_ (show ¬ Fp Cpb Cmb wp.heap.size from fun e => e.elim hne hne2)
     obtain ⟨wS, hwS⟩ : ∃ wS, W.setCell ⟨Cpb, 1, none⟩ (.int .i64 ((s1.next : Int) + 1)) = wS := ⟨_, rfl⟩
     rw [hwS] at HVS HOS HPS HBX
     clear hbp hbel hx hpp hpW hoW hpS hoS hbx hne2
     go_wp2_with fail
     refine (HI.out wS HPS.out _ rfl).mono ?_
     rintro e w9 ⟨v9, rfl, hov9, hP9, hO9⟩
     have HE := h_ (show FPost ⟨Cb, Cpb, Cmb, CT, CA, Cn, Cc⟩ none s' w (.returned (.tuple #[.nilIface, .bool false])) w9 from ⟨_, rfl, rfl, hP9, HOS.out.trans hO9⟩)
     clear hP9 hO9
     go_wp2
     go_ret2
     exact HE.out
   | @teL_go _ _ y s2 _ _ hsee h1 h2 =>
    by_cases hse0 : sees CT s1 cPlus = true
    case pos =>
     have hlt := sees_lt hse0
     have HS0 := h_ (fun w2 h2 => sees_any Cb Cpb Cmb Cn Cc CT CA s1 ⟨#[43]⟩ true w2 h2 hse0)
     have HKp := h_ (fun w2 h2 => peek_any Cb Cpb Cmb Cn Cc CT CA s1 w2 h2)
     obtain ⟨t, ht⟩ : ∃ t, t = pk CT s1 := ⟨_, rfl⟩
     rw [← ht] at HKp h2
     obtain ⟨yb, hy⟩ : ∃ yb, yb = bs t.text := ⟨_, rfl⟩
     rw [← hy] at HKp
     have HLT := h_ (show s1.next < Cn by rw [HHN.out]; exact hlt)
     have HI := h_ (fun w2 => IH.out _ _ (mea_adv (Nat.lt_of_le_of_lt hs1 (Nat.lt_succ_self _)) (Nat.lt_of_le_of_lt hs1 hlt)) _ _ h1 hg1.c_adv (notEncl (by simp)) w2)
     have htx : t.text = cPlus := by rw [ht]; exact (sees_kind hse0).2
     have hsum : sumT t x y = .add x y := by unfold sumT; rw [htx]; rfl
     rw [hsum] at h2
     have HB1 := h_ h1
     have HB2 := h_ h2
     have hy2 : yb = ⟨#[43]⟩ := by rw [hy, htx]; rfl
     have HY := h_ hy
     clear hy
     subst hy2
     clear hrel hv hP hO hg1 hs1 h1 h2 hlt ht htx hsum hsee hse0
     go_wp2_with fail
     refine (HS0.out wr HP0.out).mono ?_
     rintro e w1_ ⟨rfl, hb2⟩
     have HV1 := h_ (HV0.out.owns (Owns.of_below hb2 (Fp Cpb Cmb)))
     have HP1 := h_ (HP0.out.below hb2)
     have HO1 := h_ (HO0.out.trans (Owns.of_below hb2 (Fp Cpb Cmb)))
     clear hb2
     go_wp2_with fail
     refine (HKp.out w1_ HP1.out).mono ?_
     rintro e wp ⟨rfl, hbp⟩
     have hbel : Below wp.heap.size wp (wp.alloc (.cells #[.int .i64 t.kind, .string ⟨#[43]⟩, .int .i64 t.pos] tTok)) := (Below.refl _ _).alloc (Nat.le_refl _) _
     have hx := Box.new wp #[.int .i64 t.kind, .string ⟨#[43]⟩, .int .i64 t.pos] tTok
     have hpp := HP1.out.below hbp
     have hpW := hpp.below hbel
     have hoW := (Owns.of_below hbp (Fp Cpb Cmb)).trans (Owns.of_below hbel _)
     obtain ⟨W, hWW⟩ : ∃ W, wp.alloc (.cells #[.int .i64 t.kind, .string ⟨#[43]⟩, .int .i64 t.pos] tTok) = W := ⟨_, rfl⟩
     rw [hWW] at hpW hoW hx
     obtain ⟨c0, c1, c2, c3, c4, c5, c6⟩ := hpW.cells
     have cf := hpW.fz
     have x0 : W.cell? ⟨wp.heap.size, 0, none⟩ = some (.int .i64 t.kind) := hx.cell 0
     have x1 : W.cell? ⟨wp.heap.size, 1, none⟩ = some (.string ⟨#[43]⟩) := hx.cell 1
     have x2 : W.cell? ⟨wp.heap.size, 2, none⟩ = some (.int .i64 t.pos) := hx.cell 2
     have xf := hx.fz
     have hltC := HLT.out
     have hne : wp.heap.size ≠ Cpb := Nat.ne_of_gt (show Cpb < wp.heap.size from hpp.lt)
     have hne2 : wp.heap.size ≠ Cmb := Nat.ne_of_gt (show Cmb < wp.heap.size from hpp.map.lt)
     have hpS := hpW.advs HLT.out
     have hoS := hoW.trans (owns_set W ⟨Cpb, 1, none⟩ (.int .i64 ((s1.next : Int) + 1)) (.inl rfl))
     have hbx : (W.setCell ⟨Cpb, 1, none⟩ (.int .i64 ((s1.next : Int) + 1))).heap[wp.heap.size]? = some (.cells #[.int .i64 t.kind, .string ⟨#[43]⟩, .int .i64 t.pos] tTok (0, 0)) := (Below.heap_setCell _ _ _ _ hne).trans hx.cells
     have HVS := h_ (HV1.out.owns hoS)
     have HOS := h_ (HO1.out.trans hoS)
     have HPS := h_ hpS
     have HBX := h_ hbx
     have HNF := h_ (show ¬ Fp Cpb Cmb wp.heap.size from fun e => e.elim hne hne2)
     obtain ⟨wS, hwS⟩ : ∃ wS, W.setCell ⟨Cpb, 1, none⟩ (.int .i64 ((s1.next : Int) + 1)) = wS := ⟨_, rfl⟩
     rw [hwS] at HVS HOS HPS HBX
     clear hbp hbel hx hpp hpW hoW hpS hoS hbx hne2
     go_wp2_with fail
     refine (HI.out wS HPS.out _ rfl).mono ?_
     rintro e w9 ⟨u9, z9, rfl, hv9, hP9, hO9⟩
     have HV9 := h_ hv9
     have HX9 := h_ (HVS.out.owns hO9)
     have HP9 := h_ hP9
     have hbx9 := (hO9.same wp.heap.size (Array.getElem?_eq_some_iff.1 HBX.out).1 HNF.out).trans HBX.out
     have HBX9 := h_ hbx9
     have b0 : w9.cell? ⟨wp.heap.size, 0, none⟩ = some (.int .i64 t.kind) := by simp [World.cell?, hbx9]
     have b1 : w9.cell? ⟨wp.heap.size, 1, none⟩ = some (.string ⟨#[43]⟩) := by simp [World.cell?, hbx9]
     have b2 : w9.cell? ⟨wp.heap.size, 2, none⟩ = some (.int .i64 t.pos) := by simp [World.cell?, hbx9]
     have HO9 := h_ (HOS.out.trans hO9)
     clear hv9 hP9 hO9 hbx9 c0 c1 c2 c3 c4 c5 c6 cf x0 x1 x2 xf hWW hwS
     have HPV := HP9
     have HVV := HV9
     have HXV := HX9
     have HOV := HO9
     have hbelU : Below w9.heap.size w9 (w9.alloc (.cells #[.iface u z, .iface u9 z9] tTe)) := (Below.refl _ _).alloc (Nat.le_refl _) _
     have hxU := Box.new w9 #[.iface u z, .iface u9 z9] tTe
     have hoU := Owns.of_below hbelU (Fp Cpb Cmb)
     have hpU := HPV.out.below hbelU
     have hv1 := HXV.out.owns hoU
     have hv2 := HVV.out.owns hoU
     have hM := measure_any Cb Cpb Cmb Cn Cc CT CA s2 t (.add x y) (.iface tAdd (.agg #[.iface u z, .iface u9 z9])) [x, y] [.iface u z, .iface u9 z9] w9.heap.size 2 rfl rfl (Gp Cpb Cmb (w9.alloc (.cells #[.iface u z, .iface u9 z9] tTe))) (w9.alloc (.cells #[.iface u z, .iface u9 z9] tTe)) (fun b hb => hb.1) hpU ⟨_, _, rfl, hv1.1, hv2.1⟩ ⟨hv1.2.2, hv2.2.2⟩ hxU.cells (fun i tt hi => by
      match i, hi with
      | 0, hi => simp at hi; subst hi; exact ⟨_, rfl, hv1.1, hv1.2.2⟩
      | 1, hi => simp at hi; subst hi; exact ⟨_, rfl, hv2.1, hv2.2.2⟩
      | k + 2, hi => simp at hi) (by decide)
     rw [← HY.out] at hM
     have HM := h_ hM
     have HVU := h_ hv2
     have HXU := h_ hv1
     have HOU := h_ (HOV.out.trans hoU)
     have HBU := h_ hbelU
     clear hbelU hxU hoU hpU hv1 hv2 hM
     go_wp2_with fail
     refine HM.out.mono ?_
     rintro e wM ⟨rfl, hPM, hOM⟩
     have HPM := h_ hPM
     have HVM := h_ (HVU.out.owns hOM)
     have HXM := h_ (HXU.out.owns hOM)
     have HOM := h_ (HOU.out.trans hOM)
     have HM1 := h_ (msr_true (C := ⟨Cb, Cpb, Cmb, CT, CA, Cn, Cc⟩) hPM)
     clear hPM hOM b0 b1 b2 
     have HRel := h_ (show termRel ⟨Cb, Cpb, Cmb, CT, CA, Cn, Cc⟩ w s r s' (.iface tAdd (.agg #[.iface u z, .iface u9 z9])) (.bool true) wM from .inr ⟨(.add x y), _, _, meas s2 t (.add x y) [x, y], rfl, rfl, ⟨⟨_, _, rfl, HXM.out.1, HVM.out.1⟩, by simp, HXM.out.2.2, HVM.out.2.2⟩, HPM.out, HOM.out, HB2.out, (HB1.out.gd HG1.out.c_adv).c_meas _ _ _, by rw [meas_next]; exact Nat.le_trans HSQ.out (Nat.le_trans (Nat.le_succ _) HB1.out.mono)⟩)
     go_wp2
     go_roundw
     case rel => exact HRel
     case measure =>
      have e1 := HM1.out
      have e2 := HN1.out
      have e3 : s1.next + 1 ≤ s2.next := HB1.out.mono
      have e4 := meas_next s2 t (.add x y) [x, y]
      show msr Cn Cpb (.bool true) wM < msr Cn Cpb (.bool true) wr
      rw [hmt]
      omega
    case neg =>
     have hse0 : sees CT s1 cPlus = false := by simpa using hse0
     have hse1 : sees CT s1 cMinus = true := by rw [hse0] at hsee; simpa using hsee
     have hlt := sees_lt hse1
     have HS0 := h_ (fun w2 h2 => sees_any Cb Cpb Cmb Cn Cc CT CA s1 ⟨#[43]⟩ false w2 h2 hse0)
     have HS1 := h_ (fun w2 h2 => sees_any Cb Cpb Cmb Cn Cc CT CA s1 ⟨#[45]⟩ true w2 h2 hse1)
     have HKp := h_ (fun w2 h2 => peek_any Cb Cpb Cmb Cn Cc CT CA s1 w2 h2)
     obtain ⟨t, ht⟩ : ∃ t, t = pk CT s1 := ⟨_, rfl⟩
     rw [← ht] at HKp h2
     obtain ⟨yb, hy⟩ : ∃ yb, yb = bs t.text := ⟨_, rfl⟩
     rw [← hy] at HKp
     have HLT := h_ (show s1.next < Cn by rw [HHN.out]; exact hlt)
     have HI := h_ (fun w2 => IH.out _ _ (mea_adv (Nat.lt_of_le_of_lt hs1 (Nat.lt_succ_self _)) (Nat.lt_of_le_of_lt hs1 hlt)) _ _ h1 hg1.c_adv (notEncl (by simp)) w2)
     have htx : t.text = cMinus := by rw [ht]; exact (sees_kind hse1).2
     have hsum : sumT t x y = .sub x y := by unfold sumT; rw [htx]; rfl
     rw [hsum] at h2
     have HB1 := h_ h1
     have HB2 := h_ h2
     have hy2 : yb = ⟨#[45]⟩ := by rw [hy, htx]; rfl
     have HY := h_ hy
     clear hy
     subst hy2
     clear hrel hv hP hO hg1 hs1 h1 h2 hlt ht htx hsum hsee hse0 hse1
     go_wp2_with fail
     refine (HS0.out wr HP0.out).mono ?_
     rintro e w1_ ⟨rfl, hb2⟩
     have HV1 := h_ (HV0.out.owns (Owns.of_below hb2 (Fp Cpb Cmb)))
     have HP1 := h_ (HP0.out.below hb2)
     have HO1 := h_ (HO0.out.trans (Owns.of_below hb2 (Fp Cpb Cmb)))
     clear hb2
     go_wp2_with fail
     refine (HS1.out w1_ HP1.out).mono ?_
     rintro e w2_ ⟨rfl, hb2⟩
     have HV2 := h_ (HV1.out.owns (Owns.of_below hb2 (Fp Cpb Cmb)))
     have HP2 := h_ (HP1.out.below hb2)
     have HO2 := h_ (HO1.out.trans (Owns.of_below hb2 (Fp Cpb Cmb)))
     clear hb2
     go_wp2_with fail
     refine (HKp.out w2_ HP2.out).mono ?_
     rintro e wp ⟨rfl, hbp⟩
     have hbel : Below wp.heap.size wp (wp.alloc (.cells #[.int .i64 t.kind, .string ⟨#[45]⟩, .int .i64 t.pos] tTok)) := (Below.refl _ _).alloc (Nat.le_refl _) _
     have hx := Box.new wp #[.int .i64 t.kind, .string ⟨#[45]⟩, .int .i64 t.pos] tTok
     have hpp := HP2.out.below hbp
     have hpW := hpp.below hbel
     have hoW := (Owns.of_below hbp (Fp Cpb Cmb)).trans (Owns.of_below hbel _)
     obtain ⟨W, hWW⟩ : ∃ W, wp.alloc (.cells #[.int .i64 t.kind, .string ⟨#[45]⟩, .int .i64 t.pos] tTok) = W := ⟨_, rfl⟩
     rw [hWW] at hpW hoW hx
     obtain ⟨c0, c1, c2, c3, c4, c5, c6⟩ := hpW.cells
     have cf := hpW.fz
     have x0 : W.cell? ⟨wp.heap.size, 0, none⟩ = some (.int .i64 t.kind) := hx.cell 0
     have x1 : W.cell? ⟨wp.heap.size, 1, none⟩ = some (.string ⟨#[45]⟩) := hx.cell 1
     have x2 : W.cell? ⟨wp.heap.size, 2, none⟩ = some (.int .i64 t.pos) := hx.cell 2
     have xf := hx.fz
     have hltC := HLT.out
     have hne : wp.heap.size ≠ Cpb := Nat.ne_of_gt (show Cpb < wp.heap.size from hpp.lt)
     have hne2 : wp.heap.size ≠ Cmb := Nat.ne_of_gt (show Cmb < wp.heap.size from hpp.map.lt)
     have hpS := hpW.advs HLT.out
     have hoS := hoW.trans (owns_set W ⟨Cpb, 1, none⟩ (.int .i64 ((s1.next : Int) + 1)) (.inl rfl))
     have hbx : (W.setCell ⟨Cpb, 1, none⟩ (.int .i64 ((s1.next : Int) + 1))).heap[wp.heap.size]? = some (.cells #[.int .i64 t.kind, .string ⟨#[45]⟩, .int .i64 t.pos] tTok (0, 0)) := (Below.heap_setCell _ _ _ _ hne).trans hx.cells
     have HVS := h_ (HV2.out.owns hoS)
     have HOS := h_ (HO2.out.trans hoS)
     have HPS := h_ hpS
     have HBX := h_ hbx
     have HNF := h_ (show ¬ Fp Cpb Cmb wp.heap.size from fun e => e.elim hne hne2)
     obtain ⟨wS, hwS⟩ : ∃ wS, W.setCell ⟨Cpb, 1, none⟩ (.int .i64 ((s1.next : Int) + 1)) = wS := ⟨_, rfl⟩
     rw [hwS] at HVS HOS HPS HBX
     clear hbp hbel hx hpp hpW hoW hpS hoS hbx hne2
     go_wp2_with fail
     refine (HI.out wS HPS.out _ rfl).mono ?_
     rintro e w9 ⟨u9, z9, rfl, hv9, hP9, hO9⟩
     have HV9 := h_ hv9
     have HX9 := h_ (HVS.out.owns hO9)
     have HP9 := h_ hP9
     have hbx9 := (hO9.same wp.heap.size (Array.getElem?_eq_some_iff.1 HBX.out).1 HNF.out).trans HBX.out
     have HBX9 := h_ hbx9
     have b0 : w9.cell? ⟨wp.heap.size, 0, none⟩ = some (.int .i64 t.kind) := by simp [World.cell?, hbx9]
     have b1 : w9.cell? ⟨wp.heap.size, 1, none⟩ = some (.string ⟨#[45]⟩) := by simp [World.cell?, hbx9]
     have b2 : w9.cell? ⟨wp.heap.size, 2, none⟩ = some (.int .i64 t.pos) := by simp [World.cell?, hbx9]
     have HO9 := h_ (HOS.out.trans hO9)
     clear hv9 hP9 hO9 hbx9 c0 c1 c2 c3 c4 c5 c6 cf x0 x1 x2 xf hWW hwS
     have HPV := HP9
     have HVV := HV9
     have HXV := HX9
     have HOV := HO9
     have hbelU : Below w9.heap.size w9 (w9.alloc (.cells #[.iface u z, .iface u9 z9] tTe)) := (Below.refl _ _).alloc (Nat.le_refl _) _
     have hxU := Box.new w9 #[.iface u z, .iface u9 z9] tTe
     have hoU := Owns.of_below hbelU (Fp Cpb Cmb)
     have hpU := HPV.out.below hbelU
     have hv1 := HXV.out.owns hoU
     have hv2 := HVV.out.owns hoU
     have hM := measure_any Cb Cpb Cmb Cn Cc CT CA s2 t (.sub x y) (.iface tSub (.agg #[.iface u z, .iface u9 z9])) [x, y] [.iface u z, .iface u9 z9] w9.heap.size 2 rfl rfl (Gp Cpb Cmb (w9.alloc (.cells #[.iface u z, .iface u9 z9] tTe))) (w9.alloc (.cells #[.iface u z, .iface u9 z9] tTe)) (fun b hb => hb.1) hpU ⟨_, _, rfl, hv1.1, hv2.1⟩ ⟨hv1.2.2, hv2.2.2⟩ hxU.cells (fun i tt hi => by
      match i, hi with
      | 0, hi => simp at hi; subst hi; exact ⟨_, rfl, hv1.1, hv1.2.2⟩
      | 1, hi => simp at hi; subst hi; exact ⟨_, rfl, hv2.1, hv2.2.2⟩
      | k + 2, hi => simp at hi) (by decide)
     rw [← HY.out] at hM
     have HM := h_ hM
     have HVU := h_ hv2
     have HXU := h_ hv1
     have HOU := h_ (HOV.out.trans hoU)
     have HBU := h_ hbelU
     clear hbelU hxU hoU hpU hv1 hv2 hM
     go_wp2_with fail
     refine HM.out.mono ?_
     rintro e wM ⟨rfl, hPM, hOM⟩
     have HPM := h_ hPM
     have HVM := h_ (HVU.out.owns hOM)
     have HXM := h_ (HXU.out.owns hOM)
     have HOM := h_ (HOU.out.trans hOM)
     have HM1 := h_ (msr_true (C := ⟨Cb, Cpb, Cmb, CT, CA, Cn, Cc⟩) hPM)
     clear hPM hOM b0 b1 b2 
     have HRel := h_ (show termRel ⟨Cb, Cpb, Cmb, CT, CA, Cn, Cc⟩ w s r s' (.iface tSub (.agg #[.iface u z, .iface u9 z9])) (.bool true) wM from .inr ⟨(.sub x y), _, _, meas s2 t (.sub x y) [x, y], rfl, rfl, ⟨⟨_, _, rfl, HXM.out.1, HVM.out.1⟩, by simp, HXM.out.2.2, HVM.out.2.2⟩, HPM.out, HOM.out, HB2.out, (HB1.out.gd HG1.out.c_adv).c_meas _ _ _, by rw [meas_next]; exact Nat.le_trans HSQ.out (Nat.le_trans (Nat.le_succ _) HB1.out.mono)⟩)
     go_wp2
     go_roundw
     case rel => exact HRel
     case measure =>
      have e1 := HM1.out
      have e2 := HN1.out
      have e3 : s1.next + 1 ≤ s2.next := HB1.out.mono
      have e4 := meas_next s2 t (.sub x y) [x, y]
      show msr Cn Cpb (.bool true) wM < msr Cn Cpb (.bool true) wr
      rw [hmt]
      omega
end Pa
end Go.Proofs.YteneobpacobpdaaGreatDoor
namespace Go.Proofs.YteneobpacobpdaaGreatDoor
open Go.RowKit
namespace Pa
open Lx Fm Dc
attribute [local go_sem] run_store fieldTok0 fieldTok2
attribute [local go_sem] anF_Num anF_Name anF_Add anF_Sub anF_Mul anF_Neg anF_Pow anF_Truth anF_Atom anF_Not anF_And anF_Or anF_Implies anF_Iff anF_Quant anT_Num anT_Name anT_Add anT_Sub anT_Mul anT_Neg anT_Pow
theorem factor_walk (C : Cx) (q : Option Tm) (vq : Value) (s : PS) (r : Option PV) (s' : PS) (hB : Big C.T (.fac q) s r s') (hg : Gd s) (htok : TokOk C.T) (ih : IH C (mea C.T (.fac q) s)) (w : World) (h : C.At s w) (hq : QAt C w q vq) :
  Calls Tryz.prog 123 #[C.p, vq] w (FPost C r s' w) := by
 have hn := h.hn
 have hnext := h.next
 have hlen := h.len
 obtain ⟨Cb, Cpb, Cmb, CT, CA, Cn, Cc⟩ := C
 dsimp only at *
 cases hB with
 | @fa_first x _ _ _ h1 =>
  have HP0 := h_ h
  have HO0 := h_ (Owns.refl w (Fp Cpb Cmb))
  have HI := h_ (ih _ _ (mea_same (by simp [lvl])) _ _ h1 hg (notEncl (by simp)) w h vq hq)
  obtain ⟨u, z, rfl⟩ := PVAt.iface (x := .tm x) hq
  clear h1 ih hg h htok hq
  go_enter Tryz.func123, Tryz.ntmps123
  go_wp2_with fail
  refine HI.out.mono ?_
  intro e w1 hF
  obtain ⟨v, ok, rfl, hov, hF⟩ := hF.tup
  have HE := h_ hF
  clear hF
  go_wp2
  go_ret2
  exact HE.out
 | @fa_pow _ _ _ hsee h1 =>
  have HP0 := h_ h
  have HO0 := h_ (Owns.refl w (Fp Cpb Cmb))
  have HS := h_ (fun w1 h2 => sees_any Cb Cpb Cmb Cn Cc CT CA s ⟨#[45]⟩ false w1 h2 hsee)
  obtain rfl := hq
  have HI := h_ (fun w2 h2 => ih _ _ (mea_same (by simp [lvl])) _ _ h1 hg (notEncl (by simp)) w2 h2 .nilIface rfl)
  clear h1 ih hg h htok hsee
  go_enter Tryz.func123, Tryz.ntmps123
  go_wp2_with fail
  refine (HS.out w HP0.out).mono ?_
  rintro e w1 ⟨rfl, hb1⟩
  have HP1 := h_ (HP0.out.below hb1)
  have HO1 := h_ (HO0.out.trans (Owns.of_below hb1 (Fp Cpb Cmb)))
  clear hb1
  go_wp2_with fail
  refine (HI.out w1 HP1.out).mono ?_
  intro e w2 hF
  obtain ⟨v, ok, rfl, hov, hF⟩ := hF.tup
  have HE := h_ (hF.after HO1.out)
  clear hF
  go_wp2
  go_ret2
  exact HE.out
 | @fa_no _ s1 hsee h1 =>
  have HP0 := h_ h
  have HO0 := h_ (Owns.refl w (Fp Cpb Cmb))
  have hlt := sees_lt hsee
  rw [← hn] at hlt
  obtain rfl := hq
  have HS := h_ (fun w1 h2 => sees_any Cb Cpb Cmb Cn Cc CT CA s ⟨#[45]⟩ true w1 h2 hsee)
  have HOp := h_ (fun w1 h2 => open_any Cb Cpb Cmb Cn Cc CT CA s w1 h2 hg hlt)
  have HI := h_ (fun w2 h2 => ih _ _ (mea_adv (by rw [opn_next]; exact Nat.lt_succ_self _) (sees_lt hsee)) _ _ h1 hg.c_opn (notEncl (by simp)) w2 h2 .nilIface rfl)
  have hd : 0 < s1.depth := by rw [h1.depth, opn_depth]; omega
  clear h1 ih hg h hsee htok
  go_enter Tryz.func123, Tryz.ntmps123
  go_wp2_with fail
  refine (HS.out w HP0.out).mono ?_
  rintro e w1 ⟨rfl, hb1⟩
  have HP1 := h_ (HP0.out.below hb1)
  have HO1 := h_ (HO0.out.trans (Owns.of_below hb1 (Fp Cpb Cmb)))
  clear hb1
  go_wp2_with fail
  refine (HOp.out w1 HP1.out).mono ?_
  rintro e w2 ⟨rfl, hP2, hO2⟩
  have HP2 := h_ hP2
  have HO2 := h_ (HO1.out.trans hO2)
  clear hP2 hO2
  go_wp2_with fail
  refine (HI.out w2 HP2.out).mono ?_
  rintro e w3 ⟨v3, rfl, hov3, hP3, hO3⟩
  have HP3 := h_ hP3
  have HO3 := h_ (HO2.out.trans hO3)
  clear hP3 hO3
  obtain ⟨c0, c1, c2, c3, c4, c5, c6⟩ := HP3.out.cells
  have fz2 := HP3.out.fz
  have hdl : s1.depth ≤ 4001 := by have := HP3.out.depth; have := HP3.out.next; (try dsimp only at *); omega
  have HPd := h_ (HP3.out.down hd)
  have HOd := h_ (HO3.out.trans (owns_set w3 ⟨Cpb, 2, none⟩ (.int .i64 ((s1.depth : Int) - 1)) (.inl rfl)))
  go_wp2_with fail
  have HE := h_ (show FPost ⟨Cb, Cpb, Cmb, CT, CA, Cn, Cc⟩ none (dn s1) w (.returned (.tuple #[.nilIface, .bool false])) (w3.setCell ⟨Cpb, 2, none⟩ (.int .i64 ((s1.depth : Int) - 1))) from ⟨_, rfl, rfl, HPd.out, HOd.out⟩)
  go_wp2
  go_ret2
  exact HE.out
 | @fa_neg _ t s1 hsee h1 =>
  have HP0 := h_ h
  have HO0 := h_ (Owns.refl w (Fp Cpb Cmb))
  have hlt := sees_lt hsee
  rw [← hn] at hlt
  obtain rfl := hq
  have HS := h_ (fun w1 h2 => sees_any Cb Cpb Cmb Cn Cc CT CA s ⟨#[45]⟩ true w1 h2 hsee)
  have HOp := h_ (fun w1 h2 => open_any Cb Cpb Cmb Cn Cc CT CA s w1 h2 hg hlt)
  have HI := h_ (fun w2 h2 => ih _ _ (mea_adv (by rw [opn_next]; exact Nat.lt_succ_self _) (sees_lt hsee)) _ _ h1 hg.c_opn (notEncl (by simp)) w2 h2 .nilIface rfl)
  have hd : 0 < s1.depth := by rw [h1.depth, opn_depth]; omega
  clear h1 ih hg h hsee htok
  go_enter Tryz.func123, Tryz.ntmps123
  go_wp2_with fail
  refine (HS.out w HP0.out).mono ?_
  rintro e w1 ⟨rfl, hb1⟩
  have HP1 := h_ (HP0.out.below hb1)
  have HO1 := h_ (HO0.out.trans (Owns.of_below hb1 (Fp Cpb Cmb)))
  clear hb1
  go_wp2_with fail
  refine (HOp.out w1 HP1.out).mono ?_
  rintro e w2 ⟨rfl, hP2, hO2⟩
  have HP2 := h_ hP2
  have HO2 := h_ (HO1.out.trans hO2)
  clear hP2 hO2
  go_wp2_with fail
  refine (HI.out w2 HP2.out).mono ?_
  rintro e w3 ⟨u3, z3, rfl, hv3, hP3, hO3⟩
  have HV3 := h_ hv3
  have HP3 := h_ hP3
  have HO3 := h_ (HO2.out.trans hO3)
  clear hv3 hP3 hO3
  obtain ⟨c0, c1, c2, c3, c4, c5, c6⟩ := HP3.out.cells
  have fz2 := HP3.out.fz
  have hdl : s1.depth ≤ 4001 := by have := HP3.out.depth; have := HP3.out.next; (try dsimp only at *); omega
  have HPd := h_ (HP3.out.down hd)
  have HOd := h_ (HO3.out.trans (owns_set w3 ⟨Cpb, 2, none⟩ (.int .i64 ((s1.depth : Int) - 1)) (.inl rfl)))
  have HVd := h_ (HV3.out.owns (owns_set w3 ⟨Cpb, 2, none⟩ (.int .i64 ((s1.depth : Int) - 1)) (.inl rfl)))
  go_wp2_with fail
  have HE := h_ (show FPost ⟨Cb, Cpb, Cmb, CT, CA, Cn, Cc⟩ (some (.tm (.neg t))) (dn s1) w (.returned (.tuple #[.iface tNeg (.agg #[.iface u3 z3]), .bool true])) (w3.setCell ⟨Cpb, 2, none⟩ (.int .i64 ((s1.depth : Int) - 1))) from ⟨_, _, rfl, ⟨⟨_, rfl, HVd.out.1⟩, by simp, HVd.out.2.2⟩, HPd.out, HOd.out⟩)
  go_wp2
  go_ret2
  exact HE.out
end Pa
end Go.Proofs.YteneobpacobpdaaGreatDoor
namespace Go.Proofs.YteneobpacobpdaaGreatDoor
open Go.RowKit
namespace Pa
open Lx Fm Dc
attribute [local go_sem] run_store fieldTok0 fieldTok2
attribute [local go_sem] anF_Num anF_Name anF_Add anF_Sub anF_Mul anF_Neg anF_Pow anF_Truth anF_Atom anF_Not anF_And anF_Or anF_Implies anF_Iff anF_Quant anT_Num anT_Name anT_Add anT_Sub anT_Mul anT_Neg anT_Pow
theorem limbF_len (k n : Nat) : (limbF k n).length ≤ k := by
 induction k generalizing n with
 | zero => exact Nat.le_refl _
 | succ k ih =>
  unfold limbF
  split
  ·exact Nat.zero_le _
  ·simpa using ih _
theorem TokOk.num {T : List Tok} (h : TokOk T) (s : PS) (hk : (Pa.pk T s).kind = 1) : (∀ c ∈ (bs (Pa.pk T s).text).data.toList, dig c = true) ∧ ∃ h0 : 0 < (bs (Pa.pk T s).text).size, (bs (Pa.pk T s).text).size ≤ 40 ∧ ((bs (Pa.pk T s).text).size = 1 ∨ ((bs (Pa.pk T s).text)[0]'h0).toNat ≠ 48) := by
 have h1 := h.pk s
 unfold Pa.pk at hk h1 ⊢
 rcases hx : T[s.next]? with _ | t
 ·rw [hx] at hk; simp [tok0] at hk
 ·rw [hx] at hk h1
  simp only [Option.getD_some] at hk h1 ⊢
  obtain ⟨a, b, c⟩ := (h t (List.mem_of_getElem? hx)).2 hk
  have e : (bs t.text).size = t.text.length := bs_size _
  refine ⟨by simpa [bs] using a, by rw [e]; exact b, by rw [e]; exact h1, ?_⟩
  rcases c with c | c
  ·exact .inl (e.trans c)
  ·right
   have := c b
   exact this
theorem primary_walk (C : Cx) (s : PS) (r : Option PV) (s' : PS) (hB : Big C.T .prim s r s') (hg : Gd s) (htok : TokOk C.T) (ih : IH C (mea C.T .prim s)) (w : World) (h : C.At s w) :
  Calls Tryz.prog 126 #[C.p] w (FPost C r s' w) := by
 have hn := h.hn
 have hnext := h.next
 have hlen := h.len
 obtain ⟨Cb, Cpb, Cmb, CT, CA, Cn, Cc⟩ := C
 dsimp only at *
 have HKp := h_ (peek_any Cb Cpb Cmb Cn Cc CT CA s w h)
 obtain ⟨t, ht⟩ : ∃ t, t = pk CT s := ⟨_, rfl⟩
 obtain ⟨k, hk⟩ : ∃ k : Int, k = (t.kind : Int) := ⟨_, rfl⟩
 obtain ⟨y, hy⟩ : ∃ y, y = bs t.text := ⟨_, rfl⟩
 rw [← ht, ← hk, ← hy] at HKp
 have HY := h_ hy
 have HP0 := h_ h
 have HO0 := h_ (Owns.refl w (Fp Cpb Cmb))
 cases hB with
 | pr_num hk1 =>
  have hlt : s.next < Cn := by rw [hn]; exact pk_lt (by rw [hk1]; decide)
  obtain ⟨hd, h0, h40, hz⟩ := htok.num s hk1
  rw [← ht] at hk1
  obtain rfl : k = 1 := by rw [hk, hk1]; rfl
  have HPa := h_ (fun w2 => Parse_any (bs (pk CT s).text) hd h0 h40 hz w2)
  rw [← ht] at HPa ⊢
  rw [← hy] at HPa
  clear ih hg h htok hd h0 h40 hz ht hk hk1 hy
  go_enter Tryz.func126, Tryz.ntmps126
  go_wp2_with fail
  refine HKp.out.mono ?_
  rintro e wp ⟨rfl, hbp⟩
  have hbel : Below wp.heap.size wp (wp.alloc (.cells #[.int .i64 1, .string y, .int .i64 t.pos] tTok)) := (Below.refl _ _).alloc (Nat.le_refl _) _
  have hx := Box.new wp #[.int .i64 1, .string y, .int .i64 t.pos] tTok
  have hpp := HP0.out.below hbp
  have hpW := hpp.below hbel
  have hoW := (Owns.of_below hbp (Fp Cpb Cmb)).trans (Owns.of_below hbel _)
  obtain ⟨W, hWW⟩ : ∃ W, wp.alloc (.cells #[.int .i64 1, .string y, .int .i64 t.pos] tTok) = W := ⟨_, rfl⟩
  rw [hWW] at hpW hoW hx
  obtain ⟨c0, c1, c2, c3, c4, c5, c6⟩ := hpW.cells
  have cf := hpW.fz
  have x0 : W.cell? ⟨wp.heap.size, 0, none⟩ = some (.int .i64 1) := hx.cell 0
  have x1 : W.cell? ⟨wp.heap.size, 1, none⟩ = some (.string y) := hx.cell 1
  have x2 : W.cell? ⟨wp.heap.size, 2, none⟩ = some (.int .i64 t.pos) := hx.cell 2
  have xf := hx.fz
  have hne : wp.heap.size ≠ Cpb := Nat.ne_of_gt (show Cpb < wp.heap.size from hpp.lt)
  have HX := h_ hx
  have HPW := h_ hpW
  have HOW := h_ hoW
  clear hbp hbel hx hpp hpW hoW
  have hpS := HPW.out.advs hlt
  have hoS := HOW.out.trans (owns_set W ⟨Cpb, 1, none⟩ (.int .i64 ((s.next : Int) + 1)) (.inl rfl))
  have hbx : (W.setCell ⟨Cpb, 1, none⟩ (.int .i64 ((s.next : Int) + 1))).heap[wp.heap.size]? = some (.cells #[.int .i64 1, .string y, .int .i64 t.pos] tTok (0, 0)) := (Below.heap_setCell _ _ _ _ hne).trans HX.out.cells
  have HPS := h_ hpS
  have HOS := h_ hoS
  obtain ⟨wS, hwS⟩ : ∃ wS, W.setCell ⟨Cpb, 1, none⟩ (.int .i64 ((s.next : Int) + 1)) = wS := ⟨_, rfl⟩
  rw [hwS] at HOS HPS hbx
  have y1 : wS.cell? ⟨wp.heap.size, 1, none⟩ = some (.string y) := by simp [World.cell?, hbx]
  clear hbx hpS hoS
  go_wp2_with fail
  refine (HPa.out wS).mono ?_
  rintro e w9 ⟨A, n, c, rfl, hA, hb9⟩
  have hPM : Cpb < wS.heap.size ∧ Cmb < wS.heap.size := ⟨HPS.out.lt, HPS.out.map.lt⟩
  have hbelV : Below w9.heap.size w9 (w9.alloc (.cells #[.bool false, .slice A n c] 35)) := (Below.refl _ _).alloc (Nat.le_refl _) _
  have hxV := Box.new w9 #[.bool false, .slice A n c] 35
  have hA2 := hA.keep (w' := w9.alloc (.cells #[.bool false, .slice A n c] 35)) (fun p hp => hbelV.cell hp.2)
  obtain ⟨V, hVV⟩ : ∃ V, w9.alloc (.cells #[.bool false, .slice A n c] 35) = V := ⟨_, rfl⟩
  rw [hVV] at hbelV hxV hA2
  obtain ⟨m0, m1⟩ := hxV.c2
  have mf := hxV.fz
  have hsz := hbelV.size
  have HE := h_ (show FPost ⟨Cb, Cpb, Cmb, CT, CA, Cn, Cc⟩ (some (.tm (numT t.text))) (adv s) w (.returned (.tuple #[.iface tNum (.agg #[.bool false, .slice A n c]), .bool true])) V from ⟨_, _, rfl, ⟨⟨A, n, c, rfl, by
   have e : y.data.toList = t.text := by rw [HY.out]; simp [bs]
   rw [e] at hA2
   exact hA2.more (fun b hb => ⟨Nat.lt_of_lt_of_le hb.2 hsz, fun e => by have h9 := hb.1; rcases (show b = Cpb ∨ b = Cmb from e) with e | e <;> omega⟩)⟩, by simp [numT], by show (limbs _).length ≤ 1000000; exact Nat.le_trans (limbF_len 8 _) (by decide)⟩, (HPS.out.below hb9).below hbelV, (HOS.out.trans (Owns.of_below hb9 _)).trans (Owns.of_below hbelV _)⟩)
  clear hA hA2 hb9 hPM hbelV hxV hsz
  go_wp2
  go_ret2
  exact HE.out
 | pr_name hk1 =>
  have hlt : s.next < Cn := by rw [hn]; exact pk_lt (by rw [hk1]; decide)
  have h40 := htok.pk s
  rw [← ht] at hk1 h40
  obtain rfl : k = 2 := by rw [hk, hk1]; rfl
  have HNm := h_ (fun w2 h2 => name_any Cb Cpb Cmb Cn Cc CT CA s w2 h2 hg.2.2 hlt (by rw [← ht]; omega))
  have hys : y.size ≤ 9223372036854775807 := by rw [hy, bs_size]; omega
  rw [← ht, ← hy] at HNm
  rw [← ht, ← hy]
  clear ih hg h htok h40 ht hk hk1 hy
  go_enter Tryz.func126, Tryz.ntmps126
  go_wp2_with fail
  refine HKp.out.mono ?_
  rintro e wp ⟨rfl, hbp⟩
  have hbel : Below wp.heap.size wp (wp.alloc (.cells #[.int .i64 2, .string y, .int .i64 t.pos] tTok)) := (Below.refl _ _).alloc (Nat.le_refl _) _
  have hx := Box.new wp #[.int .i64 2, .string y, .int .i64 t.pos] tTok
  have hpp := HP0.out.below hbp
  have hpW := hpp.below hbel
  have hoW := (Owns.of_below hbp (Fp Cpb Cmb)).trans (Owns.of_below hbel _)
  obtain ⟨W, hWW⟩ : ∃ W, wp.alloc (.cells #[.int .i64 2, .string y, .int .i64 t.pos] tTok) = W := ⟨_, rfl⟩
  rw [hWW] at hpW hoW hx
  obtain ⟨c0, c1, c2, c3, c4, c5, c6⟩ := hpW.cells
  have cf := hpW.fz
  have x0 : W.cell? ⟨wp.heap.size, 0, none⟩ = some (.int .i64 2) := hx.cell 0
  have x1 : W.cell? ⟨wp.heap.size, 1, none⟩ = some (.string y) := hx.cell 1
  have x2 : W.cell? ⟨wp.heap.size, 2, none⟩ = some (.int .i64 t.pos) := hx.cell 2
  have xf := hx.fz
  have hne : wp.heap.size ≠ Cpb := Nat.ne_of_gt (show Cpb < wp.heap.size from hpp.lt)
  have HX := h_ hx
  have HPW := h_ hpW
  have HOW := h_ hoW
  clear hbp hbel hx hpp hpW hoW
  go_wp2_with fail
  refine (HNm.out W HPW.out).mono ?_
  rintro e w9 ⟨rfl, hP9, hO9⟩
  have HE := h_ (show FPost ⟨Cb, Cpb, Cmb, CT, CA, Cn, Cc⟩ (some (.tm (.name y))) (nam CT s) w (.returned (.tuple #[.iface tName (.agg #[.string y]), .bool true])) w9 from ⟨_, _, rfl, ⟨⟨rfl, hys⟩, by simp, trivial⟩, hP9, HOW.out.trans hO9⟩)
  clear hP9 hO9
  go_wp2
  go_ret2
  exact HE.out
 | @pr_no _ s1 hsee h1 =>
  have hk1 : t.kind ≠ 1 ∧ t.kind ≠ 2 := by rw [ht]; rcases (sees_kind hsee).1 with e | e <;> rw [e] <;> decide
  have e1 : (k == 1) = false := by rw [hk, beq_eq_false_iff_ne]; have := hk1.1; omega
  have e2 : (k == 2) = false := by rw [hk, beq_eq_false_iff_ne]; have := hk1.2; omega
  have hlt : s.next < Cn := by rw [hn]; exact sees_lt hsee
  have HS := h_ (fun w1 h2 => sees_any Cb Cpb Cmb Cn Cc CT CA s ⟨#[40]⟩ true w1 h2 hsee)
  have HOp := h_ (fun w1 h2 => open_any Cb Cpb Cmb Cn Cc CT CA s w1 h2 hg hlt)
  have HI := h_ (fun w2 h2 => ih _ _ (mea_adv (by rw [opn_next]; exact Nat.lt_succ_self _) (sees_lt hsee)) _ _ h1 hg.c_opn (notEncl (by simp)) w2 h2 .nilIface rfl)
  have hd : 0 < s1.depth := by rw [h1.depth, opn_depth]; omega
  clear ih hg h htok h1 hsee ht hk1 hk hy
  go_enter Tryz.func126, Tryz.ntmps126
  go_wp2_with fail
  refine HKp.out.mono ?_
  rintro e wp ⟨rfl, hbp⟩
  have hbel : Below wp.heap.size wp (wp.alloc (.cells #[.int .i64 k, .string y, .int .i64 t.pos] tTok)) := (Below.refl _ _).alloc (Nat.le_refl _) _
  have hx := Box.new wp #[.int .i64 k, .string y, .int .i64 t.pos] tTok
  have hpp := HP0.out.below hbp
  have hpW := hpp.below hbel
  have hoW := (Owns.of_below hbp (Fp Cpb Cmb)).trans (Owns.of_below hbel _)
  obtain ⟨W, hWW⟩ : ∃ W, wp.alloc (.cells #[.int .i64 k, .string y, .int .i64 t.pos] tTok) = W := ⟨_, rfl⟩
  rw [hWW] at hpW hoW hx
  obtain ⟨c0, c1, c2, c3, c4, c5, c6⟩ := hpW.cells
  have cf := hpW.fz
  have x0 : W.cell? ⟨wp.heap.size, 0, none⟩ = some (.int .i64 k) := hx.cell 0
  have x1 : W.cell? ⟨wp.heap.size, 1, none⟩ = some (.string y) := hx.cell 1
  have x2 : W.cell? ⟨wp.heap.size, 2, none⟩ = some (.int .i64 t.pos) := hx.cell 2
  have xf := hx.fz
  have hne : wp.heap.size ≠ Cpb := Nat.ne_of_gt (show Cpb < wp.heap.size from hpp.lt)
  have HX := h_ hx
  have HPW := h_ hpW
  have HOW := h_ hoW
  clear hbp hbel hx hpp hpW hoW
  go_wp2_with fail
  refine (HS.out W HPW.out).mono ?_
  rintro e w1 ⟨rfl, hb1⟩
  have HP1 := h_ (HPW.out.below hb1)
  have HO1 := h_ (HOW.out.trans (Owns.of_below hb1 (Fp Cpb Cmb)))
  clear hb1
  clear x0 x1 x2 xf c0 c1 c2 c3 c4 c5 c6 cf hWW
  go_wp2_with fail
  refine (HOp.out w1 HP1.out).mono ?_
  rintro e w2 ⟨rfl, hP2, hO2⟩
  have HP2 := h_ hP2
  have HO2 := h_ (HO1.out.trans hO2)
  clear hP2 hO2
  go_wp2_with fail
  refine (HI.out w2 HP2.out).mono ?_
  rintro e w3 ⟨v3, rfl, hov3, hP3, hO3⟩
  have HP3 := h_ hP3
  have HO3 := h_ (HO2.out.trans hO3)
  clear hP3 hO3
  obtain ⟨c0, c1, c2, c3, c4, c5, c6⟩ := HP3.out.cells
  have fz2 := HP3.out.fz
  have hdl : s1.depth ≤ 4001 := by have := HP3.out.depth; have := HP3.out.next; (try dsimp only at *); omega
  have HPd := h_ (HP3.out.down hd)
  have HOd := h_ (HO3.out.trans (owns_set w3 ⟨Cpb, 2, none⟩ (.int .i64 ((s1.depth : Int) - 1)) (.inl rfl)))
  go_wp2_with fail
  have HE := h_ (show FPost ⟨Cb, Cpb, Cmb, CT, CA, Cn, Cc⟩ none (dn s1) w (.returned (.tuple #[.nilIface, .bool false])) (w3.setCell ⟨Cpb, 2, none⟩ (.int .i64 ((s1.depth : Int) - 1))) from ⟨_, rfl, rfl, HPd.out, HOd.out⟩)
  go_wp2
  go_ret2
  exact HE.out
 | @pr_bad _ x s1 hsee h1 hs2 =>
  have hk1 : t.kind ≠ 1 ∧ t.kind ≠ 2 := by rw [ht]; rcases (sees_kind hsee).1 with e | e <;> rw [e] <;> decide
  have e1 : (k == 1) = false := by rw [hk, beq_eq_false_iff_ne]; have := hk1.1; omega
  have e2 : (k == 2) = false := by rw [hk, beq_eq_false_iff_ne]; have := hk1.2; omega
  have hlt : s.next < Cn := by rw [hn]; exact sees_lt hsee
  have HS := h_ (fun w1 h2 => sees_any Cb Cpb Cmb Cn Cc CT CA s ⟨#[40]⟩ true w1 h2 hsee)
  have HOp := h_ (fun w1 h2 => open_any Cb Cpb Cmb Cn Cc CT CA s w1 h2 hg hlt)
  have HI := h_ (fun w2 h2 => ih _ _ (mea_adv (by rw [opn_next]; exact Nat.lt_succ_self _) (sees_lt hsee)) _ _ h1 hg.c_opn (notEncl (by simp)) w2 h2 .nilIface rfl)
  have hd : 0 < s1.depth := by rw [h1.depth, opn_depth]; omega
  have HA := h_ (fun w1 h2 => accept_no Cb Cpb Cmb Cn Cc CT CA (dn s1) ⟨#[41]⟩ w1 h2 hs2)
  clear ih hg h htok h1 hsee ht hk1 hk hy hs2
  go_enter Tryz.func126, Tryz.ntmps126
  go_wp2_with fail
  refine HKp.out.mono ?_
  rintro e wp ⟨rfl, hbp⟩
  have hbel : Below wp.heap.size wp (wp.alloc (.cells #[.int .i64 k, .string y, .int .i64 t.pos] tTok)) := (Below.refl _ _).alloc (Nat.le_refl _) _
  have hx := Box.new wp #[.int .i64 k, .string y, .int .i64 t.pos] tTok
  have hpp := HP0.out.below hbp
  have hpW := hpp.below hbel
  have hoW := (Owns.of_below hbp (Fp Cpb Cmb)).trans (Owns.of_below hbel _)
  obtain ⟨W, hWW⟩ : ∃ W, wp.alloc (.cells #[.int .i64 k, .string y, .int .i64 t.pos] tTok) = W := ⟨_, rfl⟩
  rw [hWW] at hpW hoW hx
  obtain ⟨c0, c1, c2, c3, c4, c5, c6⟩ := hpW.cells
  have cf := hpW.fz
  have x0 : W.cell? ⟨wp.heap.size, 0, none⟩ = some (.int .i64 k) := hx.cell 0
  have x1 : W.cell? ⟨wp.heap.size, 1, none⟩ = some (.string y) := hx.cell 1
  have x2 : W.cell? ⟨wp.heap.size, 2, none⟩ = some (.int .i64 t.pos) := hx.cell 2
  have xf := hx.fz
  have hne : wp.heap.size ≠ Cpb := Nat.ne_of_gt (show Cpb < wp.heap.size from hpp.lt)
  have HX := h_ hx
  have HPW := h_ hpW
  have HOW := h_ hoW
  clear hbp hbel hx hpp hpW hoW
  go_wp2_with fail
  refine (HS.out W HPW.out).mono ?_
  rintro e w1 ⟨rfl, hb1⟩
  have HP1 := h_ (HPW.out.below hb1)
  have HO1 := h_ (HOW.out.trans (Owns.of_below hb1 (Fp Cpb Cmb)))
  clear hb1
  clear x0 x1 x2 xf c0 c1 c2 c3 c4 c5 c6 cf hWW
  go_wp2_with fail
  refine (HOp.out w1 HP1.out).mono ?_
  rintro e w2 ⟨rfl, hP2, hO2⟩
  have HP2 := h_ hP2
  have HO2 := h_ (HO1.out.trans hO2)
  clear hP2 hO2
  go_wp2_with fail
  refine (HI.out w2 HP2.out).mono ?_
  rintro e w3 ⟨u3, z3, rfl, hv3, hP3, hO3⟩
  have HV3 := h_ hv3
  have HP3 := h_ hP3
  have HO3 := h_ (HO2.out.trans hO3)
  clear hv3 hP3 hO3
  obtain ⟨c0, c1, c2, c3, c4, c5, c6⟩ := HP3.out.cells
  have fz2 := HP3.out.fz
  have hdl : s1.depth ≤ 4001 := by have := HP3.out.depth; have := HP3.out.next; (try dsimp only at *); omega
  have HPd := h_ (HP3.out.down hd)
  have HOd := h_ (HO3.out.trans (owns_set w3 ⟨Cpb, 2, none⟩ (.int .i64 ((s1.depth : Int) - 1)) (.inl rfl)))
  go_wp2_with fail
  refine (HA.out _ HPd.out).mono ?_
  rintro e w9 ⟨rfl, hb9⟩
  have HE := h_ (show FPost ⟨Cb, Cpb, Cmb, CT, CA, Cn, Cc⟩ none (dn s1) w (.returned (.tuple #[.nilIface, .bool false])) w9 from ⟨_, rfl, rfl, HPd.out.below hb9, HOd.out.trans (Owns.of_below hb9 _)⟩)
  clear hb9
  go_wp2
  go_ret2
  exact HE.out
 | @pr_ok _ x s1 hsee h1 hs2 =>
  have hk1 : t.kind ≠ 1 ∧ t.kind ≠ 2 := by rw [ht]; rcases (sees_kind hsee).1 with e | e <;> rw [e] <;> decide
  have e1 : (k == 1) = false := by rw [hk, beq_eq_false_iff_ne]; have := hk1.1; omega
  have e2 : (k == 2) = false := by rw [hk, beq_eq_false_iff_ne]; have := hk1.2; omega
  have hlt : s.next < Cn := by rw [hn]; exact sees_lt hsee
  have HS := h_ (fun w1 h2 => sees_any Cb Cpb Cmb Cn Cc CT CA s ⟨#[40]⟩ true w1 h2 hsee)
  have HOp := h_ (fun w1 h2 => open_any Cb Cpb Cmb Cn Cc CT CA s w1 h2 hg hlt)
  have HI := h_ (fun w2 h2 => ih _ _ (mea_adv (by rw [opn_next]; exact Nat.lt_succ_self _) (sees_lt hsee)) _ _ h1 hg.c_opn (notEncl (by simp)) w2 h2 .nilIface rfl)
  have hd : 0 < s1.depth := by rw [h1.depth, opn_depth]; omega
  have HA := h_ (fun w1 h2 => accept_yes Cb Cpb Cmb Cn Cc CT CA (dn s1) ⟨#[41]⟩ w1 h2 hs2)
  clear ih hg h htok h1 hsee ht hk1 hk hy hs2
  go_enter Tryz.func126, Tryz.ntmps126
  go_wp2_with fail
  refine HKp.out.mono ?_
  rintro e wp ⟨rfl, hbp⟩
  have hbel : Below wp.heap.size wp (wp.alloc (.cells #[.int .i64 k, .string y, .int .i64 t.pos] tTok)) := (Below.refl _ _).alloc (Nat.le_refl _) _
  have hx := Box.new wp #[.int .i64 k, .string y, .int .i64 t.pos] tTok
  have hpp := HP0.out.below hbp
  have hpW := hpp.below hbel
  have hoW := (Owns.of_below hbp (Fp Cpb Cmb)).trans (Owns.of_below hbel _)
  obtain ⟨W, hWW⟩ : ∃ W, wp.alloc (.cells #[.int .i64 k, .string y, .int .i64 t.pos] tTok) = W := ⟨_, rfl⟩
  rw [hWW] at hpW hoW hx
  obtain ⟨c0, c1, c2, c3, c4, c5, c6⟩ := hpW.cells
  have cf := hpW.fz
  have x0 : W.cell? ⟨wp.heap.size, 0, none⟩ = some (.int .i64 k) := hx.cell 0
  have x1 : W.cell? ⟨wp.heap.size, 1, none⟩ = some (.string y) := hx.cell 1
  have x2 : W.cell? ⟨wp.heap.size, 2, none⟩ = some (.int .i64 t.pos) := hx.cell 2
  have xf := hx.fz
  have hne : wp.heap.size ≠ Cpb := Nat.ne_of_gt (show Cpb < wp.heap.size from hpp.lt)
  have HX := h_ hx
  have HPW := h_ hpW
  have HOW := h_ hoW
  clear hbp hbel hx hpp hpW hoW
  go_wp2_with fail
  refine (HS.out W HPW.out).mono ?_
  rintro e w1 ⟨rfl, hb1⟩
  have HP1 := h_ (HPW.out.below hb1)
  have HO1 := h_ (HOW.out.trans (Owns.of_below hb1 (Fp Cpb Cmb)))
  clear hb1
  clear x0 x1 x2 xf c0 c1 c2 c3 c4 c5 c6 cf hWW
  go_wp2_with fail
  refine (HOp.out w1 HP1.out).mono ?_
  rintro e w2 ⟨rfl, hP2, hO2⟩
  have HP2 := h_ hP2
  have HO2 := h_ (HO1.out.trans hO2)
  clear hP2 hO2
  go_wp2_with fail
  refine (HI.out w2 HP2.out).mono ?_
  rintro e w3 ⟨u3, z3, rfl, hv3, hP3, hO3⟩
  have HV3 := h_ hv3
  have HP3 := h_ hP3
  have HO3 := h_ (HO2.out.trans hO3)
  clear hv3 hP3 hO3
  obtain ⟨c0, c1, c2, c3, c4, c5, c6⟩ := HP3.out.cells
  have fz2 := HP3.out.fz
  have hdl : s1.depth ≤ 4001 := by have := HP3.out.depth; have := HP3.out.next; (try dsimp only at *); omega
  have HPd := h_ (HP3.out.down hd)
  have HOd := h_ (HO3.out.trans (owns_set w3 ⟨Cpb, 2, none⟩ (.int .i64 ((s1.depth : Int) - 1)) (.inl rfl)))
  have HVd := h_ (HV3.out.owns (owns_set w3 ⟨Cpb, 2, none⟩ (.int .i64 ((s1.depth : Int) - 1)) (.inl rfl)))
  go_wp2_with fail
  refine (HA.out _ HPd.out).mono ?_
  rintro e w9 ⟨rfl, hP9, hO9⟩
  have HE := h_ (show FPost ⟨Cb, Cpb, Cmb, CT, CA, Cn, Cc⟩ (some (.tm x)) (adv (dn s1)) w (.returned (.tuple #[.iface u3 z3, .bool true])) w9 from ⟨_, _, rfl, HVd.out.owns hO9, hP9, HOd.out.trans hO9⟩)
  clear hP9 hO9
  go_wp2
  go_ret2
  exact HE.out
 | pr_none hk1 hk2 hsee =>
  rw [← ht] at hk1 hk2
  have e1 : (k == 1) = false := by rw [hk, beq_eq_false_iff_ne]; omega
  have e2 : (k == 2) = false := by rw [hk, beq_eq_false_iff_ne]; omega
  have HS := h_ (fun w1 h2 => sees_any Cb Cpb Cmb Cn Cc CT CA s ⟨#[40]⟩ false w1 h2 hsee)
  clear ih hg h htok hsee ht hk1 hk2 hk hy
  go_enter Tryz.func126, Tryz.ntmps126
  go_wp2_with fail
  refine HKp.out.mono ?_
  rintro e wp ⟨rfl, hbp⟩
  have hbel : Below wp.heap.size wp (wp.alloc (.cells #[.int .i64 k, .string y, .int .i64 t.pos] tTok)) := (Below.refl _ _).alloc (Nat.le_refl _) _
  have hx := Box.new wp #[.int .i64 k, .string y, .int .i64 t.pos] tTok
  have hpp := HP0.out.below hbp
  have hpW := hpp.below hbel
  have hoW := (Owns.of_below hbp (Fp Cpb Cmb)).trans (Owns.of_below hbel _)
  obtain ⟨W, hWW⟩ : ∃ W, wp.alloc (.cells #[.int .i64 k, .string y, .int .i64 t.pos] tTok) = W := ⟨_, rfl⟩
  rw [hWW] at hpW hoW hx
  obtain ⟨c0, c1, c2, c3, c4, c5, c6⟩ := hpW.cells
  have cf := hpW.fz
  have x0 : W.cell? ⟨wp.heap.size, 0, none⟩ = some (.int .i64 k) := hx.cell 0
  have x1 : W.cell? ⟨wp.heap.size, 1, none⟩ = some (.string y) := hx.cell 1
  have x2 : W.cell? ⟨wp.heap.size, 2, none⟩ = some (.int .i64 t.pos) := hx.cell 2
  have xf := hx.fz
  have hne : wp.heap.size ≠ Cpb := Nat.ne_of_gt (show Cpb < wp.heap.size from hpp.lt)
  have HX := h_ hx
  have HPW := h_ hpW
  have HOW := h_ hoW
  clear hbp hbel hx hpp hpW hoW
  go_wp2_with fail
  refine (HS.out W HPW.out).mono ?_
  rintro e w1 ⟨rfl, hb1⟩
  have HP1 := h_ (HPW.out.below hb1)
  have HO1 := h_ (HOW.out.trans (Owns.of_below hb1 (Fp Cpb Cmb)))
  clear hb1
  have HE := h_ (show FPost ⟨Cb, Cpb, Cmb, CT, CA, Cn, Cc⟩ none s w (.returned (.tuple #[.nilIface, .bool false])) w1 from ⟨_, rfl, rfl, HP1.out, HO1.out⟩)
  go_wp2
  go_ret2
  exact HE.out
end Pa
end Go.Proofs.YteneobpacobpdaaGreatDoor
namespace Go.Proofs.YteneobpacobpdaaGreatDoor
open Go.RowKit
namespace Pa
open Lx Fm Dc
attribute [local go_sem] run_store fieldTok0 fieldTok2
attribute [local go_sem] anF_Num anF_Name anF_Add anF_Sub anF_Mul anF_Neg anF_Pow anF_Truth anF_Atom anF_Not anF_And anF_Or anF_Implies anF_Iff anF_Quant anT_Num anT_Name anT_Add anT_Sub anT_Mul anT_Neg anT_Pow
theorem power_walk (C : Cx) (q : Option Tm) (vq : Value) (s : PS) (r : Option PV) (s' : PS) (hB : Big C.T (.pow q) s r s') (hg : Gd s) (htok : TokOk C.T) (ih : IH C (mea C.T (.pow q) s)) (w : World) (h : C.At s w) (hq : QAt C w q vq) :
  Calls Tryz.prog 125 #[C.p, vq] w (FPost C r s' w) := by
 have hn := h.hn
 have hnext := h.next
 have hlen := h.len
 obtain ⟨Cb, Cpb, Cmb, CT, CA, Cn, Cc⟩ := C
 dsimp only at *
 cases hB with
 | po_no h1 =>
  obtain rfl := hq
  have HI := h_ (ih _ _ (mea_same (by simp [lvl])) _ _ h1 hg (notEncl (by simp)) w h)
  clear h1 ih hg h htok
  go_enter Tryz.func125, Tryz.ntmps125
  go_wp2_with fail
  refine HI.out.mono ?_
  rintro e w1 ⟨v, rfl, hov, hP1, hO1⟩
  have HE := h_ (show FPost ⟨Cb, Cpb, Cmb, CT, CA, Cn, Cc⟩ none s' w (.returned (.tuple #[v, .bool false])) w1 from ⟨_, rfl, hov, hP1, hO1⟩)
  clear hP1 hO1
  go_wp2
  go_ret2
  exact HE.out
 | @po_first b _ _ _ h2 =>
  have HP0 := h_ h
  have HO0 := h_ (Owns.refl w (Fp Cpb Cmb))
  obtain ⟨u, z, rfl⟩ := PVAt.iface (x := .tm b) hq
  have HVq := h_ (show PVAt w (Gp Cpb Cmb w) (.tm b) (.iface u z) from hq)
  have hg0 := hg
  clear ih hg h hq
  cases h2 with
  | pT_end hsee =>
   have HS := h_ (fun w1 h2 => sees_any Cb Cpb Cmb Cn Cc CT CA s ⟨#[94]⟩ false w1 h2 hsee)
   clear hsee htok
   go_enter Tryz.func125, Tryz.ntmps125
   go_wp2_with fail
   refine (HS.out w HP0.out).mono ?_
   rintro e w2 ⟨rfl, hb2⟩
   have HV2 := h_ (PVAt.owns HVq.out (Owns.of_below hb2 (Fp Cpb Cmb)))
   have HP2 := h_ (HP0.out.below hb2)
   have HO2 := h_ (HO0.out.trans (Owns.of_below hb2 (Fp Cpb Cmb)))
   clear hb2
   have HE := h_ (show FPost ⟨Cb, Cpb, Cmb, CT, CA, Cn, Cc⟩ (some (.tm b)) s w (.returned (.tuple #[.iface u z, .bool true])) w2 from ⟨_, _, rfl, HV2.out, HP2.out, HO2.out⟩)
   go_wp2
   go_ret2
   exact HE.out
  | pT_bad hsee hk1 =>
   have HKp := h_ (fun w2 h2 => peek_any Cb Cpb Cmb Cn Cc CT CA s w2 h2)
   have HKq := h_ (fun w2 h2 => peek_any Cb Cpb Cmb Cn Cc CT CA (adv s) w2 h2)
   have HS := h_ (fun w1 h2 => sees_any Cb Cpb Cmb Cn Cc CT CA s ⟨#[94]⟩ true w1 h2 hsee)
   have hlt : s.next < Cn := by rw [hn]; exact sees_lt hsee
   obtain ⟨t, ht⟩ : ∃ t, t = pk CT s := ⟨_, rfl⟩
   obtain ⟨m, hm⟩ : ∃ m, m = pk CT (adv s) := ⟨_, rfl⟩
   rw [← ht] at HKp
   rw [← hm] at HKq
   obtain ⟨y, hy⟩ : ∃ y, y = bs t.text := ⟨_, rfl⟩
   obtain ⟨ym, hym⟩ : ∃ ym, ym = bs m.text := ⟨_, rfl⟩
   obtain ⟨k, hk⟩ : ∃ k : Int, k = (m.kind : Int) := ⟨_, rfl⟩
   rw [← hy] at HKp
   rw [← hym, ← hk] at HKq
   have hkf : (k == 1) = false := by rw [hk, beq_eq_false_iff_ne]; rw [← hm] at hk1; omega
   clear hsee htok hk1 ht hm hy hym hk
   go_enter Tryz.func125, Tryz.ntmps125
   go_wp2_with fail
   refine (HS.out w HP0.out).mono ?_
   rintro e w2 ⟨rfl, hb2⟩
   have HV2 := h_ (PVAt.owns HVq.out (Owns.of_below hb2 (Fp Cpb Cmb)))
   have HP2 := h_ (HP0.out.below hb2)
   have HO2 := h_ (HO0.out.trans (Owns.of_below hb2 (Fp Cpb Cmb)))
   clear hb2
   go_wp2_with fail
   refine (HKp.out w2 HP2.out).mono ?_
   rintro e wp ⟨rfl, hbp⟩
   have hbel : Below wp.heap.size wp (wp.alloc (.cells #[.int .i64 t.kind, .string y, .int .i64 t.pos] tTok)) := (Below.refl _ _).alloc (Nat.le_refl _) _
   have hx := Box.new wp #[.int .i64 t.kind, .string y, .int .i64 t.pos] tTok
   have hpp := HP2.out.below hbp
   have hpW := hpp.below hbel
   have hoW := (Owns.of_below hbp (Fp Cpb Cmb)).trans (Owns.of_below hbel _)
   obtain ⟨W, hWW⟩ : ∃ W, wp.alloc (.cells #[.int .i64 t.kind, .string y, .int .i64 t.pos] tTok) = W := ⟨_, rfl⟩
   rw [hWW] at hpW hoW hx
   obtain ⟨c0, c1, c2, c3, c4, c5, c6⟩ := hpW.cells
   have cf := hpW.fz
   have xf := hx.fz
   have hne : wp.heap.size ≠ Cpb := Nat.ne_of_gt (show Cpb < wp.heap.size from hpp.lt)
   have hne2 : wp.heap.size ≠ Cmb := Nat.ne_of_gt (show Cmb < wp.heap.size from hpp.map.lt)
   have hpS := hpW.advs hlt
   have hoS := hoW.trans (owns_set W ⟨Cpb, 1, none⟩ (.int .i64 ((s.next : Int) + 1)) (.inl rfl))
   have hbx : (W.setCell ⟨Cpb, 1, none⟩ (.int .i64 ((s.next : Int) + 1))).heap[wp.heap.size]? = some (.cells #[.int .i64 t.kind, .string y, .int .i64 t.pos] tTok (0, 0)) := (Below.heap_setCell _ _ _ _ hne).trans hx.cells
   have HVS := h_ (HV2.out.owns hoS)
   have HOS := h_ (HO2.out.trans hoS)
   have HPS := h_ hpS
   have HBX := h_ hbx
   have HNF := h_ (show ¬ Fp Cpb Cmb wp.heap.size from fun e => e.elim hne hne2)
   obtain ⟨wS, hwS⟩ : ∃ wS, W.setCell ⟨Cpb, 1, none⟩ (.int .i64 ((s.next : Int) + 1)) = wS := ⟨_, rfl⟩
   rw [hwS] at HVS HOS HPS HBX
   clear hbp hbel hx hpp hpW hoW hpS hoS hbx hne2
   go_wp2_with fail
   refine (HKq.out wS HPS.out).mono ?_
   rintro e wq ⟨rfl, hbq⟩
   have hbel2 : Below wq.heap.size wq (wq.alloc (.cells #[.int .i64 k, .string ym, .int .i64 m.pos] tTok)) := (Below.refl _ _).alloc (Nat.le_refl _) _
   have hx := Box.new wq #[.int .i64 k, .string ym, .int .i64 m.pos] tTok
   have hpp := HPS.out.below hbq
   have hpW := hpp.below hbel2
   have hbq2 := hbq.trans (hbel2.mono hbq.size)
   have hoW := Owns.of_below hbq2 (Fp Cpb Cmb)
   have hbx := (hbq2.block wp.heap.size (Array.getElem?_eq_some_iff.1 HBX.out).1).trans HBX.out
   have hpl := (Array.getElem?_eq_some_iff.1 HBX.out).1
   have hplq : wp.heap.size < wq.heap.size := Nat.lt_of_lt_of_le hpl hbq.size
   obtain ⟨V, hVV⟩ : ∃ V, wq.alloc (.cells #[.int .i64 k, .string ym, .int .i64 m.pos] tTok) = V := ⟨_, rfl⟩
   rw [hVV] at hpW hoW hx hbx
   have HVV := h_ (HVS.out.owns hoW)
   have HOV := h_ (HOS.out.trans hoW)
   have HPV := h_ hpW
   have HBV := h_ hbx
   have HXM := h_ hx
   have HNQ := h_ (show ¬ Fp Cpb Cmb wq.heap.size from fun e => e.elim (Nat.ne_of_gt (show Cpb < wq.heap.size from hpp.lt)) (Nat.ne_of_gt (show Cmb < wq.heap.size from hpp.map.lt)))
   have hneq : wq.heap.size ≠ Cpb := Nat.ne_of_gt (show Cpb < wq.heap.size from hpp.lt)
   have x0 : V.cell? ⟨wq.heap.size, 0, none⟩ = some (.int .i64 k) := hx.cell 0
   have x1 : V.cell? ⟨wq.heap.size, 1, none⟩ = some (.string ym) := hx.cell 1
   have x2 : V.cell? ⟨wq.heap.size, 2, none⟩ = some (.int .i64 m.pos) := hx.cell 2
   have xf2 := hx.fz
   have b0 : V.cell? ⟨wp.heap.size, 0, none⟩ = some (.int .i64 t.kind) := by simp [World.cell?, hbx]
   have b1 : V.cell? ⟨wp.heap.size, 1, none⟩ = some (.string y) := by simp [World.cell?, hbx]
   have b2 : V.cell? ⟨wp.heap.size, 2, none⟩ = some (.int .i64 t.pos) := by simp [World.cell?, hbx]
   obtain ⟨d0, d1, d2, d3, d4, d5, d6⟩ := hpW.cells
   have df := hpW.fz
   clear hbq hbel2 hx hpp hbq2 hoW hbx hpl c0 c1 c2 c3 c4 c5 c6 cf xf hWW hwS hpW
   have HE := h_ (show FPost ⟨Cb, Cpb, Cmb, CT, CA, Cn, Cc⟩ none (adv s) w (.returned (.tuple #[.nilIface, .bool false])) V from ⟨_, rfl, rfl, HPV.out, HOV.out⟩)
   go_wp2
   go_ret2
   exact HE.out
  | pT_ok hsee hk1 =>
   have HKp := h_ (fun w2 h2 => peek_any Cb Cpb Cmb Cn Cc CT CA s w2 h2)
   have HKq := h_ (fun w2 h2 => peek_any Cb Cpb Cmb Cn Cc CT CA (adv s) w2 h2)
   have HS := h_ (fun w1 h2 => sees_any Cb Cpb Cmb Cn Cc CT CA s ⟨#[94]⟩ true w1 h2 hsee)
   have hlt : s.next < Cn := by rw [hn]; exact sees_lt hsee
   obtain ⟨t, ht⟩ : ∃ t, t = pk CT s := ⟨_, rfl⟩
   obtain ⟨m, hm⟩ : ∃ m, m = pk CT (adv s) := ⟨_, rfl⟩
   rw [← ht] at HKp
   rw [← hm] at HKq
   obtain ⟨y, hy⟩ : ∃ y, y = bs t.text := ⟨_, rfl⟩
   obtain ⟨ym, hym⟩ : ∃ ym, ym = bs m.text := ⟨_, rfl⟩
   obtain ⟨k, hk⟩ : ∃ k : Int, k = (m.kind : Int) := ⟨_, rfl⟩
   rw [← hy] at HKp
   rw [← hym, ← hk] at HKq
   have hlt2 : s.next + 1 < Cn := by rw [hn]; exact pk_lt (s := adv s) (by rw [hk1]; decide)
   obtain ⟨hd, h0, h40, hz⟩ := htok.num (adv s) hk1
   have HEx := h_ (fun w2 => exponent_any (bs (pk CT (adv s)).text) hd h0 h40 hz w2)
   rw [← hm] at hk1 HEx
   rw [← hym] at HEx
   have hex0 : ym.data.toList = m.text := by rw [hym]; simp [bs]
   rw [hex0] at HEx
   obtain rfl : k = 1 := by rw [hk, hk1]; rfl
   obtain ⟨E, hE⟩ : ∃ E, E = expN m.text := ⟨_, rfl⟩
   have hEb : E ≤ 2147483647 := by rw [hE]; exact Nat.min_le_right _ _
   rw [← hE] at HEx
   rw [← hm, ← hE]
   have HY := h_ hy
   obtain ⟨sE, hsE⟩ : ∃ sE, sE = if 8 < E then exc (adv (adv s)) m.pos else adv (adv s) := ⟨_, rfl⟩
   have HPW := h_ (show powS CT b s = meas sE t (.pow b E) [b] by unfold powS; rw [← hm, ← hE, ← ht, hsE])
   clear hsee htok hk1 ht hm hy hym hk hd h0 h40 hz hE hex0
   by_cases h8 : 8 < E
   case pos =>
    rw [if_pos h8] at hsE
    have HSE := h_ hsE
    clear hsE
    go_enter Tryz.func125, Tryz.ntmps125
    go_wp2_with fail
    refine (HS.out w HP0.out).mono ?_
    rintro e w2 ⟨rfl, hb2⟩
    have HV2 := h_ (PVAt.owns HVq.out (Owns.of_below hb2 (Fp Cpb Cmb)))
    have HP2 := h_ (HP0.out.below hb2)
    have HO2 := h_ (HO0.out.trans (Owns.of_below hb2 (Fp Cpb Cmb)))
    clear hb2
    go_wp2_with fail
    refine (HKp.out w2 HP2.out).mono ?_
    rintro e wp ⟨rfl, hbp⟩
    have hbel : Below wp.heap.size wp (wp.alloc (.cells #[.int .i64 t.kind, .string y, .int .i64 t.pos] tTok)) := (Below.refl _ _).alloc (Nat.le_refl _) _
    have hx := Box.new wp #[.int .i64 t.kind, .string y, .int .i64 t.pos] tTok
    have hpp := HP2.out.below hbp
    have hpW := hpp.below hbel
    have hoW := (Owns.of_below hbp (Fp Cpb Cmb)).trans (Owns.of_below hbel _)
    obtain ⟨W, hWW⟩ : ∃ W, wp.alloc (.cells #[.int .i64 t.kind, .string y, .int .i64 t.pos] tTok) = W := ⟨_, rfl⟩
    rw [hWW] at hpW hoW hx
    obtain ⟨c0, c1, c2, c3, c4, c5, c6⟩ := hpW.cells
    have cf := hpW.fz
    have xf := hx.fz
    have hne : wp.heap.size ≠ Cpb := Nat.ne_of_gt (show Cpb < wp.heap.size from hpp.lt)
    have hne2 : wp.heap.size ≠ Cmb := Nat.ne_of_gt (show Cmb < wp.heap.size from hpp.map.lt)
    have hpS := hpW.advs hlt
    have hoS := hoW.trans (owns_set W ⟨Cpb, 1, none⟩ (.int .i64 ((s.next : Int) + 1)) (.inl rfl))
    have hbx : (W.setCell ⟨Cpb, 1, none⟩ (.int .i64 ((s.next : Int) + 1))).heap[wp.heap.size]? = some (.cells #[.int .i64 t.kind, .string y, .int .i64 t.pos] tTok (0, 0)) := (Below.heap_setCell _ _ _ _ hne).trans hx.cells
    have HVS := h_ (HV2.out.owns hoS)
    have HOS := h_ (HO2.out.trans hoS)
    have HPS := h_ hpS
    have HBX := h_ hbx
    have HNF := h_ (show ¬ Fp Cpb Cmb wp.heap.size from fun e => e.elim hne hne2)
    obtain ⟨wS, hwS⟩ : ∃ wS, W.setCell ⟨Cpb, 1, none⟩ (.int .i64 ((s.next : Int) + 1)) = wS := ⟨_, rfl⟩
    rw [hwS] at HVS HOS HPS HBX
    clear hbp hbel hx hpp hpW hoW hpS hoS hbx hne2
    go_wp2_with fail
    refine (HKq.out wS HPS.out).mono ?_
    rintro e wq ⟨rfl, hbq⟩
    have hbel2 : Below wq.heap.size wq (wq.alloc (.cells #[.int .i64 1, .string ym, .int .i64 m.pos] tTok)) := (Below.refl _ _).alloc (Nat.le_refl _) _
    have hx := Box.new wq #[.int .i64 1, .string ym, .int .i64 m.pos] tTok
    have hpp := HPS.out.below hbq
    have hpW := hpp.below hbel2
    have hbq2 := hbq.trans (hbel2.mono hbq.size)
    have hoW := Owns.of_below hbq2 (Fp Cpb Cmb)
    have hbx := (hbq2.block wp.heap.size (Array.getElem?_eq_some_iff.1 HBX.out).1).trans HBX.out
    have hpl := (Array.getElem?_eq_some_iff.1 HBX.out).1
    have hplq : wp.heap.size < wq.heap.size := Nat.lt_of_lt_of_le hpl hbq.size
    obtain ⟨V, hVV⟩ : ∃ V, wq.alloc (.cells #[.int .i64 1, .string ym, .int .i64 m.pos] tTok) = V := ⟨_, rfl⟩
    rw [hVV] at hpW hoW hx hbx
    have HVV := h_ (HVS.out.owns hoW)
    have HOV := h_ (HOS.out.trans hoW)
    have HPV := h_ hpW
    have HBV := h_ hbx
    have HXM := h_ hx
    have HNQ := h_ (show ¬ Fp Cpb Cmb wq.heap.size from fun e => e.elim (Nat.ne_of_gt (show Cpb < wq.heap.size from hpp.lt)) (Nat.ne_of_gt (show Cmb < wq.heap.size from hpp.map.lt)))
    have hneq : wq.heap.size ≠ Cpb := Nat.ne_of_gt (show Cpb < wq.heap.size from hpp.lt)
    have x0 : V.cell? ⟨wq.heap.size, 0, none⟩ = some (.int .i64 1) := hx.cell 0
    have x1 : V.cell? ⟨wq.heap.size, 1, none⟩ = some (.string ym) := hx.cell 1
    have x2 : V.cell? ⟨wq.heap.size, 2, none⟩ = some (.int .i64 m.pos) := hx.cell 2
    have xf2 := hx.fz
    have b0 : V.cell? ⟨wp.heap.size, 0, none⟩ = some (.int .i64 t.kind) := by simp [World.cell?, hbx]
    have b1 : V.cell? ⟨wp.heap.size, 1, none⟩ = some (.string y) := by simp [World.cell?, hbx]
    have b2 : V.cell? ⟨wp.heap.size, 2, none⟩ = some (.int .i64 t.pos) := by simp [World.cell?, hbx]
    obtain ⟨d0, d1, d2, d3, d4, d5, d6⟩ := hpW.cells
    have df := hpW.fz
    clear hbq hbel2 hx hpp hbq2 hoW hbx hpl c0 c1 c2 c3 c4 c5 c6 cf xf hWW hwS hpW
    have hpS := HPV.out.advs hlt2
    have hoS := owns_set V ⟨Cpb, 1, none⟩ (.int .i64 (((adv s).next : Int) + 1)) (F := Fp Cpb Cmb) (.inl rfl)
    have hbx : (V.setCell ⟨Cpb, 1, none⟩ (.int .i64 (((adv s).next : Int) + 1))).heap[wp.heap.size]? = some (.cells #[.int .i64 t.kind, .string y, .int .i64 t.pos] tTok (0, 0)) := (Below.heap_setCell _ _ _ _ hne).trans HBV.out
    have hbm : (V.setCell ⟨Cpb, 1, none⟩ (.int .i64 (((adv s).next : Int) + 1))).heap[wq.heap.size]? = some (.cells #[.int .i64 1, .string ym, .int .i64 m.pos] tTok (0, 0)) := (Below.heap_setCell _ _ _ _ hneq).trans HXM.out.cells
    obtain ⟨wT, hwT⟩ : ∃ wT, V.setCell ⟨Cpb, 1, none⟩ (.int .i64 (((adv s).next : Int) + 1)) = wT := ⟨_, rfl⟩
    rw [hwT] at hpS hoS hbx hbm
    have HVT := h_ (HVV.out.owns hoS)
    have HOT := h_ (HOV.out.trans hoS)
    have HPT := h_ hpS
    have HBT := h_ hbx
    have HBM := h_ hbm
    have y1 : wT.cell? ⟨wq.heap.size, 1, none⟩ = some (.string ym) := by simp [World.cell?, hbm]
    have e1 : (adv s).next = s.next + 1 := rfl
    have e2 : (((adv s).next : Nat) : Int) + 1 = (s.next : Int) + 1 + 1 := by rw [e1]; omega
    have e3 : (((adv s).next : Nat) : Int) = (s.next : Int) + 1 := by rw [e1]; omega
    rw [e2] at hwT
    rw [e3] at d1
    clear hpS hoS hbx hbm e1 e2 e3
    go_wp2_with fail
    refine (HEx.out wT).mono ?_
    rintro e w5 ⟨rfl, hb5⟩
    have HV5 := h_ (HVT.out.owns (Owns.of_below hb5 (Fp Cpb Cmb)))
    have HP5 := h_ (HPT.out.below hb5)
    have HO5 := h_ (HOT.out.trans (Owns.of_below hb5 (Fp Cpb Cmb)))
    have hB5 := (hb5.block wp.heap.size (Array.getElem?_eq_some_iff.1 HBT.out).1).trans HBT.out
    have hM5 := (hb5.block wq.heap.size (Array.getElem?_eq_some_iff.1 HBM.out).1).trans HBM.out
    have HB5 := h_ hB5
    have z2 : w5.cell? ⟨wq.heap.size, 2, none⟩ = some (.int .i64 m.pos) := by simp [World.cell?, hM5]
    clear hb5 hM5 x0 x1 x2 xf2 b0 b1 b2 d0 d1 d2 d3 d4 d5 d6 df y1 hVV hwT
    clear hB5
    go_wp2_with fail
    refine (exceed_any Cb Cpb Cmb Cn Cc CT CA (adv (adv s)) m.pos w5 HP5.out).mono ?_
    rintro e w6 ⟨rfl, hP6, hO6⟩
    rw [← HSE.out] at hP6
    have HV6 := h_ (HV5.out.owns hO6)
    have HP6 := h_ hP6
    have HO6 := h_ (HO5.out.trans hO6)
    have hB6 := (hO6.same wp.heap.size (Array.getElem?_eq_some_iff.1 HB5.out).1 HNF.out).trans HB5.out
    have HB6 := h_ hB6
    clear hP6 hO6 z2
    have hbelV : Below w6.heap.size w6 (w6.alloc (.cells #[.iface u z, .int .i64 E] tPow)) := (Below.refl _ _).alloc (Nat.le_refl _) _
    have hxV := Box.new w6 #[.iface u z, .int .i64 E] tPow
    have bx := (hbelV.block wp.heap.size (Array.getElem?_eq_some_iff.1 hB6).1).trans hB6
    have hpV := HP6.out.below hbelV
    have hoV := Owns.of_below hbelV (Fp Cpb Cmb)
    have HNM := h_ (show ¬ Fp Cpb Cmb w6.heap.size from fun e => e.elim (Nat.ne_of_gt (show Cpb < w6.heap.size from HP6.out.lt)) (Nat.ne_of_gt (show Cmb < w6.heap.size from HP6.out.map.lt)))
    obtain ⟨X, hXX⟩ : ∃ X, w6.alloc (.cells #[.iface u z, .int .i64 E] tPow) = X := ⟨_, rfl⟩
    rw [hXX] at hbelV hxV bx hpV hoV
    have HPX := h_ hpV
    have HVX := h_ (HV6.out.owns hoV)
    have HOX := h_ (HO6.out.trans hoV)
    have HBX2 := h_ hxV
    have b0 : X.cell? ⟨wp.heap.size, 0, none⟩ = some (.int .i64 t.kind) := by simp [World.cell?, bx]
    have b1 : X.cell? ⟨wp.heap.size, 1, none⟩ = some (.string y) := by simp [World.cell?, bx]
    have b2 : X.cell? ⟨wp.heap.size, 2, none⟩ = some (.int .i64 t.pos) := by simp [World.cell?, bx]
    have m0 : X.cell? ⟨w6.heap.size, 0, none⟩ = some (.iface u z) := hxV.cell 0
    have m1 : X.cell? ⟨w6.heap.size, 1, none⟩ = some (.int .i64 E) := hxV.cell 1
    clear hbelV hxV bx hpV hoV hB6
    have hbelU : Below X.heap.size X (X.alloc (.cells #[.iface u z] tTe)) := (Below.refl _ _).alloc (Nat.le_refl _) _
    have hxU := Box.new X #[.iface u z] tTe
    have hoU := Owns.of_below hbelU (Fp Cpb Cmb)
    have hpU := HPX.out.below hbelU
    have hv1 := HVX.out.owns hoU
    have hM := measure_any Cb Cpb Cmb Cn Cc CT CA sE t (.pow b E) (.iface tPow (.agg #[.iface u z, .int .i64 E])) [b] [.iface u z] X.heap.size 1 rfl rfl (Gp Cpb Cmb (X.alloc (.cells #[.iface u z] tTe))) (X.alloc (.cells #[.iface u z] tTe)) (fun b hb => hb.1) hpU ⟨_, rfl, hv1.1⟩ hv1.2.2 hxU.cells (fun i tt hi => by
     match i, hi with
     | 0, hi => simp at hi; subst hi; exact ⟨_, rfl, hv1.1, hv1.2.2⟩
     | k + 1, hi => simp at hi) (by decide)
    rw [← HY.out] at hM
    have HM := h_ hM
    have HVU := h_ hv1
    have HOU := h_ (HOX.out.trans hoU)
    have HBU := h_ hbelU
    clear hbelU hxU hoU hpU hv1 hM
    go_wp2_with fail
    refine HM.out.mono ?_
    rintro e wM ⟨rfl, hPM, hOM⟩
    rw [← HPW.out] at hPM
    have hbm := (hOM.same w6.heap.size (Nat.lt_of_lt_of_le HBX2.out.lt HBU.out.size) HNM.out).trans ((HBU.out.block _ HBX2.out.lt).trans HBX2.out.cells)
    have n0 : wM.cell? ⟨w6.heap.size, 0, none⟩ = some (.iface u z) := by simp [World.cell?, hbm]
    have n1 : wM.cell? ⟨w6.heap.size, 1, none⟩ = some (.int .i64 E) := by simp [World.cell?, hbm]
    have hvM := HVU.out.owns hOM
    have HE := h_ (show FPost ⟨Cb, Cpb, Cmb, CT, CA, Cn, Cc⟩ (some (.tm (.pow b E))) (powS CT b s) w (.returned (.tuple #[.iface tPow (.agg #[.iface u z, .int .i64 E]), .bool true])) wM from ⟨_, _, rfl, ⟨⟨_, rfl, hvM.1⟩, by simp, hvM.2.2⟩, hPM, HOU.out.trans hOM⟩)
    clear hbm m0 m1 hPM hOM hvM b0 b1 b2 hXX
    go_wp2
    go_ret2
    exact HE.out
   case neg =>
    rw [if_neg h8] at hsE
    have h8' : E ≤ 8 := by omega
    clear h8
    have HSE := h_ hsE
    clear hsE
    go_enter Tryz.func125, Tryz.ntmps125
    go_wp2_with fail
    refine (HS.out w HP0.out).mono ?_
    rintro e w2 ⟨rfl, hb2⟩
    have HV2 := h_ (PVAt.owns HVq.out (Owns.of_below hb2 (Fp Cpb Cmb)))
    have HP2 := h_ (HP0.out.below hb2)
    have HO2 := h_ (HO0.out.trans (Owns.of_below hb2 (Fp Cpb Cmb)))
    clear hb2
    go_wp2_with fail
    refine (HKp.out w2 HP2.out).mono ?_
    rintro e wp ⟨rfl, hbp⟩
    have hbel : Below wp.heap.size wp (wp.alloc (.cells #[.int .i64 t.kind, .string y, .int .i64 t.pos] tTok)) := (Below.refl _ _).alloc (Nat.le_refl _) _
    have hx := Box.new wp #[.int .i64 t.kind, .string y, .int .i64 t.pos] tTok
    have hpp := HP2.out.below hbp
    have hpW := hpp.below hbel
    have hoW := (Owns.of_below hbp (Fp Cpb Cmb)).trans (Owns.of_below hbel _)
    obtain ⟨W, hWW⟩ : ∃ W, wp.alloc (.cells #[.int .i64 t.kind, .string y, .int .i64 t.pos] tTok) = W := ⟨_, rfl⟩
    rw [hWW] at hpW hoW hx
    obtain ⟨c0, c1, c2, c3, c4, c5, c6⟩ := hpW.cells
    have cf := hpW.fz
    have xf := hx.fz
    have hne : wp.heap.size ≠ Cpb := Nat.ne_of_gt (show Cpb < wp.heap.size from hpp.lt)
    have hne2 : wp.heap.size ≠ Cmb := Nat.ne_of_gt (show Cmb < wp.heap.size from hpp.map.lt)
    have hpS := hpW.advs hlt
    have hoS := hoW.trans (owns_set W ⟨Cpb, 1, none⟩ (.int .i64 ((s.next : Int) + 1)) (.inl rfl))
    have hbx : (W.setCell ⟨Cpb, 1, none⟩ (.int .i64 ((s.next : Int) + 1))).heap[wp.heap.size]? = some (.cells #[.int .i64 t.kind, .string y, .int .i64 t.pos] tTok (0, 0)) := (Below.heap_setCell _ _ _ _ hne).trans hx.cells
    have HVS := h_ (HV2.out.owns hoS)
    have HOS := h_ (HO2.out.trans hoS)
    have HPS := h_ hpS
    have HBX := h_ hbx
    have HNF := h_ (show ¬ Fp Cpb Cmb wp.heap.size from fun e => e.elim hne hne2)
    obtain ⟨wS, hwS⟩ : ∃ wS, W.setCell ⟨Cpb, 1, none⟩ (.int .i64 ((s.next : Int) + 1)) = wS := ⟨_, rfl⟩
    rw [hwS] at HVS HOS HPS HBX
    clear hbp hbel hx hpp hpW hoW hpS hoS hbx hne2
    go_wp2_with fail
    refine (HKq.out wS HPS.out).mono ?_
    rintro e wq ⟨rfl, hbq⟩
    have hbel2 : Below wq.heap.size wq (wq.alloc (.cells #[.int .i64 1, .string ym, .int .i64 m.pos] tTok)) := (Below.refl _ _).alloc (Nat.le_refl _) _
    have hx := Box.new wq #[.int .i64 1, .string ym, .int .i64 m.pos] tTok
    have hpp := HPS.out.below hbq
    have hpW := hpp.below hbel2
    have hbq2 := hbq.trans (hbel2.mono hbq.size)
    have hoW := Owns.of_below hbq2 (Fp Cpb Cmb)
    have hbx := (hbq2.block wp.heap.size (Array.getElem?_eq_some_iff.1 HBX.out).1).trans HBX.out
    have hpl := (Array.getElem?_eq_some_iff.1 HBX.out).1
    have hplq : wp.heap.size < wq.heap.size := Nat.lt_of_lt_of_le hpl hbq.size
    obtain ⟨V, hVV⟩ : ∃ V, wq.alloc (.cells #[.int .i64 1, .string ym, .int .i64 m.pos] tTok) = V := ⟨_, rfl⟩
    rw [hVV] at hpW hoW hx hbx
    have HVV := h_ (HVS.out.owns hoW)
    have HOV := h_ (HOS.out.trans hoW)
    have HPV := h_ hpW
    have HBV := h_ hbx
    have HXM := h_ hx
    have HNQ := h_ (show ¬ Fp Cpb Cmb wq.heap.size from fun e => e.elim (Nat.ne_of_gt (show Cpb < wq.heap.size from hpp.lt)) (Nat.ne_of_gt (show Cmb < wq.heap.size from hpp.map.lt)))
    have hneq : wq.heap.size ≠ Cpb := Nat.ne_of_gt (show Cpb < wq.heap.size from hpp.lt)
    have x0 : V.cell? ⟨wq.heap.size, 0, none⟩ = some (.int .i64 1) := hx.cell 0
    have x1 : V.cell? ⟨wq.heap.size, 1, none⟩ = some (.string ym) := hx.cell 1
    have x2 : V.cell? ⟨wq.heap.size, 2, none⟩ = some (.int .i64 m.pos) := hx.cell 2
    have xf2 := hx.fz
    have b0 : V.cell? ⟨wp.heap.size, 0, none⟩ = some (.int .i64 t.kind) := by simp [World.cell?, hbx]
    have b1 : V.cell? ⟨wp.heap.size, 1, none⟩ = some (.string y) := by simp [World.cell?, hbx]
    have b2 : V.cell? ⟨wp.heap.size, 2, none⟩ = some (.int .i64 t.pos) := by simp [World.cell?, hbx]
    obtain ⟨d0, d1, d2, d3, d4, d5, d6⟩ := hpW.cells
    have df := hpW.fz
    clear hbq hbel2 hx hpp hbq2 hoW hbx hpl c0 c1 c2 c3 c4 c5 c6 cf xf hWW hwS hpW
    have hpS := HPV.out.advs hlt2
    have hoS := owns_set V ⟨Cpb, 1, none⟩ (.int .i64 (((adv s).next : Int) + 1)) (F := Fp Cpb Cmb) (.inl rfl)
    have hbx : (V.setCell ⟨Cpb, 1, none⟩ (.int .i64 (((adv s).next : Int) + 1))).heap[wp.heap.size]? = some (.cells #[.int .i64 t.kind, .string y, .int .i64 t.pos] tTok (0, 0)) := (Below.heap_setCell _ _ _ _ hne).trans HBV.out
    have hbm : (V.setCell ⟨Cpb, 1, none⟩ (.int .i64 (((adv s).next : Int) + 1))).heap[wq.heap.size]? = some (.cells #[.int .i64 1, .string ym, .int .i64 m.pos] tTok (0, 0)) := (Below.heap_setCell _ _ _ _ hneq).trans HXM.out.cells
    obtain ⟨wT, hwT⟩ : ∃ wT, V.setCell ⟨Cpb, 1, none⟩ (.int .i64 (((adv s).next : Int) + 1)) = wT := ⟨_, rfl⟩
    rw [hwT] at hpS hoS hbx hbm
    have HVT := h_ (HVV.out.owns hoS)
    have HOT := h_ (HOV.out.trans hoS)
    have HPT := h_ hpS
    have HBT := h_ hbx
    have HBM := h_ hbm
    have y1 : wT.cell? ⟨wq.heap.size, 1, none⟩ = some (.string ym) := by simp [World.cell?, hbm]
    have e1 : (adv s).next = s.next + 1 := rfl
    have e2 : (((adv s).next : Nat) : Int) + 1 = (s.next : Int) + 1 + 1 := by rw [e1]; omega
    have e3 : (((adv s).next : Nat) : Int) = (s.next : Int) + 1 := by rw [e1]; omega
    rw [e2] at hwT
    rw [e3] at d1
    clear hpS hoS hbx hbm e1 e2 e3
    go_wp2_with fail
    refine (HEx.out wT).mono ?_
    rintro e w5 ⟨rfl, hb5⟩
    have HV5 := h_ (HVT.out.owns (Owns.of_below hb5 (Fp Cpb Cmb)))
    have HP5 := h_ (HPT.out.below hb5)
    have HO5 := h_ (HOT.out.trans (Owns.of_below hb5 (Fp Cpb Cmb)))
    have hB5 := (hb5.block wp.heap.size (Array.getElem?_eq_some_iff.1 HBT.out).1).trans HBT.out
    have hM5 := (hb5.block wq.heap.size (Array.getElem?_eq_some_iff.1 HBM.out).1).trans HBM.out
    have HB5 := h_ hB5
    have z2 : w5.cell? ⟨wq.heap.size, 2, none⟩ = some (.int .i64 m.pos) := by simp [World.cell?, hM5]
    clear hb5 hM5 x0 x1 x2 xf2 b0 b1 b2 d0 d1 d2 d3 d4 d5 d6 df y1 hVV hwT
    have hP6 := HP5.out
    rw [← HSE.out] at hP6
    have HV6 := HV5
    have HP6 := h_ hP6
    have HO6 := HO5
    have hB6 := hB5
    have HB6 := h_ hB6
    clear hP6 hB5
    have hbelV : Below w5.heap.size w5 (w5.alloc (.cells #[.iface u z, .int .i64 E] tPow)) := (Below.refl _ _).alloc (Nat.le_refl _) _
    have hxV := Box.new w5 #[.iface u z, .int .i64 E] tPow
    have bx := (hbelV.block wp.heap.size (Array.getElem?_eq_some_iff.1 hB6).1).trans hB6
    have hpV := HP6.out.below hbelV
    have hoV := Owns.of_below hbelV (Fp Cpb Cmb)
    have HNM := h_ (show ¬ Fp Cpb Cmb w5.heap.size from fun e => e.elim (Nat.ne_of_gt (show Cpb < w5.heap.size from HP6.out.lt)) (Nat.ne_of_gt (show Cmb < w5.heap.size from HP6.out.map.lt)))
    obtain ⟨X, hXX⟩ : ∃ X, w5.alloc (.cells #[.iface u z, .int .i64 E] tPow) = X := ⟨_, rfl⟩
    rw [hXX] at hbelV hxV bx hpV hoV
    have HPX := h_ hpV
    have HVX := h_ (HV6.out.owns hoV)
    have HOX := h_ (HO6.out.trans hoV)
    have HBX2 := h_ hxV
    have b0 : X.cell? ⟨wp.heap.size, 0, none⟩ = some (.int .i64 t.kind) := by simp [World.cell?, bx]
    have b1 : X.cell? ⟨wp.heap.size, 1, none⟩ = some (.string y) := by simp [World.cell?, bx]
    have b2 : X.cell? ⟨wp.heap.size, 2, none⟩ = some (.int .i64 t.pos) := by simp [World.cell?, bx]
    have m0 : X.cell? ⟨w5.heap.size, 0, none⟩ = some (.iface u z) := hxV.cell 0
    have m1 : X.cell? ⟨w5.heap.size, 1, none⟩ = some (.int .i64 E) := hxV.cell 1
    clear hbelV hxV bx hpV hoV hB6
    have hbelU : Below X.heap.size X (X.alloc (.cells #[.iface u z] tTe)) := (Below.refl _ _).alloc (Nat.le_refl _) _
    have hxU := Box.new X #[.iface u z] tTe
    have hoU := Owns.of_below hbelU (Fp Cpb Cmb)
    have hpU := HPX.out.below hbelU
    have hv1 := HVX.out.owns hoU
    have hM := measure_any Cb Cpb Cmb Cn Cc CT CA sE t (.pow b E) (.iface tPow (.agg #[.iface u z, .int .i64 E])) [b] [.iface u z] X.heap.size 1 rfl rfl (Gp Cpb Cmb (X.alloc (.cells #[.iface u z] tTe))) (X.alloc (.cells #[.iface u z] tTe)) (fun b hb => hb.1) hpU ⟨_, rfl, hv1.1⟩ hv1.2.2 hxU.cells (fun i tt hi => by
     match i, hi with
     | 0, hi => simp at hi; subst hi; exact ⟨_, rfl, hv1.1, hv1.2.2⟩
     | k + 1, hi => simp at hi) (by decide)
    rw [← HY.out] at hM
    have HM := h_ hM
    have HVU := h_ hv1
    have HOU := h_ (HOX.out.trans hoU)
    have HBU := h_ hbelU
    clear hbelU hxU hoU hpU hv1 hM
    go_wp2_with fail
    refine HM.out.mono ?_
    rintro e wM ⟨rfl, hPM, hOM⟩
    rw [← HPW.out] at hPM
    have hbm := (hOM.same w5.heap.size (Nat.lt_of_lt_of_le HBX2.out.lt HBU.out.size) HNM.out).trans ((HBU.out.block _ HBX2.out.lt).trans HBX2.out.cells)
    have n0 : wM.cell? ⟨w5.heap.size, 0, none⟩ = some (.iface u z) := by simp [World.cell?, hbm]
    have n1 : wM.cell? ⟨w5.heap.size, 1, none⟩ = some (.int .i64 E) := by simp [World.cell?, hbm]
    have hvM := HVU.out.owns hOM
    have HE := h_ (show FPost ⟨Cb, Cpb, Cmb, CT, CA, Cn, Cc⟩ (some (.tm (.pow b E))) (powS CT b s) w (.returned (.tuple #[.iface tPow (.agg #[.iface u z, .int .i64 E]), .bool true])) wM from ⟨_, _, rfl, ⟨⟨_, rfl, hvM.1⟩, by simp, hvM.2.2⟩, hPM, HOU.out.trans hOM⟩)
    clear hbm m0 m1 hPM hOM hvM b0 b1 b2 hXX
    go_wp2
    go_ret2
    exact HE.out
 | @po_go _ b s0 _ _ h0 h2 =>
  have HP0 := h_ h
  have HO0 := h_ (Owns.refl w (Fp Cpb Cmb))
  obtain rfl := hq
  have HI := h_ (ih _ _ (mea_same (by simp [lvl])) _ _ h0 hg (notEncl (by simp)) w h)
  have hg0 := h0.gd hg
  clear h0
  clear ih hg h
  cases h2 with
  | pT_end hsee =>
   have HS := h_ (fun w1 h2 => sees_any Cb Cpb Cmb Cn Cc CT CA s' ⟨#[94]⟩ false w1 h2 hsee)
   clear hsee htok
   go_enter Tryz.func125, Tryz.ntmps125
   go_wp2_with fail
   refine HI.out.mono ?_
   rintro e w1 ⟨u, z, rfl, hv1, hP1, hO1⟩
   have HV1 := h_ hv1
   have HP1 := h_ hP1
   have HO1 := h_ hO1
   clear hv1 hP1 hO1
   go_wp2_with fail
   refine (HS.out w1 HP1.out).mono ?_
   rintro e w2 ⟨rfl, hb2⟩
   have HV2 := h_ (PVAt.owns HV1.out (Owns.of_below hb2 (Fp Cpb Cmb)))
   have HP2 := h_ (HP1.out.below hb2)
   have HO2 := h_ (HO1.out.trans (Owns.of_below hb2 (Fp Cpb Cmb)))
   clear hb2
   have HE := h_ (show FPost ⟨Cb, Cpb, Cmb, CT, CA, Cn, Cc⟩ (some (.tm b)) s' w (.returned (.tuple #[.iface u z, .bool true])) w2 from ⟨_, _, rfl, HV2.out, HP2.out, HO2.out⟩)
   go_wp2
   go_ret2
   exact HE.out
  | pT_bad hsee hk1 =>
   have HKp := h_ (fun w2 h2 => peek_any Cb Cpb Cmb Cn Cc CT CA s0 w2 h2)
   have HKq := h_ (fun w2 h2 => peek_any Cb Cpb Cmb Cn Cc CT CA (adv s0) w2 h2)
   have HS := h_ (fun w1 h2 => sees_any Cb Cpb Cmb Cn Cc CT CA s0 ⟨#[94]⟩ true w1 h2 hsee)
   have hlt : s0.next < Cn := by rw [hn]; exact sees_lt hsee
   obtain ⟨t, ht⟩ : ∃ t, t = pk CT s0 := ⟨_, rfl⟩
   obtain ⟨m, hm⟩ : ∃ m, m = pk CT (adv s0) := ⟨_, rfl⟩
   rw [← ht] at HKp
   rw [← hm] at HKq
   obtain ⟨y, hy⟩ : ∃ y, y = bs t.text := ⟨_, rfl⟩
   obtain ⟨ym, hym⟩ : ∃ ym, ym = bs m.text := ⟨_, rfl⟩
   obtain ⟨k, hk⟩ : ∃ k : Int, k = (m.kind : Int) := ⟨_, rfl⟩
   rw [← hy] at HKp
   rw [← hym, ← hk] at HKq
   have hkf : (k == 1) = false := by rw [hk, beq_eq_false_iff_ne]; rw [← hm] at hk1; omega
   clear hsee htok hk1 ht hm hy hym hk
   go_enter Tryz.func125, Tryz.ntmps125
   go_wp2_with fail
   refine HI.out.mono ?_
   rintro e w1 ⟨u, z, rfl, hv1, hP1, hO1⟩
   have HV1 := h_ hv1
   have HP1 := h_ hP1
   have HO1 := h_ hO1
   clear hv1 hP1 hO1
   go_wp2_with fail
   refine (HS.out w1 HP1.out).mono ?_
   rintro e w2 ⟨rfl, hb2⟩
   have HV2 := h_ (PVAt.owns HV1.out (Owns.of_below hb2 (Fp Cpb Cmb)))
   have HP2 := h_ (HP1.out.below hb2)
   have HO2 := h_ (HO1.out.trans (Owns.of_below hb2 (Fp Cpb Cmb)))
   clear hb2
   go_wp2_with fail
   refine (HKp.out w2 HP2.out).mono ?_
   rintro e wp ⟨rfl, hbp⟩
   have hbel : Below wp.heap.size wp (wp.alloc (.cells #[.int .i64 t.kind, .string y, .int .i64 t.pos] tTok)) := (Below.refl _ _).alloc (Nat.le_refl _) _
   have hx := Box.new wp #[.int .i64 t.kind, .string y, .int .i64 t.pos] tTok
   have hpp := HP2.out.below hbp
   have hpW := hpp.below hbel
   have hoW := (Owns.of_below hbp (Fp Cpb Cmb)).trans (Owns.of_below hbel _)
   obtain ⟨W, hWW⟩ : ∃ W, wp.alloc (.cells #[.int .i64 t.kind, .string y, .int .i64 t.pos] tTok) = W := ⟨_, rfl⟩
   rw [hWW] at hpW hoW hx
   obtain ⟨c0, c1, c2, c3, c4, c5, c6⟩ := hpW.cells
   have cf := hpW.fz
   have xf := hx.fz
   have hne : wp.heap.size ≠ Cpb := Nat.ne_of_gt (show Cpb < wp.heap.size from hpp.lt)
   have hne2 : wp.heap.size ≠ Cmb := Nat.ne_of_gt (show Cmb < wp.heap.size from hpp.map.lt)
   have hpS := hpW.advs hlt
   have hoS := hoW.trans (owns_set W ⟨Cpb, 1, none⟩ (.int .i64 ((s0.next : Int) + 1)) (.inl rfl))
   have hbx : (W.setCell ⟨Cpb, 1, none⟩ (.int .i64 ((s0.next : Int) + 1))).heap[wp.heap.size]? = some (.cells #[.int .i64 t.kind, .string y, .int .i64 t.pos] tTok (0, 0)) := (Below.heap_setCell _ _ _ _ hne).trans hx.cells
   have HVS := h_ (HV2.out.owns hoS)
   have HOS := h_ (HO2.out.trans hoS)
   have HPS := h_ hpS
   have HBX := h_ hbx
   have HNF := h_ (show ¬ Fp Cpb Cmb wp.heap.size from fun e => e.elim hne hne2)
   obtain ⟨wS, hwS⟩ : ∃ wS, W.setCell ⟨Cpb, 1, none⟩ (.int .i64 ((s0.next : Int) + 1)) = wS := ⟨_, rfl⟩
   rw [hwS] at HVS HOS HPS HBX
   clear hbp hbel hx hpp hpW hoW hpS hoS hbx hne2
   go_wp2_with fail
   refine (HKq.out wS HPS.out).mono ?_
   rintro e wq ⟨rfl, hbq⟩
   have hbel2 : Below wq.heap.size wq (wq.alloc (.cells #[.int .i64 k, .string ym, .int .i64 m.pos] tTok)) := (Below.refl _ _).alloc (Nat.le_refl _) _
   have hx := Box.new wq #[.int .i64 k, .string ym, .int .i64 m.pos] tTok
   have hpp := HPS.out.below hbq
   have hpW := hpp.below hbel2
   have hbq2 := hbq.trans (hbel2.mono hbq.size)
   have hoW := Owns.of_below hbq2 (Fp Cpb Cmb)
   have hbx := (hbq2.block wp.heap.size (Array.getElem?_eq_some_iff.1 HBX.out).1).trans HBX.out
   have hpl := (Array.getElem?_eq_some_iff.1 HBX.out).1
   have hplq : wp.heap.size < wq.heap.size := Nat.lt_of_lt_of_le hpl hbq.size
   obtain ⟨V, hVV⟩ : ∃ V, wq.alloc (.cells #[.int .i64 k, .string ym, .int .i64 m.pos] tTok) = V := ⟨_, rfl⟩
   rw [hVV] at hpW hoW hx hbx
   have HVV := h_ (HVS.out.owns hoW)
   have HOV := h_ (HOS.out.trans hoW)
   have HPV := h_ hpW
   have HBV := h_ hbx
   have HXM := h_ hx
   have HNQ := h_ (show ¬ Fp Cpb Cmb wq.heap.size from fun e => e.elim (Nat.ne_of_gt (show Cpb < wq.heap.size from hpp.lt)) (Nat.ne_of_gt (show Cmb < wq.heap.size from hpp.map.lt)))
   have hneq : wq.heap.size ≠ Cpb := Nat.ne_of_gt (show Cpb < wq.heap.size from hpp.lt)
   have x0 : V.cell? ⟨wq.heap.size, 0, none⟩ = some (.int .i64 k) := hx.cell 0
   have x1 : V.cell? ⟨wq.heap.size, 1, none⟩ = some (.string ym) := hx.cell 1
   have x2 : V.cell? ⟨wq.heap.size, 2, none⟩ = some (.int .i64 m.pos) := hx.cell 2
   have xf2 := hx.fz
   have b0 : V.cell? ⟨wp.heap.size, 0, none⟩ = some (.int .i64 t.kind) := by simp [World.cell?, hbx]
   have b1 : V.cell? ⟨wp.heap.size, 1, none⟩ = some (.string y) := by simp [World.cell?, hbx]
   have b2 : V.cell? ⟨wp.heap.size, 2, none⟩ = some (.int .i64 t.pos) := by simp [World.cell?, hbx]
   obtain ⟨d0, d1, d2, d3, d4, d5, d6⟩ := hpW.cells
   have df := hpW.fz
   clear hbq hbel2 hx hpp hbq2 hoW hbx hpl c0 c1 c2 c3 c4 c5 c6 cf xf hWW hwS hpW
   have HE := h_ (show FPost ⟨Cb, Cpb, Cmb, CT, CA, Cn, Cc⟩ none (adv s0) w (.returned (.tuple #[.nilIface, .bool false])) V from ⟨_, rfl, rfl, HPV.out, HOV.out⟩)
   go_wp2
   go_ret2
   exact HE.out
  | pT_ok hsee hk1 =>
   have HKp := h_ (fun w2 h2 => peek_any Cb Cpb Cmb Cn Cc CT CA s0 w2 h2)
   have HKq := h_ (fun w2 h2 => peek_any Cb Cpb Cmb Cn Cc CT CA (adv s0) w2 h2)
   have HS := h_ (fun w1 h2 => sees_any Cb Cpb Cmb Cn Cc CT CA s0 ⟨#[94]⟩ true w1 h2 hsee)
   have hlt : s0.next < Cn := by rw [hn]; exact sees_lt hsee
   obtain ⟨t, ht⟩ : ∃ t, t = pk CT s0 := ⟨_, rfl⟩
   obtain ⟨m, hm⟩ : ∃ m, m = pk CT (adv s0) := ⟨_, rfl⟩
   rw [← ht] at HKp
   rw [← hm] at HKq
   obtain ⟨y, hy⟩ : ∃ y, y = bs t.text := ⟨_, rfl⟩
   obtain ⟨ym, hym⟩ : ∃ ym, ym = bs m.text := ⟨_, rfl⟩
   obtain ⟨k, hk⟩ : ∃ k : Int, k = (m.kind : Int) := ⟨_, rfl⟩
   rw [← hy] at HKp
   rw [← hym, ← hk] at HKq
   have hlt2 : s0.next + 1 < Cn := by rw [hn]; exact pk_lt (s := adv s0) (by rw [hk1]; decide)
   obtain ⟨hd, h0, h40, hz⟩ := htok.num (adv s0) hk1
   have HEx := h_ (fun w2 => exponent_any (bs (pk CT (adv s0)).text) hd h0 h40 hz w2)
   rw [← hm] at hk1 HEx
   rw [← hym] at HEx
   have hex0 : ym.data.toList = m.text := by rw [hym]; simp [bs]
   rw [hex0] at HEx
   obtain rfl : k = 1 := by rw [hk, hk1]; rfl
   obtain ⟨E, hE⟩ : ∃ E, E = expN m.text := ⟨_, rfl⟩
   have hEb : E ≤ 2147483647 := by rw [hE]; exact Nat.min_le_right _ _
   rw [← hE] at HEx
   rw [← hm, ← hE]
   have HY := h_ hy
   obtain ⟨sE, hsE⟩ : ∃ sE, sE = if 8 < E then exc (adv (adv s0)) m.pos else adv (adv s0) := ⟨_, rfl⟩
   have HPW := h_ (show powS CT b s0 = meas sE t (.pow b E) [b] by unfold powS; rw [← hm, ← hE, ← ht, hsE])
   clear hsee htok hk1 ht hm hy hym hk hd h0 h40 hz hE hex0
   by_cases h8 : 8 < E
   case pos =>
    rw [if_pos h8] at hsE
    have HSE := h_ hsE
    clear hsE
    go_enter Tryz.func125, Tryz.ntmps125
    go_wp2_with fail
    refine HI.out.mono ?_
    rintro e w1 ⟨u, z, rfl, hv1, hP1, hO1⟩
    have HV1 := h_ hv1
    have HP1 := h_ hP1
    have HO1 := h_ hO1
    clear hv1 hP1 hO1
    go_wp2_with fail
    refine (HS.out w1 HP1.out).mono ?_
    rintro e w2 ⟨rfl, hb2⟩
    have HV2 := h_ (PVAt.owns HV1.out (Owns.of_below hb2 (Fp Cpb Cmb)))
    have HP2 := h_ (HP1.out.below hb2)
    have HO2 := h_ (HO1.out.trans (Owns.of_below hb2 (Fp Cpb Cmb)))
    clear hb2
    go_wp2_with fail
    refine (HKp.out w2 HP2.out).mono ?_
    rintro e wp ⟨rfl, hbp⟩
    have hbel : Below wp.heap.size wp (wp.alloc (.cells #[.int .i64 t.kind, .string y, .int .i64 t.pos] tTok)) := (Below.refl _ _).alloc (Nat.le_refl _) _
    have hx := Box.new wp #[.int .i64 t.kind, .string y, .int .i64 t.pos] tTok
    have hpp := HP2.out.below hbp
    have hpW := hpp.below hbel
    have hoW := (Owns.of_below hbp (Fp Cpb Cmb)).trans (Owns.of_below hbel _)
    obtain ⟨W, hWW⟩ : ∃ W, wp.alloc (.cells #[.int .i64 t.kind, .string y, .int .i64 t.pos] tTok) = W := ⟨_, rfl⟩
    rw [hWW] at hpW hoW hx
    obtain ⟨c0, c1, c2, c3, c4, c5, c6⟩ := hpW.cells
    have cf := hpW.fz
    have xf := hx.fz
    have hne : wp.heap.size ≠ Cpb := Nat.ne_of_gt (show Cpb < wp.heap.size from hpp.lt)
    have hne2 : wp.heap.size ≠ Cmb := Nat.ne_of_gt (show Cmb < wp.heap.size from hpp.map.lt)
    have hpS := hpW.advs hlt
    have hoS := hoW.trans (owns_set W ⟨Cpb, 1, none⟩ (.int .i64 ((s0.next : Int) + 1)) (.inl rfl))
    have hbx : (W.setCell ⟨Cpb, 1, none⟩ (.int .i64 ((s0.next : Int) + 1))).heap[wp.heap.size]? = some (.cells #[.int .i64 t.kind, .string y, .int .i64 t.pos] tTok (0, 0)) := (Below.heap_setCell _ _ _ _ hne).trans hx.cells
    have HVS := h_ (HV2.out.owns hoS)
    have HOS := h_ (HO2.out.trans hoS)
    have HPS := h_ hpS
    have HBX := h_ hbx
    have HNF := h_ (show ¬ Fp Cpb Cmb wp.heap.size from fun e => e.elim hne hne2)
    obtain ⟨wS, hwS⟩ : ∃ wS, W.setCell ⟨Cpb, 1, none⟩ (.int .i64 ((s0.next : Int) + 1)) = wS := ⟨_, rfl⟩
    rw [hwS] at HVS HOS HPS HBX
    clear hbp hbel hx hpp hpW hoW hpS hoS hbx hne2
    go_wp2_with fail
    refine (HKq.out wS HPS.out).mono ?_
    rintro e wq ⟨rfl, hbq⟩
    have hbel2 : Below wq.heap.size wq (wq.alloc (.cells #[.int .i64 1, .string ym, .int .i64 m.pos] tTok)) := (Below.refl _ _).alloc (Nat.le_refl _) _
    have hx := Box.new wq #[.int .i64 1, .string ym, .int .i64 m.pos] tTok
    have hpp := HPS.out.below hbq
    have hpW := hpp.below hbel2
    have hbq2 := hbq.trans (hbel2.mono hbq.size)
    have hoW := Owns.of_below hbq2 (Fp Cpb Cmb)
    have hbx := (hbq2.block wp.heap.size (Array.getElem?_eq_some_iff.1 HBX.out).1).trans HBX.out
    have hpl := (Array.getElem?_eq_some_iff.1 HBX.out).1
    have hplq : wp.heap.size < wq.heap.size := Nat.lt_of_lt_of_le hpl hbq.size
    obtain ⟨V, hVV⟩ : ∃ V, wq.alloc (.cells #[.int .i64 1, .string ym, .int .i64 m.pos] tTok) = V := ⟨_, rfl⟩
    rw [hVV] at hpW hoW hx hbx
    have HVV := h_ (HVS.out.owns hoW)
    have HOV := h_ (HOS.out.trans hoW)
    have HPV := h_ hpW
    have HBV := h_ hbx
    have HXM := h_ hx
    have HNQ := h_ (show ¬ Fp Cpb Cmb wq.heap.size from fun e => e.elim (Nat.ne_of_gt (show Cpb < wq.heap.size from hpp.lt)) (Nat.ne_of_gt (show Cmb < wq.heap.size from hpp.map.lt)))
    have hneq : wq.heap.size ≠ Cpb := Nat.ne_of_gt (show Cpb < wq.heap.size from hpp.lt)
    have x0 : V.cell? ⟨wq.heap.size, 0, none⟩ = some (.int .i64 1) := hx.cell 0
    have x1 : V.cell? ⟨wq.heap.size, 1, none⟩ = some (.string ym) := hx.cell 1
    have x2 : V.cell? ⟨wq.heap.size, 2, none⟩ = some (.int .i64 m.pos) := hx.cell 2
    have xf2 := hx.fz
    have b0 : V.cell? ⟨wp.heap.size, 0, none⟩ = some (.int .i64 t.kind) := by simp [World.cell?, hbx]
    have b1 : V.cell? ⟨wp.heap.size, 1, none⟩ = some (.string y) := by simp [World.cell?, hbx]
    have b2 : V.cell? ⟨wp.heap.size, 2, none⟩ = some (.int .i64 t.pos) := by simp [World.cell?, hbx]
    obtain ⟨d0, d1, d2, d3, d4, d5, d6⟩ := hpW.cells
    have df := hpW.fz
    clear hbq hbel2 hx hpp hbq2 hoW hbx hpl c0 c1 c2 c3 c4 c5 c6 cf xf hWW hwS hpW
    have hpS := HPV.out.advs hlt2
    have hoS := owns_set V ⟨Cpb, 1, none⟩ (.int .i64 (((adv s0).next : Int) + 1)) (F := Fp Cpb Cmb) (.inl rfl)
    have hbx : (V.setCell ⟨Cpb, 1, none⟩ (.int .i64 (((adv s0).next : Int) + 1))).heap[wp.heap.size]? = some (.cells #[.int .i64 t.kind, .string y, .int .i64 t.pos] tTok (0, 0)) := (Below.heap_setCell _ _ _ _ hne).trans HBV.out
    have hbm : (V.setCell ⟨Cpb, 1, none⟩ (.int .i64 (((adv s0).next : Int) + 1))).heap[wq.heap.size]? = some (.cells #[.int .i64 1, .string ym, .int .i64 m.pos] tTok (0, 0)) := (Below.heap_setCell _ _ _ _ hneq).trans HXM.out.cells
    obtain ⟨wT, hwT⟩ : ∃ wT, V.setCell ⟨Cpb, 1, none⟩ (.int .i64 (((adv s0).next : Int) + 1)) = wT := ⟨_, rfl⟩
    rw [hwT] at hpS hoS hbx hbm
    have HVT := h_ (HVV.out.owns hoS)
    have HOT := h_ (HOV.out.trans hoS)
    have HPT := h_ hpS
    have HBT := h_ hbx
    have HBM := h_ hbm
    have y1 : wT.cell? ⟨wq.heap.size, 1, none⟩ = some (.string ym) := by simp [World.cell?, hbm]
    have e1 : (adv s0).next = s0.next + 1 := rfl
    have e2 : (((adv s0).next : Nat) : Int) + 1 = (s0.next : Int) + 1 + 1 := by rw [e1]; omega
    have e3 : (((adv s0).next : Nat) : Int) = (s0.next : Int) + 1 := by rw [e1]; omega
    rw [e2] at hwT
    rw [e3] at d1
    clear hpS hoS hbx hbm e1 e2 e3
    go_wp2_with fail
    refine (HEx.out wT).mono ?_
    rintro e w5 ⟨rfl, hb5⟩
    have HV5 := h_ (HVT.out.owns (Owns.of_below hb5 (Fp Cpb Cmb)))
    have HP5 := h_ (HPT.out.below hb5)
    have HO5 := h_ (HOT.out.trans (Owns.of_below hb5 (Fp Cpb Cmb)))
    have hB5 := (hb5.block wp.heap.size (Array.getElem?_eq_some_iff.1 HBT.out).1).trans HBT.out
    have hM5 := (hb5.block wq.heap.size (Array.getElem?_eq_some_iff.1 HBM.out).1).trans HBM.out
    have HB5 := h_ hB5
    have z2 : w5.cell? ⟨wq.heap.size, 2, none⟩ = some (.int .i64 m.pos) := by simp [World.cell?, hM5]
    clear hb5 hM5 x0 x1 x2 xf2 b0 b1 b2 d0 d1 d2 d3 d4 d5 d6 df y1 hVV hwT
    clear hB5
    go_wp2_with fail
    refine (exceed_any Cb Cpb Cmb Cn Cc CT CA (adv (adv s0)) m.pos w5 HP5.out).mono ?_
    rintro e w6 ⟨rfl, hP6, hO6⟩
    rw [← HSE.out] at hP6
    have HV6 := h_ (HV5.out.owns hO6)
    have HP6 := h_ hP6
    have HO6 := h_ (HO5.out.trans hO6)
    have hB6 := (hO6.same wp.heap.size (Array.getElem?_eq_some_iff.1 HB5.out).1 HNF.out).trans HB5.out
    have HB6 := h_ hB6
    clear hP6 hO6 z2
    have hbelV : Below w6.heap.size w6 (w6.alloc (.cells #[.iface u z, .int .i64 E] tPow)) := (Below.refl _ _).alloc (Nat.le_refl _) _
    have hxV := Box.new w6 #[.iface u z, .int .i64 E] tPow
    have bx := (hbelV.block wp.heap.size (Array.getElem?_eq_some_iff.1 hB6).1).trans hB6
    have hpV := HP6.out.below hbelV
    have hoV := Owns.of_below hbelV (Fp Cpb Cmb)
    have HNM := h_ (show ¬ Fp Cpb Cmb w6.heap.size from fun e => e.elim (Nat.ne_of_gt (show Cpb < w6.heap.size from HP6.out.lt)) (Nat.ne_of_gt (show Cmb < w6.heap.size from HP6.out.map.lt)))
    obtain ⟨X, hXX⟩ : ∃ X, w6.alloc (.cells #[.iface u z, .int .i64 E] tPow) = X := ⟨_, rfl⟩
    rw [hXX] at hbelV hxV bx hpV hoV
    have HPX := h_ hpV
    have HVX := h_ (HV6.out.owns hoV)
    have HOX := h_ (HO6.out.trans hoV)
    have HBX2 := h_ hxV
    have b0 : X.cell? ⟨wp.heap.size, 0, none⟩ = some (.int .i64 t.kind) := by simp [World.cell?, bx]
    have b1 : X.cell? ⟨wp.heap.size, 1, none⟩ = some (.string y) := by simp [World.cell?, bx]
    have b2 : X.cell? ⟨wp.heap.size, 2, none⟩ = some (.int .i64 t.pos) := by simp [World.cell?, bx]
    have m0 : X.cell? ⟨w6.heap.size, 0, none⟩ = some (.iface u z) := hxV.cell 0
    have m1 : X.cell? ⟨w6.heap.size, 1, none⟩ = some (.int .i64 E) := hxV.cell 1
    clear hbelV hxV bx hpV hoV hB6
    have hbelU : Below X.heap.size X (X.alloc (.cells #[.iface u z] tTe)) := (Below.refl _ _).alloc (Nat.le_refl _) _
    have hxU := Box.new X #[.iface u z] tTe
    have hoU := Owns.of_below hbelU (Fp Cpb Cmb)
    have hpU := HPX.out.below hbelU
    have hv1 := HVX.out.owns hoU
    have hM := measure_any Cb Cpb Cmb Cn Cc CT CA sE t (.pow b E) (.iface tPow (.agg #[.iface u z, .int .i64 E])) [b] [.iface u z] X.heap.size 1 rfl rfl (Gp Cpb Cmb (X.alloc (.cells #[.iface u z] tTe))) (X.alloc (.cells #[.iface u z] tTe)) (fun b hb => hb.1) hpU ⟨_, rfl, hv1.1⟩ hv1.2.2 hxU.cells (fun i tt hi => by
     match i, hi with
     | 0, hi => simp at hi; subst hi; exact ⟨_, rfl, hv1.1, hv1.2.2⟩
     | k + 1, hi => simp at hi) (by decide)
    rw [← HY.out] at hM
    have HM := h_ hM
    have HVU := h_ hv1
    have HOU := h_ (HOX.out.trans hoU)
    have HBU := h_ hbelU
    clear hbelU hxU hoU hpU hv1 hM
    go_wp2_with fail
    refine HM.out.mono ?_
    rintro e wM ⟨rfl, hPM, hOM⟩
    rw [← HPW.out] at hPM
    have hbm := (hOM.same w6.heap.size (Nat.lt_of_lt_of_le HBX2.out.lt HBU.out.size) HNM.out).trans ((HBU.out.block _ HBX2.out.lt).trans HBX2.out.cells)
    have n0 : wM.cell? ⟨w6.heap.size, 0, none⟩ = some (.iface u z) := by simp [World.cell?, hbm]
    have n1 : wM.cell? ⟨w6.heap.size, 1, none⟩ = some (.int .i64 E) := by simp [World.cell?, hbm]
    have hvM := HVU.out.owns hOM
    have HE := h_ (show FPost ⟨Cb, Cpb, Cmb, CT, CA, Cn, Cc⟩ (some (.tm (.pow b E))) (powS CT b s0) w (.returned (.tuple #[.iface tPow (.agg #[.iface u z, .int .i64 E]), .bool true])) wM from ⟨_, _, rfl, ⟨⟨_, rfl, hvM.1⟩, by simp, hvM.2.2⟩, hPM, HOU.out.trans hOM⟩)
    clear hbm m0 m1 hPM hOM hvM b0 b1 b2 hXX
    go_wp2
    go_ret2
    exact HE.out
   case neg =>
    rw [if_neg h8] at hsE
    have h8' : E ≤ 8 := by omega
    clear h8
    have HSE := h_ hsE
    clear hsE
    go_enter Tryz.func125, Tryz.ntmps125
    go_wp2_with fail
    refine HI.out.mono ?_
    rintro e w1 ⟨u, z, rfl, hv1, hP1, hO1⟩
    have HV1 := h_ hv1
    have HP1 := h_ hP1
    have HO1 := h_ hO1
    clear hv1 hP1 hO1
    go_wp2_with fail
    refine (HS.out w1 HP1.out).mono ?_
    rintro e w2 ⟨rfl, hb2⟩
    have HV2 := h_ (PVAt.owns HV1.out (Owns.of_below hb2 (Fp Cpb Cmb)))
    have HP2 := h_ (HP1.out.below hb2)
    have HO2 := h_ (HO1.out.trans (Owns.of_below hb2 (Fp Cpb Cmb)))
    clear hb2
    go_wp2_with fail
    refine (HKp.out w2 HP2.out).mono ?_
    rintro e wp ⟨rfl, hbp⟩
    have hbel : Below wp.heap.size wp (wp.alloc (.cells #[.int .i64 t.kind, .string y, .int .i64 t.pos] tTok)) := (Below.refl _ _).alloc (Nat.le_refl _) _
    have hx := Box.new wp #[.int .i64 t.kind, .string y, .int .i64 t.pos] tTok
    have hpp := HP2.out.below hbp
    have hpW := hpp.below hbel
    have hoW := (Owns.of_below hbp (Fp Cpb Cmb)).trans (Owns.of_below hbel _)
    obtain ⟨W, hWW⟩ : ∃ W, wp.alloc (.cells #[.int .i64 t.kind, .string y, .int .i64 t.pos] tTok) = W := ⟨_, rfl⟩
    rw [hWW] at hpW hoW hx
    obtain ⟨c0, c1, c2, c3, c4, c5, c6⟩ := hpW.cells
    have cf := hpW.fz
    have xf := hx.fz
    have hne : wp.heap.size ≠ Cpb := Nat.ne_of_gt (show Cpb < wp.heap.size from hpp.lt)
    have hne2 : wp.heap.size ≠ Cmb := Nat.ne_of_gt (show Cmb < wp.heap.size from hpp.map.lt)
    have hpS := hpW.advs hlt
    have hoS := hoW.trans (owns_set W ⟨Cpb, 1, none⟩ (.int .i64 ((s0.next : Int) + 1)) (.inl rfl))
    have hbx : (W.setCell ⟨Cpb, 1, none⟩ (.int .i64 ((s0.next : Int) + 1))).heap[wp.heap.size]? = some (.cells #[.int .i64 t.kind, .string y, .int .i64 t.pos] tTok (0, 0)) := (Below.heap_setCell _ _ _ _ hne).trans hx.cells
    have HVS := h_ (HV2.out.owns hoS)
    have HOS := h_ (HO2.out.trans hoS)
    have HPS := h_ hpS
    have HBX := h_ hbx
    have HNF := h_ (show ¬ Fp Cpb Cmb wp.heap.size from fun e => e.elim hne hne2)
    obtain ⟨wS, hwS⟩ : ∃ wS, W.setCell ⟨Cpb, 1, none⟩ (.int .i64 ((s0.next : Int) + 1)) = wS := ⟨_, rfl⟩
    rw [hwS] at HVS HOS HPS HBX
    clear hbp hbel hx hpp hpW hoW hpS hoS hbx hne2
    go_wp2_with fail
    refine (HKq.out wS HPS.out).mono ?_
    rintro e wq ⟨rfl, hbq⟩
    have hbel2 : Below wq.heap.size wq (wq.alloc (.cells #[.int .i64 1, .string ym, .int .i64 m.pos] tTok)) := (Below.refl _ _).alloc (Nat.le_refl _) _
    have hx := Box.new wq #[.int .i64 1, .string ym, .int .i64 m.pos] tTok
    have hpp := HPS.out.below hbq
    have hpW := hpp.below hbel2
    have hbq2 := hbq.trans (hbel2.mono hbq.size)
    have hoW := Owns.of_below hbq2 (Fp Cpb Cmb)
    have hbx := (hbq2.block wp.heap.size (Array.getElem?_eq_some_iff.1 HBX.out).1).trans HBX.out
    have hpl := (Array.getElem?_eq_some_iff.1 HBX.out).1
    have hplq : wp.heap.size < wq.heap.size := Nat.lt_of_lt_of_le hpl hbq.size
    obtain ⟨V, hVV⟩ : ∃ V, wq.alloc (.cells #[.int .i64 1, .string ym, .int .i64 m.pos] tTok) = V := ⟨_, rfl⟩
    rw [hVV] at hpW hoW hx hbx
    have HVV := h_ (HVS.out.owns hoW)
    have HOV := h_ (HOS.out.trans hoW)
    have HPV := h_ hpW
    have HBV := h_ hbx
    have HXM := h_ hx
    have HNQ := h_ (show ¬ Fp Cpb Cmb wq.heap.size from fun e => e.elim (Nat.ne_of_gt (show Cpb < wq.heap.size from hpp.lt)) (Nat.ne_of_gt (show Cmb < wq.heap.size from hpp.map.lt)))
    have hneq : wq.heap.size ≠ Cpb := Nat.ne_of_gt (show Cpb < wq.heap.size from hpp.lt)
    have x0 : V.cell? ⟨wq.heap.size, 0, none⟩ = some (.int .i64 1) := hx.cell 0
    have x1 : V.cell? ⟨wq.heap.size, 1, none⟩ = some (.string ym) := hx.cell 1
    have x2 : V.cell? ⟨wq.heap.size, 2, none⟩ = some (.int .i64 m.pos) := hx.cell 2
    have xf2 := hx.fz
    have b0 : V.cell? ⟨wp.heap.size, 0, none⟩ = some (.int .i64 t.kind) := by simp [World.cell?, hbx]
    have b1 : V.cell? ⟨wp.heap.size, 1, none⟩ = some (.string y) := by simp [World.cell?, hbx]
    have b2 : V.cell? ⟨wp.heap.size, 2, none⟩ = some (.int .i64 t.pos) := by simp [World.cell?, hbx]
    obtain ⟨d0, d1, d2, d3, d4, d5, d6⟩ := hpW.cells
    have df := hpW.fz
    clear hbq hbel2 hx hpp hbq2 hoW hbx hpl c0 c1 c2 c3 c4 c5 c6 cf xf hWW hwS hpW
    have hpS := HPV.out.advs hlt2
    have hoS := owns_set V ⟨Cpb, 1, none⟩ (.int .i64 (((adv s0).next : Int) + 1)) (F := Fp Cpb Cmb) (.inl rfl)
    have hbx : (V.setCell ⟨Cpb, 1, none⟩ (.int .i64 (((adv s0).next : Int) + 1))).heap[wp.heap.size]? = some (.cells #[.int .i64 t.kind, .string y, .int .i64 t.pos] tTok (0, 0)) := (Below.heap_setCell _ _ _ _ hne).trans HBV.out
    have hbm : (V.setCell ⟨Cpb, 1, none⟩ (.int .i64 (((adv s0).next : Int) + 1))).heap[wq.heap.size]? = some (.cells #[.int .i64 1, .string ym, .int .i64 m.pos] tTok (0, 0)) := (Below.heap_setCell _ _ _ _ hneq).trans HXM.out.cells
    obtain ⟨wT, hwT⟩ : ∃ wT, V.setCell ⟨Cpb, 1, none⟩ (.int .i64 (((adv s0).next : Int) + 1)) = wT := ⟨_, rfl⟩
    rw [hwT] at hpS hoS hbx hbm
    have HVT := h_ (HVV.out.owns hoS)
    have HOT := h_ (HOV.out.trans hoS)
    have HPT := h_ hpS
    have HBT := h_ hbx
    have HBM := h_ hbm
    have y1 : wT.cell? ⟨wq.heap.size, 1, none⟩ = some (.string ym) := by simp [World.cell?, hbm]
    have e1 : (adv s0).next = s0.next + 1 := rfl
    have e2 : (((adv s0).next : Nat) : Int) + 1 = (s0.next : Int) + 1 + 1 := by rw [e1]; omega
    have e3 : (((adv s0).next : Nat) : Int) = (s0.next : Int) + 1 := by rw [e1]; omega
    rw [e2] at hwT
    rw [e3] at d1
    clear hpS hoS hbx hbm e1 e2 e3
    go_wp2_with fail
    refine (HEx.out wT).mono ?_
    rintro e w5 ⟨rfl, hb5⟩
    have HV5 := h_ (HVT.out.owns (Owns.of_below hb5 (Fp Cpb Cmb)))
    have HP5 := h_ (HPT.out.below hb5)
    have HO5 := h_ (HOT.out.trans (Owns.of_below hb5 (Fp Cpb Cmb)))
    have hB5 := (hb5.block wp.heap.size (Array.getElem?_eq_some_iff.1 HBT.out).1).trans HBT.out
    have hM5 := (hb5.block wq.heap.size (Array.getElem?_eq_some_iff.1 HBM.out).1).trans HBM.out
    have HB5 := h_ hB5
    have z2 : w5.cell? ⟨wq.heap.size, 2, none⟩ = some (.int .i64 m.pos) := by simp [World.cell?, hM5]
    clear hb5 hM5 x0 x1 x2 xf2 b0 b1 b2 d0 d1 d2 d3 d4 d5 d6 df y1 hVV hwT
    have hP6 := HP5.out
    rw [← HSE.out] at hP6
    have HV6 := HV5
    have HP6 := h_ hP6
    have HO6 := HO5
    have hB6 := hB5
    have HB6 := h_ hB6
    clear hP6 hB5
    have hbelV : Below w5.heap.size w5 (w5.alloc (.cells #[.iface u z, .int .i64 E] tPow)) := (Below.refl _ _).alloc (Nat.le_refl _) _
    have hxV := Box.new w5 #[.iface u z, .int .i64 E] tPow
    have bx := (hbelV.block wp.heap.size (Array.getElem?_eq_some_iff.1 hB6).1).trans hB6
    have hpV := HP6.out.below hbelV
    have hoV := Owns.of_below hbelV (Fp Cpb Cmb)
    have HNM := h_ (show ¬ Fp Cpb Cmb w5.heap.size from fun e => e.elim (Nat.ne_of_gt (show Cpb < w5.heap.size from HP6.out.lt)) (Nat.ne_of_gt (show Cmb < w5.heap.size from HP6.out.map.lt)))
    obtain ⟨X, hXX⟩ : ∃ X, w5.alloc (.cells #[.iface u z, .int .i64 E] tPow) = X := ⟨_, rfl⟩
    rw [hXX] at hbelV hxV bx hpV hoV
    have HPX := h_ hpV
    have HVX := h_ (HV6.out.owns hoV)
    have HOX := h_ (HO6.out.trans hoV)
    have HBX2 := h_ hxV
    have b0 : X.cell? ⟨wp.heap.size, 0, none⟩ = some (.int .i64 t.kind) := by simp [World.cell?, bx]
    have b1 : X.cell? ⟨wp.heap.size, 1, none⟩ = some (.string y) := by simp [World.cell?, bx]
    have b2 : X.cell? ⟨wp.heap.size, 2, none⟩ = some (.int .i64 t.pos) := by simp [World.cell?, bx]
    have m0 : X.cell? ⟨w5.heap.size, 0, none⟩ = some (.iface u z) := hxV.cell 0
    have m1 : X.cell? ⟨w5.heap.size, 1, none⟩ = some (.int .i64 E) := hxV.cell 1
    clear hbelV hxV bx hpV hoV hB6
    have hbelU : Below X.heap.size X (X.alloc (.cells #[.iface u z] tTe)) := (Below.refl _ _).alloc (Nat.le_refl _) _
    have hxU := Box.new X #[.iface u z] tTe
    have hoU := Owns.of_below hbelU (Fp Cpb Cmb)
    have hpU := HPX.out.below hbelU
    have hv1 := HVX.out.owns hoU
    have hM := measure_any Cb Cpb Cmb Cn Cc CT CA sE t (.pow b E) (.iface tPow (.agg #[.iface u z, .int .i64 E])) [b] [.iface u z] X.heap.size 1 rfl rfl (Gp Cpb Cmb (X.alloc (.cells #[.iface u z] tTe))) (X.alloc (.cells #[.iface u z] tTe)) (fun b hb => hb.1) hpU ⟨_, rfl, hv1.1⟩ hv1.2.2 hxU.cells (fun i tt hi => by
     match i, hi with
     | 0, hi => simp at hi; subst hi; exact ⟨_, rfl, hv1.1, hv1.2.2⟩
     | k + 1, hi => simp at hi) (by decide)
    rw [← HY.out] at hM
    have HM := h_ hM
    have HVU := h_ hv1
    have HOU := h_ (HOX.out.trans hoU)
    have HBU := h_ hbelU
    clear hbelU hxU hoU hpU hv1 hM
    go_wp2_with fail
    refine HM.out.mono ?_
    rintro e wM ⟨rfl, hPM, hOM⟩
    rw [← HPW.out] at hPM
    have hbm := (hOM.same w5.heap.size (Nat.lt_of_lt_of_le HBX2.out.lt HBU.out.size) HNM.out).trans ((HBU.out.block _ HBX2.out.lt).trans HBX2.out.cells)
    have n0 : wM.cell? ⟨w5.heap.size, 0, none⟩ = some (.iface u z) := by simp [World.cell?, hbm]
    have n1 : wM.cell? ⟨w5.heap.size, 1, none⟩ = some (.int .i64 E) := by simp [World.cell?, hbm]
    have hvM := HVU.out.owns hOM
    have HE := h_ (show FPost ⟨Cb, Cpb, Cmb, CT, CA, Cn, Cc⟩ (some (.tm (.pow b E))) (powS CT b s0) w (.returned (.tuple #[.iface tPow (.agg #[.iface u z, .int .i64 E]), .bool true])) wM from ⟨_, _, rfl, ⟨⟨_, rfl, hvM.1⟩, by simp, hvM.2.2⟩, hPM, HOU.out.trans hOM⟩)
    clear hbm m0 m1 hPM hOM hvM b0 b1 b2 hXX
    go_wp2
    go_ret2
    exact HE.out
end Pa
end Go.Proofs.YteneobpacobpdaaGreatDoor
