/-
  The parser: power.
-/
import Derived.Test.YtkjbfomokdjbnaaGreatPaN
namespace Go.Proofs.YtkjbfomokdjbnaaGreat
open Go.RowKit
set_option linter.unusedSimpArgs false
set_option linter.unusedVariables false
namespace Pa
open Lx Fm Dc
attribute [local go_sem] run_store fieldTok0 fieldTok2
attribute [local go_sem] anF_Num anF_Name anF_Add anF_Sub anF_Mul anF_Neg anF_Pow anF_Truth anF_Atom anF_Not anF_And anF_Or anF_Implies anF_Iff anF_Quant anT_Num anT_Name anT_Add anT_Sub anT_Mul anT_Neg anT_Pow

/-! ### power -/
set_option maxRecDepth 100000 in
set_option maxHeartbeats 8000000 in
theorem power_walk (C : Cx) (q : Option Tm) (vq : Value) (s : PS) (r : Option PV) (s' : PS) (hB : Big C.T (.pow q) s r s') (hg : Gd s) (htok : TokOk C.T) (ih : IH C (mea C.T (.pow q) s)) (w : World) (h : C.At s w) (hq : QAt C w q vq) :
    Calls Tryz.prog 81 #[C.p, vq] w (FPost C r s' w) := by
  have hn := h.hn
  have hnext := h.next
  have hlen := h.len
  obtain ⟨Cb, Cpb, Cmb, CT, CA, Cn, Cc⟩ := C
  dsimp only at *
  cases hB with
  | po_no h1 =>
    obtain rfl := hq
    have HI := Lib.hid (ih _ _ (mea_same (by simp [lvl])) _ _ h1 hg (notEncl (by simp)) w h)
    clear h1 ih hg h htok
    go_enter Tryz.func81, Tryz.ntmps81
    go_wp2_with fail
    refine HI.out.mono ?_
    rintro e w1 ⟨v, rfl, hov, hP1, hO1⟩
    have HE := Lib.hid (show FPost ⟨Cb, Cpb, Cmb, CT, CA, Cn, Cc⟩ none s' w (.returned (.tuple #[v, .bool false])) w1 from ⟨_, rfl, hov, hP1, hO1⟩)
    clear hP1 hO1
    go_wp2
    go_ret2
    exact HE.out
  | @po_first b _ _ _ h2 =>
    have HP0 := Lib.hid h
    have HO0 := Lib.hid (Owns.refl w (Fp Cpb Cmb))
    obtain ⟨u, z, rfl⟩ := PVAt.iface (x := .tm b) hq
    have HVq := Lib.hid (show PVAt w (Gp Cpb Cmb w) (.tm b) (.iface u z) from hq)
    have hg0 := hg
    clear ih hg h hq
    cases h2 with
    | pT_end hsee =>
      have HS := Lib.hid (fun w1 h2 => sees_any Cb Cpb Cmb Cn Cc CT CA s ⟨#[94]⟩ false w1 h2 hsee)
      clear hsee htok
      go_enter Tryz.func81, Tryz.ntmps81
      go_wp2_with fail
      refine (HS.out w HP0.out).mono ?_
      rintro e w2 ⟨rfl, hb2⟩
      have HV2 := Lib.hid (PVAt.owns HVq.out (Owns.of_below hb2 (Fp Cpb Cmb)))
      have HP2 := Lib.hid (HP0.out.below hb2)
      have HO2 := Lib.hid (HO0.out.trans (Owns.of_below hb2 (Fp Cpb Cmb)))
      clear hb2
      have HE := Lib.hid (show FPost ⟨Cb, Cpb, Cmb, CT, CA, Cn, Cc⟩ (some (.tm b)) s w (.returned (.tuple #[.iface u z, .bool true])) w2 from ⟨_, _, rfl, HV2.out, HP2.out, HO2.out⟩)
      go_wp2
      go_ret2
      exact HE.out
    | pT_bad hsee hk1 =>
      have HKp := Lib.hid (fun w2 h2 => peek_any Cb Cpb Cmb Cn Cc CT CA s w2 h2)
      have HKq := Lib.hid (fun w2 h2 => peek_any Cb Cpb Cmb Cn Cc CT CA (adv s) w2 h2)
      have HS := Lib.hid (fun w1 h2 => sees_any Cb Cpb Cmb Cn Cc CT CA s ⟨#[94]⟩ true w1 h2 hsee)
      have hlt : s.next < Cn := by rw [hn]; exact sees_lt hsee
      obtain ⟨t, ht⟩ : ∃ t, t = pk CT s := ⟨_, rfl⟩
      obtain ⟨m, hm⟩ : ∃ m, m = pk CT (adv s) := ⟨_, rfl⟩
      rw [← ht] at HKp
      rw [← hm] at HKq
      obtain ⟨y, hy⟩ : ∃ y, y = bs t.text := ⟨_, rfl⟩
      obtain ⟨ym, hym⟩ : ∃ ym, ym = bs m.text := ⟨_, rfl⟩
      obtain ⟨k, hk⟩ : ∃ k : Int, k = (m.kind : Int) := ⟨_, rfl⟩
      rw [← hy] at HKp
      rw [← hym, ← hk] at HKq
      have hkf : (k == 1) = false := by rw [hk, beq_eq_false_iff_ne]; rw [← hm] at hk1; omega
      clear hsee htok hk1 ht hm hy hym hk
      go_enter Tryz.func81, Tryz.ntmps81
      go_wp2_with fail
      refine (HS.out w HP0.out).mono ?_
      rintro e w2 ⟨rfl, hb2⟩
      have HV2 := Lib.hid (PVAt.owns HVq.out (Owns.of_below hb2 (Fp Cpb Cmb)))
      have HP2 := Lib.hid (HP0.out.below hb2)
      have HO2 := Lib.hid (HO0.out.trans (Owns.of_below hb2 (Fp Cpb Cmb)))
      clear hb2
      go_wp2_with fail
      refine (HKp.out w2 HP2.out).mono ?_
      rintro e wp ⟨rfl, hbp⟩
      have hbel : Below wp.heap.size wp (wp.alloc (.cells #[.int .i64 t.kind, .string y, .int .i64 t.pos] tTok)) := (Below.refl _ _).alloc (Nat.le_refl _) _
      have hx := Box.new wp #[.int .i64 t.kind, .string y, .int .i64 t.pos] tTok
      have hpp := HP2.out.below hbp
      have hpW := hpp.below hbel
      have hoW := (Owns.of_below hbp (Fp Cpb Cmb)).trans (Owns.of_below hbel _)
      obtain ⟨W, hWW⟩ : ∃ W, wp.alloc (.cells #[.int .i64 t.kind, .string y, .int .i64 t.pos] tTok) = W := ⟨_, rfl⟩
      rw [hWW] at hpW hoW hx
      obtain ⟨c0, c1, c2, c3, c4, c5, c6⟩ := hpW.cells
      have cf := hpW.fz
      have xf := hx.fz
      have hne : wp.heap.size ≠ Cpb := Nat.ne_of_gt (show Cpb < wp.heap.size from hpp.lt)
      have hne2 : wp.heap.size ≠ Cmb := Nat.ne_of_gt (show Cmb < wp.heap.size from hpp.map.lt)
      have hpS := hpW.advs hlt
      have hoS := hoW.trans (owns_set W ⟨Cpb, 1, none⟩ (.int .i64 ((s.next : Int) + 1)) (.inl rfl))
      have hbx : (W.setCell ⟨Cpb, 1, none⟩ (.int .i64 ((s.next : Int) + 1))).heap[wp.heap.size]? = some (.cells #[.int .i64 t.kind, .string y, .int .i64 t.pos] tTok (0, 0)) := (Below.heap_setCell _ _ _ _ hne).trans hx.cells
      have HVS := Lib.hid (HV2.out.owns hoS)
      have HOS := Lib.hid (HO2.out.trans hoS)
      have HPS := Lib.hid hpS
      have HBX := Lib.hid hbx
      have HNF := Lib.hid (show ¬ Fp Cpb Cmb wp.heap.size from fun e => e.elim hne hne2)
      obtain ⟨wS, hwS⟩ : ∃ wS, W.setCell ⟨Cpb, 1, none⟩ (.int .i64 ((s.next : Int) + 1)) = wS := ⟨_, rfl⟩
      rw [hwS] at HVS HOS HPS HBX
      clear hbp hbel hx hpp hpW hoW hpS hoS hbx hne2
      go_wp2_with fail
      refine (HKq.out wS HPS.out).mono ?_
      rintro e wq ⟨rfl, hbq⟩
      have hbel2 : Below wq.heap.size wq (wq.alloc (.cells #[.int .i64 k, .string ym, .int .i64 m.pos] tTok)) := (Below.refl _ _).alloc (Nat.le_refl _) _
      have hx := Box.new wq #[.int .i64 k, .string ym, .int .i64 m.pos] tTok
      have hpp := HPS.out.below hbq
      have hpW := hpp.below hbel2
      have hbq2 := hbq.trans (hbel2.mono hbq.size)
      have hoW := Owns.of_below hbq2 (Fp Cpb Cmb)
      have hbx := (hbq2.block wp.heap.size (Array.getElem?_eq_some_iff.1 HBX.out).1).trans HBX.out
      have hpl := (Array.getElem?_eq_some_iff.1 HBX.out).1
      have hplq : wp.heap.size < wq.heap.size := Nat.lt_of_lt_of_le hpl hbq.size
      obtain ⟨V, hVV⟩ : ∃ V, wq.alloc (.cells #[.int .i64 k, .string ym, .int .i64 m.pos] tTok) = V := ⟨_, rfl⟩
      rw [hVV] at hpW hoW hx hbx
      have HVV := Lib.hid (HVS.out.owns hoW)
      have HOV := Lib.hid (HOS.out.trans hoW)
      have HPV := Lib.hid hpW
      have HBV := Lib.hid hbx
      have HXM := Lib.hid hx
      have HNQ := Lib.hid (show ¬ Fp Cpb Cmb wq.heap.size from fun e => e.elim (Nat.ne_of_gt (show Cpb < wq.heap.size from hpp.lt)) (Nat.ne_of_gt (show Cmb < wq.heap.size from hpp.map.lt)))
      have hneq : wq.heap.size ≠ Cpb := Nat.ne_of_gt (show Cpb < wq.heap.size from hpp.lt)
      have x0 : V.cell? ⟨wq.heap.size, 0, none⟩ = some (.int .i64 k) := hx.cell 0
      have x1 : V.cell? ⟨wq.heap.size, 1, none⟩ = some (.string ym) := hx.cell 1
      have x2 : V.cell? ⟨wq.heap.size, 2, none⟩ = some (.int .i64 m.pos) := hx.cell 2
      have xf2 := hx.fz
      have b0 : V.cell? ⟨wp.heap.size, 0, none⟩ = some (.int .i64 t.kind) := by simp [World.cell?, hbx]
      have b1 : V.cell? ⟨wp.heap.size, 1, none⟩ = some (.string y) := by simp [World.cell?, hbx]
      have b2 : V.cell? ⟨wp.heap.size, 2, none⟩ = some (.int .i64 t.pos) := by simp [World.cell?, hbx]
      obtain ⟨d0, d1, d2, d3, d4, d5, d6⟩ := hpW.cells
      have df := hpW.fz
      clear hbq hbel2 hx hpp hbq2 hoW hbx hpl c0 c1 c2 c3 c4 c5 c6 cf xf hWW hwS hpW
      have HE := Lib.hid (show FPost ⟨Cb, Cpb, Cmb, CT, CA, Cn, Cc⟩ none (adv s) w (.returned (.tuple #[.nilIface, .bool false])) V from ⟨_, rfl, rfl, HPV.out, HOV.out⟩)
      go_wp2
      go_ret2
      exact HE.out
    | pT_ok hsee hk1 =>
      have HKp := Lib.hid (fun w2 h2 => peek_any Cb Cpb Cmb Cn Cc CT CA s w2 h2)
      have HKq := Lib.hid (fun w2 h2 => peek_any Cb Cpb Cmb Cn Cc CT CA (adv s) w2 h2)
      have HS := Lib.hid (fun w1 h2 => sees_any Cb Cpb Cmb Cn Cc CT CA s ⟨#[94]⟩ true w1 h2 hsee)
      have hlt : s.next < Cn := by rw [hn]; exact sees_lt hsee
      obtain ⟨t, ht⟩ : ∃ t, t = pk CT s := ⟨_, rfl⟩
      obtain ⟨m, hm⟩ : ∃ m, m = pk CT (adv s) := ⟨_, rfl⟩
      rw [← ht] at HKp
      rw [← hm] at HKq
      obtain ⟨y, hy⟩ : ∃ y, y = bs t.text := ⟨_, rfl⟩
      obtain ⟨ym, hym⟩ : ∃ ym, ym = bs m.text := ⟨_, rfl⟩
      obtain ⟨k, hk⟩ : ∃ k : Int, k = (m.kind : Int) := ⟨_, rfl⟩
      rw [← hy] at HKp
      rw [← hym, ← hk] at HKq
      have hlt2 : s.next + 1 < Cn := by rw [hn]; exact pk_lt (s := adv s) (by rw [hk1]; decide)
      obtain ⟨hd, h0, h40, hz⟩ := htok.num (adv s) hk1
      have HEx := Lib.hid (fun w2 => exponent_any (bs (pk CT (adv s)).text) hd h0 h40 hz w2)
      rw [← hm] at hk1 HEx
      rw [← hym] at HEx
      have hex0 : ym.data.toList = m.text := by rw [hym]; simp [bs]
      rw [hex0] at HEx
      obtain rfl : k = 1 := by rw [hk, hk1]; rfl
      obtain ⟨E, hE⟩ : ∃ E, E = expN m.text := ⟨_, rfl⟩
      have hEb : E ≤ 2147483647 := by rw [hE]; exact Nat.min_le_right _ _
      rw [← hE] at HEx
      rw [← hm, ← hE]
      have HY := Lib.hid hy
      obtain ⟨sE, hsE⟩ : ∃ sE, sE = if 8 < E then exc (adv (adv s)) m.pos else adv (adv s) := ⟨_, rfl⟩
      have HPW := Lib.hid (show powS CT b s = meas sE t (.pow b E) [b] by unfold powS; rw [← hm, ← hE, ← ht, hsE])
      clear hsee htok hk1 ht hm hy hym hk hd h0 h40 hz hE hex0
      by_cases h8 : 8 < E
      case pos =>
        rw [if_pos h8] at hsE
        have HSE := Lib.hid hsE
        clear hsE
        go_enter Tryz.func81, Tryz.ntmps81
        go_wp2_with fail
        refine (HS.out w HP0.out).mono ?_
        rintro e w2 ⟨rfl, hb2⟩
        have HV2 := Lib.hid (PVAt.owns HVq.out (Owns.of_below hb2 (Fp Cpb Cmb)))
        have HP2 := Lib.hid (HP0.out.below hb2)
        have HO2 := Lib.hid (HO0.out.trans (Owns.of_below hb2 (Fp Cpb Cmb)))
        clear hb2
        go_wp2_with fail
        refine (HKp.out w2 HP2.out).mono ?_
        rintro e wp ⟨rfl, hbp⟩
        have hbel : Below wp.heap.size wp (wp.alloc (.cells #[.int .i64 t.kind, .string y, .int .i64 t.pos] tTok)) := (Below.refl _ _).alloc (Nat.le_refl _) _
        have hx := Box.new wp #[.int .i64 t.kind, .string y, .int .i64 t.pos] tTok
        have hpp := HP2.out.below hbp
        have hpW := hpp.below hbel
        have hoW := (Owns.of_below hbp (Fp Cpb Cmb)).trans (Owns.of_below hbel _)
        obtain ⟨W, hWW⟩ : ∃ W, wp.alloc (.cells #[.int .i64 t.kind, .string y, .int .i64 t.pos] tTok) = W := ⟨_, rfl⟩
        rw [hWW] at hpW hoW hx
        obtain ⟨c0, c1, c2, c3, c4, c5, c6⟩ := hpW.cells
        have cf := hpW.fz
        have xf := hx.fz
        have hne : wp.heap.size ≠ Cpb := Nat.ne_of_gt (show Cpb < wp.heap.size from hpp.lt)
        have hne2 : wp.heap.size ≠ Cmb := Nat.ne_of_gt (show Cmb < wp.heap.size from hpp.map.lt)
        have hpS := hpW.advs hlt
        have hoS := hoW.trans (owns_set W ⟨Cpb, 1, none⟩ (.int .i64 ((s.next : Int) + 1)) (.inl rfl))
        have hbx : (W.setCell ⟨Cpb, 1, none⟩ (.int .i64 ((s.next : Int) + 1))).heap[wp.heap.size]? = some (.cells #[.int .i64 t.kind, .string y, .int .i64 t.pos] tTok (0, 0)) := (Below.heap_setCell _ _ _ _ hne).trans hx.cells
        have HVS := Lib.hid (HV2.out.owns hoS)
        have HOS := Lib.hid (HO2.out.trans hoS)
        have HPS := Lib.hid hpS
        have HBX := Lib.hid hbx
        have HNF := Lib.hid (show ¬ Fp Cpb Cmb wp.heap.size from fun e => e.elim hne hne2)
        obtain ⟨wS, hwS⟩ : ∃ wS, W.setCell ⟨Cpb, 1, none⟩ (.int .i64 ((s.next : Int) + 1)) = wS := ⟨_, rfl⟩
        rw [hwS] at HVS HOS HPS HBX
        clear hbp hbel hx hpp hpW hoW hpS hoS hbx hne2
        go_wp2_with fail
        refine (HKq.out wS HPS.out).mono ?_
        rintro e wq ⟨rfl, hbq⟩
        have hbel2 : Below wq.heap.size wq (wq.alloc (.cells #[.int .i64 1, .string ym, .int .i64 m.pos] tTok)) := (Below.refl _ _).alloc (Nat.le_refl _) _
        have hx := Box.new wq #[.int .i64 1, .string ym, .int .i64 m.pos] tTok
        have hpp := HPS.out.below hbq
        have hpW := hpp.below hbel2
        have hbq2 := hbq.trans (hbel2.mono hbq.size)
        have hoW := Owns.of_below hbq2 (Fp Cpb Cmb)
        have hbx := (hbq2.block wp.heap.size (Array.getElem?_eq_some_iff.1 HBX.out).1).trans HBX.out
        have hpl := (Array.getElem?_eq_some_iff.1 HBX.out).1
        have hplq : wp.heap.size < wq.heap.size := Nat.lt_of_lt_of_le hpl hbq.size
        obtain ⟨V, hVV⟩ : ∃ V, wq.alloc (.cells #[.int .i64 1, .string ym, .int .i64 m.pos] tTok) = V := ⟨_, rfl⟩
        rw [hVV] at hpW hoW hx hbx
        have HVV := Lib.hid (HVS.out.owns hoW)
        have HOV := Lib.hid (HOS.out.trans hoW)
        have HPV := Lib.hid hpW
        have HBV := Lib.hid hbx
        have HXM := Lib.hid hx
        have HNQ := Lib.hid (show ¬ Fp Cpb Cmb wq.heap.size from fun e => e.elim (Nat.ne_of_gt (show Cpb < wq.heap.size from hpp.lt)) (Nat.ne_of_gt (show Cmb < wq.heap.size from hpp.map.lt)))
        have hneq : wq.heap.size ≠ Cpb := Nat.ne_of_gt (show Cpb < wq.heap.size from hpp.lt)
        have x0 : V.cell? ⟨wq.heap.size, 0, none⟩ = some (.int .i64 1) := hx.cell 0
        have x1 : V.cell? ⟨wq.heap.size, 1, none⟩ = some (.string ym) := hx.cell 1
        have x2 : V.cell? ⟨wq.heap.size, 2, none⟩ = some (.int .i64 m.pos) := hx.cell 2
        have xf2 := hx.fz
        have b0 : V.cell? ⟨wp.heap.size, 0, none⟩ = some (.int .i64 t.kind) := by simp [World.cell?, hbx]
        have b1 : V.cell? ⟨wp.heap.size, 1, none⟩ = some (.string y) := by simp [World.cell?, hbx]
        have b2 : V.cell? ⟨wp.heap.size, 2, none⟩ = some (.int .i64 t.pos) := by simp [World.cell?, hbx]
        obtain ⟨d0, d1, d2, d3, d4, d5, d6⟩ := hpW.cells
        have df := hpW.fz
        clear hbq hbel2 hx hpp hbq2 hoW hbx hpl c0 c1 c2 c3 c4 c5 c6 cf xf hWW hwS hpW
        have hpS := HPV.out.advs hlt2
        have hoS := owns_set V ⟨Cpb, 1, none⟩ (.int .i64 (((adv s).next : Int) + 1)) (F := Fp Cpb Cmb) (.inl rfl)
        have hbx : (V.setCell ⟨Cpb, 1, none⟩ (.int .i64 (((adv s).next : Int) + 1))).heap[wp.heap.size]? = some (.cells #[.int .i64 t.kind, .string y, .int .i64 t.pos] tTok (0, 0)) := (Below.heap_setCell _ _ _ _ hne).trans HBV.out
        have hbm : (V.setCell ⟨Cpb, 1, none⟩ (.int .i64 (((adv s).next : Int) + 1))).heap[wq.heap.size]? = some (.cells #[.int .i64 1, .string ym, .int .i64 m.pos] tTok (0, 0)) := (Below.heap_setCell _ _ _ _ hneq).trans HXM.out.cells
        obtain ⟨wT, hwT⟩ : ∃ wT, V.setCell ⟨Cpb, 1, none⟩ (.int .i64 (((adv s).next : Int) + 1)) = wT := ⟨_, rfl⟩
        rw [hwT] at hpS hoS hbx hbm
        have HVT := Lib.hid (HVV.out.owns hoS)
        have HOT := Lib.hid (HOV.out.trans hoS)
        have HPT := Lib.hid hpS
        have HBT := Lib.hid hbx
        have HBM := Lib.hid hbm
        have y1 : wT.cell? ⟨wq.heap.size, 1, none⟩ = some (.string ym) := by simp [World.cell?, hbm]
        have e1 : (adv s).next = s.next + 1 := rfl
        have e2 : (((adv s).next : Nat) : Int) + 1 = (s.next : Int) + 1 + 1 := by rw [e1]; omega
        have e3 : (((adv s).next : Nat) : Int) = (s.next : Int) + 1 := by rw [e1]; omega
        rw [e2] at hwT
        rw [e3] at d1
        clear hpS hoS hbx hbm e1 e2 e3
        go_wp2_with fail
        refine (HEx.out wT).mono ?_
        rintro e w5 ⟨rfl, hb5⟩
        have HV5 := Lib.hid (HVT.out.owns (Owns.of_below hb5 (Fp Cpb Cmb)))
        have HP5 := Lib.hid (HPT.out.below hb5)
        have HO5 := Lib.hid (HOT.out.trans (Owns.of_below hb5 (Fp Cpb Cmb)))
        have hB5 := (hb5.block wp.heap.size (Array.getElem?_eq_some_iff.1 HBT.out).1).trans HBT.out
        have hM5 := (hb5.block wq.heap.size (Array.getElem?_eq_some_iff.1 HBM.out).1).trans HBM.out
        have HB5 := Lib.hid hB5
        have z2 : w5.cell? ⟨wq.heap.size, 2, none⟩ = some (.int .i64 m.pos) := by simp [World.cell?, hM5]
        clear hb5 hM5 x0 x1 x2 xf2 b0 b1 b2 d0 d1 d2 d3 d4 d5 d6 df y1 hVV hwT
        clear hB5
        go_wp2_with fail
        refine (exceed_any Cb Cpb Cmb Cn Cc CT CA (adv (adv s)) m.pos w5 HP5.out).mono ?_
        rintro e w6 ⟨rfl, hP6, hO6⟩
        rw [← HSE.out] at hP6
        have HV6 := Lib.hid (HV5.out.owns hO6)
        have HP6 := Lib.hid hP6
        have HO6 := Lib.hid (HO5.out.trans hO6)
        have hB6 := (hO6.same wp.heap.size (Array.getElem?_eq_some_iff.1 HB5.out).1 HNF.out).trans HB5.out
        have HB6 := Lib.hid hB6
        clear hP6 hO6 z2
        have hbelV : Below w6.heap.size w6 (w6.alloc (.cells #[.iface u z, .int .i64 E] tPow)) := (Below.refl _ _).alloc (Nat.le_refl _) _
        have hxV := Box.new w6 #[.iface u z, .int .i64 E] tPow
        have bx := (hbelV.block wp.heap.size (Array.getElem?_eq_some_iff.1 hB6).1).trans hB6
        have hpV := HP6.out.below hbelV
        have hoV := Owns.of_below hbelV (Fp Cpb Cmb)
        have HNM := Lib.hid (show ¬ Fp Cpb Cmb w6.heap.size from fun e => e.elim (Nat.ne_of_gt (show Cpb < w6.heap.size from HP6.out.lt)) (Nat.ne_of_gt (show Cmb < w6.heap.size from HP6.out.map.lt)))
        obtain ⟨X, hXX⟩ : ∃ X, w6.alloc (.cells #[.iface u z, .int .i64 E] tPow) = X := ⟨_, rfl⟩
        rw [hXX] at hbelV hxV bx hpV hoV
        have HPX := Lib.hid hpV
        have HVX := Lib.hid (HV6.out.owns hoV)
        have HOX := Lib.hid (HO6.out.trans hoV)
        have HBX2 := Lib.hid hxV
        have b0 : X.cell? ⟨wp.heap.size, 0, none⟩ = some (.int .i64 t.kind) := by simp [World.cell?, bx]
        have b1 : X.cell? ⟨wp.heap.size, 1, none⟩ = some (.string y) := by simp [World.cell?, bx]
        have b2 : X.cell? ⟨wp.heap.size, 2, none⟩ = some (.int .i64 t.pos) := by simp [World.cell?, bx]
        have m0 : X.cell? ⟨w6.heap.size, 0, none⟩ = some (.iface u z) := hxV.cell 0
        have m1 : X.cell? ⟨w6.heap.size, 1, none⟩ = some (.int .i64 E) := hxV.cell 1
        clear hbelV hxV bx hpV hoV hB6
        have hbelU : Below X.heap.size X (X.alloc (.cells #[.iface u z] tTe)) := (Below.refl _ _).alloc (Nat.le_refl _) _
        have hxU := Box.new X #[.iface u z] tTe
        have hoU := Owns.of_below hbelU (Fp Cpb Cmb)
        have hpU := HPX.out.below hbelU
        have hv1 := HVX.out.owns hoU
        have hM := measure_any Cb Cpb Cmb Cn Cc CT CA sE t (.pow b E) (.iface tPow (.agg #[.iface u z, .int .i64 E])) [b] [.iface u z] X.heap.size 1 rfl rfl (Gp Cpb Cmb (X.alloc (.cells #[.iface u z] tTe))) (X.alloc (.cells #[.iface u z] tTe)) (fun b hb => hb.1) hpU ⟨_, rfl, hv1.1⟩ hv1.2.2 hxU.cells (fun i tt hi => by
          match i, hi with
          | 0, hi => simp at hi; subst hi; exact ⟨_, rfl, hv1.1, hv1.2.2⟩
          | k + 1, hi => simp at hi) (by decide)
        rw [← HY.out] at hM
        have HM := Lib.hid hM
        have HVU := Lib.hid hv1
        have HOU := Lib.hid (HOX.out.trans hoU)
        have HBU := Lib.hid hbelU
        clear hbelU hxU hoU hpU hv1 hM
        go_wp2_with fail
        refine HM.out.mono ?_
        rintro e wM ⟨rfl, hPM, hOM⟩
        rw [← HPW.out] at hPM
        have hbm := (hOM.same w6.heap.size (Nat.lt_of_lt_of_le HBX2.out.lt HBU.out.size) HNM.out).trans ((HBU.out.block _ HBX2.out.lt).trans HBX2.out.cells)
        have n0 : wM.cell? ⟨w6.heap.size, 0, none⟩ = some (.iface u z) := by simp [World.cell?, hbm]
        have n1 : wM.cell? ⟨w6.heap.size, 1, none⟩ = some (.int .i64 E) := by simp [World.cell?, hbm]
        have hvM := HVU.out.owns hOM
        have HE := Lib.hid (show FPost ⟨Cb, Cpb, Cmb, CT, CA, Cn, Cc⟩ (some (.tm (.pow b E))) (powS CT b s) w (.returned (.tuple #[.iface tPow (.agg #[.iface u z, .int .i64 E]), .bool true])) wM from ⟨_, _, rfl, ⟨⟨_, rfl, hvM.1⟩, by simp, hvM.2.2⟩, hPM, HOU.out.trans hOM⟩)
        clear hbm m0 m1 hPM hOM hvM b0 b1 b2 hXX
        go_wp2
        go_ret2
        exact HE.out
      
      case neg =>
        rw [if_neg h8] at hsE
        have h8' : E ≤ 8 := by omega
        clear h8
        have HSE := Lib.hid hsE
        clear hsE
        go_enter Tryz.func81, Tryz.ntmps81
        go_wp2_with fail
        refine (HS.out w HP0.out).mono ?_
        rintro e w2 ⟨rfl, hb2⟩
        have HV2 := Lib.hid (PVAt.owns HVq.out (Owns.of_below hb2 (Fp Cpb Cmb)))
        have HP2 := Lib.hid (HP0.out.below hb2)
        have HO2 := Lib.hid (HO0.out.trans (Owns.of_below hb2 (Fp Cpb Cmb)))
        clear hb2
        go_wp2_with fail
        refine (HKp.out w2 HP2.out).mono ?_
        rintro e wp ⟨rfl, hbp⟩
        have hbel : Below wp.heap.size wp (wp.alloc (.cells #[.int .i64 t.kind, .string y, .int .i64 t.pos] tTok)) := (Below.refl _ _).alloc (Nat.le_refl _) _
        have hx := Box.new wp #[.int .i64 t.kind, .string y, .int .i64 t.pos] tTok
        have hpp := HP2.out.below hbp
        have hpW := hpp.below hbel
        have hoW := (Owns.of_below hbp (Fp Cpb Cmb)).trans (Owns.of_below hbel _)
        obtain ⟨W, hWW⟩ : ∃ W, wp.alloc (.cells #[.int .i64 t.kind, .string y, .int .i64 t.pos] tTok) = W := ⟨_, rfl⟩
        rw [hWW] at hpW hoW hx
        obtain ⟨c0, c1, c2, c3, c4, c5, c6⟩ := hpW.cells
        have cf := hpW.fz
        have xf := hx.fz
        have hne : wp.heap.size ≠ Cpb := Nat.ne_of_gt (show Cpb < wp.heap.size from hpp.lt)
        have hne2 : wp.heap.size ≠ Cmb := Nat.ne_of_gt (show Cmb < wp.heap.size from hpp.map.lt)
        have hpS := hpW.advs hlt
        have hoS := hoW.trans (owns_set W ⟨Cpb, 1, none⟩ (.int .i64 ((s.next : Int) + 1)) (.inl rfl))
        have hbx : (W.setCell ⟨Cpb, 1, none⟩ (.int .i64 ((s.next : Int) + 1))).heap[wp.heap.size]? = some (.cells #[.int .i64 t.kind, .string y, .int .i64 t.pos] tTok (0, 0)) := (Below.heap_setCell _ _ _ _ hne).trans hx.cells
        have HVS := Lib.hid (HV2.out.owns hoS)
        have HOS := Lib.hid (HO2.out.trans hoS)
        have HPS := Lib.hid hpS
        have HBX := Lib.hid hbx
        have HNF := Lib.hid (show ¬ Fp Cpb Cmb wp.heap.size from fun e => e.elim hne hne2)
        obtain ⟨wS, hwS⟩ : ∃ wS, W.setCell ⟨Cpb, 1, none⟩ (.int .i64 ((s.next : Int) + 1)) = wS := ⟨_, rfl⟩
        rw [hwS] at HVS HOS HPS HBX
        clear hbp hbel hx hpp hpW hoW hpS hoS hbx hne2
        go_wp2_with fail
        refine (HKq.out wS HPS.out).mono ?_
        rintro e wq ⟨rfl, hbq⟩
        have hbel2 : Below wq.heap.size wq (wq.alloc (.cells #[.int .i64 1, .string ym, .int .i64 m.pos] tTok)) := (Below.refl _ _).alloc (Nat.le_refl _) _
        have hx := Box.new wq #[.int .i64 1, .string ym, .int .i64 m.pos] tTok
        have hpp := HPS.out.below hbq
        have hpW := hpp.below hbel2
        have hbq2 := hbq.trans (hbel2.mono hbq.size)
        have hoW := Owns.of_below hbq2 (Fp Cpb Cmb)
        have hbx := (hbq2.block wp.heap.size (Array.getElem?_eq_some_iff.1 HBX.out).1).trans HBX.out
        have hpl := (Array.getElem?_eq_some_iff.1 HBX.out).1
        have hplq : wp.heap.size < wq.heap.size := Nat.lt_of_lt_of_le hpl hbq.size
        obtain ⟨V, hVV⟩ : ∃ V, wq.alloc (.cells #[.int .i64 1, .string ym, .int .i64 m.pos] tTok) = V := ⟨_, rfl⟩
        rw [hVV] at hpW hoW hx hbx
        have HVV := Lib.hid (HVS.out.owns hoW)
        have HOV := Lib.hid (HOS.out.trans hoW)
        have HPV := Lib.hid hpW
        have HBV := Lib.hid hbx
        have HXM := Lib.hid hx
        have HNQ := Lib.hid (show ¬ Fp Cpb Cmb wq.heap.size from fun e => e.elim (Nat.ne_of_gt (show Cpb < wq.heap.size from hpp.lt)) (Nat.ne_of_gt (show Cmb < wq.heap.size from hpp.map.lt)))
        have hneq : wq.heap.size ≠ Cpb := Nat.ne_of_gt (show Cpb < wq.heap.size from hpp.lt)
        have x0 : V.cell? ⟨wq.heap.size, 0, none⟩ = some (.int .i64 1) := hx.cell 0
        have x1 : V.cell? ⟨wq.heap.size, 1, none⟩ = some (.string ym) := hx.cell 1
        have x2 : V.cell? ⟨wq.heap.size, 2, none⟩ = some (.int .i64 m.pos) := hx.cell 2
        have xf2 := hx.fz
        have b0 : V.cell? ⟨wp.heap.size, 0, none⟩ = some (.int .i64 t.kind) := by simp [World.cell?, hbx]
        have b1 : V.cell? ⟨wp.heap.size, 1, none⟩ = some (.string y) := by simp [World.cell?, hbx]
        have b2 : V.cell? ⟨wp.heap.size, 2, none⟩ = some (.int .i64 t.pos) := by simp [World.cell?, hbx]
        obtain ⟨d0, d1, d2, d3, d4, d5, d6⟩ := hpW.cells
        have df := hpW.fz
        clear hbq hbel2 hx hpp hbq2 hoW hbx hpl c0 c1 c2 c3 c4 c5 c6 cf xf hWW hwS hpW
        have hpS := HPV.out.advs hlt2
        have hoS := owns_set V ⟨Cpb, 1, none⟩ (.int .i64 (((adv s).next : Int) + 1)) (F := Fp Cpb Cmb) (.inl rfl)
        have hbx : (V.setCell ⟨Cpb, 1, none⟩ (.int .i64 (((adv s).next : Int) + 1))).heap[wp.heap.size]? = some (.cells #[.int .i64 t.kind, .string y, .int .i64 t.pos] tTok (0, 0)) := (Below.heap_setCell _ _ _ _ hne).trans HBV.out
        have hbm : (V.setCell ⟨Cpb, 1, none⟩ (.int .i64 (((adv s).next : Int) + 1))).heap[wq.heap.size]? = some (.cells #[.int .i64 1, .string ym, .int .i64 m.pos] tTok (0, 0)) := (Below.heap_setCell _ _ _ _ hneq).trans HXM.out.cells
        obtain ⟨wT, hwT⟩ : ∃ wT, V.setCell ⟨Cpb, 1, none⟩ (.int .i64 (((adv s).next : Int) + 1)) = wT := ⟨_, rfl⟩
        rw [hwT] at hpS hoS hbx hbm
        have HVT := Lib.hid (HVV.out.owns hoS)
        have HOT := Lib.hid (HOV.out.trans hoS)
        have HPT := Lib.hid hpS
        have HBT := Lib.hid hbx
        have HBM := Lib.hid hbm
        have y1 : wT.cell? ⟨wq.heap.size, 1, none⟩ = some (.string ym) := by simp [World.cell?, hbm]
        have e1 : (adv s).next = s.next + 1 := rfl
        have e2 : (((adv s).next : Nat) : Int) + 1 = (s.next : Int) + 1 + 1 := by rw [e1]; omega
        have e3 : (((adv s).next : Nat) : Int) = (s.next : Int) + 1 := by rw [e1]; omega
        rw [e2] at hwT
        rw [e3] at d1
        clear hpS hoS hbx hbm e1 e2 e3
        go_wp2_with fail
        refine (HEx.out wT).mono ?_
        rintro e w5 ⟨rfl, hb5⟩
        have HV5 := Lib.hid (HVT.out.owns (Owns.of_below hb5 (Fp Cpb Cmb)))
        have HP5 := Lib.hid (HPT.out.below hb5)
        have HO5 := Lib.hid (HOT.out.trans (Owns.of_below hb5 (Fp Cpb Cmb)))
        have hB5 := (hb5.block wp.heap.size (Array.getElem?_eq_some_iff.1 HBT.out).1).trans HBT.out
        have hM5 := (hb5.block wq.heap.size (Array.getElem?_eq_some_iff.1 HBM.out).1).trans HBM.out
        have HB5 := Lib.hid hB5
        have z2 : w5.cell? ⟨wq.heap.size, 2, none⟩ = some (.int .i64 m.pos) := by simp [World.cell?, hM5]
        clear hb5 hM5 x0 x1 x2 xf2 b0 b1 b2 d0 d1 d2 d3 d4 d5 d6 df y1 hVV hwT
        have hP6 := HP5.out
        rw [← HSE.out] at hP6
        have HV6 := HV5
        have HP6 := Lib.hid hP6
        have HO6 := HO5
        have hB6 := hB5
        have HB6 := Lib.hid hB6
        clear hP6 hB5
        have hbelV : Below w5.heap.size w5 (w5.alloc (.cells #[.iface u z, .int .i64 E] tPow)) := (Below.refl _ _).alloc (Nat.le_refl _) _
        have hxV := Box.new w5 #[.iface u z, .int .i64 E] tPow
        have bx := (hbelV.block wp.heap.size (Array.getElem?_eq_some_iff.1 hB6).1).trans hB6
        have hpV := HP6.out.below hbelV
        have hoV := Owns.of_below hbelV (Fp Cpb Cmb)
        have HNM := Lib.hid (show ¬ Fp Cpb Cmb w5.heap.size from fun e => e.elim (Nat.ne_of_gt (show Cpb < w5.heap.size from HP6.out.lt)) (Nat.ne_of_gt (show Cmb < w5.heap.size from HP6.out.map.lt)))
        obtain ⟨X, hXX⟩ : ∃ X, w5.alloc (.cells #[.iface u z, .int .i64 E] tPow) = X := ⟨_, rfl⟩
        rw [hXX] at hbelV hxV bx hpV hoV
        have HPX := Lib.hid hpV
        have HVX := Lib.hid (HV6.out.owns hoV)
        have HOX := Lib.hid (HO6.out.trans hoV)
        have HBX2 := Lib.hid hxV
        have b0 : X.cell? ⟨wp.heap.size, 0, none⟩ = some (.int .i64 t.kind) := by simp [World.cell?, bx]
        have b1 : X.cell? ⟨wp.heap.size, 1, none⟩ = some (.string y) := by simp [World.cell?, bx]
        have b2 : X.cell? ⟨wp.heap.size, 2, none⟩ = some (.int .i64 t.pos) := by simp [World.cell?, bx]
        have m0 : X.cell? ⟨w5.heap.size, 0, none⟩ = some (.iface u z) := hxV.cell 0
        have m1 : X.cell? ⟨w5.heap.size, 1, none⟩ = some (.int .i64 E) := hxV.cell 1
        clear hbelV hxV bx hpV hoV hB6
        have hbelU : Below X.heap.size X (X.alloc (.cells #[.iface u z] tTe)) := (Below.refl _ _).alloc (Nat.le_refl _) _
        have hxU := Box.new X #[.iface u z] tTe
        have hoU := Owns.of_below hbelU (Fp Cpb Cmb)
        have hpU := HPX.out.below hbelU
        have hv1 := HVX.out.owns hoU
        have hM := measure_any Cb Cpb Cmb Cn Cc CT CA sE t (.pow b E) (.iface tPow (.agg #[.iface u z, .int .i64 E])) [b] [.iface u z] X.heap.size 1 rfl rfl (Gp Cpb Cmb (X.alloc (.cells #[.iface u z] tTe))) (X.alloc (.cells #[.iface u z] tTe)) (fun b hb => hb.1) hpU ⟨_, rfl, hv1.1⟩ hv1.2.2 hxU.cells (fun i tt hi => by
          match i, hi with
          | 0, hi => simp at hi; subst hi; exact ⟨_, rfl, hv1.1, hv1.2.2⟩
          | k + 1, hi => simp at hi) (by decide)
        rw [← HY.out] at hM
        have HM := Lib.hid hM
        have HVU := Lib.hid hv1
        have HOU := Lib.hid (HOX.out.trans hoU)
        have HBU := Lib.hid hbelU
        clear hbelU hxU hoU hpU hv1 hM
        go_wp2_with fail
        refine HM.out.mono ?_
        rintro e wM ⟨rfl, hPM, hOM⟩
        rw [← HPW.out] at hPM
        have hbm := (hOM.same w5.heap.size (Nat.lt_of_lt_of_le HBX2.out.lt HBU.out.size) HNM.out).trans ((HBU.out.block _ HBX2.out.lt).trans HBX2.out.cells)
        have n0 : wM.cell? ⟨w5.heap.size, 0, none⟩ = some (.iface u z) := by simp [World.cell?, hbm]
        have n1 : wM.cell? ⟨w5.heap.size, 1, none⟩ = some (.int .i64 E) := by simp [World.cell?, hbm]
        have hvM := HVU.out.owns hOM
        have HE := Lib.hid (show FPost ⟨Cb, Cpb, Cmb, CT, CA, Cn, Cc⟩ (some (.tm (.pow b E))) (powS CT b s) w (.returned (.tuple #[.iface tPow (.agg #[.iface u z, .int .i64 E]), .bool true])) wM from ⟨_, _, rfl, ⟨⟨_, rfl, hvM.1⟩, by simp, hvM.2.2⟩, hPM, HOU.out.trans hOM⟩)
        clear hbm m0 m1 hPM hOM hvM b0 b1 b2 hXX
        go_wp2
        go_ret2
        exact HE.out
  | @po_go _ b s0 _ _ h0 h2 =>
    have HP0 := Lib.hid h
    have HO0 := Lib.hid (Owns.refl w (Fp Cpb Cmb))
    obtain rfl := hq
    have HI := Lib.hid (ih _ _ (mea_same (by simp [lvl])) _ _ h0 hg (notEncl (by simp)) w h)
    have hg0 := h0.gd hg
    clear h0
    clear ih hg h
    cases h2 with
    | pT_end hsee =>
      have HS := Lib.hid (fun w1 h2 => sees_any Cb Cpb Cmb Cn Cc CT CA s' ⟨#[94]⟩ false w1 h2 hsee)
      clear hsee htok
      go_enter Tryz.func81, Tryz.ntmps81
      go_wp2_with fail
      refine HI.out.mono ?_
      rintro e w1 ⟨u, z, rfl, hv1, hP1, hO1⟩
      have HV1 := Lib.hid hv1
      have HP1 := Lib.hid hP1
      have HO1 := Lib.hid hO1
      clear hv1 hP1 hO1
      go_wp2_with fail
      refine (HS.out w1 HP1.out).mono ?_
      rintro e w2 ⟨rfl, hb2⟩
      have HV2 := Lib.hid (PVAt.owns HV1.out (Owns.of_below hb2 (Fp Cpb Cmb)))
      have HP2 := Lib.hid (HP1.out.below hb2)
      have HO2 := Lib.hid (HO1.out.trans (Owns.of_below hb2 (Fp Cpb Cmb)))
      clear hb2
      have HE := Lib.hid (show FPost ⟨Cb, Cpb, Cmb, CT, CA, Cn, Cc⟩ (some (.tm b)) s' w (.returned (.tuple #[.iface u z, .bool true])) w2 from ⟨_, _, rfl, HV2.out, HP2.out, HO2.out⟩)
      go_wp2
      go_ret2
      exact HE.out
    | pT_bad hsee hk1 =>
      have HKp := Lib.hid (fun w2 h2 => peek_any Cb Cpb Cmb Cn Cc CT CA s0 w2 h2)
      have HKq := Lib.hid (fun w2 h2 => peek_any Cb Cpb Cmb Cn Cc CT CA (adv s0) w2 h2)
      have HS := Lib.hid (fun w1 h2 => sees_any Cb Cpb Cmb Cn Cc CT CA s0 ⟨#[94]⟩ true w1 h2 hsee)
      have hlt : s0.next < Cn := by rw [hn]; exact sees_lt hsee
      obtain ⟨t, ht⟩ : ∃ t, t = pk CT s0 := ⟨_, rfl⟩
      obtain ⟨m, hm⟩ : ∃ m, m = pk CT (adv s0) := ⟨_, rfl⟩
      rw [← ht] at HKp
      rw [← hm] at HKq
      obtain ⟨y, hy⟩ : ∃ y, y = bs t.text := ⟨_, rfl⟩
      obtain ⟨ym, hym⟩ : ∃ ym, ym = bs m.text := ⟨_, rfl⟩
      obtain ⟨k, hk⟩ : ∃ k : Int, k = (m.kind : Int) := ⟨_, rfl⟩
      rw [← hy] at HKp
      rw [← hym, ← hk] at HKq
      have hkf : (k == 1) = false := by rw [hk, beq_eq_false_iff_ne]; rw [← hm] at hk1; omega
      clear hsee htok hk1 ht hm hy hym hk
      go_enter Tryz.func81, Tryz.ntmps81
      go_wp2_with fail
      refine HI.out.mono ?_
      rintro e w1 ⟨u, z, rfl, hv1, hP1, hO1⟩
      have HV1 := Lib.hid hv1
      have HP1 := Lib.hid hP1
      have HO1 := Lib.hid hO1
      clear hv1 hP1 hO1
      go_wp2_with fail
      refine (HS.out w1 HP1.out).mono ?_
      rintro e w2 ⟨rfl, hb2⟩
      have HV2 := Lib.hid (PVAt.owns HV1.out (Owns.of_below hb2 (Fp Cpb Cmb)))
      have HP2 := Lib.hid (HP1.out.below hb2)
      have HO2 := Lib.hid (HO1.out.trans (Owns.of_below hb2 (Fp Cpb Cmb)))
      clear hb2
      go_wp2_with fail
      refine (HKp.out w2 HP2.out).mono ?_
      rintro e wp ⟨rfl, hbp⟩
      have hbel : Below wp.heap.size wp (wp.alloc (.cells #[.int .i64 t.kind, .string y, .int .i64 t.pos] tTok)) := (Below.refl _ _).alloc (Nat.le_refl _) _
      have hx := Box.new wp #[.int .i64 t.kind, .string y, .int .i64 t.pos] tTok
      have hpp := HP2.out.below hbp
      have hpW := hpp.below hbel
      have hoW := (Owns.of_below hbp (Fp Cpb Cmb)).trans (Owns.of_below hbel _)
      obtain ⟨W, hWW⟩ : ∃ W, wp.alloc (.cells #[.int .i64 t.kind, .string y, .int .i64 t.pos] tTok) = W := ⟨_, rfl⟩
      rw [hWW] at hpW hoW hx
      obtain ⟨c0, c1, c2, c3, c4, c5, c6⟩ := hpW.cells
      have cf := hpW.fz
      have xf := hx.fz
      have hne : wp.heap.size ≠ Cpb := Nat.ne_of_gt (show Cpb < wp.heap.size from hpp.lt)
      have hne2 : wp.heap.size ≠ Cmb := Nat.ne_of_gt (show Cmb < wp.heap.size from hpp.map.lt)
      have hpS := hpW.advs hlt
      have hoS := hoW.trans (owns_set W ⟨Cpb, 1, none⟩ (.int .i64 ((s0.next : Int) + 1)) (.inl rfl))
      have hbx : (W.setCell ⟨Cpb, 1, none⟩ (.int .i64 ((s0.next : Int) + 1))).heap[wp.heap.size]? = some (.cells #[.int .i64 t.kind, .string y, .int .i64 t.pos] tTok (0, 0)) := (Below.heap_setCell _ _ _ _ hne).trans hx.cells
      have HVS := Lib.hid (HV2.out.owns hoS)
      have HOS := Lib.hid (HO2.out.trans hoS)
      have HPS := Lib.hid hpS
      have HBX := Lib.hid hbx
      have HNF := Lib.hid (show ¬ Fp Cpb Cmb wp.heap.size from fun e => e.elim hne hne2)
      obtain ⟨wS, hwS⟩ : ∃ wS, W.setCell ⟨Cpb, 1, none⟩ (.int .i64 ((s0.next : Int) + 1)) = wS := ⟨_, rfl⟩
      rw [hwS] at HVS HOS HPS HBX
      clear hbp hbel hx hpp hpW hoW hpS hoS hbx hne2
      go_wp2_with fail
      refine (HKq.out wS HPS.out).mono ?_
      rintro e wq ⟨rfl, hbq⟩
      have hbel2 : Below wq.heap.size wq (wq.alloc (.cells #[.int .i64 k, .string ym, .int .i64 m.pos] tTok)) := (Below.refl _ _).alloc (Nat.le_refl _) _
      have hx := Box.new wq #[.int .i64 k, .string ym, .int .i64 m.pos] tTok
      have hpp := HPS.out.below hbq
      have hpW := hpp.below hbel2
      have hbq2 := hbq.trans (hbel2.mono hbq.size)
      have hoW := Owns.of_below hbq2 (Fp Cpb Cmb)
      have hbx := (hbq2.block wp.heap.size (Array.getElem?_eq_some_iff.1 HBX.out).1).trans HBX.out
      have hpl := (Array.getElem?_eq_some_iff.1 HBX.out).1
      have hplq : wp.heap.size < wq.heap.size := Nat.lt_of_lt_of_le hpl hbq.size
      obtain ⟨V, hVV⟩ : ∃ V, wq.alloc (.cells #[.int .i64 k, .string ym, .int .i64 m.pos] tTok) = V := ⟨_, rfl⟩
      rw [hVV] at hpW hoW hx hbx
      have HVV := Lib.hid (HVS.out.owns hoW)
      have HOV := Lib.hid (HOS.out.trans hoW)
      have HPV := Lib.hid hpW
      have HBV := Lib.hid hbx
      have HXM := Lib.hid hx
      have HNQ := Lib.hid (show ¬ Fp Cpb Cmb wq.heap.size from fun e => e.elim (Nat.ne_of_gt (show Cpb < wq.heap.size from hpp.lt)) (Nat.ne_of_gt (show Cmb < wq.heap.size from hpp.map.lt)))
      have hneq : wq.heap.size ≠ Cpb := Nat.ne_of_gt (show Cpb < wq.heap.size from hpp.lt)
      have x0 : V.cell? ⟨wq.heap.size, 0, none⟩ = some (.int .i64 k) := hx.cell 0
      have x1 : V.cell? ⟨wq.heap.size, 1, none⟩ = some (.string ym) := hx.cell 1
      have x2 : V.cell? ⟨wq.heap.size, 2, none⟩ = some (.int .i64 m.pos) := hx.cell 2
      have xf2 := hx.fz
      have b0 : V.cell? ⟨wp.heap.size, 0, none⟩ = some (.int .i64 t.kind) := by simp [World.cell?, hbx]
      have b1 : V.cell? ⟨wp.heap.size, 1, none⟩ = some (.string y) := by simp [World.cell?, hbx]
      have b2 : V.cell? ⟨wp.heap.size, 2, none⟩ = some (.int .i64 t.pos) := by simp [World.cell?, hbx]
      obtain ⟨d0, d1, d2, d3, d4, d5, d6⟩ := hpW.cells
      have df := hpW.fz
      clear hbq hbel2 hx hpp hbq2 hoW hbx hpl c0 c1 c2 c3 c4 c5 c6 cf xf hWW hwS hpW
      have HE := Lib.hid (show FPost ⟨Cb, Cpb, Cmb, CT, CA, Cn, Cc⟩ none (adv s0) w (.returned (.tuple #[.nilIface, .bool false])) V from ⟨_, rfl, rfl, HPV.out, HOV.out⟩)
      go_wp2
      go_ret2
      exact HE.out
    | pT_ok hsee hk1 =>
      have HKp := Lib.hid (fun w2 h2 => peek_any Cb Cpb Cmb Cn Cc CT CA s0 w2 h2)
      have HKq := Lib.hid (fun w2 h2 => peek_any Cb Cpb Cmb Cn Cc CT CA (adv s0) w2 h2)
      have HS := Lib.hid (fun w1 h2 => sees_any Cb Cpb Cmb Cn Cc CT CA s0 ⟨#[94]⟩ true w1 h2 hsee)
      have hlt : s0.next < Cn := by rw [hn]; exact sees_lt hsee
      obtain ⟨t, ht⟩ : ∃ t, t = pk CT s0 := ⟨_, rfl⟩
      obtain ⟨m, hm⟩ : ∃ m, m = pk CT (adv s0) := ⟨_, rfl⟩
      rw [← ht] at HKp
      rw [← hm] at HKq
      obtain ⟨y, hy⟩ : ∃ y, y = bs t.text := ⟨_, rfl⟩
      obtain ⟨ym, hym⟩ : ∃ ym, ym = bs m.text := ⟨_, rfl⟩
      obtain ⟨k, hk⟩ : ∃ k : Int, k = (m.kind : Int) := ⟨_, rfl⟩
      rw [← hy] at HKp
      rw [← hym, ← hk] at HKq
      have hlt2 : s0.next + 1 < Cn := by rw [hn]; exact pk_lt (s := adv s0) (by rw [hk1]; decide)
      obtain ⟨hd, h0, h40, hz⟩ := htok.num (adv s0) hk1
      have HEx := Lib.hid (fun w2 => exponent_any (bs (pk CT (adv s0)).text) hd h0 h40 hz w2)
      rw [← hm] at hk1 HEx
      rw [← hym] at HEx
      have hex0 : ym.data.toList = m.text := by rw [hym]; simp [bs]
      rw [hex0] at HEx
      obtain rfl : k = 1 := by rw [hk, hk1]; rfl
      obtain ⟨E, hE⟩ : ∃ E, E = expN m.text := ⟨_, rfl⟩
      have hEb : E ≤ 2147483647 := by rw [hE]; exact Nat.min_le_right _ _
      rw [← hE] at HEx
      rw [← hm, ← hE]
      have HY := Lib.hid hy
      obtain ⟨sE, hsE⟩ : ∃ sE, sE = if 8 < E then exc (adv (adv s0)) m.pos else adv (adv s0) := ⟨_, rfl⟩
      have HPW := Lib.hid (show powS CT b s0 = meas sE t (.pow b E) [b] by unfold powS; rw [← hm, ← hE, ← ht, hsE])
      clear hsee htok hk1 ht hm hy hym hk hd h0 h40 hz hE hex0
      by_cases h8 : 8 < E
      case pos =>
        rw [if_pos h8] at hsE
        have HSE := Lib.hid hsE
        clear hsE
        go_enter Tryz.func81, Tryz.ntmps81
        go_wp2_with fail
        refine HI.out.mono ?_
        rintro e w1 ⟨u, z, rfl, hv1, hP1, hO1⟩
        have HV1 := Lib.hid hv1
        have HP1 := Lib.hid hP1
        have HO1 := Lib.hid hO1
        clear hv1 hP1 hO1
        go_wp2_with fail
        refine (HS.out w1 HP1.out).mono ?_
        rintro e w2 ⟨rfl, hb2⟩
        have HV2 := Lib.hid (PVAt.owns HV1.out (Owns.of_below hb2 (Fp Cpb Cmb)))
        have HP2 := Lib.hid (HP1.out.below hb2)
        have HO2 := Lib.hid (HO1.out.trans (Owns.of_below hb2 (Fp Cpb Cmb)))
        clear hb2
        go_wp2_with fail
        refine (HKp.out w2 HP2.out).mono ?_
        rintro e wp ⟨rfl, hbp⟩
        have hbel : Below wp.heap.size wp (wp.alloc (.cells #[.int .i64 t.kind, .string y, .int .i64 t.pos] tTok)) := (Below.refl _ _).alloc (Nat.le_refl _) _
        have hx := Box.new wp #[.int .i64 t.kind, .string y, .int .i64 t.pos] tTok
        have hpp := HP2.out.below hbp
        have hpW := hpp.below hbel
        have hoW := (Owns.of_below hbp (Fp Cpb Cmb)).trans (Owns.of_below hbel _)
        obtain ⟨W, hWW⟩ : ∃ W, wp.alloc (.cells #[.int .i64 t.kind, .string y, .int .i64 t.pos] tTok) = W := ⟨_, rfl⟩
        rw [hWW] at hpW hoW hx
        obtain ⟨c0, c1, c2, c3, c4, c5, c6⟩ := hpW.cells
        have cf := hpW.fz
        have xf := hx.fz
        have hne : wp.heap.size ≠ Cpb := Nat.ne_of_gt (show Cpb < wp.heap.size from hpp.lt)
        have hne2 : wp.heap.size ≠ Cmb := Nat.ne_of_gt (show Cmb < wp.heap.size from hpp.map.lt)
        have hpS := hpW.advs hlt
        have hoS := hoW.trans (owns_set W ⟨Cpb, 1, none⟩ (.int .i64 ((s0.next : Int) + 1)) (.inl rfl))
        have hbx : (W.setCell ⟨Cpb, 1, none⟩ (.int .i64 ((s0.next : Int) + 1))).heap[wp.heap.size]? = some (.cells #[.int .i64 t.kind, .string y, .int .i64 t.pos] tTok (0, 0)) := (Below.heap_setCell _ _ _ _ hne).trans hx.cells
        have HVS := Lib.hid (HV2.out.owns hoS)
        have HOS := Lib.hid (HO2.out.trans hoS)
        have HPS := Lib.hid hpS
        have HBX := Lib.hid hbx
        have HNF := Lib.hid (show ¬ Fp Cpb Cmb wp.heap.size from fun e => e.elim hne hne2)
        obtain ⟨wS, hwS⟩ : ∃ wS, W.setCell ⟨Cpb, 1, none⟩ (.int .i64 ((s0.next : Int) + 1)) = wS := ⟨_, rfl⟩
        rw [hwS] at HVS HOS HPS HBX
        clear hbp hbel hx hpp hpW hoW hpS hoS hbx hne2
        go_wp2_with fail
        refine (HKq.out wS HPS.out).mono ?_
        rintro e wq ⟨rfl, hbq⟩
        have hbel2 : Below wq.heap.size wq (wq.alloc (.cells #[.int .i64 1, .string ym, .int .i64 m.pos] tTok)) := (Below.refl _ _).alloc (Nat.le_refl _) _
        have hx := Box.new wq #[.int .i64 1, .string ym, .int .i64 m.pos] tTok
        have hpp := HPS.out.below hbq
        have hpW := hpp.below hbel2
        have hbq2 := hbq.trans (hbel2.mono hbq.size)
        have hoW := Owns.of_below hbq2 (Fp Cpb Cmb)
        have hbx := (hbq2.block wp.heap.size (Array.getElem?_eq_some_iff.1 HBX.out).1).trans HBX.out
        have hpl := (Array.getElem?_eq_some_iff.1 HBX.out).1
        have hplq : wp.heap.size < wq.heap.size := Nat.lt_of_lt_of_le hpl hbq.size
        obtain ⟨V, hVV⟩ : ∃ V, wq.alloc (.cells #[.int .i64 1, .string ym, .int .i64 m.pos] tTok) = V := ⟨_, rfl⟩
        rw [hVV] at hpW hoW hx hbx
        have HVV := Lib.hid (HVS.out.owns hoW)
        have HOV := Lib.hid (HOS.out.trans hoW)
        have HPV := Lib.hid hpW
        have HBV := Lib.hid hbx
        have HXM := Lib.hid hx
        have HNQ := Lib.hid (show ¬ Fp Cpb Cmb wq.heap.size from fun e => e.elim (Nat.ne_of_gt (show Cpb < wq.heap.size from hpp.lt)) (Nat.ne_of_gt (show Cmb < wq.heap.size from hpp.map.lt)))
        have hneq : wq.heap.size ≠ Cpb := Nat.ne_of_gt (show Cpb < wq.heap.size from hpp.lt)
        have x0 : V.cell? ⟨wq.heap.size, 0, none⟩ = some (.int .i64 1) := hx.cell 0
        have x1 : V.cell? ⟨wq.heap.size, 1, none⟩ = some (.string ym) := hx.cell 1
        have x2 : V.cell? ⟨wq.heap.size, 2, none⟩ = some (.int .i64 m.pos) := hx.cell 2
        have xf2 := hx.fz
        have b0 : V.cell? ⟨wp.heap.size, 0, none⟩ = some (.int .i64 t.kind) := by simp [World.cell?, hbx]
        have b1 : V.cell? ⟨wp.heap.size, 1, none⟩ = some (.string y) := by simp [World.cell?, hbx]
        have b2 : V.cell? ⟨wp.heap.size, 2, none⟩ = some (.int .i64 t.pos) := by simp [World.cell?, hbx]
        obtain ⟨d0, d1, d2, d3, d4, d5, d6⟩ := hpW.cells
        have df := hpW.fz
        clear hbq hbel2 hx hpp hbq2 hoW hbx hpl c0 c1 c2 c3 c4 c5 c6 cf xf hWW hwS hpW
        have hpS := HPV.out.advs hlt2
        have hoS := owns_set V ⟨Cpb, 1, none⟩ (.int .i64 (((adv s0).next : Int) + 1)) (F := Fp Cpb Cmb) (.inl rfl)
        have hbx : (V.setCell ⟨Cpb, 1, none⟩ (.int .i64 (((adv s0).next : Int) + 1))).heap[wp.heap.size]? = some (.cells #[.int .i64 t.kind, .string y, .int .i64 t.pos] tTok (0, 0)) := (Below.heap_setCell _ _ _ _ hne).trans HBV.out
        have hbm : (V.setCell ⟨Cpb, 1, none⟩ (.int .i64 (((adv s0).next : Int) + 1))).heap[wq.heap.size]? = some (.cells #[.int .i64 1, .string ym, .int .i64 m.pos] tTok (0, 0)) := (Below.heap_setCell _ _ _ _ hneq).trans HXM.out.cells
        obtain ⟨wT, hwT⟩ : ∃ wT, V.setCell ⟨Cpb, 1, none⟩ (.int .i64 (((adv s0).next : Int) + 1)) = wT := ⟨_, rfl⟩
        rw [hwT] at hpS hoS hbx hbm
        have HVT := Lib.hid (HVV.out.owns hoS)
        have HOT := Lib.hid (HOV.out.trans hoS)
        have HPT := Lib.hid hpS
        have HBT := Lib.hid hbx
        have HBM := Lib.hid hbm
        have y1 : wT.cell? ⟨wq.heap.size, 1, none⟩ = some (.string ym) := by simp [World.cell?, hbm]
        have e1 : (adv s0).next = s0.next + 1 := rfl
        have e2 : (((adv s0).next : Nat) : Int) + 1 = (s0.next : Int) + 1 + 1 := by rw [e1]; omega
        have e3 : (((adv s0).next : Nat) : Int) = (s0.next : Int) + 1 := by rw [e1]; omega
        rw [e2] at hwT
        rw [e3] at d1
        clear hpS hoS hbx hbm e1 e2 e3
        go_wp2_with fail
        refine (HEx.out wT).mono ?_
        rintro e w5 ⟨rfl, hb5⟩
        have HV5 := Lib.hid (HVT.out.owns (Owns.of_below hb5 (Fp Cpb Cmb)))
        have HP5 := Lib.hid (HPT.out.below hb5)
        have HO5 := Lib.hid (HOT.out.trans (Owns.of_below hb5 (Fp Cpb Cmb)))
        have hB5 := (hb5.block wp.heap.size (Array.getElem?_eq_some_iff.1 HBT.out).1).trans HBT.out
        have hM5 := (hb5.block wq.heap.size (Array.getElem?_eq_some_iff.1 HBM.out).1).trans HBM.out
        have HB5 := Lib.hid hB5
        have z2 : w5.cell? ⟨wq.heap.size, 2, none⟩ = some (.int .i64 m.pos) := by simp [World.cell?, hM5]
        clear hb5 hM5 x0 x1 x2 xf2 b0 b1 b2 d0 d1 d2 d3 d4 d5 d6 df y1 hVV hwT
        clear hB5
        go_wp2_with fail
        refine (exceed_any Cb Cpb Cmb Cn Cc CT CA (adv (adv s0)) m.pos w5 HP5.out).mono ?_
        rintro e w6 ⟨rfl, hP6, hO6⟩
        rw [← HSE.out] at hP6
        have HV6 := Lib.hid (HV5.out.owns hO6)
        have HP6 := Lib.hid hP6
        have HO6 := Lib.hid (HO5.out.trans hO6)
        have hB6 := (hO6.same wp.heap.size (Array.getElem?_eq_some_iff.1 HB5.out).1 HNF.out).trans HB5.out
        have HB6 := Lib.hid hB6
        clear hP6 hO6 z2
        have hbelV : Below w6.heap.size w6 (w6.alloc (.cells #[.iface u z, .int .i64 E] tPow)) := (Below.refl _ _).alloc (Nat.le_refl _) _
        have hxV := Box.new w6 #[.iface u z, .int .i64 E] tPow
        have bx := (hbelV.block wp.heap.size (Array.getElem?_eq_some_iff.1 hB6).1).trans hB6
        have hpV := HP6.out.below hbelV
        have hoV := Owns.of_below hbelV (Fp Cpb Cmb)
        have HNM := Lib.hid (show ¬ Fp Cpb Cmb w6.heap.size from fun e => e.elim (Nat.ne_of_gt (show Cpb < w6.heap.size from HP6.out.lt)) (Nat.ne_of_gt (show Cmb < w6.heap.size from HP6.out.map.lt)))
        obtain ⟨X, hXX⟩ : ∃ X, w6.alloc (.cells #[.iface u z, .int .i64 E] tPow) = X := ⟨_, rfl⟩
        rw [hXX] at hbelV hxV bx hpV hoV
        have HPX := Lib.hid hpV
        have HVX := Lib.hid (HV6.out.owns hoV)
        have HOX := Lib.hid (HO6.out.trans hoV)
        have HBX2 := Lib.hid hxV
        have b0 : X.cell? ⟨wp.heap.size, 0, none⟩ = some (.int .i64 t.kind) := by simp [World.cell?, bx]
        have b1 : X.cell? ⟨wp.heap.size, 1, none⟩ = some (.string y) := by simp [World.cell?, bx]
        have b2 : X.cell? ⟨wp.heap.size, 2, none⟩ = some (.int .i64 t.pos) := by simp [World.cell?, bx]
        have m0 : X.cell? ⟨w6.heap.size, 0, none⟩ = some (.iface u z) := hxV.cell 0
        have m1 : X.cell? ⟨w6.heap.size, 1, none⟩ = some (.int .i64 E) := hxV.cell 1
        clear hbelV hxV bx hpV hoV hB6
        have hbelU : Below X.heap.size X (X.alloc (.cells #[.iface u z] tTe)) := (Below.refl _ _).alloc (Nat.le_refl _) _
        have hxU := Box.new X #[.iface u z] tTe
        have hoU := Owns.of_below hbelU (Fp Cpb Cmb)
        have hpU := HPX.out.below hbelU
        have hv1 := HVX.out.owns hoU
        have hM := measure_any Cb Cpb Cmb Cn Cc CT CA sE t (.pow b E) (.iface tPow (.agg #[.iface u z, .int .i64 E])) [b] [.iface u z] X.heap.size 1 rfl rfl (Gp Cpb Cmb (X.alloc (.cells #[.iface u z] tTe))) (X.alloc (.cells #[.iface u z] tTe)) (fun b hb => hb.1) hpU ⟨_, rfl, hv1.1⟩ hv1.2.2 hxU.cells (fun i tt hi => by
          match i, hi with
          | 0, hi => simp at hi; subst hi; exact ⟨_, rfl, hv1.1, hv1.2.2⟩
          | k + 1, hi => simp at hi) (by decide)
        rw [← HY.out] at hM
        have HM := Lib.hid hM
        have HVU := Lib.hid hv1
        have HOU := Lib.hid (HOX.out.trans hoU)
        have HBU := Lib.hid hbelU
        clear hbelU hxU hoU hpU hv1 hM
        go_wp2_with fail
        refine HM.out.mono ?_
        rintro e wM ⟨rfl, hPM, hOM⟩
        rw [← HPW.out] at hPM
        have hbm := (hOM.same w6.heap.size (Nat.lt_of_lt_of_le HBX2.out.lt HBU.out.size) HNM.out).trans ((HBU.out.block _ HBX2.out.lt).trans HBX2.out.cells)
        have n0 : wM.cell? ⟨w6.heap.size, 0, none⟩ = some (.iface u z) := by simp [World.cell?, hbm]
        have n1 : wM.cell? ⟨w6.heap.size, 1, none⟩ = some (.int .i64 E) := by simp [World.cell?, hbm]
        have hvM := HVU.out.owns hOM
        have HE := Lib.hid (show FPost ⟨Cb, Cpb, Cmb, CT, CA, Cn, Cc⟩ (some (.tm (.pow b E))) (powS CT b s0) w (.returned (.tuple #[.iface tPow (.agg #[.iface u z, .int .i64 E]), .bool true])) wM from ⟨_, _, rfl, ⟨⟨_, rfl, hvM.1⟩, by simp, hvM.2.2⟩, hPM, HOU.out.trans hOM⟩)
        clear hbm m0 m1 hPM hOM hvM b0 b1 b2 hXX
        go_wp2
        go_ret2
        exact HE.out
      
      case neg =>
        rw [if_neg h8] at hsE
        have h8' : E ≤ 8 := by omega
        clear h8
        have HSE := Lib.hid hsE
        clear hsE
        go_enter Tryz.func81, Tryz.ntmps81
        go_wp2_with fail
        refine HI.out.mono ?_
        rintro e w1 ⟨u, z, rfl, hv1, hP1, hO1⟩
        have HV1 := Lib.hid hv1
        have HP1 := Lib.hid hP1
        have HO1 := Lib.hid hO1
        clear hv1 hP1 hO1
        go_wp2_with fail
        refine (HS.out w1 HP1.out).mono ?_
        rintro e w2 ⟨rfl, hb2⟩
        have HV2 := Lib.hid (PVAt.owns HV1.out (Owns.of_below hb2 (Fp Cpb Cmb)))
        have HP2 := Lib.hid (HP1.out.below hb2)
        have HO2 := Lib.hid (HO1.out.trans (Owns.of_below hb2 (Fp Cpb Cmb)))
        clear hb2
        go_wp2_with fail
        refine (HKp.out w2 HP2.out).mono ?_
        rintro e wp ⟨rfl, hbp⟩
        have hbel : Below wp.heap.size wp (wp.alloc (.cells #[.int .i64 t.kind, .string y, .int .i64 t.pos] tTok)) := (Below.refl _ _).alloc (Nat.le_refl _) _
        have hx := Box.new wp #[.int .i64 t.kind, .string y, .int .i64 t.pos] tTok
        have hpp := HP2.out.below hbp
        have hpW := hpp.below hbel
        have hoW := (Owns.of_below hbp (Fp Cpb Cmb)).trans (Owns.of_below hbel _)
        obtain ⟨W, hWW⟩ : ∃ W, wp.alloc (.cells #[.int .i64 t.kind, .string y, .int .i64 t.pos] tTok) = W := ⟨_, rfl⟩
        rw [hWW] at hpW hoW hx
        obtain ⟨c0, c1, c2, c3, c4, c5, c6⟩ := hpW.cells
        have cf := hpW.fz
        have xf := hx.fz
        have hne : wp.heap.size ≠ Cpb := Nat.ne_of_gt (show Cpb < wp.heap.size from hpp.lt)
        have hne2 : wp.heap.size ≠ Cmb := Nat.ne_of_gt (show Cmb < wp.heap.size from hpp.map.lt)
        have hpS := hpW.advs hlt
        have hoS := hoW.trans (owns_set W ⟨Cpb, 1, none⟩ (.int .i64 ((s0.next : Int) + 1)) (.inl rfl))
        have hbx : (W.setCell ⟨Cpb, 1, none⟩ (.int .i64 ((s0.next : Int) + 1))).heap[wp.heap.size]? = some (.cells #[.int .i64 t.kind, .string y, .int .i64 t.pos] tTok (0, 0)) := (Below.heap_setCell _ _ _ _ hne).trans hx.cells
        have HVS := Lib.hid (HV2.out.owns hoS)
        have HOS := Lib.hid (HO2.out.trans hoS)
        have HPS := Lib.hid hpS
        have HBX := Lib.hid hbx
        have HNF := Lib.hid (show ¬ Fp Cpb Cmb wp.heap.size from fun e => e.elim hne hne2)
        obtain ⟨wS, hwS⟩ : ∃ wS, W.setCell ⟨Cpb, 1, none⟩ (.int .i64 ((s0.next : Int) + 1)) = wS := ⟨_, rfl⟩
        rw [hwS] at HVS HOS HPS HBX
        clear hbp hbel hx hpp hpW hoW hpS hoS hbx hne2
        go_wp2_with fail
        refine (HKq.out wS HPS.out).mono ?_
        rintro e wq ⟨rfl, hbq⟩
        have hbel2 : Below wq.heap.size wq (wq.alloc (.cells #[.int .i64 1, .string ym, .int .i64 m.pos] tTok)) := (Below.refl _ _).alloc (Nat.le_refl _) _
        have hx := Box.new wq #[.int .i64 1, .string ym, .int .i64 m.pos] tTok
        have hpp := HPS.out.below hbq
        have hpW := hpp.below hbel2
        have hbq2 := hbq.trans (hbel2.mono hbq.size)
        have hoW := Owns.of_below hbq2 (Fp Cpb Cmb)
        have hbx := (hbq2.block wp.heap.size (Array.getElem?_eq_some_iff.1 HBX.out).1).trans HBX.out
        have hpl := (Array.getElem?_eq_some_iff.1 HBX.out).1
        have hplq : wp.heap.size < wq.heap.size := Nat.lt_of_lt_of_le hpl hbq.size
        obtain ⟨V, hVV⟩ : ∃ V, wq.alloc (.cells #[.int .i64 1, .string ym, .int .i64 m.pos] tTok) = V := ⟨_, rfl⟩
        rw [hVV] at hpW hoW hx hbx
        have HVV := Lib.hid (HVS.out.owns hoW)
        have HOV := Lib.hid (HOS.out.trans hoW)
        have HPV := Lib.hid hpW
        have HBV := Lib.hid hbx
        have HXM := Lib.hid hx
        have HNQ := Lib.hid (show ¬ Fp Cpb Cmb wq.heap.size from fun e => e.elim (Nat.ne_of_gt (show Cpb < wq.heap.size from hpp.lt)) (Nat.ne_of_gt (show Cmb < wq.heap.size from hpp.map.lt)))
        have hneq : wq.heap.size ≠ Cpb := Nat.ne_of_gt (show Cpb < wq.heap.size from hpp.lt)
        have x0 : V.cell? ⟨wq.heap.size, 0, none⟩ = some (.int .i64 1) := hx.cell 0
        have x1 : V.cell? ⟨wq.heap.size, 1, none⟩ = some (.string ym) := hx.cell 1
        have x2 : V.cell? ⟨wq.heap.size, 2, none⟩ = some (.int .i64 m.pos) := hx.cell 2
        have xf2 := hx.fz
        have b0 : V.cell? ⟨wp.heap.size, 0, none⟩ = some (.int .i64 t.kind) := by simp [World.cell?, hbx]
        have b1 : V.cell? ⟨wp.heap.size, 1, none⟩ = some (.string y) := by simp [World.cell?, hbx]
        have b2 : V.cell? ⟨wp.heap.size, 2, none⟩ = some (.int .i64 t.pos) := by simp [World.cell?, hbx]
        obtain ⟨d0, d1, d2, d3, d4, d5, d6⟩ := hpW.cells
        have df := hpW.fz
        clear hbq hbel2 hx hpp hbq2 hoW hbx hpl c0 c1 c2 c3 c4 c5 c6 cf xf hWW hwS hpW
        have hpS := HPV.out.advs hlt2
        have hoS := owns_set V ⟨Cpb, 1, none⟩ (.int .i64 (((adv s0).next : Int) + 1)) (F := Fp Cpb Cmb) (.inl rfl)
        have hbx : (V.setCell ⟨Cpb, 1, none⟩ (.int .i64 (((adv s0).next : Int) + 1))).heap[wp.heap.size]? = some (.cells #[.int .i64 t.kind, .string y, .int .i64 t.pos] tTok (0, 0)) := (Below.heap_setCell _ _ _ _ hne).trans HBV.out
        have hbm : (V.setCell ⟨Cpb, 1, none⟩ (.int .i64 (((adv s0).next : Int) + 1))).heap[wq.heap.size]? = some (.cells #[.int .i64 1, .string ym, .int .i64 m.pos] tTok (0, 0)) := (Below.heap_setCell _ _ _ _ hneq).trans HXM.out.cells
        obtain ⟨wT, hwT⟩ : ∃ wT, V.setCell ⟨Cpb, 1, none⟩ (.int .i64 (((adv s0).next : Int) + 1)) = wT := ⟨_, rfl⟩
        rw [hwT] at hpS hoS hbx hbm
        have HVT := Lib.hid (HVV.out.owns hoS)
        have HOT := Lib.hid (HOV.out.trans hoS)
        have HPT := Lib.hid hpS
        have HBT := Lib.hid hbx
        have HBM := Lib.hid hbm
        have y1 : wT.cell? ⟨wq.heap.size, 1, none⟩ = some (.string ym) := by simp [World.cell?, hbm]
        have e1 : (adv s0).next = s0.next + 1 := rfl
        have e2 : (((adv s0).next : Nat) : Int) + 1 = (s0.next : Int) + 1 + 1 := by rw [e1]; omega
        have e3 : (((adv s0).next : Nat) : Int) = (s0.next : Int) + 1 := by rw [e1]; omega
        rw [e2] at hwT
        rw [e3] at d1
        clear hpS hoS hbx hbm e1 e2 e3
        go_wp2_with fail
        refine (HEx.out wT).mono ?_
        rintro e w5 ⟨rfl, hb5⟩
        have HV5 := Lib.hid (HVT.out.owns (Owns.of_below hb5 (Fp Cpb Cmb)))
        have HP5 := Lib.hid (HPT.out.below hb5)
        have HO5 := Lib.hid (HOT.out.trans (Owns.of_below hb5 (Fp Cpb Cmb)))
        have hB5 := (hb5.block wp.heap.size (Array.getElem?_eq_some_iff.1 HBT.out).1).trans HBT.out
        have hM5 := (hb5.block wq.heap.size (Array.getElem?_eq_some_iff.1 HBM.out).1).trans HBM.out
        have HB5 := Lib.hid hB5
        have z2 : w5.cell? ⟨wq.heap.size, 2, none⟩ = some (.int .i64 m.pos) := by simp [World.cell?, hM5]
        clear hb5 hM5 x0 x1 x2 xf2 b0 b1 b2 d0 d1 d2 d3 d4 d5 d6 df y1 hVV hwT
        have hP6 := HP5.out
        rw [← HSE.out] at hP6
        have HV6 := HV5
        have HP6 := Lib.hid hP6
        have HO6 := HO5
        have hB6 := hB5
        have HB6 := Lib.hid hB6
        clear hP6 hB5
        have hbelV : Below w5.heap.size w5 (w5.alloc (.cells #[.iface u z, .int .i64 E] tPow)) := (Below.refl _ _).alloc (Nat.le_refl _) _
        have hxV := Box.new w5 #[.iface u z, .int .i64 E] tPow
        have bx := (hbelV.block wp.heap.size (Array.getElem?_eq_some_iff.1 hB6).1).trans hB6
        have hpV := HP6.out.below hbelV
        have hoV := Owns.of_below hbelV (Fp Cpb Cmb)
        have HNM := Lib.hid (show ¬ Fp Cpb Cmb w5.heap.size from fun e => e.elim (Nat.ne_of_gt (show Cpb < w5.heap.size from HP6.out.lt)) (Nat.ne_of_gt (show Cmb < w5.heap.size from HP6.out.map.lt)))
        obtain ⟨X, hXX⟩ : ∃ X, w5.alloc (.cells #[.iface u z, .int .i64 E] tPow) = X := ⟨_, rfl⟩
        rw [hXX] at hbelV hxV bx hpV hoV
        have HPX := Lib.hid hpV
        have HVX := Lib.hid (HV6.out.owns hoV)
        have HOX := Lib.hid (HO6.out.trans hoV)
        have HBX2 := Lib.hid hxV
        have b0 : X.cell? ⟨wp.heap.size, 0, none⟩ = some (.int .i64 t.kind) := by simp [World.cell?, bx]
        have b1 : X.cell? ⟨wp.heap.size, 1, none⟩ = some (.string y) := by simp [World.cell?, bx]
        have b2 : X.cell? ⟨wp.heap.size, 2, none⟩ = some (.int .i64 t.pos) := by simp [World.cell?, bx]
        have m0 : X.cell? ⟨w5.heap.size, 0, none⟩ = some (.iface u z) := hxV.cell 0
        have m1 : X.cell? ⟨w5.heap.size, 1, none⟩ = some (.int .i64 E) := hxV.cell 1
        clear hbelV hxV bx hpV hoV hB6
        have hbelU : Below X.heap.size X (X.alloc (.cells #[.iface u z] tTe)) := (Below.refl _ _).alloc (Nat.le_refl _) _
        have hxU := Box.new X #[.iface u z] tTe
        have hoU := Owns.of_below hbelU (Fp Cpb Cmb)
        have hpU := HPX.out.below hbelU
        have hv1 := HVX.out.owns hoU
        have hM := measure_any Cb Cpb Cmb Cn Cc CT CA sE t (.pow b E) (.iface tPow (.agg #[.iface u z, .int .i64 E])) [b] [.iface u z] X.heap.size 1 rfl rfl (Gp Cpb Cmb (X.alloc (.cells #[.iface u z] tTe))) (X.alloc (.cells #[.iface u z] tTe)) (fun b hb => hb.1) hpU ⟨_, rfl, hv1.1⟩ hv1.2.2 hxU.cells (fun i tt hi => by
          match i, hi with
          | 0, hi => simp at hi; subst hi; exact ⟨_, rfl, hv1.1, hv1.2.2⟩
          | k + 1, hi => simp at hi) (by decide)
        rw [← HY.out] at hM
        have HM := Lib.hid hM
        have HVU := Lib.hid hv1
        have HOU := Lib.hid (HOX.out.trans hoU)
        have HBU := Lib.hid hbelU
        clear hbelU hxU hoU hpU hv1 hM
        go_wp2_with fail
        refine HM.out.mono ?_
        rintro e wM ⟨rfl, hPM, hOM⟩
        rw [← HPW.out] at hPM
        have hbm := (hOM.same w5.heap.size (Nat.lt_of_lt_of_le HBX2.out.lt HBU.out.size) HNM.out).trans ((HBU.out.block _ HBX2.out.lt).trans HBX2.out.cells)
        have n0 : wM.cell? ⟨w5.heap.size, 0, none⟩ = some (.iface u z) := by simp [World.cell?, hbm]
        have n1 : wM.cell? ⟨w5.heap.size, 1, none⟩ = some (.int .i64 E) := by simp [World.cell?, hbm]
        have hvM := HVU.out.owns hOM
        have HE := Lib.hid (show FPost ⟨Cb, Cpb, Cmb, CT, CA, Cn, Cc⟩ (some (.tm (.pow b E))) (powS CT b s0) w (.returned (.tuple #[.iface tPow (.agg #[.iface u z, .int .i64 E]), .bool true])) wM from ⟨_, _, rfl, ⟨⟨_, rfl, hvM.1⟩, by simp, hvM.2.2⟩, hPM, HOU.out.trans hOM⟩)
        clear hbm m0 m1 hPM hOM hvM b0 b1 b2 hXX
        go_wp2
        go_ret2
        exact HE.out
end Pa
end Go.Proofs.YtkjbfomokdjbnaaGreat
