/-
  The parser: quant.
-/
import Derived.Test.YtkjbfomokdjbnaaGreatPaI
namespace Go.Proofs.YtkjbfomokdjbnaaGreat
open Go.RowKit
set_option linter.unusedSimpArgs false
set_option linter.unusedVariables false
namespace Pa
open Lx Fm Dc
attribute [local go_sem] run_store fieldTok0 fieldTok2
attribute [local go_sem] anF_Num anF_Name anF_Add anF_Sub anF_Mul anF_Neg anF_Pow anF_Truth anF_Atom anF_Not anF_And anF_Or anF_Implies anF_Iff anF_Quant anT_Num anT_Name anT_Add anT_Sub anT_Mul anT_Neg anT_Pow

theorem pk_inc (T : List Tok) (s : PS) : pk T (inc T s) = pk T s := by unfold pk; rw [inc_next]

/-! ### quant -/
set_option maxRecDepth 100000 in
set_option maxHeartbeats 4000000 in
theorem quant_walk (C : Cx) (a : Bool) (s : PS) (r : Option PV) (s' : PS) (hB : Big C.T (.qu a) s r s') (hg : Gd s) (htok : TokOk C.T) (ih : IH C (mea C.T (.qu a) s)) (w : World) (h : C.At s w) :
    Calls Tryz.prog 69 #[C.p, .bool a] w (FPost C r s' w) := by
  have hn := h.hn
  have hnext := h.next
  have hlen := h.len
  obtain ⟨Cb, Cpb, Cmb, CT, CA, Cn, Cc⟩ := C
  dsimp only at *
  have HKp := Lib.hid (peek_any Cb Cpb Cmb Cn Cc CT CA s w h)
  obtain ⟨t, ht⟩ : ∃ t, t = pk CT s := ⟨_, rfl⟩
  obtain ⟨k, hk⟩ : ∃ k : Int, k = (t.kind : Int) := ⟨_, rfl⟩
  rw [← ht, ← hk] at HKp
  by_cases hk2 : t.kind = 2
  case neg =>
    have hkn : (k == 2) = false := by rw [hk, beq_eq_false_iff_ne]; omega
    have hr : r = none ∧ s' = s := by cases hB <;> first | exact ⟨rfl, rfl⟩ | (rename_i e _ _; exact absurd (by rw [ht]; exact e) hk2) | (rename_i e _ _ _; exact absurd (by rw [ht]; exact e) hk2)
    obtain ⟨rfl, rfl⟩ := hr
    have HP0 := Lib.hid h
    have HO0 := Lib.hid (Owns.refl w (Fp Cpb Cmb))
    clear hB ih hg h ht hk hk2
    go_enter Tryz.func69, Tryz.ntmps69
    go_wp2_with fail
    refine HKp.out.mono ?_
    rintro e w1 ⟨rfl, hb1⟩
    have HE := Lib.hid (show FPost ⟨Cb, Cpb, Cmb, CT, CA, Cn, Cc⟩ none s' w (.returned (.tuple #[.nilIface, .bool false])) w1 from ⟨_, rfl, rfl, HP0.out.below hb1, HO0.out.trans (Owns.of_below hb1 _)⟩)
    clear hb1
    go_wp2
    go_ret2
    exact HE.out
  have hlt : s.next < CT.length := pk_lt (by rw [← ht, hk2]; decide)
  have hlt' : s.next < Cn := by rw [hn]; exact hlt
  obtain rfl : k = 2 := by rw [hk, hk2]; rfl
  have hts : t.text.length ≤ 40 := by rw [ht]; exact htok.pk s
  obtain ⟨sI, hsI⟩ : ∃ sI, sI = inc CT s := ⟨_, rfl⟩
  obtain ⟨sN, hsN⟩ : ∃ sN, sN = nam CT sI := ⟨_, rfl⟩
  have eN : nam CT (inc CT s) = sN := by rw [hsN, hsI]
  have gI : sI.names.length ≤ sI.next ∧ sI.next = s.next ∧ sI.depth = s.depth + 1 := by
    obtain ⟨e1, e2, e3, e4⟩ := inc_eq CT s
    rw [hsI, e1, e2, e4]
    exact ⟨hg.2.2, rfl, rfl⟩
  have gN : Gd sN := by rw [← eN]; exact hg.c_naminc
  have nN : sN.next = s.next + 1 ∧ sN.depth = s.depth + 1 := by rw [hsN, nam_next, nam_depth]; exact ⟨by rw [gI.2.1], gI.2.2⟩
  have hpI : pk CT sI = t := by rw [hsI, pk_inc, ht]
  have HNm := Lib.hid (fun w1 h2 => name_any Cb Cpb Cmb Cn Cc CT CA sI w1 h2 gI.1 (by rw [gI.2.1]; exact hlt') (by rw [hpI]; omega))
  rw [hpI, ← hsN] at HNm
  obtain ⟨y, hy⟩ : ∃ y, y = bs t.text := ⟨_, rfl⟩
  rw [← hy] at HNm
  have hys : y.size ≤ 9223372036854775807 := by rw [hy, bs_size]; omega
  have hdep := hg.1
  -- the depth is counted
  obtain ⟨s1, hs1⟩ : ∃ s1, s1 = { s with depth := s.depth + 1 } := ⟨_, rfl⟩
  have HD := Lib.hid (show ∀ w1, PAt Cb Cpb Cmb CT CA Cn Cc s w1 → PAt Cb Cpb Cmb CT CA Cn Cc s1 (w1.setCell ⟨Cpb, 2, none⟩ (.int .i64 ((s.depth : Int) + 1))) from fun w1 h => h.set (s' := s1) 2 _ (by rw [hs1]; rfl) (by rw [hs1]) (by rw [hs1]; exact h.next) (by rw [hs1]; show s.depth + 1 ≤ s.next + 1; omega) (by rw [hs1]; exact h.rels) (by rw [hs1]; exact h.nms))
  have e2 : s1.depth = s.depth + 1 := by rw [hs1]
  have HKq := Lib.hid (fun w1 h2 => peek_any Cb Cpb Cmb Cn Cc CT CA s1 w1 h2)
  have ep : pk CT s1 = t := by rw [ht, hs1]; rfl
  rw [ep] at HKq
  have HXc := Lib.hid (fun w1 h2 => exceed_any Cb Cpb Cmb Cn Cc CT CA s1 t.pos w1 h2)
  have HP0 := Lib.hid h
  have HO0 := Lib.hid (Owns.refl w (Fp Cpb Cmb))
  have HE2 := Lib.hid e2
  have HYS := Lib.hid hys
  by_cases h60 : 60 < s.depth + 1
  case pos =>
    have HSX := Lib.hid (show exc s1 t.pos = sI by rw [hsI, hs1, ht]; unfold inc; rw [if_pos h60])
    cases hB with
    | qu_no e => exact absurd (by rw [← ht]; exact hk2) e
    | @qu_comma_no _ _ s3 hka hc h1 =>
      rw [eN] at hc h1
      have HA1 := Lib.hid (fun w1 h2 => accept_yes Cb Cpb Cmb Cn Cc CT CA sN ⟨#[44]⟩ w1 h2 hc)
      have HI := Lib.hid (fun w2 => ih _ _ (mea_adv (show s.next < sN.next + 1 by omega) hlt) _ _ h1 gN.c_adv (notEncl (by simp)) w2)
      have hd : 0 < s3.depth := by rw [h1.depth, adv_depth]; omega
      clear hka hc h1 ih hg h ht hk hk2 hlt hts hsI hsN eN gI gN hpI hy hys hs1 ep htok nN e2
      go_enter Tryz.func69, Tryz.ntmps69
      go_wp2_with fail
      refine HKp.out.mono ?_
      rintro e w1 ⟨rfl, hb1⟩
      have h1 := HP0.out.below hb1
      have HO1 := Lib.hid (HO0.out.trans (Owns.of_below hb1 (Fp Cpb Cmb)))
      obtain ⟨W, hW⟩ : ∃ W, w1.setCell ⟨Cpb, 2, none⟩ (.int .i64 ((s.depth : Int) + 1)) = W := ⟨_, rfl⟩
      have h2 := HD.out w1 h1
      have HO2 := Lib.hid (HO1.out.trans (owns_set w1 ⟨Cpb, 2, none⟩ (.int .i64 ((s.depth : Int) + 1)) (.inl rfl)))
      rw [hW] at h2 HO2
      obtain ⟨c0, c1, c2, c3, c4, c5, c6⟩ := h1.cells
      have f1 := h1.fz
      obtain ⟨d0, d1, d2, d3, d4, d5, d6⟩ := h2.cells
      rw [HE2.out] at d2
      have HP2 := Lib.hid h2
      clear hb1 h1 h2
      go_wp2_with fail
      refine (HKq.out W HP2.out).mono ?_
      rintro e w3 ⟨rfl, hb3⟩
      have HP3 := Lib.hid (HP2.out.below hb3)
      have HO3 := Lib.hid (HO2.out.trans (Owns.of_below hb3 (Fp Cpb Cmb)))
      clear hb3 c0 c1 c2 c3 c4 c5 c6 f1 d0 d1 d2 d3 d4 d5 d6 hW
      go_wp2_with fail
      refine (HXc.out w3 HP3.out).mono ?_
      rintro e w4 ⟨rfl, hP4, hO4⟩
      rw [HSX.out] at hP4
      have HP4 := Lib.hid hP4
      have HO4 := Lib.hid (HO3.out.trans hO4)
      clear hP4 hO4
      go_wp2_with fail
      refine (HNm.out w4 HP4.out).mono ?_
      rintro e w5 ⟨rfl, hP5, hO5⟩
      have HP5 := Lib.hid hP5
      have HO5 := Lib.hid (HO4.out.trans hO5)
      clear hP5 hO5
      go_wp2_with fail
      refine (HA1.out w5 HP5.out).mono ?_
      rintro e w6 ⟨rfl, hP6, hO6⟩
      have HP6 := Lib.hid hP6
      have HO6 := Lib.hid (HO5.out.trans hO6)
      clear hP6 hO6
      go_wp2_with fail
      refine (HI.out w6 HP6.out).mono ?_
      rintro e w7 ⟨v7, rfl, hov7, hP7, hO7⟩
      have HP7 := Lib.hid hP7
      have HO7 := Lib.hid (HO6.out.trans hO7)
      clear hP7 hO7
      obtain ⟨c0, c1, c2, c3, c4, c5, c6⟩ := HP7.out.cells
      have fz2 := HP7.out.fz
      have hdl : s3.depth ≤ 4001 := by have := HP7.out.depth; have := HP7.out.next; (try dsimp only at *); omega
      have HPd := Lib.hid (HP7.out.down hd)
      have HOd := Lib.hid (HO7.out.trans (owns_set w7 ⟨Cpb, 2, none⟩ (.int .i64 ((s3.depth : Int) - 1)) (.inl rfl)))
      go_wp2_with fail
      have HE := Lib.hid (show FPost ⟨Cb, Cpb, Cmb, CT, CA, Cn, Cc⟩ none (dn s3) w (.returned (.tuple #[.nilIface, .bool false])) (w7.setCell ⟨Cpb, 2, none⟩ (.int .i64 ((s3.depth : Int) - 1))) from ⟨_, rfl, rfl, HPd.out, HOd.out⟩)
      go_wp2
      go_ret2
      exact HE.out
    | @qu_comma _ _ x s3 hka hc h1 =>
      rw [← ht, ← hy]
      rw [eN] at hc h1
      have HA1 := Lib.hid (fun w1 h2 => accept_yes Cb Cpb Cmb Cn Cc CT CA sN ⟨#[44]⟩ w1 h2 hc)
      have HI := Lib.hid (fun w2 => ih _ _ (mea_adv (show s.next < sN.next + 1 by omega) hlt) _ _ h1 gN.c_adv (notEncl (by simp)) w2)
      have hd : 0 < s3.depth := by rw [h1.depth, adv_depth]; omega
      clear hka hc h1 ih hg h ht hk hk2 hlt hts hsI hsN eN gI gN hpI hy hys hs1 ep htok nN e2
      go_enter Tryz.func69, Tryz.ntmps69
      go_wp2_with fail
      refine HKp.out.mono ?_
      rintro e w1 ⟨rfl, hb1⟩
      have h1 := HP0.out.below hb1
      have HO1 := Lib.hid (HO0.out.trans (Owns.of_below hb1 (Fp Cpb Cmb)))
      obtain ⟨W, hW⟩ : ∃ W, w1.setCell ⟨Cpb, 2, none⟩ (.int .i64 ((s.depth : Int) + 1)) = W := ⟨_, rfl⟩
      have h2 := HD.out w1 h1
      have HO2 := Lib.hid (HO1.out.trans (owns_set w1 ⟨Cpb, 2, none⟩ (.int .i64 ((s.depth : Int) + 1)) (.inl rfl)))
      rw [hW] at h2 HO2
      obtain ⟨c0, c1, c2, c3, c4, c5, c6⟩ := h1.cells
      have f1 := h1.fz
      obtain ⟨d0, d1, d2, d3, d4, d5, d6⟩ := h2.cells
      rw [HE2.out] at d2
      have HP2 := Lib.hid h2
      clear hb1 h1 h2
      go_wp2_with fail
      refine (HKq.out W HP2.out).mono ?_
      rintro e w3 ⟨rfl, hb3⟩
      have HP3 := Lib.hid (HP2.out.below hb3)
      have HO3 := Lib.hid (HO2.out.trans (Owns.of_below hb3 (Fp Cpb Cmb)))
      clear hb3 c0 c1 c2 c3 c4 c5 c6 f1 d0 d1 d2 d3 d4 d5 d6 hW
      go_wp2_with fail
      refine (HXc.out w3 HP3.out).mono ?_
      rintro e w4 ⟨rfl, hP4, hO4⟩
      rw [HSX.out] at hP4
      have HP4 := Lib.hid hP4
      have HO4 := Lib.hid (HO3.out.trans hO4)
      clear hP4 hO4
      go_wp2_with fail
      refine (HNm.out w4 HP4.out).mono ?_
      rintro e w5 ⟨rfl, hP5, hO5⟩
      have HP5 := Lib.hid hP5
      have HO5 := Lib.hid (HO4.out.trans hO5)
      clear hP5 hO5
      go_wp2_with fail
      refine (HA1.out w5 HP5.out).mono ?_
      rintro e w6 ⟨rfl, hP6, hO6⟩
      have HP6 := Lib.hid hP6
      have HO6 := Lib.hid (HO5.out.trans hO6)
      clear hP6 hO6
      go_wp2_with fail
      refine (HI.out w6 HP6.out).mono ?_
      rintro e w7 ⟨u7, z7, rfl, hv7, hP7, hO7⟩
      have HV7 := Lib.hid hv7
      have HP7 := Lib.hid hP7
      have HO7 := Lib.hid (HO6.out.trans hO7)
      clear hv7 hP7 hO7
      obtain ⟨c0, c1, c2, c3, c4, c5, c6⟩ := HP7.out.cells
      have fz2 := HP7.out.fz
      have hdl : s3.depth ≤ 4001 := by have := HP7.out.depth; have := HP7.out.next; (try dsimp only at *); omega
      have HPd := Lib.hid (HP7.out.down hd)
      have HOd := Lib.hid (HO7.out.trans (owns_set w7 ⟨Cpb, 2, none⟩ (.int .i64 ((s3.depth : Int) - 1)) (.inl rfl)))
      have HVd := Lib.hid (HV7.out.owns (owns_set w7 ⟨Cpb, 2, none⟩ (.int .i64 ((s3.depth : Int) - 1)) (.inl rfl)))
      have HF1 := Lib.hid (asFormula_any _ _ _ _ HVd.out)
      go_wp2_with fail
      refine HF1.out.mono ?_
      rintro e wZ ⟨u4, z4, rfl, rfl, hv4⟩
      have HE := Lib.hid (show FPost ⟨Cb, Cpb, Cmb, CT, CA, Cn, Cc⟩ (some (.fo (.quant a y (asF x)))) (dn s3) w (.returned (.tuple #[.iface tQuant (.agg #[.bool a, .string y, .iface u4 z4]), .bool true])) (w7.setCell ⟨Cpb, 2, none⟩ (.int .i64 ((s3.depth : Int) - 1))) from ⟨_, _, rfl, ⟨⟨_, rfl, HYS.out, hv4.1⟩, by simp, hv4.2.2⟩, HPd.out, HOd.out⟩)
      clear hv4
      go_wp2
      go_ret2
      exact HE.out
    | @qu_dot_no _ _ s3 hka hc hd2 h1 =>
      rw [eN] at hc hd2 h1
      have HA1 := Lib.hid (fun w1 h2 => accept_no Cb Cpb Cmb Cn Cc CT CA sN ⟨#[44]⟩ w1 h2 hc)
      have HA2 := Lib.hid (fun w1 h2 => accept_yes Cb Cpb Cmb Cn Cc CT CA sN ⟨#[46]⟩ w1 h2 hd2)
      have HI := Lib.hid (fun w2 => ih _ _ (mea_adv (show s.next < sN.next + 1 by omega) hlt) _ _ h1 gN.c_adv (notEncl (by simp)) w2)
      have hd : 0 < s3.depth := by rw [h1.depth, adv_depth]; omega
      clear hka hc hd2 h1 ih hg h ht hk hk2 hlt hts hsI hsN eN gI gN hpI hy hys hs1 ep htok nN e2
      go_enter Tryz.func69, Tryz.ntmps69
      go_wp2_with fail
      refine HKp.out.mono ?_
      rintro e w1 ⟨rfl, hb1⟩
      have h1 := HP0.out.below hb1
      have HO1 := Lib.hid (HO0.out.trans (Owns.of_below hb1 (Fp Cpb Cmb)))
      obtain ⟨W, hW⟩ : ∃ W, w1.setCell ⟨Cpb, 2, none⟩ (.int .i64 ((s.depth : Int) + 1)) = W := ⟨_, rfl⟩
      have h2 := HD.out w1 h1
      have HO2 := Lib.hid (HO1.out.trans (owns_set w1 ⟨Cpb, 2, none⟩ (.int .i64 ((s.depth : Int) + 1)) (.inl rfl)))
      rw [hW] at h2 HO2
      obtain ⟨c0, c1, c2, c3, c4, c5, c6⟩ := h1.cells
      have f1 := h1.fz
      obtain ⟨d0, d1, d2, d3, d4, d5, d6⟩ := h2.cells
      rw [HE2.out] at d2
      have HP2 := Lib.hid h2
      clear hb1 h1 h2
      go_wp2_with fail
      refine (HKq.out W HP2.out).mono ?_
      rintro e w3 ⟨rfl, hb3⟩
      have HP3 := Lib.hid (HP2.out.below hb3)
      have HO3 := Lib.hid (HO2.out.trans (Owns.of_below hb3 (Fp Cpb Cmb)))
      clear hb3 c0 c1 c2 c3 c4 c5 c6 f1 d0 d1 d2 d3 d4 d5 d6 hW
      go_wp2_with fail
      refine (HXc.out w3 HP3.out).mono ?_
      rintro e w4 ⟨rfl, hP4, hO4⟩
      rw [HSX.out] at hP4
      have HP4 := Lib.hid hP4
      have HO4 := Lib.hid (HO3.out.trans hO4)
      clear hP4 hO4
      go_wp2_with fail
      refine (HNm.out w4 HP4.out).mono ?_
      rintro e w5 ⟨rfl, hP5, hO5⟩
      have HP5 := Lib.hid hP5
      have HO5 := Lib.hid (HO4.out.trans hO5)
      clear hP5 hO5
      go_wp2_with fail
      refine (HA1.out w5 HP5.out).mono ?_
      rintro e w6 ⟨rfl, hb6⟩
      have HP6 := Lib.hid (HP5.out.below hb6)
      have HO6 := Lib.hid (HO5.out.trans (Owns.of_below hb6 (Fp Cpb Cmb)))
      clear hb6
      go_wp2_with fail
      refine (HA2.out w6 HP6.out).mono ?_
      rintro e w7 ⟨rfl, hP7, hO7⟩
      have HP7 := Lib.hid hP7
      have HO7 := Lib.hid (HO6.out.trans hO7)
      clear hP7 hO7
      go_wp2_with fail
      refine (HI.out w7 HP7.out).mono ?_
      rintro e w8 ⟨v8, rfl, hov8, hP8, hO8⟩
      have HP8 := Lib.hid hP8
      have HO8 := Lib.hid (HO7.out.trans hO8)
      clear hP8 hO8
      obtain ⟨c0, c1, c2, c3, c4, c5, c6⟩ := HP8.out.cells
      have fz2 := HP8.out.fz
      have hdl : s3.depth ≤ 4001 := by have := HP8.out.depth; have := HP8.out.next; (try dsimp only at *); omega
      have HPd := Lib.hid (HP8.out.down hd)
      have HOd := Lib.hid (HO8.out.trans (owns_set w8 ⟨Cpb, 2, none⟩ (.int .i64 ((s3.depth : Int) - 1)) (.inl rfl)))
      go_wp2_with fail
      have HE := Lib.hid (show FPost ⟨Cb, Cpb, Cmb, CT, CA, Cn, Cc⟩ none (dn s3) w (.returned (.tuple #[.nilIface, .bool false])) (w8.setCell ⟨Cpb, 2, none⟩ (.int .i64 ((s3.depth : Int) - 1))) from ⟨_, rfl, rfl, HPd.out, HOd.out⟩)
      go_wp2
      go_ret2
      exact HE.out
    | @qu_dot _ _ x s3 hka hc hd2 h1 =>
      rw [← ht, ← hy]
      rw [eN] at hc hd2 h1
      have HA1 := Lib.hid (fun w1 h2 => accept_no Cb Cpb Cmb Cn Cc CT CA sN ⟨#[44]⟩ w1 h2 hc)
      have HA2 := Lib.hid (fun w1 h2 => accept_yes Cb Cpb Cmb Cn Cc CT CA sN ⟨#[46]⟩ w1 h2 hd2)
      have HI := Lib.hid (fun w2 => ih _ _ (mea_adv (show s.next < sN.next + 1 by omega) hlt) _ _ h1 gN.c_adv (notEncl (by simp)) w2)
      have hd : 0 < s3.depth := by rw [h1.depth, adv_depth]; omega
      clear hka hc hd2 h1 ih hg h ht hk hk2 hlt hts hsI hsN eN gI gN hpI hy hys hs1 ep htok nN e2
      go_enter Tryz.func69, Tryz.ntmps69
      go_wp2_with fail
      refine HKp.out.mono ?_
      rintro e w1 ⟨rfl, hb1⟩
      have h1 := HP0.out.below hb1
      have HO1 := Lib.hid (HO0.out.trans (Owns.of_below hb1 (Fp Cpb Cmb)))
      obtain ⟨W, hW⟩ : ∃ W, w1.setCell ⟨Cpb, 2, none⟩ (.int .i64 ((s.depth : Int) + 1)) = W := ⟨_, rfl⟩
      have h2 := HD.out w1 h1
      have HO2 := Lib.hid (HO1.out.trans (owns_set w1 ⟨Cpb, 2, none⟩ (.int .i64 ((s.depth : Int) + 1)) (.inl rfl)))
      rw [hW] at h2 HO2
      obtain ⟨c0, c1, c2, c3, c4, c5, c6⟩ := h1.cells
      have f1 := h1.fz
      obtain ⟨d0, d1, d2, d3, d4, d5, d6⟩ := h2.cells
      rw [HE2.out] at d2
      have HP2 := Lib.hid h2
      clear hb1 h1 h2
      go_wp2_with fail
      refine (HKq.out W HP2.out).mono ?_
      rintro e w3 ⟨rfl, hb3⟩
      have HP3 := Lib.hid (HP2.out.below hb3)
      have HO3 := Lib.hid (HO2.out.trans (Owns.of_below hb3 (Fp Cpb Cmb)))
      clear hb3 c0 c1 c2 c3 c4 c5 c6 f1 d0 d1 d2 d3 d4 d5 d6 hW
      go_wp2_with fail
      refine (HXc.out w3 HP3.out).mono ?_
      rintro e w4 ⟨rfl, hP4, hO4⟩
      rw [HSX.out] at hP4
      have HP4 := Lib.hid hP4
      have HO4 := Lib.hid (HO3.out.trans hO4)
      clear hP4 hO4
      go_wp2_with fail
      refine (HNm.out w4 HP4.out).mono ?_
      rintro e w5 ⟨rfl, hP5, hO5⟩
      have HP5 := Lib.hid hP5
      have HO5 := Lib.hid (HO4.out.trans hO5)
      clear hP5 hO5
      go_wp2_with fail
      refine (HA1.out w5 HP5.out).mono ?_
      rintro e w6 ⟨rfl, hb6⟩
      have HP6 := Lib.hid (HP5.out.below hb6)
      have HO6 := Lib.hid (HO5.out.trans (Owns.of_below hb6 (Fp Cpb Cmb)))
      clear hb6
      go_wp2_with fail
      refine (HA2.out w6 HP6.out).mono ?_
      rintro e w7 ⟨rfl, hP7, hO7⟩
      have HP7 := Lib.hid hP7
      have HO7 := Lib.hid (HO6.out.trans hO7)
      clear hP7 hO7
      go_wp2_with fail
      refine (HI.out w7 HP7.out).mono ?_
      rintro e w8 ⟨u8, z8, rfl, hv8, hP8, hO8⟩
      have HV8 := Lib.hid hv8
      have HP8 := Lib.hid hP8
      have HO8 := Lib.hid (HO7.out.trans hO8)
      clear hv8 hP8 hO8
      obtain ⟨c0, c1, c2, c3, c4, c5, c6⟩ := HP8.out.cells
      have fz2 := HP8.out.fz
      have hdl : s3.depth ≤ 4001 := by have := HP8.out.depth; have := HP8.out.next; (try dsimp only at *); omega
      have HPd := Lib.hid (HP8.out.down hd)
      have HOd := Lib.hid (HO8.out.trans (owns_set w8 ⟨Cpb, 2, none⟩ (.int .i64 ((s3.depth : Int) - 1)) (.inl rfl)))
      have HVd := Lib.hid (HV8.out.owns (owns_set w8 ⟨Cpb, 2, none⟩ (.int .i64 ((s3.depth : Int) - 1)) (.inl rfl)))
      have HF1 := Lib.hid (asFormula_any _ _ _ _ HVd.out)
      go_wp2_with fail
      refine HF1.out.mono ?_
      rintro e wZ ⟨u4, z4, rfl, rfl, hv4⟩
      have HE := Lib.hid (show FPost ⟨Cb, Cpb, Cmb, CT, CA, Cn, Cc⟩ (some (.fo (.quant a y (asF x)))) (dn s3) w (.returned (.tuple #[.iface tQuant (.agg #[.bool a, .string y, .iface u4 z4]), .bool true])) (w8.setCell ⟨Cpb, 2, none⟩ (.int .i64 ((s3.depth : Int) - 1))) from ⟨_, _, rfl, ⟨⟨_, rfl, HYS.out, hv4.1⟩, by simp, hv4.2.2⟩, HPd.out, HOd.out⟩)
      clear hv4
      go_wp2
      go_ret2
      exact HE.out
    | @qu_bad _ _ hka hc hd2 =>
      rw [eN] at hc hd2 ⊢
      have HA1 := Lib.hid (fun w1 h2 => accept_no Cb Cpb Cmb Cn Cc CT CA sN ⟨#[44]⟩ w1 h2 hc)
      have HA2 := Lib.hid (fun w1 h2 => accept_no Cb Cpb Cmb Cn Cc CT CA sN ⟨#[46]⟩ w1 h2 hd2)
      have hd : 0 < sN.depth := by omega
      clear hka hc hd2 ih hg h ht hk hk2 hlt hts hsI hsN eN gI gN hpI hy hys hs1 ep htok nN e2
      go_enter Tryz.func69, Tryz.ntmps69
      go_wp2_with fail
      refine HKp.out.mono ?_
      rintro e w1 ⟨rfl, hb1⟩
      have h1 := HP0.out.below hb1
      have HO1 := Lib.hid (HO0.out.trans (Owns.of_below hb1 (Fp Cpb Cmb)))
      obtain ⟨W, hW⟩ : ∃ W, w1.setCell ⟨Cpb, 2, none⟩ (.int .i64 ((s.depth : Int) + 1)) = W := ⟨_, rfl⟩
      have h2 := HD.out w1 h1
      have HO2 := Lib.hid (HO1.out.trans (owns_set w1 ⟨Cpb, 2, none⟩ (.int .i64 ((s.depth : Int) + 1)) (.inl rfl)))
      rw [hW] at h2 HO2
      obtain ⟨c0, c1, c2, c3, c4, c5, c6⟩ := h1.cells
      have f1 := h1.fz
      obtain ⟨d0, d1, d2, d3, d4, d5, d6⟩ := h2.cells
      rw [HE2.out] at d2
      have HP2 := Lib.hid h2
      clear hb1 h1 h2
      go_wp2_with fail
      refine (HKq.out W HP2.out).mono ?_
      rintro e w3 ⟨rfl, hb3⟩
      have HP3 := Lib.hid (HP2.out.below hb3)
      have HO3 := Lib.hid (HO2.out.trans (Owns.of_below hb3 (Fp Cpb Cmb)))
      clear hb3 c0 c1 c2 c3 c4 c5 c6 f1 d0 d1 d2 d3 d4 d5 d6 hW
      go_wp2_with fail
      refine (HXc.out w3 HP3.out).mono ?_
      rintro e w4 ⟨rfl, hP4, hO4⟩
      rw [HSX.out] at hP4
      have HP4 := Lib.hid hP4
      have HO4 := Lib.hid (HO3.out.trans hO4)
      clear hP4 hO4
      go_wp2_with fail
      refine (HNm.out w4 HP4.out).mono ?_
      rintro e w5 ⟨rfl, hP5, hO5⟩
      have HP5 := Lib.hid hP5
      have HO5 := Lib.hid (HO4.out.trans hO5)
      clear hP5 hO5
      go_wp2_with fail
      refine (HA1.out w5 HP5.out).mono ?_
      rintro e w6 ⟨rfl, hb6⟩
      have HP6 := Lib.hid (HP5.out.below hb6)
      have HO6 := Lib.hid (HO5.out.trans (Owns.of_below hb6 (Fp Cpb Cmb)))
      clear hb6
      go_wp2_with fail
      refine (HA2.out w6 HP6.out).mono ?_
      rintro e w7 ⟨rfl, hb7⟩
      have HP7 := Lib.hid (HP6.out.below hb7)
      have HO7 := Lib.hid (HO6.out.trans (Owns.of_below hb7 (Fp Cpb Cmb)))
      clear hb7
      obtain ⟨c0, c1, c2, c3, c4, c5, c6⟩ := HP7.out.cells
      have fz2 := HP7.out.fz
      have hdl : sN.depth ≤ 4001 := by have := HP7.out.depth; have := HP7.out.next; (try dsimp only at *); omega
      have HPd := Lib.hid (HP7.out.down hd)
      have HOd := Lib.hid (HO7.out.trans (owns_set w7 ⟨Cpb, 2, none⟩ (.int .i64 ((sN.depth : Int) - 1)) (.inl rfl)))
      go_wp2_with fail
      have HE := Lib.hid (show FPost ⟨Cb, Cpb, Cmb, CT, CA, Cn, Cc⟩ none (dn sN) w (.returned (.tuple #[.nilIface, .bool false])) (w7.setCell ⟨Cpb, 2, none⟩ (.int .i64 ((sN.depth : Int) - 1))) from ⟨_, rfl, rfl, HPd.out, HOd.out⟩)
      go_wp2
      go_ret2
      exact HE.out
  
  case neg =>
    have HSX := Lib.hid (show s1 = sI by rw [hsI, hs1]; unfold inc; rw [if_neg h60])
    have h60' : s.depth + 1 ≤ 60 := by omega
    clear h60
    cases hB with
    | qu_no e => exact absurd (by rw [← ht]; exact hk2) e
    | @qu_comma_no _ _ s3 hka hc h1 =>
      rw [eN] at hc h1
      have HA1 := Lib.hid (fun w1 h2 => accept_yes Cb Cpb Cmb Cn Cc CT CA sN ⟨#[44]⟩ w1 h2 hc)
      have HI := Lib.hid (fun w2 => ih _ _ (mea_adv (show s.next < sN.next + 1 by omega) hlt) _ _ h1 gN.c_adv (notEncl (by simp)) w2)
      have hd : 0 < s3.depth := by rw [h1.depth, adv_depth]; omega
      clear hka hc h1 ih hg h ht hk hk2 hlt hts hsI hsN eN gI gN hpI hy hys hs1 ep htok nN e2
      go_enter Tryz.func69, Tryz.ntmps69
      go_wp2_with fail
      refine HKp.out.mono ?_
      rintro e w1 ⟨rfl, hb1⟩
      have h1 := HP0.out.below hb1
      have HO1 := Lib.hid (HO0.out.trans (Owns.of_below hb1 (Fp Cpb Cmb)))
      obtain ⟨W, hW⟩ : ∃ W, w1.setCell ⟨Cpb, 2, none⟩ (.int .i64 ((s.depth : Int) + 1)) = W := ⟨_, rfl⟩
      have h2 := HD.out w1 h1
      have HO2 := Lib.hid (HO1.out.trans (owns_set w1 ⟨Cpb, 2, none⟩ (.int .i64 ((s.depth : Int) + 1)) (.inl rfl)))
      rw [hW] at h2 HO2
      obtain ⟨c0, c1, c2, c3, c4, c5, c6⟩ := h1.cells
      have f1 := h1.fz
      obtain ⟨d0, d1, d2, d3, d4, d5, d6⟩ := h2.cells
      rw [HE2.out] at d2
      have HP2 := Lib.hid h2
      clear hb1 h1 h2
      go_wp2_with fail
      refine (HNm.out W (by rw [← HSX.out]; exact HP2.out)).mono ?_
      rintro e w5 ⟨rfl, hP5, hO5⟩
      have HP5 := Lib.hid hP5
      have HO5 := Lib.hid (HO2.out.trans hO5)
      clear hP5 hO5 c0 c1 c2 c3 c4 c5 c6 f1 d0 d1 d2 d3 d4 d5 d6 hW
      go_wp2_with fail
      refine (HA1.out w5 HP5.out).mono ?_
      rintro e w6 ⟨rfl, hP6, hO6⟩
      have HP6 := Lib.hid hP6
      have HO6 := Lib.hid (HO5.out.trans hO6)
      clear hP6 hO6
      go_wp2_with fail
      refine (HI.out w6 HP6.out).mono ?_
      rintro e w7 ⟨v7, rfl, hov7, hP7, hO7⟩
      have HP7 := Lib.hid hP7
      have HO7 := Lib.hid (HO6.out.trans hO7)
      clear hP7 hO7
      obtain ⟨c0, c1, c2, c3, c4, c5, c6⟩ := HP7.out.cells
      have fz2 := HP7.out.fz
      have hdl : s3.depth ≤ 4001 := by have := HP7.out.depth; have := HP7.out.next; (try dsimp only at *); omega
      have HPd := Lib.hid (HP7.out.down hd)
      have HOd := Lib.hid (HO7.out.trans (owns_set w7 ⟨Cpb, 2, none⟩ (.int .i64 ((s3.depth : Int) - 1)) (.inl rfl)))
      go_wp2_with fail
      have HE := Lib.hid (show FPost ⟨Cb, Cpb, Cmb, CT, CA, Cn, Cc⟩ none (dn s3) w (.returned (.tuple #[.nilIface, .bool false])) (w7.setCell ⟨Cpb, 2, none⟩ (.int .i64 ((s3.depth : Int) - 1))) from ⟨_, rfl, rfl, HPd.out, HOd.out⟩)
      go_wp2
      go_ret2
      exact HE.out
    | @qu_comma _ _ x s3 hka hc h1 =>
      rw [← ht, ← hy]
      rw [eN] at hc h1
      have HA1 := Lib.hid (fun w1 h2 => accept_yes Cb Cpb Cmb Cn Cc CT CA sN ⟨#[44]⟩ w1 h2 hc)
      have HI := Lib.hid (fun w2 => ih _ _ (mea_adv (show s.next < sN.next + 1 by omega) hlt) _ _ h1 gN.c_adv (notEncl (by simp)) w2)
      have hd : 0 < s3.depth := by rw [h1.depth, adv_depth]; omega
      clear hka hc h1 ih hg h ht hk hk2 hlt hts hsI hsN eN gI gN hpI hy hys hs1 ep htok nN e2
      go_enter Tryz.func69, Tryz.ntmps69
      go_wp2_with fail
      refine HKp.out.mono ?_
      rintro e w1 ⟨rfl, hb1⟩
      have h1 := HP0.out.below hb1
      have HO1 := Lib.hid (HO0.out.trans (Owns.of_below hb1 (Fp Cpb Cmb)))
      obtain ⟨W, hW⟩ : ∃ W, w1.setCell ⟨Cpb, 2, none⟩ (.int .i64 ((s.depth : Int) + 1)) = W := ⟨_, rfl⟩
      have h2 := HD.out w1 h1
      have HO2 := Lib.hid (HO1.out.trans (owns_set w1 ⟨Cpb, 2, none⟩ (.int .i64 ((s.depth : Int) + 1)) (.inl rfl)))
      rw [hW] at h2 HO2
      obtain ⟨c0, c1, c2, c3, c4, c5, c6⟩ := h1.cells
      have f1 := h1.fz
      obtain ⟨d0, d1, d2, d3, d4, d5, d6⟩ := h2.cells
      rw [HE2.out] at d2
      have HP2 := Lib.hid h2
      clear hb1 h1 h2
      go_wp2_with fail
      refine (HNm.out W (by rw [← HSX.out]; exact HP2.out)).mono ?_
      rintro e w5 ⟨rfl, hP5, hO5⟩
      have HP5 := Lib.hid hP5
      have HO5 := Lib.hid (HO2.out.trans hO5)
      clear hP5 hO5 c0 c1 c2 c3 c4 c5 c6 f1 d0 d1 d2 d3 d4 d5 d6 hW
      go_wp2_with fail
      refine (HA1.out w5 HP5.out).mono ?_
      rintro e w6 ⟨rfl, hP6, hO6⟩
      have HP6 := Lib.hid hP6
      have HO6 := Lib.hid (HO5.out.trans hO6)
      clear hP6 hO6
      go_wp2_with fail
      refine (HI.out w6 HP6.out).mono ?_
      rintro e w7 ⟨u7, z7, rfl, hv7, hP7, hO7⟩
      have HV7 := Lib.hid hv7
      have HP7 := Lib.hid hP7
      have HO7 := Lib.hid (HO6.out.trans hO7)
      clear hv7 hP7 hO7
      obtain ⟨c0, c1, c2, c3, c4, c5, c6⟩ := HP7.out.cells
      have fz2 := HP7.out.fz
      have hdl : s3.depth ≤ 4001 := by have := HP7.out.depth; have := HP7.out.next; (try dsimp only at *); omega
      have HPd := Lib.hid (HP7.out.down hd)
      have HOd := Lib.hid (HO7.out.trans (owns_set w7 ⟨Cpb, 2, none⟩ (.int .i64 ((s3.depth : Int) - 1)) (.inl rfl)))
      have HVd := Lib.hid (HV7.out.owns (owns_set w7 ⟨Cpb, 2, none⟩ (.int .i64 ((s3.depth : Int) - 1)) (.inl rfl)))
      have HF1 := Lib.hid (asFormula_any _ _ _ _ HVd.out)
      go_wp2_with fail
      refine HF1.out.mono ?_
      rintro e wZ ⟨u4, z4, rfl, rfl, hv4⟩
      have HE := Lib.hid (show FPost ⟨Cb, Cpb, Cmb, CT, CA, Cn, Cc⟩ (some (.fo (.quant a y (asF x)))) (dn s3) w (.returned (.tuple #[.iface tQuant (.agg #[.bool a, .string y, .iface u4 z4]), .bool true])) (w7.setCell ⟨Cpb, 2, none⟩ (.int .i64 ((s3.depth : Int) - 1))) from ⟨_, _, rfl, ⟨⟨_, rfl, HYS.out, hv4.1⟩, by simp, hv4.2.2⟩, HPd.out, HOd.out⟩)
      clear hv4
      go_wp2
      go_ret2
      exact HE.out
    | @qu_dot_no _ _ s3 hka hc hd2 h1 =>
      rw [eN] at hc hd2 h1
      have HA1 := Lib.hid (fun w1 h2 => accept_no Cb Cpb Cmb Cn Cc CT CA sN ⟨#[44]⟩ w1 h2 hc)
      have HA2 := Lib.hid (fun w1 h2 => accept_yes Cb Cpb Cmb Cn Cc CT CA sN ⟨#[46]⟩ w1 h2 hd2)
      have HI := Lib.hid (fun w2 => ih _ _ (mea_adv (show s.next < sN.next + 1 by omega) hlt) _ _ h1 gN.c_adv (notEncl (by simp)) w2)
      have hd : 0 < s3.depth := by rw [h1.depth, adv_depth]; omega
      clear hka hc hd2 h1 ih hg h ht hk hk2 hlt hts hsI hsN eN gI gN hpI hy hys hs1 ep htok nN e2
      go_enter Tryz.func69, Tryz.ntmps69
      go_wp2_with fail
      refine HKp.out.mono ?_
      rintro e w1 ⟨rfl, hb1⟩
      have h1 := HP0.out.below hb1
      have HO1 := Lib.hid (HO0.out.trans (Owns.of_below hb1 (Fp Cpb Cmb)))
      obtain ⟨W, hW⟩ : ∃ W, w1.setCell ⟨Cpb, 2, none⟩ (.int .i64 ((s.depth : Int) + 1)) = W := ⟨_, rfl⟩
      have h2 := HD.out w1 h1
      have HO2 := Lib.hid (HO1.out.trans (owns_set w1 ⟨Cpb, 2, none⟩ (.int .i64 ((s.depth : Int) + 1)) (.inl rfl)))
      rw [hW] at h2 HO2
      obtain ⟨c0, c1, c2, c3, c4, c5, c6⟩ := h1.cells
      have f1 := h1.fz
      obtain ⟨d0, d1, d2, d3, d4, d5, d6⟩ := h2.cells
      rw [HE2.out] at d2
      have HP2 := Lib.hid h2
      clear hb1 h1 h2
      go_wp2_with fail
      refine (HNm.out W (by rw [← HSX.out]; exact HP2.out)).mono ?_
      rintro e w5 ⟨rfl, hP5, hO5⟩
      have HP5 := Lib.hid hP5
      have HO5 := Lib.hid (HO2.out.trans hO5)
      clear hP5 hO5 c0 c1 c2 c3 c4 c5 c6 f1 d0 d1 d2 d3 d4 d5 d6 hW
      go_wp2_with fail
      refine (HA1.out w5 HP5.out).mono ?_
      rintro e w6 ⟨rfl, hb6⟩
      have HP6 := Lib.hid (HP5.out.below hb6)
      have HO6 := Lib.hid (HO5.out.trans (Owns.of_below hb6 (Fp Cpb Cmb)))
      clear hb6
      go_wp2_with fail
      refine (HA2.out w6 HP6.out).mono ?_
      rintro e w7 ⟨rfl, hP7, hO7⟩
      have HP7 := Lib.hid hP7
      have HO7 := Lib.hid (HO6.out.trans hO7)
      clear hP7 hO7
      go_wp2_with fail
      refine (HI.out w7 HP7.out).mono ?_
      rintro e w8 ⟨v8, rfl, hov8, hP8, hO8⟩
      have HP8 := Lib.hid hP8
      have HO8 := Lib.hid (HO7.out.trans hO8)
      clear hP8 hO8
      obtain ⟨c0, c1, c2, c3, c4, c5, c6⟩ := HP8.out.cells
      have fz2 := HP8.out.fz
      have hdl : s3.depth ≤ 4001 := by have := HP8.out.depth; have := HP8.out.next; (try dsimp only at *); omega
      have HPd := Lib.hid (HP8.out.down hd)
      have HOd := Lib.hid (HO8.out.trans (owns_set w8 ⟨Cpb, 2, none⟩ (.int .i64 ((s3.depth : Int) - 1)) (.inl rfl)))
      go_wp2_with fail
      have HE := Lib.hid (show FPost ⟨Cb, Cpb, Cmb, CT, CA, Cn, Cc⟩ none (dn s3) w (.returned (.tuple #[.nilIface, .bool false])) (w8.setCell ⟨Cpb, 2, none⟩ (.int .i64 ((s3.depth : Int) - 1))) from ⟨_, rfl, rfl, HPd.out, HOd.out⟩)
      go_wp2
      go_ret2
      exact HE.out
    | @qu_dot _ _ x s3 hka hc hd2 h1 =>
      rw [← ht, ← hy]
      rw [eN] at hc hd2 h1
      have HA1 := Lib.hid (fun w1 h2 => accept_no Cb Cpb Cmb Cn Cc CT CA sN ⟨#[44]⟩ w1 h2 hc)
      have HA2 := Lib.hid (fun w1 h2 => accept_yes Cb Cpb Cmb Cn Cc CT CA sN ⟨#[46]⟩ w1 h2 hd2)
      have HI := Lib.hid (fun w2 => ih _ _ (mea_adv (show s.next < sN.next + 1 by omega) hlt) _ _ h1 gN.c_adv (notEncl (by simp)) w2)
      have hd : 0 < s3.depth := by rw [h1.depth, adv_depth]; omega
      clear hka hc hd2 h1 ih hg h ht hk hk2 hlt hts hsI hsN eN gI gN hpI hy hys hs1 ep htok nN e2
      go_enter Tryz.func69, Tryz.ntmps69
      go_wp2_with fail
      refine HKp.out.mono ?_
      rintro e w1 ⟨rfl, hb1⟩
      have h1 := HP0.out.below hb1
      have HO1 := Lib.hid (HO0.out.trans (Owns.of_below hb1 (Fp Cpb Cmb)))
      obtain ⟨W, hW⟩ : ∃ W, w1.setCell ⟨Cpb, 2, none⟩ (.int .i64 ((s.depth : Int) + 1)) = W := ⟨_, rfl⟩
      have h2 := HD.out w1 h1
      have HO2 := Lib.hid (HO1.out.trans (owns_set w1 ⟨Cpb, 2, none⟩ (.int .i64 ((s.depth : Int) + 1)) (.inl rfl)))
      rw [hW] at h2 HO2
      obtain ⟨c0, c1, c2, c3, c4, c5, c6⟩ := h1.cells
      have f1 := h1.fz
      obtain ⟨d0, d1, d2, d3, d4, d5, d6⟩ := h2.cells
      rw [HE2.out] at d2
      have HP2 := Lib.hid h2
      clear hb1 h1 h2
      go_wp2_with fail
      refine (HNm.out W (by rw [← HSX.out]; exact HP2.out)).mono ?_
      rintro e w5 ⟨rfl, hP5, hO5⟩
      have HP5 := Lib.hid hP5
      have HO5 := Lib.hid (HO2.out.trans hO5)
      clear hP5 hO5 c0 c1 c2 c3 c4 c5 c6 f1 d0 d1 d2 d3 d4 d5 d6 hW
      go_wp2_with fail
      refine (HA1.out w5 HP5.out).mono ?_
      rintro e w6 ⟨rfl, hb6⟩
      have HP6 := Lib.hid (HP5.out.below hb6)
      have HO6 := Lib.hid (HO5.out.trans (Owns.of_below hb6 (Fp Cpb Cmb)))
      clear hb6
      go_wp2_with fail
      refine (HA2.out w6 HP6.out).mono ?_
      rintro e w7 ⟨rfl, hP7, hO7⟩
      have HP7 := Lib.hid hP7
      have HO7 := Lib.hid (HO6.out.trans hO7)
      clear hP7 hO7
      go_wp2_with fail
      refine (HI.out w7 HP7.out).mono ?_
      rintro e w8 ⟨u8, z8, rfl, hv8, hP8, hO8⟩
      have HV8 := Lib.hid hv8
      have HP8 := Lib.hid hP8
      have HO8 := Lib.hid (HO7.out.trans hO8)
      clear hv8 hP8 hO8
      obtain ⟨c0, c1, c2, c3, c4, c5, c6⟩ := HP8.out.cells
      have fz2 := HP8.out.fz
      have hdl : s3.depth ≤ 4001 := by have := HP8.out.depth; have := HP8.out.next; (try dsimp only at *); omega
      have HPd := Lib.hid (HP8.out.down hd)
      have HOd := Lib.hid (HO8.out.trans (owns_set w8 ⟨Cpb, 2, none⟩ (.int .i64 ((s3.depth : Int) - 1)) (.inl rfl)))
      have HVd := Lib.hid (HV8.out.owns (owns_set w8 ⟨Cpb, 2, none⟩ (.int .i64 ((s3.depth : Int) - 1)) (.inl rfl)))
      have HF1 := Lib.hid (asFormula_any _ _ _ _ HVd.out)
      go_wp2_with fail
      refine HF1.out.mono ?_
      rintro e wZ ⟨u4, z4, rfl, rfl, hv4⟩
      have HE := Lib.hid (show FPost ⟨Cb, Cpb, Cmb, CT, CA, Cn, Cc⟩ (some (.fo (.quant a y (asF x)))) (dn s3) w (.returned (.tuple #[.iface tQuant (.agg #[.bool a, .string y, .iface u4 z4]), .bool true])) (w8.setCell ⟨Cpb, 2, none⟩ (.int .i64 ((s3.depth : Int) - 1))) from ⟨_, _, rfl, ⟨⟨_, rfl, HYS.out, hv4.1⟩, by simp, hv4.2.2⟩, HPd.out, HOd.out⟩)
      clear hv4
      go_wp2
      go_ret2
      exact HE.out
    | @qu_bad _ _ hka hc hd2 =>
      rw [eN] at hc hd2 ⊢
      have HA1 := Lib.hid (fun w1 h2 => accept_no Cb Cpb Cmb Cn Cc CT CA sN ⟨#[44]⟩ w1 h2 hc)
      have HA2 := Lib.hid (fun w1 h2 => accept_no Cb Cpb Cmb Cn Cc CT CA sN ⟨#[46]⟩ w1 h2 hd2)
      have hd : 0 < sN.depth := by omega
      clear hka hc hd2 ih hg h ht hk hk2 hlt hts hsI hsN eN gI gN hpI hy hys hs1 ep htok nN e2
      go_enter Tryz.func69, Tryz.ntmps69
      go_wp2_with fail
      refine HKp.out.mono ?_
      rintro e w1 ⟨rfl, hb1⟩
      have h1 := HP0.out.below hb1
      have HO1 := Lib.hid (HO0.out.trans (Owns.of_below hb1 (Fp Cpb Cmb)))
      obtain ⟨W, hW⟩ : ∃ W, w1.setCell ⟨Cpb, 2, none⟩ (.int .i64 ((s.depth : Int) + 1)) = W := ⟨_, rfl⟩
      have h2 := HD.out w1 h1
      have HO2 := Lib.hid (HO1.out.trans (owns_set w1 ⟨Cpb, 2, none⟩ (.int .i64 ((s.depth : Int) + 1)) (.inl rfl)))
      rw [hW] at h2 HO2
      obtain ⟨c0, c1, c2, c3, c4, c5, c6⟩ := h1.cells
      have f1 := h1.fz
      obtain ⟨d0, d1, d2, d3, d4, d5, d6⟩ := h2.cells
      rw [HE2.out] at d2
      have HP2 := Lib.hid h2
      clear hb1 h1 h2
      go_wp2_with fail
      refine (HNm.out W (by rw [← HSX.out]; exact HP2.out)).mono ?_
      rintro e w5 ⟨rfl, hP5, hO5⟩
      have HP5 := Lib.hid hP5
      have HO5 := Lib.hid (HO2.out.trans hO5)
      clear hP5 hO5 c0 c1 c2 c3 c4 c5 c6 f1 d0 d1 d2 d3 d4 d5 d6 hW
      go_wp2_with fail
      refine (HA1.out w5 HP5.out).mono ?_
      rintro e w6 ⟨rfl, hb6⟩
      have HP6 := Lib.hid (HP5.out.below hb6)
      have HO6 := Lib.hid (HO5.out.trans (Owns.of_below hb6 (Fp Cpb Cmb)))
      clear hb6
      go_wp2_with fail
      refine (HA2.out w6 HP6.out).mono ?_
      rintro e w7 ⟨rfl, hb7⟩
      have HP7 := Lib.hid (HP6.out.below hb7)
      have HO7 := Lib.hid (HO6.out.trans (Owns.of_below hb7 (Fp Cpb Cmb)))
      clear hb7
      obtain ⟨c0, c1, c2, c3, c4, c5, c6⟩ := HP7.out.cells
      have fz2 := HP7.out.fz
      have hdl : sN.depth ≤ 4001 := by have := HP7.out.depth; have := HP7.out.next; (try dsimp only at *); omega
      have HPd := Lib.hid (HP7.out.down hd)
      have HOd := Lib.hid (HO7.out.trans (owns_set w7 ⟨Cpb, 2, none⟩ (.int .i64 ((sN.depth : Int) - 1)) (.inl rfl)))
      go_wp2_with fail
      have HE := Lib.hid (show FPost ⟨Cb, Cpb, Cmb, CT, CA, Cn, Cc⟩ none (dn sN) w (.returned (.tuple #[.nilIface, .bool false])) (w7.setCell ⟨Cpb, 2, none⟩ (.int .i64 ((sN.depth : Int) - 1))) from ⟨_, rfl, rfl, HPd.out, HOd.out⟩)
      go_wp2
      go_ret2
      exact HE.out
end Pa
end Go.Proofs.YtkjbfomokdjbnaaGreat
