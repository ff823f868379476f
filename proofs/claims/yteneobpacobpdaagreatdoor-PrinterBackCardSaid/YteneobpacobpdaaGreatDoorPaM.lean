/-
  The parser: quant.
-/
import Derived.Test.YteneobpacobpdaaGreatDoorHy
import Derived.Test.YteneobpacobpdaaGreatDoorPaI
set_option linter.unusedSimpArgs false
set_option linter.unusedVariables false
set_option maxRecDepth 100000
set_option maxHeartbeats 16000000
namespace Go.Proofs.YteneobpacobpdaaGreatDoor
open Go.RowKit
namespace Pa
open Lx Fm Dc
attribute [local go_sem] run_store fieldTok0 fieldTok2
attribute [local go_sem] anF_Num anF_Name anF_Add anF_Sub anF_Mul anF_Neg anF_Pow anF_Truth anF_Atom anF_Not anF_And anF_Or anF_Implies anF_Iff anF_Quant anT_Num anT_Name anT_Add anT_Sub anT_Mul anT_Neg anT_Pow
theorem pk_inc (T : List Tok) (s : PS) : pk T (inc T s) = pk T s := by unfold pk; rw [inc_next]
theorem quant_walk (C : Cx) (a : Bool) (s : PS) (r : Option PV) (s' : PS) (hB : Big C.T (.qu a) s r s') (hg : Gd s) (htok : TokOk C.T) (ih : IH C (mea C.T (.qu a) s)) (w : World) (h : C.At s w) :
  Calls Tryz.prog 107 #[C.p, .bool a] w (FPost C r s' w) := by
 have hn := h.hn
 have hnext := h.next
 have hlen := h.len
 obtain ⟨Cb, Cpb, Cmb, CT, CA, Cn, Cc⟩ := C
 dsimp only at *
 have HKp := h_ (peek_any Cb Cpb Cmb Cn Cc CT CA s w h)
 obtain ⟨t, ht⟩ : ∃ t, t = pk CT s := ⟨_, rfl⟩
 obtain ⟨k, hk⟩ : ∃ k : Int, k = (t.kind : Int) := ⟨_, rfl⟩
 rw [← ht, ← hk] at HKp
 by_cases hk2 : t.kind = 2
 case neg =>
  have hkn : (k == 2) = false := by rw [hk, beq_eq_false_iff_ne]; omega
  have hr : r = none ∧ s' = s := by cases hB <;> first | exact ⟨rfl, rfl⟩ | (rename_i e _ _; exact absurd (by rw [ht]; exact e) hk2) | (rename_i e _ _ _; exact absurd (by rw [ht]; exact e) hk2)
  obtain ⟨rfl, rfl⟩ := hr
  have HP0 := h_ h
  have HO0 := h_ (Owns.refl w (Fp Cpb Cmb))
  clear hB ih hg h ht hk hk2
  go_enter Tryz.func107, Tryz.ntmps107
  go_wp2_with fail
  refine HKp.out.mono ?_
  rintro e w1 ⟨rfl, hb1⟩
  have HE := h_ (show FPost ⟨Cb, Cpb, Cmb, CT, CA, Cn, Cc⟩ none s' w (.returned (.tuple #[.nilIface, .bool false])) w1 from ⟨_, rfl, rfl, HP0.out.below hb1, HO0.out.trans (Owns.of_below hb1 _)⟩)
  clear hb1
  go_wp2
  go_ret2
  exact HE.out
 have hlt : s.next < CT.length := pk_lt (by rw [← ht, hk2]; decide)
 have hlt' : s.next < Cn := by rw [hn]; exact hlt
 obtain rfl : k = 2 := by rw [hk, hk2]; rfl
 have hts : t.text.length ≤ 40 := by rw [ht]; exact htok.pk s
 obtain ⟨sI, hsI⟩ : ∃ sI, sI = inc CT s := ⟨_, rfl⟩
 obtain ⟨sN, hsN⟩ : ∃ sN, sN = nam CT sI := ⟨_, rfl⟩
 have eN : nam CT (inc CT s) = sN := by rw [hsN, hsI]
 have gI : sI.names.length ≤ sI.next ∧ sI.next = s.next ∧ sI.depth = s.depth + 1 := by
  obtain ⟨e1, e2, e3, e4⟩ := inc_eq CT s
  rw [hsI, e1, e2, e4]
  exact ⟨hg.2.2, rfl, rfl⟩
 have gN : Gd sN := by rw [← eN]; exact hg.c_naminc
 have nN : sN.next = s.next + 1 ∧ sN.depth = s.depth + 1 := by rw [hsN, nam_next, nam_depth]; exact ⟨by rw [gI.2.1], gI.2.2⟩
 have hpI : pk CT sI = t := by rw [hsI, pk_inc, ht]
 have HNm := h_ (fun w1 h2 => name_any Cb Cpb Cmb Cn Cc CT CA sI w1 h2 gI.1 (by rw [gI.2.1]; exact hlt') (by rw [hpI]; omega))
 rw [hpI, ← hsN] at HNm
 obtain ⟨y, hy⟩ : ∃ y, y = bs t.text := ⟨_, rfl⟩
 rw [← hy] at HNm
 have hys : y.size ≤ 9223372036854775807 := by rw [hy, bs_size]; omega
 have hdep := hg.1
 obtain ⟨s1, hs1⟩ : ∃ s1, s1 = { s with depth := s.depth + 1 } := ⟨_, rfl⟩
 have HD := h_ (show ∀ w1, PAt Cb Cpb Cmb CT CA Cn Cc s w1 → PAt Cb Cpb Cmb CT CA Cn Cc s1 (w1.setCell ⟨Cpb, 2, none⟩ (.int .i64 ((s.depth : Int) + 1))) from fun w1 h => h.set (s' := s1) 2 _ (by rw [hs1]; rfl) (by rw [hs1]) (by rw [hs1]; exact h.next) (by rw [hs1]; show s.depth + 1 ≤ s.next + 1; omega) (by rw [hs1]; exact h.rels) (by rw [hs1]; exact h.nms))
 have e2 : s1.depth = s.depth + 1 := by rw [hs1]
 have HKq := h_ (fun w1 h2 => peek_any Cb Cpb Cmb Cn Cc CT CA s1 w1 h2)
 have ep : pk CT s1 = t := by rw [ht, hs1]; rfl
 rw [ep] at HKq
 have HXc := h_ (fun w1 h2 => exceed_any Cb Cpb Cmb Cn Cc CT CA s1 t.pos w1 h2)
 have HP0 := h_ h
 have HO0 := h_ (Owns.refl w (Fp Cpb Cmb))
 have HE2 := h_ e2
 have HYS := h_ hys
 by_cases h60 : 60 < s.depth + 1
 case pos =>
  have HSX := h_ (show exc s1 t.pos = sI by rw [hsI, hs1, ht]; unfold inc; rw [if_pos h60])
  cases hB with
  | qu_no e => exact absurd (by rw [← ht]; exact hk2) e
  | @qu_comma_no _ _ s3 hka hc h1 =>
   rw [eN] at hc h1
   have HA1 := h_ (fun w1 h2 => accept_yes Cb Cpb Cmb Cn Cc CT CA sN ⟨#[44]⟩ w1 h2 hc)
   have HI := h_ (fun w2 => ih _ _ (mea_adv (show s.next < sN.next + 1 by omega) hlt) _ _ h1 gN.c_adv (notEncl (by simp)) w2)
   have hd : 0 < s3.depth := by rw [h1.depth, adv_depth]; omega
   clear hka hc h1 ih hg h ht hk hk2 hlt hts hsI hsN eN gI gN hpI hy hys hs1 ep htok nN e2
   go_enter Tryz.func107, Tryz.ntmps107
   go_wp2_with fail
   refine HKp.out.mono ?_
   rintro e w1 ⟨rfl, hb1⟩
   have h1 := HP0.out.below hb1
   have HO1 := h_ (HO0.out.trans (Owns.of_below hb1 (Fp Cpb Cmb)))
   obtain ⟨W, hW⟩ : ∃ W, w1.setCell ⟨Cpb, 2, none⟩ (.int .i64 ((s.depth : Int) + 1)) = W := ⟨_, rfl⟩
   have h2 := HD.out w1 h1
   have HO2 := h_ (HO1.out.trans (owns_set w1 ⟨Cpb, 2, none⟩ (.int .i64 ((s.depth : Int) + 1)) (.inl rfl)))
   rw [hW] at h2 HO2
   obtain ⟨c0, c1, c2, c3, c4, c5, c6⟩ := h1.cells
   have f1 := h1.fz
   obtain ⟨d0, d1, d2, d3, d4, d5, d6⟩ := h2.cells
   rw [HE2.out] at d2
   have HP2 := h_ h2
   clear hb1 h1 h2
   go_wp2_with fail
   refine (HKq.out W HP2.out).mono ?_
   rintro e w3 ⟨rfl, hb3⟩
   have HP3 := h_ (HP2.out.below hb3)
   have HO3 := h_ (HO2.out.trans (Owns.of_below hb3 (Fp Cpb Cmb)))
   clear hb3 c0 c1 c2 c3 c4 c5 c6 f1 d0 d1 d2 d3 d4 d5 d6 hW
   go_wp2_with fail
   refine (HXc.out w3 HP3.out).mono ?_
   rintro e w4 ⟨rfl, hP4, hO4⟩
   rw [HSX.out] at hP4
   have HP4 := h_ hP4
   have HO4 := h_ (HO3.out.trans hO4)
   clear hP4 hO4
   go_wp2_with fail
   refine (HNm.out w4 HP4.out).mono ?_
   rintro e w5 ⟨rfl, hP5, hO5⟩
   have HP5 := h_ hP5
   have HO5 := h_ (HO4.out.trans hO5)
   clear hP5 hO5
   go_wp2_with fail
   refine (HA1.out w5 HP5.out).mono ?_
   rintro e w6 ⟨rfl, hP6, hO6⟩
   have HP6 := h_ hP6
   have HO6 := h_ (HO5.out.trans hO6)
   clear hP6 hO6
   go_wp2_with fail
   refine (HI.out w6 HP6.out).mono ?_
   rintro e w7 ⟨v7, rfl, hov7, hP7, hO7⟩
   have HP7 := h_ hP7
   have HO7 := h_ (HO6.out.trans hO7)
   clear hP7 hO7
   obtain ⟨c0, c1, c2, c3, c4, c5, c6⟩ := HP7.out.cells
   have fz2 := HP7.out.fz
   have hdl : s3.depth ≤ 4001 := by have := HP7.out.depth; have := HP7.out.next; (try dsimp only at *); omega
   have HPd := h_ (HP7.out.down hd)
   have HOd := h_ (HO7.out.trans (owns_set w7 ⟨Cpb, 2, none⟩ (.int .i64 ((s3.depth : Int) - 1)) (.inl rfl)))
   go_wp2_with fail
   have HE := h_ (show FPost ⟨Cb, Cpb, Cmb, CT, CA, Cn, Cc⟩ none (dn s3) w (.returned (.tuple #[.nilIface, .bool false])) (w7.setCell ⟨Cpb, 2, none⟩ (.int .i64 ((s3.depth : Int) - 1))) from ⟨_, rfl, rfl, HPd.out, HOd.out⟩)
   go_wp2
   go_ret2
   exact HE.out
  | @qu_comma _ _ x s3 hka hc h1 =>
   rw [← ht, ← hy]
   rw [eN] at hc h1
   have HA1 := h_ (fun w1 h2 => accept_yes Cb Cpb Cmb Cn Cc CT CA sN ⟨#[44]⟩ w1 h2 hc)
   have HI := h_ (fun w2 => ih _ _ (mea_adv (show s.next < sN.next + 1 by omega) hlt) _ _ h1 gN.c_adv (notEncl (by simp)) w2)
   have hd : 0 < s3.depth := by rw [h1.depth, adv_depth]; omega
   clear hka hc h1 ih hg h ht hk hk2 hlt hts hsI hsN eN gI gN hpI hy hys hs1 ep htok nN e2
   go_enter Tryz.func107, Tryz.ntmps107
   go_wp2_with fail
   refine HKp.out.mono ?_
   rintro e w1 ⟨rfl, hb1⟩
   have h1 := HP0.out.below hb1
   have HO1 := h_ (HO0.out.trans (Owns.of_below hb1 (Fp Cpb Cmb)))
   obtain ⟨W, hW⟩ : ∃ W, w1.setCell ⟨Cpb, 2, none⟩ (.int .i64 ((s.depth : Int) + 1)) = W := ⟨_, rfl⟩
   have h2 := HD.out w1 h1
   have HO2 := h_ (HO1.out.trans (owns_set w1 ⟨Cpb, 2, none⟩ (.int .i64 ((s.depth : Int) + 1)) (.inl rfl)))
   rw [hW] at h2 HO2
   obtain ⟨c0, c1, c2, c3, c4, c5, c6⟩ := h1.cells
   have f1 := h1.fz
   obtain ⟨d0, d1, d2, d3, d4, d5, d6⟩ := h2.cells
   rw [HE2.out] at d2
   have HP2 := h_ h2
   clear hb1 h1 h2
   go_wp2_with fail
   refine (HKq.out W HP2.out).mono ?_
   rintro e w3 ⟨rfl, hb3⟩
   have HP3 := h_ (HP2.out.below hb3)
   have HO3 := h_ (HO2.out.trans (Owns.of_below hb3 (Fp Cpb Cmb)))
   clear hb3 c0 c1 c2 c3 c4 c5 c6 f1 d0 d1 d2 d3 d4 d5 d6 hW
   go_wp2_with fail
   refine (HXc.out w3 HP3.out).mono ?_
   rintro e w4 ⟨rfl, hP4, hO4⟩
   rw [HSX.out] at hP4
   have HP4 := h_ hP4
   have HO4 := h_ (HO3.out.trans hO4)
   clear hP4 hO4
   go_wp2_with fail
   refine (HNm.out w4 HP4.out).mono ?_
   rintro e w5 ⟨rfl, hP5, hO5⟩
   have HP5 := h_ hP5
   have HO5 := h_ (HO4.out.trans hO5)
   clear hP5 hO5
   go_wp2_with fail
   refine (HA1.out w5 HP5.out).mono ?_
   rintro e w6 ⟨rfl, hP6, hO6⟩
   have HP6 := h_ hP6
   have HO6 := h_ (HO5.out.trans hO6)
   clear hP6 hO6
   go_wp2_with fail
   refine (HI.out w6 HP6.out).mono ?_
   rintro e w7 ⟨u7, z7, rfl, hv7, hP7, hO7⟩
   have HV7 := h_ hv7
   have HP7 := h_ hP7
   have HO7 := h_ (HO6.out.trans hO7)
   clear hv7 hP7 hO7
   obtain ⟨c0, c1, c2, c3, c4, c5, c6⟩ := HP7.out.cells
   have fz2 := HP7.out.fz
   have hdl : s3.depth ≤ 4001 := by have := HP7.out.depth; have := HP7.out.next; (try dsimp only at *); omega
   have HPd := h_ (HP7.out.down hd)
   have HOd := h_ (HO7.out.trans (owns_set w7 ⟨Cpb, 2, none⟩ (.int .i64 ((s3.depth : Int) - 1)) (.inl rfl)))
   have HVd := h_ (HV7.out.owns (owns_set w7 ⟨Cpb, 2, none⟩ (.int .i64 ((s3.depth : Int) - 1)) (.inl rfl)))
   have HF1 := h_ (asFormula_any _ _ _ _ HVd.out)
   go_wp2_with fail
   refine HF1.out.mono ?_
   rintro e wZ ⟨u4, z4, rfl, rfl, hv4⟩
   have HE := h_ (show FPost ⟨Cb, Cpb, Cmb, CT, CA, Cn, Cc⟩ (some (.fo (.quant a y (asF x)))) (dn s3) w (.returned (.tuple #[.iface tQuant (.agg #[.bool a, .string y, .iface u4 z4]), .bool true])) (w7.setCell ⟨Cpb, 2, none⟩ (.int .i64 ((s3.depth : Int) - 1))) from ⟨_, _, rfl, ⟨⟨_, rfl, HYS.out, hv4.1⟩, by simp, hv4.2.2⟩, HPd.out, HOd.out⟩)
   clear hv4
   go_wp2
   go_ret2
   exact HE.out
  | @qu_dot_no _ _ s3 hka hc hd2 h1 =>
   rw [eN] at hc hd2 h1
   have HA1 := h_ (fun w1 h2 => accept_no Cb Cpb Cmb Cn Cc CT CA sN ⟨#[44]⟩ w1 h2 hc)
   have HA2 := h_ (fun w1 h2 => accept_yes Cb Cpb Cmb Cn Cc CT CA sN ⟨#[46]⟩ w1 h2 hd2)
   have HI := h_ (fun w2 => ih _ _ (mea_adv (show s.next < sN.next + 1 by omega) hlt) _ _ h1 gN.c_adv (notEncl (by simp)) w2)
   have hd : 0 < s3.depth := by rw [h1.depth, adv_depth]; omega
   clear hka hc hd2 h1 ih hg h ht hk hk2 hlt hts hsI hsN eN gI gN hpI hy hys hs1 ep htok nN e2
   go_enter Tryz.func107, Tryz.ntmps107
   go_wp2_with fail
   refine HKp.out.mono ?_
   rintro e w1 ⟨rfl, hb1⟩
   have h1 := HP0.out.below hb1
   have HO1 := h_ (HO0.out.trans (Owns.of_below hb1 (Fp Cpb Cmb)))
   obtain ⟨W, hW⟩ : ∃ W, w1.setCell ⟨Cpb, 2, none⟩ (.int .i64 ((s.depth : Int) + 1)) = W := ⟨_, rfl⟩
   have h2 := HD.out w1 h1
   have HO2 := h_ (HO1.out.trans (owns_set w1 ⟨Cpb, 2, none⟩ (.int .i64 ((s.depth : Int) + 1)) (.inl rfl)))
   rw [hW] at h2 HO2
   obtain ⟨c0, c1, c2, c3, c4, c5, c6⟩ := h1.cells
   have f1 := h1.fz
   obtain ⟨d0, d1, d2, d3, d4, d5, d6⟩ := h2.cells
   rw [HE2.out] at d2
   have HP2 := h_ h2
   clear hb1 h1 h2
   go_wp2_with fail
   refine (HKq.out W HP2.out).mono ?_
   rintro e w3 ⟨rfl, hb3⟩
   have HP3 := h_ (HP2.out.below hb3)
   have HO3 := h_ (HO2.out.trans (Owns.of_below hb3 (Fp Cpb Cmb)))
   clear hb3 c0 c1 c2 c3 c4 c5 c6 f1 d0 d1 d2 d3 d4 d5 d6 hW
   go_wp2_with fail
   refine (HXc.out w3 HP3.out).mono ?_
   rintro e w4 ⟨rfl, hP4, hO4⟩
   rw [HSX.out] at hP4
   have HP4 := h_ hP4
   have HO4 := h_ (HO3.out.trans hO4)
   clear hP4 hO4
   go_wp2_with fail
   refine (HNm.out w4 HP4.out).mono ?_
   rintro e w5 ⟨rfl, hP5, hO5⟩
   have HP5 := h_ hP5
   have HO5 := h_ (HO4.out.trans hO5)
   clear hP5 hO5
   go_wp2_with fail
   refine (HA1.out w5 HP5.out).mono ?_
   rintro e w6 ⟨rfl, hb6⟩
   have HP6 := h_ (HP5.out.below hb6)
   have HO6 := h_ (HO5.out.trans (Owns.of_below hb6 (Fp Cpb Cmb)))
   clear hb6
   go_wp2_with fail
   refine (HA2.out w6 HP6.out).mono ?_
   rintro e w7 ⟨rfl, hP7, hO7⟩
   have HP7 := h_ hP7
   have HO7 := h_ (HO6.out.trans hO7)
   clear hP7 hO7
   go_wp2_with fail
   refine (HI.out w7 HP7.out).mono ?_
   rintro e w8 ⟨v8, rfl, hov8, hP8, hO8⟩
   have HP8 := h_ hP8
   have HO8 := h_ (HO7.out.trans hO8)
   clear hP8 hO8
   obtain ⟨c0, c1, c2, c3, c4, c5, c6⟩ := HP8.out.cells
   have fz2 := HP8.out.fz
   have hdl : s3.depth ≤ 4001 := by have := HP8.out.depth; have := HP8.out.next; (try dsimp only at *); omega
   have HPd := h_ (HP8.out.down hd)
   have HOd := h_ (HO8.out.trans (owns_set w8 ⟨Cpb, 2, none⟩ (.int .i64 ((s3.depth : Int) - 1)) (.inl rfl)))
   go_wp2_with fail
   have HE := h_ (show FPost ⟨Cb, Cpb, Cmb, CT, CA, Cn, Cc⟩ none (dn s3) w (.returned (.tuple #[.nilIface, .bool false])) (w8.setCell ⟨Cpb, 2, none⟩ (.int .i64 ((s3.depth : Int) - 1))) from ⟨_, rfl, rfl, HPd.out, HOd.out⟩)
   go_wp2
   go_ret2
   exact HE.out
  | @qu_dot _ _ x s3 hka hc hd2 h1 =>
   rw [← ht, ← hy]
   rw [eN] at hc hd2 h1
   have HA1 := h_ (fun w1 h2 => accept_no Cb Cpb Cmb Cn Cc CT CA sN ⟨#[44]⟩ w1 h2 hc)
   have HA2 := h_ (fun w1 h2 => accept_yes Cb Cpb Cmb Cn Cc CT CA sN ⟨#[46]⟩ w1 h2 hd2)
   have HI := h_ (fun w2 => ih _ _ (mea_adv (show s.next < sN.next + 1 by omega) hlt) _ _ h1 gN.c_adv (notEncl (by simp)) w2)
   have hd : 0 < s3.depth := by rw [h1.depth, adv_depth]; omega
   clear hka hc hd2 h1 ih hg h ht hk hk2 hlt hts hsI hsN eN gI gN hpI hy hys hs1 ep htok nN e2
   go_enter Tryz.func107, Tryz.ntmps107
   go_wp2_with fail
   refine HKp.out.mono ?_
   rintro e w1 ⟨rfl, hb1⟩
   have h1 := HP0.out.below hb1
   have HO1 := h_ (HO0.out.trans (Owns.of_below hb1 (Fp Cpb Cmb)))
   obtain ⟨W, hW⟩ : ∃ W, w1.setCell ⟨Cpb, 2, none⟩ (.int .i64 ((s.depth : Int) + 1)) = W := ⟨_, rfl⟩
   have h2 := HD.out w1 h1
   have HO2 := h_ (HO1.out.trans (owns_set w1 ⟨Cpb, 2, none⟩ (.int .i64 ((s.depth : Int) + 1)) (.inl rfl)))
   rw [hW] at h2 HO2
   obtain ⟨c0, c1, c2, c3, c4, c5, c6⟩ := h1.cells
   have f1 := h1.fz
   obtain ⟨d0, d1, d2, d3, d4, d5, d6⟩ := h2.cells
   rw [HE2.out] at d2
   have HP2 := h_ h2
   clear hb1 h1 h2
   go_wp2_with fail
   refine (HKq.out W HP2.out).mono ?_
   rintro e w3 ⟨rfl, hb3⟩
   have HP3 := h_ (HP2.out.below hb3)
   have HO3 := h_ (HO2.out.trans (Owns.of_below hb3 (Fp Cpb Cmb)))
   clear hb3 c0 c1 c2 c3 c4 c5 c6 f1 d0 d1 d2 d3 d4 d5 d6 hW
   go_wp2_with fail
   refine (HXc.out w3 HP3.out).mono ?_
   rintro e w4 ⟨rfl, hP4, hO4⟩
   rw [HSX.out] at hP4
   have HP4 := h_ hP4
   have HO4 := h_ (HO3.out.trans hO4)
   clear hP4 hO4
   go_wp2_with fail
   refine (HNm.out w4 HP4.out).mono ?_
   rintro e w5 ⟨rfl, hP5, hO5⟩
   have HP5 := h_ hP5
   have HO5 := h_ (HO4.out.trans hO5)
   clear hP5 hO5
   go_wp2_with fail
   refine (HA1.out w5 HP5.out).mono ?_
   rintro e w6 ⟨rfl, hb6⟩
   have HP6 := h_ (HP5.out.below hb6)
   have HO6 := h_ (HO5.out.trans (Owns.of_below hb6 (Fp Cpb Cmb)))
   clear hb6
   go_wp2_with fail
   refine (HA2.out w6 HP6.out).mono ?_
   rintro e w7 ⟨rfl, hP7, hO7⟩
   have HP7 := h_ hP7
   have HO7 := h_ (HO6.out.trans hO7)
   clear hP7 hO7
   go_wp2_with fail
   refine (HI.out w7 HP7.out).mono ?_
   rintro e w8 ⟨u8, z8, rfl, hv8, hP8, hO8⟩
   have HV8 := h_ hv8
   have HP8 := h_ hP8
   have HO8 := h_ (HO7.out.trans hO8)
   clear hv8 hP8 hO8
   obtain ⟨c0, c1, c2, c3, c4, c5, c6⟩ := HP8.out.cells
   have fz2 := HP8.out.fz
   have hdl : s3.depth ≤ 4001 := by have := HP8.out.depth; have := HP8.out.next; (try dsimp only at *); omega
   have HPd := h_ (HP8.out.down hd)
   have HOd := h_ (HO8.out.trans (owns_set w8 ⟨Cpb, 2, none⟩ (.int .i64 ((s3.depth : Int) - 1)) (.inl rfl)))
   have HVd := h_ (HV8.out.owns (owns_set w8 ⟨Cpb, 2, none⟩ (.int .i64 ((s3.depth : Int) - 1)) (.inl rfl)))
   have HF1 := h_ (asFormula_any _ _ _ _ HVd.out)
   go_wp2_with fail
   refine HF1.out.mono ?_
   rintro e wZ ⟨u4, z4, rfl, rfl, hv4⟩
   have HE := h_ (show FPost ⟨Cb, Cpb, Cmb, CT, CA, Cn, Cc⟩ (some (.fo (.quant a y (asF x)))) (dn s3) w (.returned (.tuple #[.iface tQuant (.agg #[.bool a, .string y, .iface u4 z4]), .bool true])) (w8.setCell ⟨Cpb, 2, none⟩ (.int .i64 ((s3.depth : Int) - 1))) from ⟨_, _, rfl, ⟨⟨_, rfl, HYS.out, hv4.1⟩, by simp, hv4.2.2⟩, HPd.out, HOd.out⟩)
   clear hv4
   go_wp2
   go_ret2
   exact HE.out
  | @qu_bad _ _ hka hc hd2 =>
   rw [eN] at hc hd2 ⊢
   have HA1 := h_ (fun w1 h2 => accept_no Cb Cpb Cmb Cn Cc CT CA sN ⟨#[44]⟩ w1 h2 hc)
   have HA2 := h_ (fun w1 h2 => accept_no Cb Cpb Cmb Cn Cc CT CA sN ⟨#[46]⟩ w1 h2 hd2)
   have hd : 0 < sN.depth := by omega
   clear hka hc hd2 ih hg h ht hk hk2 hlt hts hsI hsN eN gI gN hpI hy hys hs1 ep htok nN e2
   go_enter Tryz.func107, Tryz.ntmps107
   go_wp2_with fail
   refine HKp.out.mono ?_
   rintro e w1 ⟨rfl, hb1⟩
   have h1 := HP0.out.below hb1
   have HO1 := h_ (HO0.out.trans (Owns.of_below hb1 (Fp Cpb Cmb)))
   obtain ⟨W, hW⟩ : ∃ W, w1.setCell ⟨Cpb, 2, none⟩ (.int .i64 ((s.depth : Int) + 1)) = W := ⟨_, rfl⟩
   have h2 := HD.out w1 h1
   have HO2 := h_ (HO1.out.trans (owns_set w1 ⟨Cpb, 2, none⟩ (.int .i64 ((s.depth : Int) + 1)) (.inl rfl)))
   rw [hW] at h2 HO2
   obtain ⟨c0, c1, c2, c3, c4, c5, c6⟩ := h1.cells
   have f1 := h1.fz
   obtain ⟨d0, d1, d2, d3, d4, d5, d6⟩ := h2.cells
   rw [HE2.out] at d2
   have HP2 := h_ h2
   clear hb1 h1 h2
   go_wp2_with fail
   refine (HKq.out W HP2.out).mono ?_
   rintro e w3 ⟨rfl, hb3⟩
   have HP3 := h_ (HP2.out.below hb3)
   have HO3 := h_ (HO2.out.trans (Owns.of_below hb3 (Fp Cpb Cmb)))
   clear hb3 c0 c1 c2 c3 c4 c5 c6 f1 d0 d1 d2 d3 d4 d5 d6 hW
   go_wp2_with fail
   refine (HXc.out w3 HP3.out).mono ?_
   rintro e w4 ⟨rfl, hP4, hO4⟩
   rw [HSX.out] at hP4
   have HP4 := h_ hP4
   have HO4 := h_ (HO3.out.trans hO4)
   clear hP4 hO4
   go_wp2_with fail
   refine (HNm.out w4 HP4.out).mono ?_
   rintro e w5 ⟨rfl, hP5, hO5⟩
   have HP5 := h_ hP5
   have HO5 := h_ (HO4.out.trans hO5)
   clear hP5 hO5
   go_wp2_with fail
   refine (HA1.out w5 HP5.out).mono ?_
   rintro e w6 ⟨rfl, hb6⟩
   have HP6 := h_ (HP5.out.below hb6)
   have HO6 := h_ (HO5.out.trans (Owns.of_below hb6 (Fp Cpb Cmb)))
   clear hb6
   go_wp2_with fail
   refine (HA2.out w6 HP6.out).mono ?_
   rintro e w7 ⟨rfl, hb7⟩
   have HP7 := h_ (HP6.out.below hb7)
   have HO7 := h_ (HO6.out.trans (Owns.of_below hb7 (Fp Cpb Cmb)))
   clear hb7
   obtain ⟨c0, c1, c2, c3, c4, c5, c6⟩ := HP7.out.cells
   have fz2 := HP7.out.fz
   have hdl : sN.depth ≤ 4001 := by have := HP7.out.depth; have := HP7.out.next; (try dsimp only at *); omega
   have HPd := h_ (HP7.out.down hd)
   have HOd := h_ (HO7.out.trans (owns_set w7 ⟨Cpb, 2, none⟩ (.int .i64 ((sN.depth : Int) - 1)) (.inl rfl)))
   go_wp2_with fail
   have HE := h_ (show FPost ⟨Cb, Cpb, Cmb, CT, CA, Cn, Cc⟩ none (dn sN) w (.returned (.tuple #[.nilIface, .bool false])) (w7.setCell ⟨Cpb, 2, none⟩ (.int .i64 ((sN.depth : Int) - 1))) from ⟨_, rfl, rfl, HPd.out, HOd.out⟩)
   go_wp2
   go_ret2
   exact HE.out
 case neg =>
  have HSX := h_ (show s1 = sI by rw [hsI, hs1]; unfold inc; rw [if_neg h60])
  have h60' : s.depth + 1 ≤ 60 := by omega
  clear h60
  cases hB with
  | qu_no e => exact absurd (by rw [← ht]; exact hk2) e
  | @qu_comma_no _ _ s3 hka hc h1 =>
   rw [eN] at hc h1
   have HA1 := h_ (fun w1 h2 => accept_yes Cb Cpb Cmb Cn Cc CT CA sN ⟨#[44]⟩ w1 h2 hc)
   have HI := h_ (fun w2 => ih _ _ (mea_adv (show s.next < sN.next + 1 by omega) hlt) _ _ h1 gN.c_adv (notEncl (by simp)) w2)
   have hd : 0 < s3.depth := by rw [h1.depth, adv_depth]; omega
   clear hka hc h1 ih hg h ht hk hk2 hlt hts hsI hsN eN gI gN hpI hy hys hs1 ep htok nN e2
   go_enter Tryz.func107, Tryz.ntmps107
   go_wp2_with fail
   refine HKp.out.mono ?_
   rintro e w1 ⟨rfl, hb1⟩
   have h1 := HP0.out.below hb1
   have HO1 := h_ (HO0.out.trans (Owns.of_below hb1 (Fp Cpb Cmb)))
   obtain ⟨W, hW⟩ : ∃ W, w1.setCell ⟨Cpb, 2, none⟩ (.int .i64 ((s.depth : Int) + 1)) = W := ⟨_, rfl⟩
   have h2 := HD.out w1 h1
   have HO2 := h_ (HO1.out.trans (owns_set w1 ⟨Cpb, 2, none⟩ (.int .i64 ((s.depth : Int) + 1)) (.inl rfl)))
   rw [hW] at h2 HO2
   obtain ⟨c0, c1, c2, c3, c4, c5, c6⟩ := h1.cells
   have f1 := h1.fz
   obtain ⟨d0, d1, d2, d3, d4, d5, d6⟩ := h2.cells
   rw [HE2.out] at d2
   have HP2 := h_ h2
   clear hb1 h1 h2
   go_wp2_with fail
   refine (HNm.out W (by rw [← HSX.out]; exact HP2.out)).mono ?_
   rintro e w5 ⟨rfl, hP5, hO5⟩
   have HP5 := h_ hP5
   have HO5 := h_ (HO2.out.trans hO5)
   clear hP5 hO5 c0 c1 c2 c3 c4 c5 c6 f1 d0 d1 d2 d3 d4 d5 d6 hW
   go_wp2_with fail
   refine (HA1.out w5 HP5.out).mono ?_
   rintro e w6 ⟨rfl, hP6, hO6⟩
   have HP6 := h_ hP6
   have HO6 := h_ (HO5.out.trans hO6)
   clear hP6 hO6
   go_wp2_with fail
   refine (HI.out w6 HP6.out).mono ?_
   rintro e w7 ⟨v7, rfl, hov7, hP7, hO7⟩
   have HP7 := h_ hP7
   have HO7 := h_ (HO6.out.trans hO7)
   clear hP7 hO7
   obtain ⟨c0, c1, c2, c3, c4, c5, c6⟩ := HP7.out.cells
   have fz2 := HP7.out.fz
   have hdl : s3.depth ≤ 4001 := by have := HP7.out.depth; have := HP7.out.next; (try dsimp only at *); omega
   have HPd := h_ (HP7.out.down hd)
   have HOd := h_ (HO7.out.trans (owns_set w7 ⟨Cpb, 2, none⟩ (.int .i64 ((s3.depth : Int) - 1)) (.inl rfl)))
   go_wp2_with fail
   have HE := h_ (show FPost ⟨Cb, Cpb, Cmb, CT, CA, Cn, Cc⟩ none (dn s3) w (.returned (.tuple #[.nilIface, .bool false])) (w7.setCell ⟨Cpb, 2, none⟩ (.int .i64 ((s3.depth : Int) - 1))) from ⟨_, rfl, rfl, HPd.out, HOd.out⟩)
   go_wp2
   go_ret2
   exact HE.out
  | @qu_comma _ _ x s3 hka hc h1 =>
   rw [← ht, ← hy]
   rw [eN] at hc h1
   have HA1 := h_ (fun w1 h2 => accept_yes Cb Cpb Cmb Cn Cc CT CA sN ⟨#[44]⟩ w1 h2 hc)
   have HI := h_ (fun w2 => ih _ _ (mea_adv (show s.next < sN.next + 1 by omega) hlt) _ _ h1 gN.c_adv (notEncl (by simp)) w2)
   have hd : 0 < s3.depth := by rw [h1.depth, adv_depth]; omega
   clear hka hc h1 ih hg h ht hk hk2 hlt hts hsI hsN eN gI gN hpI hy hys hs1 ep htok nN e2
   go_enter Tryz.func107, Tryz.ntmps107
   go_wp2_with fail
   refine HKp.out.mono ?_
   rintro e w1 ⟨rfl, hb1⟩
   have h1 := HP0.out.below hb1
   have HO1 := h_ (HO0.out.trans (Owns.of_below hb1 (Fp Cpb Cmb)))
   obtain ⟨W, hW⟩ : ∃ W, w1.setCell ⟨Cpb, 2, none⟩ (.int .i64 ((s.depth : Int) + 1)) = W := ⟨_, rfl⟩
   have h2 := HD.out w1 h1
   have HO2 := h_ (HO1.out.trans (owns_set w1 ⟨Cpb, 2, none⟩ (.int .i64 ((s.depth : Int) + 1)) (.inl rfl)))
   rw [hW] at h2 HO2
   obtain ⟨c0, c1, c2, c3, c4, c5, c6⟩ := h1.cells
   have f1 := h1.fz
   obtain ⟨d0, d1, d2, d3, d4, d5, d6⟩ := h2.cells
   rw [HE2.out] at d2
   have HP2 := h_ h2
   clear hb1 h1 h2
   go_wp2_with fail
   refine (HNm.out W (by rw [← HSX.out]; exact HP2.out)).mono ?_
   rintro e w5 ⟨rfl, hP5, hO5⟩
   have HP5 := h_ hP5
   have HO5 := h_ (HO2.out.trans hO5)
   clear hP5 hO5 c0 c1 c2 c3 c4 c5 c6 f1 d0 d1 d2 d3 d4 d5 d6 hW
   go_wp2_with fail
   refine (HA1.out w5 HP5.out).mono ?_
   rintro e w6 ⟨rfl, hP6, hO6⟩
   have HP6 := h_ hP6
   have HO6 := h_ (HO5.out.trans hO6)
   clear hP6 hO6
   go_wp2_with fail
   refine (HI.out w6 HP6.out).mono ?_
   rintro e w7 ⟨u7, z7, rfl, hv7, hP7, hO7⟩
   have HV7 := h_ hv7
   have HP7 := h_ hP7
   have HO7 := h_ (HO6.out.trans hO7)
   clear hv7 hP7 hO7
   obtain ⟨c0, c1, c2, c3, c4, c5, c6⟩ := HP7.out.cells
   have fz2 := HP7.out.fz
   have hdl : s3.depth ≤ 4001 := by have := HP7.out.depth; have := HP7.out.next; (try dsimp only at *); omega
   have HPd := h_ (HP7.out.down hd)
   have HOd := h_ (HO7.out.trans (owns_set w7 ⟨Cpb, 2, none⟩ (.int .i64 ((s3.depth : Int) - 1)) (.inl rfl)))
   have HVd := h_ (HV7.out.owns (owns_set w7 ⟨Cpb, 2, none⟩ (.int .i64 ((s3.depth : Int) - 1)) (.inl rfl)))
   have HF1 := h_ (asFormula_any _ _ _ _ HVd.out)
   go_wp2_with fail
   refine HF1.out.mono ?_
   rintro e wZ ⟨u4, z4, rfl, rfl, hv4⟩
   have HE := h_ (show FPost ⟨Cb, Cpb, Cmb, CT, CA, Cn, Cc⟩ (some (.fo (.quant a y (asF x)))) (dn s3) w (.returned (.tuple #[.iface tQuant (.agg #[.bool a, .string y, .iface u4 z4]), .bool true])) (w7.setCell ⟨Cpb, 2, none⟩ (.int .i64 ((s3.depth : Int) - 1))) from ⟨_, _, rfl, ⟨⟨_, rfl, HYS.out, hv4.1⟩, by simp, hv4.2.2⟩, HPd.out, HOd.out⟩)
   clear hv4
   go_wp2
   go_ret2
   exact HE.out
  | @qu_dot_no _ _ s3 hka hc hd2 h1 =>
   rw [eN] at hc hd2 h1
   have HA1 := h_ (fun w1 h2 => accept_no Cb Cpb Cmb Cn Cc CT CA sN ⟨#[44]⟩ w1 h2 hc)
   have HA2 := h_ (fun w1 h2 => accept_yes Cb Cpb Cmb Cn Cc CT CA sN ⟨#[46]⟩ w1 h2 hd2)
   have HI := h_ (fun w2 => ih _ _ (mea_adv (show s.next < sN.next + 1 by omega) hlt) _ _ h1 gN.c_adv (notEncl (by simp)) w2)
   have hd : 0 < s3.depth := by rw [h1.depth, adv_depth]; omega
   clear hka hc hd2 h1 ih hg h ht hk hk2 hlt hts hsI hsN eN gI gN hpI hy hys hs1 ep htok nN e2
   go_enter Tryz.func107, Tryz.ntmps107
   go_wp2_with fail
   refine HKp.out.mono ?_
   rintro e w1 ⟨rfl, hb1⟩
   have h1 := HP0.out.below hb1
   have HO1 := h_ (HO0.out.trans (Owns.of_below hb1 (Fp Cpb Cmb)))
   obtain ⟨W, hW⟩ : ∃ W, w1.setCell ⟨Cpb, 2, none⟩ (.int .i64 ((s.depth : Int) + 1)) = W := ⟨_, rfl⟩
   have h2 := HD.out w1 h1
   have HO2 := h_ (HO1.out.trans (owns_set w1 ⟨Cpb, 2, none⟩ (.int .i64 ((s.depth : Int) + 1)) (.inl rfl)))
   rw [hW] at h2 HO2
   obtain ⟨c0, c1, c2, c3, c4, c5, c6⟩ := h1.cells
   have f1 := h1.fz
   obtain ⟨d0, d1, d2, d3, d4, d5, d6⟩ := h2.cells
   rw [HE2.out] at d2
   have HP2 := h_ h2
   clear hb1 h1 h2
   go_wp2_with fail
   refine (HNm.out W (by rw [← HSX.out]; exact HP2.out)).mono ?_
   rintro e w5 ⟨rfl, hP5, hO5⟩
   have HP5 := h_ hP5
   have HO5 := h_ (HO2.out.trans hO5)
   clear hP5 hO5 c0 c1 c2 c3 c4 c5 c6 f1 d0 d1 d2 d3 d4 d5 d6 hW
   go_wp2_with fail
   refine (HA1.out w5 HP5.out).mono ?_
   rintro e w6 ⟨rfl, hb6⟩
   have HP6 := h_ (HP5.out.below hb6)
   have HO6 := h_ (HO5.out.trans (Owns.of_below hb6 (Fp Cpb Cmb)))
   clear hb6
   go_wp2_with fail
   refine (HA2.out w6 HP6.out).mono ?_
   rintro e w7 ⟨rfl, hP7, hO7⟩
   have HP7 := h_ hP7
   have HO7 := h_ (HO6.out.trans hO7)
   clear hP7 hO7
   go_wp2_with fail
   refine (HI.out w7 HP7.out).mono ?_
   rintro e w8 ⟨v8, rfl, hov8, hP8, hO8⟩
   have HP8 := h_ hP8
   have HO8 := h_ (HO7.out.trans hO8)
   clear hP8 hO8
   obtain ⟨c0, c1, c2, c3, c4, c5, c6⟩ := HP8.out.cells
   have fz2 := HP8.out.fz
   have hdl : s3.depth ≤ 4001 := by have := HP8.out.depth; have := HP8.out.next; (try dsimp only at *); omega
   have HPd := h_ (HP8.out.down hd)
   have HOd := h_ (HO8.out.trans (owns_set w8 ⟨Cpb, 2, none⟩ (.int .i64 ((s3.depth : Int) - 1)) (.inl rfl)))
   go_wp2_with fail
   have HE := h_ (show FPost ⟨Cb, Cpb, Cmb, CT, CA, Cn, Cc⟩ none (dn s3) w (.returned (.tuple #[.nilIface, .bool false])) (w8.setCell ⟨Cpb, 2, none⟩ (.int .i64 ((s3.depth : Int) - 1))) from ⟨_, rfl, rfl, HPd.out, HOd.out⟩)
   go_wp2
   go_ret2
   exact HE.out
  | @qu_dot _ _ x s3 hka hc hd2 h1 =>
   rw [← ht, ← hy]
   rw [eN] at hc hd2 h1
   have HA1 := h_ (fun w1 h2 => accept_no Cb Cpb Cmb Cn Cc CT CA sN ⟨#[44]⟩ w1 h2 hc)
   have HA2 := h_ (fun w1 h2 => accept_yes Cb Cpb Cmb Cn Cc CT CA sN ⟨#[46]⟩ w1 h2 hd2)
   have HI := h_ (fun w2 => ih _ _ (mea_adv (show s.next < sN.next + 1 by omega) hlt) _ _ h1 gN.c_adv (notEncl (by simp)) w2)
   have hd : 0 < s3.depth := by rw [h1.depth, adv_depth]; omega
   clear hka hc hd2 h1 ih hg h ht hk hk2 hlt hts hsI hsN eN gI gN hpI hy hys hs1 ep htok nN e2
   go_enter Tryz.func107, Tryz.ntmps107
   go_wp2_with fail
   refine HKp.out.mono ?_
   rintro e w1 ⟨rfl, hb1⟩
   have h1 := HP0.out.below hb1
   have HO1 := h_ (HO0.out.trans (Owns.of_below hb1 (Fp Cpb Cmb)))
   obtain ⟨W, hW⟩ : ∃ W, w1.setCell ⟨Cpb, 2, none⟩ (.int .i64 ((s.depth : Int) + 1)) = W := ⟨_, rfl⟩
   have h2 := HD.out w1 h1
   have HO2 := h_ (HO1.out.trans (owns_set w1 ⟨Cpb, 2, none⟩ (.int .i64 ((s.depth : Int) + 1)) (.inl rfl)))
   rw [hW] at h2 HO2
   obtain ⟨c0, c1, c2, c3, c4, c5, c6⟩ := h1.cells
   have f1 := h1.fz
   obtain ⟨d0, d1, d2, d3, d4, d5, d6⟩ := h2.cells
   rw [HE2.out] at d2
   have HP2 := h_ h2
   clear hb1 h1 h2
   go_wp2_with fail
   refine (HNm.out W (by rw [← HSX.out]; exact HP2.out)).mono ?_
   rintro e w5 ⟨rfl, hP5, hO5⟩
   have HP5 := h_ hP5
   have HO5 := h_ (HO2.out.trans hO5)
   clear hP5 hO5 c0 c1 c2 c3 c4 c5 c6 f1 d0 d1 d2 d3 d4 d5 d6 hW
   go_wp2_with fail
   refine (HA1.out w5 HP5.out).mono ?_
   rintro e w6 ⟨rfl, hb6⟩
   have HP6 := h_ (HP5.out.below hb6)
   have HO6 := h_ (HO5.out.trans (Owns.of_below hb6 (Fp Cpb Cmb)))
   clear hb6
   go_wp2_with fail
   refine (HA2.out w6 HP6.out).mono ?_
   rintro e w7 ⟨rfl, hP7, hO7⟩
   have HP7 := h_ hP7
   have HO7 := h_ (HO6.out.trans hO7)
   clear hP7 hO7
   go_wp2_with fail
   refine (HI.out w7 HP7.out).mono ?_
   rintro e w8 ⟨u8, z8, rfl, hv8, hP8, hO8⟩
   have HV8 := h_ hv8
   have HP8 := h_ hP8
   have HO8 := h_ (HO7.out.trans hO8)
   clear hv8 hP8 hO8
   obtain ⟨c0, c1, c2, c3, c4, c5, c6⟩ := HP8.out.cells
   have fz2 := HP8.out.fz
   have hdl : s3.depth ≤ 4001 := by have := HP8.out.depth; have := HP8.out.next; (try dsimp only at *); omega
   have HPd := h_ (HP8.out.down hd)
   have HOd := h_ (HO8.out.trans (owns_set w8 ⟨Cpb, 2, none⟩ (.int .i64 ((s3.depth : Int) - 1)) (.inl rfl)))
   have HVd := h_ (HV8.out.owns (owns_set w8 ⟨Cpb, 2, none⟩ (.int .i64 ((s3.depth : Int) - 1)) (.inl rfl)))
   have HF1 := h_ (asFormula_any _ _ _ _ HVd.out)
   go_wp2_with fail
   refine HF1.out.mono ?_
   rintro e wZ ⟨u4, z4, rfl, rfl, hv4⟩
   have HE := h_ (show FPost ⟨Cb, Cpb, Cmb, CT, CA, Cn, Cc⟩ (some (.fo (.quant a y (asF x)))) (dn s3) w (.returned (.tuple #[.iface tQuant (.agg #[.bool a, .string y, .iface u4 z4]), .bool true])) (w8.setCell ⟨Cpb, 2, none⟩ (.int .i64 ((s3.depth : Int) - 1))) from ⟨_, _, rfl, ⟨⟨_, rfl, HYS.out, hv4.1⟩, by simp, hv4.2.2⟩, HPd.out, HOd.out⟩)
   clear hv4
   go_wp2
   go_ret2
   exact HE.out
  | @qu_bad _ _ hka hc hd2 =>
   rw [eN] at hc hd2 ⊢
   have HA1 := h_ (fun w1 h2 => accept_no Cb Cpb Cmb Cn Cc CT CA sN ⟨#[44]⟩ w1 h2 hc)
   have HA2 := h_ (fun w1 h2 => accept_no Cb Cpb Cmb Cn Cc CT CA sN ⟨#[46]⟩ w1 h2 hd2)
   have hd : 0 < sN.depth := by omega
   clear hka hc hd2 ih hg h ht hk hk2 hlt hts hsI hsN eN gI gN hpI hy hys hs1 ep htok nN e2
   go_enter Tryz.func107, Tryz.ntmps107
   go_wp2_with fail
   refine HKp.out.mono ?_
   rintro e w1 ⟨rfl, hb1⟩
   have h1 := HP0.out.below hb1
   have HO1 := h_ (HO0.out.trans (Owns.of_below hb1 (Fp Cpb Cmb)))
   obtain ⟨W, hW⟩ : ∃ W, w1.setCell ⟨Cpb, 2, none⟩ (.int .i64 ((s.depth : Int) + 1)) = W := ⟨_, rfl⟩
   have h2 := HD.out w1 h1
   have HO2 := h_ (HO1.out.trans (owns_set w1 ⟨Cpb, 2, none⟩ (.int .i64 ((s.depth : Int) + 1)) (.inl rfl)))
   rw [hW] at h2 HO2
   obtain ⟨c0, c1, c2, c3, c4, c5, c6⟩ := h1.cells
   have f1 := h1.fz
   obtain ⟨d0, d1, d2, d3, d4, d5, d6⟩ := h2.cells
   rw [HE2.out] at d2
   have HP2 := h_ h2
   clear hb1 h1 h2
   go_wp2_with fail
   refine (HNm.out W (by rw [← HSX.out]; exact HP2.out)).mono ?_
   rintro e w5 ⟨rfl, hP5, hO5⟩
   have HP5 := h_ hP5
   have HO5 := h_ (HO2.out.trans hO5)
   clear hP5 hO5 c0 c1 c2 c3 c4 c5 c6 f1 d0 d1 d2 d3 d4 d5 d6 hW
   go_wp2_with fail
   refine (HA1.out w5 HP5.out).mono ?_
   rintro e w6 ⟨rfl, hb6⟩
   have HP6 := h_ (HP5.out.below hb6)
   have HO6 := h_ (HO5.out.trans (Owns.of_below hb6 (Fp Cpb Cmb)))
   clear hb6
   go_wp2_with fail
   refine (HA2.out w6 HP6.out).mono ?_
   rintro e w7 ⟨rfl, hb7⟩
   have HP7 := h_ (HP6.out.below hb7)
   have HO7 := h_ (HO6.out.trans (Owns.of_below hb7 (Fp Cpb Cmb)))
   clear hb7
   obtain ⟨c0, c1, c2, c3, c4, c5, c6⟩ := HP7.out.cells
   have fz2 := HP7.out.fz
   have hdl : sN.depth ≤ 4001 := by have := HP7.out.depth; have := HP7.out.next; (try dsimp only at *); omega
   have HPd := h_ (HP7.out.down hd)
   have HOd := h_ (HO7.out.trans (owns_set w7 ⟨Cpb, 2, none⟩ (.int .i64 ((sN.depth : Int) - 1)) (.inl rfl)))
   go_wp2_with fail
   have HE := h_ (show FPost ⟨Cb, Cpb, Cmb, CT, CA, Cn, Cc⟩ none (dn sN) w (.returned (.tuple #[.nilIface, .bool false])) (w7.setCell ⟨Cpb, 2, none⟩ (.int .i64 ((sN.depth : Int) - 1))) from ⟨_, rfl, rfl, HPd.out, HOd.out⟩)
   go_wp2
   go_ret2
   exact HE.out
end Pa
end Go.Proofs.YteneobpacobpdaaGreatDoor
namespace Go.Proofs.YteneobpacobpdaaGreatDoor
open Go.RowKit
namespace Pa
open Lx Fm Dc
attribute [local go_sem] run_store fieldTok0 fieldTok2
attribute [local go_sem] anF_Num anF_Name anF_Add anF_Sub anF_Mul anF_Neg anF_Pow anF_Truth anF_Atom anF_Not anF_And anF_Or anF_Implies anF_Iff anF_Quant anT_Num anT_Name anT_Add anT_Sub anT_Mul anT_Neg anT_Pow
theorem Big.encl_lt {T : List Tok} {s s' : PS} {r : Option PV} (h : Big T .encl s r s') : s.next < s'.next := by
 cases h with
 | en_no h => have := h.mono; rw [opn_next] at this; exact this
 | en_bad h => have := h.mono; rw [opn_next] at this; exact this
 | en_ok h => have := h.mono; rw [opn_next] at this; exact Nat.lt_succ_of_lt this
theorem atom_walk (C : Cx) (b : Bool) (s : PS) (r : Option PV) (s' : PS) (hB : Big C.T (.atom b) s r s') (hg : Gd s) (htok : TokOk C.T) (ih : IH C (mea C.T (.atom b) s)) (w : World) (h : C.At s w) :
  Calls Tryz.prog 108 #[C.p, .bool b] w (FPost C r s' w) := by
 have hn := h.hn
 have hnext := h.next
 have hlen := h.len
 obtain ⟨Cb, Cpb, Cmb, CT, CA, Cn, Cc⟩ := C
 dsimp only at *
 cases hB with
 | at_no hsee h1 =>
  have HP0 := h_ h
  have HO0 := h_ (Owns.refl w (Fp Cpb Cmb))
  have HS := h_ (fun w1 h2 => sees_any Cb Cpb Cmb Cn Cc CT CA s ⟨#[40]⟩ true w1 h2 hsee)
  have HI := h_ (fun w2 => ih _ _ (mea_same (by simp [lvl])) _ _ h1 hg (fun _ => hsee) w2)
  clear h1 ih hg h hsee htok
  go_enter Tryz.func108, Tryz.ntmps108
  go_wp2_with fail
  refine (HS.out w HP0.out).mono ?_
  rintro e w1 ⟨rfl, hb1⟩
  have HP1 := h_ (HP0.out.below hb1)
  have HO1 := h_ (HO0.out.trans (Owns.of_below hb1 (Fp Cpb Cmb)))
  clear hb1
  go_wp2_with fail
  refine (HI.out w1 HP1.out).mono ?_
  rintro e w2 ⟨v2, rfl, hov2, hP2, hO2⟩
  have HP2 := h_ hP2
  have HO2 := h_ (HO1.out.trans hO2)
  clear hP2 hO2
  have HE := h_ (show FPost ⟨Cb, Cpb, Cmb, CT, CA, Cn, Cc⟩ none s' w (.returned (.tuple #[.nilIface, .bool false])) w2 from ⟨_, rfl, rfl, HP2.out, HO2.out⟩)
  go_wp2
  go_ret2
  exact HE.out
 | @at_fo _ _ f _ hsee h1 =>
  have HP0 := h_ h
  have HO0 := h_ (Owns.refl w (Fp Cpb Cmb))
  have HS := h_ (fun w1 h2 => sees_any Cb Cpb Cmb Cn Cc CT CA s ⟨#[40]⟩ true w1 h2 hsee)
  have HI := h_ (fun w2 => ih _ _ (mea_same (by simp [lvl])) _ _ h1 hg (fun _ => hsee) w2)
  clear h1 ih hg h hsee htok
  go_enter Tryz.func108, Tryz.ntmps108
  go_wp2_with fail
  refine (HS.out w HP0.out).mono ?_
  rintro e w1 ⟨rfl, hb1⟩
  have HP1 := h_ (HP0.out.below hb1)
  have HO1 := h_ (HO0.out.trans (Owns.of_below hb1 (Fp Cpb Cmb)))
  clear hb1
  go_wp2_with fail
  refine (HI.out w1 HP1.out).mono ?_
  rintro e w2 ⟨u2, z2, rfl, hv2, hP2, hO2⟩
  have HV2 := h_ hv2
  have HP2 := h_ hP2
  have HO2 := h_ (HO1.out.trans hO2)
  clear hv2 hP2 hO2
  obtain ⟨u, z, ee, hyF⟩ := HV2.out.isF
  injection ee with e1 e2
  obtain rfl := e1
  obtain rfl := e2
  have HE := h_ (show FPost ⟨Cb, Cpb, Cmb, CT, CA, Cn, Cc⟩ (some (.fo f)) s' w (.returned (.tuple #[.iface u2 z2, .bool true])) w2 from ⟨_, _, rfl, HV2.out, HP2.out, HO2.out⟩)
  go_wp2
  go_ret2
  exact HE.out
 | @at_par _ _ tf s0 _ _ hsee h1 h2 =>
  have HP0 := h_ h
  have HO0 := h_ (Owns.refl w (Fp Cpb Cmb))
  have HS := h_ (fun w1 h2 => sees_any Cb Cpb Cmb Cn Cc CT CA s ⟨#[40]⟩ true w1 h2 hsee)
  have HI := h_ (fun w2 => ih _ _ (mea_same (by simp [lvl])) _ _ h1 hg (fun _ => hsee) w2)
  have hmea : ∀ c s2, s0.next ≤ s2.next → mea CT c s2 < mea CT (.atom b) s := fun c s2 h => mea_adv (Nat.lt_of_lt_of_le h1.encl_lt h) (sees_lt hsee)
  have hg0 := h1.gd hg
  have hle := h1.mono
  clear h1
  cases h2 with
  | atT_no h3 =>
   have HT := h_ (fun w2 => ih _ _ (hmea _ _ (Nat.le_refl _)) _ _ h3 hg0 (notEncl (by simp)) w2)
   clear h3 ih hg hg0 h hsee htok hmea
   go_enter Tryz.func108, Tryz.ntmps108
   go_wp2_with fail
   refine (HS.out w HP0.out).mono ?_
   rintro e w1 ⟨rfl, hb1⟩
   have HP1 := h_ (HP0.out.below hb1)
   have HO1 := h_ (HO0.out.trans (Owns.of_below hb1 (Fp Cpb Cmb)))
   clear hb1
   go_wp2_with fail
   refine (HI.out w1 HP1.out).mono ?_
   rintro e w2 ⟨u2, z2, rfl, hv2, hP2, hO2⟩
   have HV2 := h_ hv2
   have HP2 := h_ hP2
   have HO2 := h_ (HO1.out.trans hO2)
   clear hv2 hP2 hO2
   obtain ⟨u, z, ee, hyF, hyT⟩ := HV2.out.isT
   injection ee with e1 e2
   obtain rfl := e1
   obtain rfl := e2
   go_wp2_with fail
   refine (HT.out w2 HP2.out _ (HV2.out)).mono ?_
   rintro e w3 ⟨v3, rfl, hov3, hP3, hO3⟩
   have HP3 := h_ hP3
   have HO3 := h_ (HO2.out.trans hO3)
   clear hP3 hO3
   have HE := h_ (show FPost ⟨Cb, Cpb, Cmb, CT, CA, Cn, Cc⟩ none s' w (.returned (.tuple #[.nilIface, .bool false])) w3 from ⟨_, rfl, rfl, HP3.out, HO3.out⟩)
   go_wp2
   go_ret2
   exact HE.out
  | @atT_bare _ _ _ l _ h3 hr hbs =>
   have HT := h_ (fun w2 => ih _ _ (hmea _ _ (Nat.le_refl _)) _ _ h3 hg0 (notEncl (by simp)) w2)
   have HKp := h_ (fun w2 h2 => peek_any Cb Cpb Cmb Cn Cc CT CA s' w2 h2)
   obtain ⟨t, ht⟩ : ∃ t, t = pk CT s' := ⟨_, rfl⟩
   rw [← ht] at HKp hr
   have HR := h_ (fun w2 => rel_any t w2)
   obtain ⟨y, hy⟩ : ∃ y, y = bs t.text := ⟨_, rfl⟩
   rw [← hy] at HR HKp
   rw [hr] at HR
   simp only [Bool.and_eq_true] at hbs
   obtain ⟨rfl, hsee2⟩ := hbs
   have HS2 := h_ (fun w1 h2 => sees_any Cb Cpb Cmb Cn Cc CT CA s' ⟨#[41]⟩ true w1 h2 hsee2)
   clear h3 ih hg hg0 h hsee htok hmea hr ht hy hsee2
   go_enter Tryz.func108, Tryz.ntmps108
   go_wp2_with fail
   refine (HS.out w HP0.out).mono ?_
   rintro e w1 ⟨rfl, hb1⟩
   have HP1 := h_ (HP0.out.below hb1)
   have HO1 := h_ (HO0.out.trans (Owns.of_below hb1 (Fp Cpb Cmb)))
   clear hb1
   go_wp2_with fail
   refine (HI.out w1 HP1.out).mono ?_
   rintro e w2 ⟨u2, z2, rfl, hv2, hP2, hO2⟩
   have HV2 := h_ hv2
   have HP2 := h_ hP2
   have HO2 := h_ (HO1.out.trans hO2)
   clear hv2 hP2 hO2
   obtain ⟨u, z, ee, hyF, hyT⟩ := HV2.out.isT
   injection ee with e1 e2
   obtain rfl := e1
   obtain rfl := e2
   go_wp2_with fail
   refine (HT.out w2 HP2.out _ (HV2.out)).mono ?_
   rintro e w3 ⟨u3, z3, rfl, hv3, hP3, hO3⟩
   have HV3 := h_ hv3
   have HP3 := h_ hP3
   have HO3 := h_ (HO2.out.trans hO3)
   clear hv3 hP3 hO3
   go_wp2_with fail
   refine (HKp.out w3 HP3.out).mono ?_
   rintro e w4 ⟨rfl, hb4⟩
   have hbel : Below w4.heap.size w4 (w4.alloc (.cells #[.int .i64 t.kind, .string y, .int .i64 t.pos] tTok)) := (Below.refl _ _).alloc (Nat.le_refl _) _
   have hx := Box.new w4 #[.int .i64 t.kind, .string y, .int .i64 t.pos] tTok
   have h2 := (HP3.out.below hb4).below hbel
   have ho2 := (Owns.of_below hb4 (Fp Cpb Cmb)).trans (Owns.of_below hbel _)
   obtain ⟨wb, hW⟩ : ∃ wb, wb = w4.heap.size := ⟨_, rfl⟩
   obtain ⟨W, hWW⟩ : ∃ W, w4.alloc (.cells #[.int .i64 t.kind, .string y, .int .i64 t.pos] tTok) = W := ⟨_, rfl⟩
   rw [hWW] at h2 ho2 hx
   have x0 : W.cell? ⟨w4.heap.size, 0, none⟩ = some (.int .i64 t.kind) := hx.cell 0
   have x1 : W.cell? ⟨w4.heap.size, 1, none⟩ = some (.string y) := hx.cell 1
   have x2 : W.cell? ⟨w4.heap.size, 2, none⟩ = some (.int .i64 t.pos) := hx.cell 2
   have xf := hx.fz
   have HX := h_ hx
   have hne : w4.heap.size ≠ Cpb := Nat.ne_of_gt (show Cpb < w4.heap.size from (HP3.out.below hb4).lt)
   have HV5 := h_ (HV3.out.owns ho2)
   have HP5 := h_ h2
   have HO5 := h_ (HO3.out.trans ho2)
   clear hb4 hbel hx h2 ho2 hW
   go_wp2_with fail
   refine (HR.out W).mono ?_
   rintro e w6 ⟨rfl, hb6⟩
   have HX6 := h_ (HX.out.step hb6)
   have HV6 := h_ (HV5.out.owns (Owns.of_below hb6 (Fp Cpb Cmb)))
   have HP6 := h_ (HP5.out.below hb6)
   have HO6 := h_ (HO5.out.trans (Owns.of_below hb6 (Fp Cpb Cmb)))
   clear hb6 x0 x1 x2 xf hWW
   go_wp2_with fail
   refine (HS2.out w6 HP6.out).mono ?_
   rintro e w7 ⟨rfl, hb7⟩
   have HE := h_ (show FPost ⟨Cb, Cpb, Cmb, CT, CA, Cn, Cc⟩ (some (.tm l)) s' w (.returned (.tuple #[.iface u3 z3, .bool true])) w7 from ⟨_, _, rfl, HV6.out.owns (Owns.of_below hb7 _), HP6.out.below hb7, HO6.out.trans (Owns.of_below hb7 _)⟩)
   clear hb7
   go_wp2
   go_ret2
   exact HE.out
  | @atT_none _ _ _ l _ h3 hr hbs =>
   have HT := h_ (fun w2 => ih _ _ (hmea _ _ (Nat.le_refl _)) _ _ h3 hg0 (notEncl (by simp)) w2)
   have HKp := h_ (fun w2 h2 => peek_any Cb Cpb Cmb Cn Cc CT CA s' w2 h2)
   obtain ⟨t, ht⟩ : ∃ t, t = pk CT s' := ⟨_, rfl⟩
   rw [← ht] at HKp hr
   have HR := h_ (fun w2 => rel_any t w2)
   obtain ⟨y, hy⟩ : ∃ y, y = bs t.text := ⟨_, rfl⟩
   rw [← hy] at HR HKp
   rw [hr] at HR
   cases b
   case false =>
    clear h3 ih hg hg0 h hsee htok hmea hr ht hy hbs
    go_enter Tryz.func108, Tryz.ntmps108
    go_wp2_with fail
    refine (HS.out w HP0.out).mono ?_
    rintro e w1 ⟨rfl, hb1⟩
    have HP1 := h_ (HP0.out.below hb1)
    have HO1 := h_ (HO0.out.trans (Owns.of_below hb1 (Fp Cpb Cmb)))
    clear hb1
    go_wp2_with fail
    refine (HI.out w1 HP1.out).mono ?_
    rintro e w2 ⟨u2, z2, rfl, hv2, hP2, hO2⟩
    have HV2 := h_ hv2
    have HP2 := h_ hP2
    have HO2 := h_ (HO1.out.trans hO2)
    clear hv2 hP2 hO2
    obtain ⟨u, z, ee, hyF, hyT⟩ := HV2.out.isT
    injection ee with e1 e2
    obtain rfl := e1
    obtain rfl := e2
    go_wp2_with fail
    refine (HT.out w2 HP2.out _ (HV2.out)).mono ?_
    rintro e w3 ⟨u3, z3, rfl, hv3, hP3, hO3⟩
    have HV3 := h_ hv3
    have HP3 := h_ hP3
    have HO3 := h_ (HO2.out.trans hO3)
    clear hv3 hP3 hO3
    go_wp2_with fail
    refine (HKp.out w3 HP3.out).mono ?_
    rintro e w4 ⟨rfl, hb4⟩
    have hbel : Below w4.heap.size w4 (w4.alloc (.cells #[.int .i64 t.kind, .string y, .int .i64 t.pos] tTok)) := (Below.refl _ _).alloc (Nat.le_refl _) _
    have hx := Box.new w4 #[.int .i64 t.kind, .string y, .int .i64 t.pos] tTok
    have h2 := (HP3.out.below hb4).below hbel
    have ho2 := (Owns.of_below hb4 (Fp Cpb Cmb)).trans (Owns.of_below hbel _)
    obtain ⟨wb, hW⟩ : ∃ wb, wb = w4.heap.size := ⟨_, rfl⟩
    obtain ⟨W, hWW⟩ : ∃ W, w4.alloc (.cells #[.int .i64 t.kind, .string y, .int .i64 t.pos] tTok) = W := ⟨_, rfl⟩
    rw [hWW] at h2 ho2 hx
    have x0 : W.cell? ⟨w4.heap.size, 0, none⟩ = some (.int .i64 t.kind) := hx.cell 0
    have x1 : W.cell? ⟨w4.heap.size, 1, none⟩ = some (.string y) := hx.cell 1
    have x2 : W.cell? ⟨w4.heap.size, 2, none⟩ = some (.int .i64 t.pos) := hx.cell 2
    have xf := hx.fz
    have HX := h_ hx
    have hne : w4.heap.size ≠ Cpb := Nat.ne_of_gt (show Cpb < w4.heap.size from (HP3.out.below hb4).lt)
    have HV5 := h_ (HV3.out.owns ho2)
    have HP5 := h_ h2
    have HO5 := h_ (HO3.out.trans ho2)
    clear hb4 hbel hx h2 ho2 hW
    go_wp2_with fail
    refine (HR.out W).mono ?_
    rintro e w6 ⟨rfl, hb6⟩
    have HX6 := h_ (HX.out.step hb6)
    have HV6 := h_ (HV5.out.owns (Owns.of_below hb6 (Fp Cpb Cmb)))
    have HP6 := h_ (HP5.out.below hb6)
    have HO6 := h_ (HO5.out.trans (Owns.of_below hb6 (Fp Cpb Cmb)))
    clear hb6 x0 x1 x2 xf hWW
    have HE := h_ (show FPost ⟨Cb, Cpb, Cmb, CT, CA, Cn, Cc⟩ none s' w (.returned (.tuple #[.iface u3 z3, .bool false])) w6 from ⟨_, rfl, rfl, HP6.out, HO6.out⟩)
    go_wp2
    go_ret2
    exact HE.out
   case true =>
    have hsee2 : sees CT s' cShut = false := by simpa using hbs
    have HS2 := h_ (fun w1 h2 => sees_any Cb Cpb Cmb Cn Cc CT CA s' ⟨#[41]⟩ false w1 h2 hsee2)
    clear h3 ih hg hg0 h hsee htok hmea hr ht hy hbs hsee2
    go_enter Tryz.func108, Tryz.ntmps108
    go_wp2_with fail
    refine (HS.out w HP0.out).mono ?_
    rintro e w1 ⟨rfl, hb1⟩
    have HP1 := h_ (HP0.out.below hb1)
    have HO1 := h_ (HO0.out.trans (Owns.of_below hb1 (Fp Cpb Cmb)))
    clear hb1
    go_wp2_with fail
    refine (HI.out w1 HP1.out).mono ?_
    rintro e w2 ⟨u2, z2, rfl, hv2, hP2, hO2⟩
    have HV2 := h_ hv2
    have HP2 := h_ hP2
    have HO2 := h_ (HO1.out.trans hO2)
    clear hv2 hP2 hO2
    obtain ⟨u, z, ee, hyF, hyT⟩ := HV2.out.isT
    injection ee with e1 e2
    obtain rfl := e1
    obtain rfl := e2
    go_wp2_with fail
    refine (HT.out w2 HP2.out _ (HV2.out)).mono ?_
    rintro e w3 ⟨u3, z3, rfl, hv3, hP3, hO3⟩
    have HV3 := h_ hv3
    have HP3 := h_ hP3
    have HO3 := h_ (HO2.out.trans hO3)
    clear hv3 hP3 hO3
    go_wp2_with fail
    refine (HKp.out w3 HP3.out).mono ?_
    rintro e w4 ⟨rfl, hb4⟩
    have hbel : Below w4.heap.size w4 (w4.alloc (.cells #[.int .i64 t.kind, .string y, .int .i64 t.pos] tTok)) := (Below.refl _ _).alloc (Nat.le_refl _) _
    have hx := Box.new w4 #[.int .i64 t.kind, .string y, .int .i64 t.pos] tTok
    have h2 := (HP3.out.below hb4).below hbel
    have ho2 := (Owns.of_below hb4 (Fp Cpb Cmb)).trans (Owns.of_below hbel _)
    obtain ⟨wb, hW⟩ : ∃ wb, wb = w4.heap.size := ⟨_, rfl⟩
    obtain ⟨W, hWW⟩ : ∃ W, w4.alloc (.cells #[.int .i64 t.kind, .string y, .int .i64 t.pos] tTok) = W := ⟨_, rfl⟩
    rw [hWW] at h2 ho2 hx
    have x0 : W.cell? ⟨w4.heap.size, 0, none⟩ = some (.int .i64 t.kind) := hx.cell 0
    have x1 : W.cell? ⟨w4.heap.size, 1, none⟩ = some (.string y) := hx.cell 1
    have x2 : W.cell? ⟨w4.heap.size, 2, none⟩ = some (.int .i64 t.pos) := hx.cell 2
    have xf := hx.fz
    have HX := h_ hx
    have hne : w4.heap.size ≠ Cpb := Nat.ne_of_gt (show Cpb < w4.heap.size from (HP3.out.below hb4).lt)
    have HV5 := h_ (HV3.out.owns ho2)
    have HP5 := h_ h2
    have HO5 := h_ (HO3.out.trans ho2)
    clear hb4 hbel hx h2 ho2 hW
    go_wp2_with fail
    refine (HR.out W).mono ?_
    rintro e w6 ⟨rfl, hb6⟩
    have HX6 := h_ (HX.out.step hb6)
    have HV6 := h_ (HV5.out.owns (Owns.of_below hb6 (Fp Cpb Cmb)))
    have HP6 := h_ (HP5.out.below hb6)
    have HO6 := h_ (HO5.out.trans (Owns.of_below hb6 (Fp Cpb Cmb)))
    clear hb6 x0 x1 x2 xf hWW
    go_wp2_with fail
    refine (HS2.out w6 HP6.out).mono ?_
    rintro e w7 ⟨rfl, hb7⟩
    have HE := h_ (show FPost ⟨Cb, Cpb, Cmb, CT, CA, Cn, Cc⟩ none s' w (.returned (.tuple #[.iface u3 z3, .bool false])) w7 from ⟨_, rfl, rfl, HP6.out.below hb7, HO6.out.trans (Owns.of_below hb7 _)⟩)
    clear hb7
    go_wp2
    go_ret2
    exact HE.out
  | @atT_bad _ _ _ l s1 _ h3 hr h4 =>
   have HT := h_ (fun w2 => ih _ _ (hmea _ _ (Nat.le_refl _)) _ _ h3 hg0 (notEncl (by simp)) w2)
   have hlt : s1.next < CT.length := relOf_lt hr
   have hlt' : s1.next < Cn := by rw [hn]; exact hlt
   have hgs := h3.gd hg0
   have hrel := hgs.2.1
   have hle2 : s.next ≤ s1.next := Nat.le_trans hle h3.mono
   have HI4 := h_ (fun w2 => ih _ _ (show mea CT (.term none) (relS CT s1) < _ from mea_adv (by rw [relS_next]; omega) (by omega)) _ _ h4 hgs.c_rel (notEncl (by simp)) w2)
   have HKp := h_ (fun w2 h2 => peek_any Cb Cpb Cmb Cn Cc CT CA s1 w2 h2)
   obtain ⟨t, ht⟩ : ∃ t, t = pk CT s1 := ⟨_, rfl⟩
   rw [← ht] at HKp hr
   have HR := h_ (fun w2 => rel_any t w2)
   obtain ⟨y, hy⟩ : ∃ y, y = bs t.text := ⟨_, rfl⟩
   rw [← hy] at HR HKp
   obtain ⟨R, hRR⟩ : ∃ R, R = relOf t := ⟨_, rfl⟩
   rw [← hRR] at HR hr
   have hR0 : (R == 0) = false := by rw [beq_eq_false_iff_ne]; exact hr
   obtain ⟨s2, hs2⟩ : ∃ s2, s2 = { s1 with rels := s1.rels + 1 } := ⟨_, rfl⟩
   obtain ⟨sR, hsR⟩ : ∃ sR, sR = rel1 CT s1 := ⟨_, rfl⟩
   have nR : sR.next = s1.next := by have := relS_next CT s1; unfold relS adv at this; rw [hsR]; exact Nat.succ.inj this
   have HD := h_ (show ∀ w1, PAt Cb Cpb Cmb CT CA Cn Cc s1 w1 → PAt Cb Cpb Cmb CT CA Cn Cc s2 (w1.setCell ⟨Cpb, 3, none⟩ (.int .i64 ((s1.rels : Int) + 1))) from fun w1 h => h.set (s' := s2) 3 _ (by rw [hs2]; rfl) (by rw [hs2]) (by rw [hs2]; exact h.next) (by rw [hs2]; exact h.depth) (by rw [hs2]; show s1.rels + 1 ≤ s1.next + 1; omega) (by rw [hs2]; exact h.nms))
   have HEr := h_ (show s2.rels = s1.rels + 1 by rw [hs2])
   have HXc := h_ (fun w1 h2 => exceed_any Cb Cpb Cmb Cn Cc CT CA s2 t.pos w1 h2)
   have HADV := h_ (show ∀ w1, PAt Cb Cpb Cmb CT CA Cn Cc sR w1 → PAt Cb Cpb Cmb CT CA Cn Cc (relS CT s1) (w1.setCell ⟨Cpb, 1, none⟩ (.int .i64 ((s1.next : Int) + 1))) from fun w1 h => by
    have h5 := h.advs (by rw [nR]; exact hlt')
    rw [nR, hsR] at h5
    exact h5)
   have HNR := h_ nR
   by_cases h16 : 16 < s1.rels + 1
   case pos =>
    have HSX := h_ (show exc s2 t.pos = sR by rw [hsR, hs2, ht]; unfold rel1; rw [if_pos h16])
    clear h3 ih hg hg0 h hsee htok hmea hr ht hy hlt hgs hle hle2 h4 hRR hs2 hsR nR
    go_enter Tryz.func108, Tryz.ntmps108
    go_wp2_with fail
    refine (HS.out w HP0.out).mono ?_
    rintro e w1 ⟨rfl, hb1⟩
    have HP1 := h_ (HP0.out.below hb1)
    have HO1 := h_ (HO0.out.trans (Owns.of_below hb1 (Fp Cpb Cmb)))
    clear hb1
    go_wp2_with fail
    refine (HI.out w1 HP1.out).mono ?_
    rintro e w2 ⟨u2, z2, rfl, hv2, hP2, hO2⟩
    have HV2 := h_ hv2
    have HP2 := h_ hP2
    have HO2 := h_ (HO1.out.trans hO2)
    clear hv2 hP2 hO2
    obtain ⟨u, z, ee, hyF, hyT⟩ := HV2.out.isT
    injection ee with e1 e2
    obtain rfl := e1
    obtain rfl := e2
    go_wp2_with fail
    refine (HT.out w2 HP2.out _ (HV2.out)).mono ?_
    rintro e w3 ⟨u3, z3, rfl, hv3, hP3, hO3⟩
    have HV3 := h_ hv3
    have HP3 := h_ hP3
    have HO3 := h_ (HO2.out.trans hO3)
    clear hv3 hP3 hO3
    go_wp2_with fail
    refine (HKp.out w3 HP3.out).mono ?_
    rintro e w4 ⟨rfl, hb4⟩
    have hbel : Below w4.heap.size w4 (w4.alloc (.cells #[.int .i64 t.kind, .string y, .int .i64 t.pos] tTok)) := (Below.refl _ _).alloc (Nat.le_refl _) _
    have hx := Box.new w4 #[.int .i64 t.kind, .string y, .int .i64 t.pos] tTok
    have h2 := (HP3.out.below hb4).below hbel
    have ho2 := (Owns.of_below hb4 (Fp Cpb Cmb)).trans (Owns.of_below hbel _)
    obtain ⟨wb, hW⟩ : ∃ wb, wb = w4.heap.size := ⟨_, rfl⟩
    obtain ⟨W, hWW⟩ : ∃ W, w4.alloc (.cells #[.int .i64 t.kind, .string y, .int .i64 t.pos] tTok) = W := ⟨_, rfl⟩
    rw [hWW] at h2 ho2 hx
    have x0 : W.cell? ⟨w4.heap.size, 0, none⟩ = some (.int .i64 t.kind) := hx.cell 0
    have x1 : W.cell? ⟨w4.heap.size, 1, none⟩ = some (.string y) := hx.cell 1
    have x2 : W.cell? ⟨w4.heap.size, 2, none⟩ = some (.int .i64 t.pos) := hx.cell 2
    have xf := hx.fz
    have HX := h_ hx
    have hne : w4.heap.size ≠ Cpb := Nat.ne_of_gt (show Cpb < w4.heap.size from (HP3.out.below hb4).lt)
    have HV5 := h_ (HV3.out.owns ho2)
    have HP5 := h_ h2
    have HO5 := h_ (HO3.out.trans ho2)
    clear hb4 hbel hx h2 ho2 hW
    go_wp2_with fail
    refine (HR.out W).mono ?_
    rintro e w6 ⟨rfl, hb6⟩
    have HX6 := h_ (HX.out.step hb6)
    have HV6 := h_ (HV5.out.owns (Owns.of_below hb6 (Fp Cpb Cmb)))
    have HP6 := h_ (HP5.out.below hb6)
    have HO6 := h_ (HO5.out.trans (Owns.of_below hb6 (Fp Cpb Cmb)))
    clear hb6 x0 x1 x2 xf hWW
    have h6 := HP6.out
    obtain ⟨c0, c1, c2, c3, c4, c5, c6⟩ := h6.cells
    have f6 := h6.fz
    have h7 := HD.out w6 h6
    have ho7 := owns_set w6 ⟨Cpb, 3, none⟩ (.int .i64 ((s1.rels : Int) + 1)) (F := Fp Cpb Cmb) (.inl rfl)
    have y2 : (w6.setCell ⟨Cpb, 3, none⟩ (.int .i64 ((s1.rels : Int) + 1))).cell? ⟨w4.heap.size, 2, none⟩ = some (.int .i64 t.pos) := by
     have e := HX6.out.cell 2
     have e2 : (w6.setCell ⟨Cpb, 3, none⟩ (.int .i64 ((s1.rels : Int) + 1))).heap[w4.heap.size]? = w6.heap[w4.heap.size]? := Below.heap_setCell _ _ _ _ hne
     simp only [World.cell?, e2] at e ⊢
     exact e
    have HV7 := h_ (HV6.out.owns ho7)
    have HO7 := h_ (HO6.out.trans ho7)
    have HP7 := h_ h7
    obtain ⟨w7, hw7⟩ : ∃ w7, w6.setCell ⟨Cpb, 3, none⟩ (.int .i64 ((s1.rels : Int) + 1)) = w7 := ⟨_, rfl⟩
    rw [hw7] at h7 y2 HV7 HO7 HP7
    obtain ⟨d0, d1, d2, d3, d4, d5, d6⟩ := h7.cells
    rw [HEr.out] at d3
    have f7 := h7.fz
    clear h6 h7 ho7
    go_wp2_with fail
    refine (HXc.out w7 HP7.out).mono ?_
    rintro e w8 ⟨rfl, hP8, hO8⟩
    rw [HSX.out] at hP8
    have HV8 := h_ (HV7.out.owns hO8)
    have HO8 := h_ (HO7.out.trans hO8)
    obtain ⟨g0, g1, g2, g3, g4, g5, g6⟩ := hP8.cells
    rw [HNR.out] at g1
    have f8 := hP8.fz
    have h9 := HADV.out w8 hP8
    have ho9 := owns_set w8 ⟨Cpb, 1, none⟩ (.int .i64 ((s1.next : Int) + 1)) (F := Fp Cpb Cmb) (.inl rfl)
    have HV9 := h_ (HV8.out.owns ho9)
    have HO9 := h_ (HO8.out.trans ho9)
    have HP9 := h_ h9
    obtain ⟨w9, hw9⟩ : ∃ w9, w8.setCell ⟨Cpb, 1, none⟩ (.int .i64 ((s1.next : Int) + 1)) = w9 := ⟨_, rfl⟩
    rw [hw9] at HV9 HO9 HP9
    clear hP8 hO8 h9 ho9 c0 c1 c2 c3 c4 c5 c6 f6 d0 d1 d2 d3 d4 d5 d6 f7 y2 hw7
    go_wp2_with fail
    refine (HI4.out w9 HP9.out _ rfl).mono ?_
    rintro e w10 ⟨v10, rfl, hov10, hP10, hO10⟩
    have HE := h_ (show FPost ⟨Cb, Cpb, Cmb, CT, CA, Cn, Cc⟩ none s' w (.returned (.tuple #[.nilIface, .bool false])) w10 from ⟨_, rfl, rfl, hP10, HO9.out.trans hO10⟩)
    clear hP10 hO10
    go_wp2
    go_ret2
    exact HE.out
   case neg =>
    have HSX := h_ (show s2 = sR by rw [hsR, hs2]; unfold rel1; rw [if_neg h16])
    have h16' : s1.rels + 1 ≤ 16 := by omega
    clear h16
    clear h3 ih hg hg0 h hsee htok hmea hr ht hy hlt hgs hle hle2 h4 hRR hs2 hsR nR
    go_enter Tryz.func108, Tryz.ntmps108
    go_wp2_with fail
    refine (HS.out w HP0.out).mono ?_
    rintro e w1 ⟨rfl, hb1⟩
    have HP1 := h_ (HP0.out.below hb1)
    have HO1 := h_ (HO0.out.trans (Owns.of_below hb1 (Fp Cpb Cmb)))
    clear hb1
    go_wp2_with fail
    refine (HI.out w1 HP1.out).mono ?_
    rintro e w2 ⟨u2, z2, rfl, hv2, hP2, hO2⟩
    have HV2 := h_ hv2
    have HP2 := h_ hP2
    have HO2 := h_ (HO1.out.trans hO2)
    clear hv2 hP2 hO2
    obtain ⟨u, z, ee, hyF, hyT⟩ := HV2.out.isT
    injection ee with e1 e2
    obtain rfl := e1
    obtain rfl := e2
    go_wp2_with fail
    refine (HT.out w2 HP2.out _ (HV2.out)).mono ?_
    rintro e w3 ⟨u3, z3, rfl, hv3, hP3, hO3⟩
    have HV3 := h_ hv3
    have HP3 := h_ hP3
    have HO3 := h_ (HO2.out.trans hO3)
    clear hv3 hP3 hO3
    go_wp2_with fail
    refine (HKp.out w3 HP3.out).mono ?_
    rintro e w4 ⟨rfl, hb4⟩
    have hbel : Below w4.heap.size w4 (w4.alloc (.cells #[.int .i64 t.kind, .string y, .int .i64 t.pos] tTok)) := (Below.refl _ _).alloc (Nat.le_refl _) _
    have hx := Box.new w4 #[.int .i64 t.kind, .string y, .int .i64 t.pos] tTok
    have h2 := (HP3.out.below hb4).below hbel
    have ho2 := (Owns.of_below hb4 (Fp Cpb Cmb)).trans (Owns.of_below hbel _)
    obtain ⟨wb, hW⟩ : ∃ wb, wb = w4.heap.size := ⟨_, rfl⟩
    obtain ⟨W, hWW⟩ : ∃ W, w4.alloc (.cells #[.int .i64 t.kind, .string y, .int .i64 t.pos] tTok) = W := ⟨_, rfl⟩
    rw [hWW] at h2 ho2 hx
    have x0 : W.cell? ⟨w4.heap.size, 0, none⟩ = some (.int .i64 t.kind) := hx.cell 0
    have x1 : W.cell? ⟨w4.heap.size, 1, none⟩ = some (.string y) := hx.cell 1
    have x2 : W.cell? ⟨w4.heap.size, 2, none⟩ = some (.int .i64 t.pos) := hx.cell 2
    have xf := hx.fz
    have HX := h_ hx
    have hne : w4.heap.size ≠ Cpb := Nat.ne_of_gt (show Cpb < w4.heap.size from (HP3.out.below hb4).lt)
    have HV5 := h_ (HV3.out.owns ho2)
    have HP5 := h_ h2
    have HO5 := h_ (HO3.out.trans ho2)
    clear hb4 hbel hx h2 ho2 hW
    go_wp2_with fail
    refine (HR.out W).mono ?_
    rintro e w6 ⟨rfl, hb6⟩
    have HX6 := h_ (HX.out.step hb6)
    have HV6 := h_ (HV5.out.owns (Owns.of_below hb6 (Fp Cpb Cmb)))
    have HP6 := h_ (HP5.out.below hb6)
    have HO6 := h_ (HO5.out.trans (Owns.of_below hb6 (Fp Cpb Cmb)))
    clear hb6 x0 x1 x2 xf hWW
    have h6 := HP6.out
    obtain ⟨c0, c1, c2, c3, c4, c5, c6⟩ := h6.cells
    have f6 := h6.fz
    have h7 := HD.out w6 h6
    have ho7 := owns_set w6 ⟨Cpb, 3, none⟩ (.int .i64 ((s1.rels : Int) + 1)) (F := Fp Cpb Cmb) (.inl rfl)
    have y2 : (w6.setCell ⟨Cpb, 3, none⟩ (.int .i64 ((s1.rels : Int) + 1))).cell? ⟨w4.heap.size, 2, none⟩ = some (.int .i64 t.pos) := by
     have e := HX6.out.cell 2
     have e2 : (w6.setCell ⟨Cpb, 3, none⟩ (.int .i64 ((s1.rels : Int) + 1))).heap[w4.heap.size]? = w6.heap[w4.heap.size]? := Below.heap_setCell _ _ _ _ hne
     simp only [World.cell?, e2] at e ⊢
     exact e
    have HV7 := h_ (HV6.out.owns ho7)
    have HO7 := h_ (HO6.out.trans ho7)
    have HP7 := h_ h7
    obtain ⟨w7, hw7⟩ : ∃ w7, w6.setCell ⟨Cpb, 3, none⟩ (.int .i64 ((s1.rels : Int) + 1)) = w7 := ⟨_, rfl⟩
    rw [hw7] at h7 y2 HV7 HO7 HP7
    obtain ⟨d0, d1, d2, d3, d4, d5, d6⟩ := h7.cells
    rw [HEr.out] at d3
    have f7 := h7.fz
    clear h6 h7 ho7
    have h9 := HADV.out w7 (by rw [← HSX.out]; exact HP7.out)
    rw [← HSX.out] at HNR
    rw [HNR.out] at d1
    have ho9 := owns_set w7 ⟨Cpb, 1, none⟩ (.int .i64 ((s1.next : Int) + 1)) (F := Fp Cpb Cmb) (.inl rfl)
    have HV9 := h_ (HV7.out.owns ho9)
    have HO9 := h_ (HO7.out.trans ho9)
    have HP9 := h_ h9
    obtain ⟨w9, hw9⟩ : ∃ w9, w7.setCell ⟨Cpb, 1, none⟩ (.int .i64 ((s1.next : Int) + 1)) = w9 := ⟨_, rfl⟩
    rw [hw9] at HV9 HO9 HP9
    clear h9 ho9
    go_wp2_with fail
    refine (HI4.out w9 HP9.out _ rfl).mono ?_
    rintro e w10 ⟨v10, rfl, hov10, hP10, hO10⟩
    have HE := h_ (show FPost ⟨Cb, Cpb, Cmb, CT, CA, Cn, Cc⟩ none s' w (.returned (.tuple #[.nilIface, .bool false])) w10 from ⟨_, rfl, rfl, hP10, HO9.out.trans hO10⟩)
    clear hP10 hO10
    go_wp2
    go_ret2
    exact HE.out
  | @atT_ok _ _ _ l s1 m _ h3 hr h4 =>
   have HT := h_ (fun w2 => ih _ _ (hmea _ _ (Nat.le_refl _)) _ _ h3 hg0 (notEncl (by simp)) w2)
   have hlt : s1.next < CT.length := relOf_lt hr
   have hlt' : s1.next < Cn := by rw [hn]; exact hlt
   have hgs := h3.gd hg0
   have hrel := hgs.2.1
   have hle2 : s.next ≤ s1.next := Nat.le_trans hle h3.mono
   have HI4 := h_ (fun w2 => ih _ _ (show mea CT (.term none) (relS CT s1) < _ from mea_adv (by rw [relS_next]; omega) (by omega)) _ _ h4 hgs.c_rel (notEncl (by simp)) w2)
   have HKp := h_ (fun w2 h2 => peek_any Cb Cpb Cmb Cn Cc CT CA s1 w2 h2)
   obtain ⟨t, ht⟩ : ∃ t, t = pk CT s1 := ⟨_, rfl⟩
   rw [← ht] at HKp hr ⊢
   have HR := h_ (fun w2 => rel_any t w2)
   obtain ⟨y, hy⟩ : ∃ y, y = bs t.text := ⟨_, rfl⟩
   rw [← hy] at HR HKp
   obtain ⟨R, hRR⟩ : ∃ R, R = relOf t := ⟨_, rfl⟩
   rw [← hRR] at HR hr ⊢
   have hR0 : (R == 0) = false := by rw [beq_eq_false_iff_ne]; exact hr
   obtain ⟨s2, hs2⟩ : ∃ s2, s2 = { s1 with rels := s1.rels + 1 } := ⟨_, rfl⟩
   obtain ⟨sR, hsR⟩ : ∃ sR, sR = rel1 CT s1 := ⟨_, rfl⟩
   have nR : sR.next = s1.next := by have := relS_next CT s1; unfold relS adv at this; rw [hsR]; exact Nat.succ.inj this
   have HD := h_ (show ∀ w1, PAt Cb Cpb Cmb CT CA Cn Cc s1 w1 → PAt Cb Cpb Cmb CT CA Cn Cc s2 (w1.setCell ⟨Cpb, 3, none⟩ (.int .i64 ((s1.rels : Int) + 1))) from fun w1 h => h.set (s' := s2) 3 _ (by rw [hs2]; rfl) (by rw [hs2]) (by rw [hs2]; exact h.next) (by rw [hs2]; exact h.depth) (by rw [hs2]; show s1.rels + 1 ≤ s1.next + 1; omega) (by rw [hs2]; exact h.nms))
   have HEr := h_ (show s2.rels = s1.rels + 1 by rw [hs2])
   have HXc := h_ (fun w1 h2 => exceed_any Cb Cpb Cmb Cn Cc CT CA s2 t.pos w1 h2)
   have HADV := h_ (show ∀ w1, PAt Cb Cpb Cmb CT CA Cn Cc sR w1 → PAt Cb Cpb Cmb CT CA Cn Cc (relS CT s1) (w1.setCell ⟨Cpb, 1, none⟩ (.int .i64 ((s1.next : Int) + 1))) from fun w1 h => by
    have h5 := h.advs (by rw [nR]; exact hlt')
    rw [nR, hsR] at h5
    exact h5)
   have HNR := h_ nR
   by_cases h16 : 16 < s1.rels + 1
   case pos =>
    have HSX := h_ (show exc s2 t.pos = sR by rw [hsR, hs2, ht]; unfold rel1; rw [if_pos h16])
    clear h3 ih hg hg0 h hsee htok hmea hr ht hy hlt hgs hle hle2 h4 hRR hs2 hsR nR
    go_enter Tryz.func108, Tryz.ntmps108
    go_wp2_with fail
    refine (HS.out w HP0.out).mono ?_
    rintro e w1 ⟨rfl, hb1⟩
    have HP1 := h_ (HP0.out.below hb1)
    have HO1 := h_ (HO0.out.trans (Owns.of_below hb1 (Fp Cpb Cmb)))
    clear hb1
    go_wp2_with fail
    refine (HI.out w1 HP1.out).mono ?_
    rintro e w2 ⟨u2, z2, rfl, hv2, hP2, hO2⟩
    have HV2 := h_ hv2
    have HP2 := h_ hP2
    have HO2 := h_ (HO1.out.trans hO2)
    clear hv2 hP2 hO2
    obtain ⟨u, z, ee, hyF, hyT⟩ := HV2.out.isT
    injection ee with e1 e2
    obtain rfl := e1
    obtain rfl := e2
    go_wp2_with fail
    refine (HT.out w2 HP2.out _ (HV2.out)).mono ?_
    rintro e w3 ⟨u3, z3, rfl, hv3, hP3, hO3⟩
    have HV3 := h_ hv3
    have HP3 := h_ hP3
    have HO3 := h_ (HO2.out.trans hO3)
    clear hv3 hP3 hO3
    go_wp2_with fail
    refine (HKp.out w3 HP3.out).mono ?_
    rintro e w4 ⟨rfl, hb4⟩
    have hbel : Below w4.heap.size w4 (w4.alloc (.cells #[.int .i64 t.kind, .string y, .int .i64 t.pos] tTok)) := (Below.refl _ _).alloc (Nat.le_refl _) _
    have hx := Box.new w4 #[.int .i64 t.kind, .string y, .int .i64 t.pos] tTok
    have h2 := (HP3.out.below hb4).below hbel
    have ho2 := (Owns.of_below hb4 (Fp Cpb Cmb)).trans (Owns.of_below hbel _)
    obtain ⟨wb, hW⟩ : ∃ wb, wb = w4.heap.size := ⟨_, rfl⟩
    obtain ⟨W, hWW⟩ : ∃ W, w4.alloc (.cells #[.int .i64 t.kind, .string y, .int .i64 t.pos] tTok) = W := ⟨_, rfl⟩
    rw [hWW] at h2 ho2 hx
    have x0 : W.cell? ⟨w4.heap.size, 0, none⟩ = some (.int .i64 t.kind) := hx.cell 0
    have x1 : W.cell? ⟨w4.heap.size, 1, none⟩ = some (.string y) := hx.cell 1
    have x2 : W.cell? ⟨w4.heap.size, 2, none⟩ = some (.int .i64 t.pos) := hx.cell 2
    have xf := hx.fz
    have HX := h_ hx
    have hne : w4.heap.size ≠ Cpb := Nat.ne_of_gt (show Cpb < w4.heap.size from (HP3.out.below hb4).lt)
    have HV5 := h_ (HV3.out.owns ho2)
    have HP5 := h_ h2
    have HO5 := h_ (HO3.out.trans ho2)
    clear hb4 hbel hx h2 ho2 hW
    go_wp2_with fail
    refine (HR.out W).mono ?_
    rintro e w6 ⟨rfl, hb6⟩
    have HX6 := h_ (HX.out.step hb6)
    have HV6 := h_ (HV5.out.owns (Owns.of_below hb6 (Fp Cpb Cmb)))
    have HP6 := h_ (HP5.out.below hb6)
    have HO6 := h_ (HO5.out.trans (Owns.of_below hb6 (Fp Cpb Cmb)))
    clear hb6 x0 x1 x2 xf hWW
    have h6 := HP6.out
    obtain ⟨c0, c1, c2, c3, c4, c5, c6⟩ := h6.cells
    have f6 := h6.fz
    have h7 := HD.out w6 h6
    have ho7 := owns_set w6 ⟨Cpb, 3, none⟩ (.int .i64 ((s1.rels : Int) + 1)) (F := Fp Cpb Cmb) (.inl rfl)
    have y2 : (w6.setCell ⟨Cpb, 3, none⟩ (.int .i64 ((s1.rels : Int) + 1))).cell? ⟨w4.heap.size, 2, none⟩ = some (.int .i64 t.pos) := by
     have e := HX6.out.cell 2
     have e2 : (w6.setCell ⟨Cpb, 3, none⟩ (.int .i64 ((s1.rels : Int) + 1))).heap[w4.heap.size]? = w6.heap[w4.heap.size]? := Below.heap_setCell _ _ _ _ hne
     simp only [World.cell?, e2] at e ⊢
     exact e
    have HV7 := h_ (HV6.out.owns ho7)
    have HO7 := h_ (HO6.out.trans ho7)
    have HP7 := h_ h7
    obtain ⟨w7, hw7⟩ : ∃ w7, w6.setCell ⟨Cpb, 3, none⟩ (.int .i64 ((s1.rels : Int) + 1)) = w7 := ⟨_, rfl⟩
    rw [hw7] at h7 y2 HV7 HO7 HP7
    obtain ⟨d0, d1, d2, d3, d4, d5, d6⟩ := h7.cells
    rw [HEr.out] at d3
    have f7 := h7.fz
    clear h6 h7 ho7
    go_wp2_with fail
    refine (HXc.out w7 HP7.out).mono ?_
    rintro e w8 ⟨rfl, hP8, hO8⟩
    rw [HSX.out] at hP8
    have HV8 := h_ (HV7.out.owns hO8)
    have HO8 := h_ (HO7.out.trans hO8)
    obtain ⟨g0, g1, g2, g3, g4, g5, g6⟩ := hP8.cells
    rw [HNR.out] at g1
    have f8 := hP8.fz
    have h9 := HADV.out w8 hP8
    have ho9 := owns_set w8 ⟨Cpb, 1, none⟩ (.int .i64 ((s1.next : Int) + 1)) (F := Fp Cpb Cmb) (.inl rfl)
    have HV9 := h_ (HV8.out.owns ho9)
    have HO9 := h_ (HO8.out.trans ho9)
    have HP9 := h_ h9
    obtain ⟨w9, hw9⟩ : ∃ w9, w8.setCell ⟨Cpb, 1, none⟩ (.int .i64 ((s1.next : Int) + 1)) = w9 := ⟨_, rfl⟩
    rw [hw9] at HV9 HO9 HP9
    clear hP8 hO8 h9 ho9 c0 c1 c2 c3 c4 c5 c6 f6 d0 d1 d2 d3 d4 d5 d6 f7 y2 hw7
    go_wp2_with fail
    refine (HI4.out w9 HP9.out _ rfl).mono ?_
    rintro e w10 ⟨u10, z10, rfl, hv10, hP10, hO10⟩
    have HE := h_ (show FPost ⟨Cb, Cpb, Cmb, CT, CA, Cn, Cc⟩ (some (.fo (.atom l R m))) s' w (.returned (.tuple #[.iface tAtom (.agg #[.iface u3 z3, .int .i64 R, .iface u10 z10]), .bool true])) w10 from ⟨_, _, rfl, ⟨⟨_, _, rfl, (HV9.out.owns hO10).1, hv10.1⟩, by simp, (HV9.out.owns hO10).2.2, hv10.2.2⟩, hP10, HO9.out.trans hO10⟩)
    clear hv10 hP10 hO10
    go_wp2
    go_ret2
    exact HE.out
   case neg =>
    have HSX := h_ (show s2 = sR by rw [hsR, hs2]; unfold rel1; rw [if_neg h16])
    have h16' : s1.rels + 1 ≤ 16 := by omega
    clear h16
    clear h3 ih hg hg0 h hsee htok hmea hr ht hy hlt hgs hle hle2 h4 hRR hs2 hsR nR
    go_enter Tryz.func108, Tryz.ntmps108
    go_wp2_with fail
    refine (HS.out w HP0.out).mono ?_
    rintro e w1 ⟨rfl, hb1⟩
    have HP1 := h_ (HP0.out.below hb1)
    have HO1 := h_ (HO0.out.trans (Owns.of_below hb1 (Fp Cpb Cmb)))
    clear hb1
    go_wp2_with fail
    refine (HI.out w1 HP1.out).mono ?_
    rintro e w2 ⟨u2, z2, rfl, hv2, hP2, hO2⟩
    have HV2 := h_ hv2
    have HP2 := h_ hP2
    have HO2 := h_ (HO1.out.trans hO2)
    clear hv2 hP2 hO2
    obtain ⟨u, z, ee, hyF, hyT⟩ := HV2.out.isT
    injection ee with e1 e2
    obtain rfl := e1
    obtain rfl := e2
    go_wp2_with fail
    refine (HT.out w2 HP2.out _ (HV2.out)).mono ?_
    rintro e w3 ⟨u3, z3, rfl, hv3, hP3, hO3⟩
    have HV3 := h_ hv3
    have HP3 := h_ hP3
    have HO3 := h_ (HO2.out.trans hO3)
    clear hv3 hP3 hO3
    go_wp2_with fail
    refine (HKp.out w3 HP3.out).mono ?_
    rintro e w4 ⟨rfl, hb4⟩
    have hbel : Below w4.heap.size w4 (w4.alloc (.cells #[.int .i64 t.kind, .string y, .int .i64 t.pos] tTok)) := (Below.refl _ _).alloc (Nat.le_refl _) _
    have hx := Box.new w4 #[.int .i64 t.kind, .string y, .int .i64 t.pos] tTok
    have h2 := (HP3.out.below hb4).below hbel
    have ho2 := (Owns.of_below hb4 (Fp Cpb Cmb)).trans (Owns.of_below hbel _)
    obtain ⟨wb, hW⟩ : ∃ wb, wb = w4.heap.size := ⟨_, rfl⟩
    obtain ⟨W, hWW⟩ : ∃ W, w4.alloc (.cells #[.int .i64 t.kind, .string y, .int .i64 t.pos] tTok) = W := ⟨_, rfl⟩
    rw [hWW] at h2 ho2 hx
    have x0 : W.cell? ⟨w4.heap.size, 0, none⟩ = some (.int .i64 t.kind) := hx.cell 0
    have x1 : W.cell? ⟨w4.heap.size, 1, none⟩ = some (.string y) := hx.cell 1
    have x2 : W.cell? ⟨w4.heap.size, 2, none⟩ = some (.int .i64 t.pos) := hx.cell 2
    have xf := hx.fz
    have HX := h_ hx
    have hne : w4.heap.size ≠ Cpb := Nat.ne_of_gt (show Cpb < w4.heap.size from (HP3.out.below hb4).lt)
    have HV5 := h_ (HV3.out.owns ho2)
    have HP5 := h_ h2
    have HO5 := h_ (HO3.out.trans ho2)
    clear hb4 hbel hx h2 ho2 hW
    go_wp2_with fail
    refine (HR.out W).mono ?_
    rintro e w6 ⟨rfl, hb6⟩
    have HX6 := h_ (HX.out.step hb6)
    have HV6 := h_ (HV5.out.owns (Owns.of_below hb6 (Fp Cpb Cmb)))
    have HP6 := h_ (HP5.out.below hb6)
    have HO6 := h_ (HO5.out.trans (Owns.of_below hb6 (Fp Cpb Cmb)))
    clear hb6 x0 x1 x2 xf hWW
    have h6 := HP6.out
    obtain ⟨c0, c1, c2, c3, c4, c5, c6⟩ := h6.cells
    have f6 := h6.fz
    have h7 := HD.out w6 h6
    have ho7 := owns_set w6 ⟨Cpb, 3, none⟩ (.int .i64 ((s1.rels : Int) + 1)) (F := Fp Cpb Cmb) (.inl rfl)
    have y2 : (w6.setCell ⟨Cpb, 3, none⟩ (.int .i64 ((s1.rels : Int) + 1))).cell? ⟨w4.heap.size, 2, none⟩ = some (.int .i64 t.pos) := by
     have e := HX6.out.cell 2
     have e2 : (w6.setCell ⟨Cpb, 3, none⟩ (.int .i64 ((s1.rels : Int) + 1))).heap[w4.heap.size]? = w6.heap[w4.heap.size]? := Below.heap_setCell _ _ _ _ hne
     simp only [World.cell?, e2] at e ⊢
     exact e
    have HV7 := h_ (HV6.out.owns ho7)
    have HO7 := h_ (HO6.out.trans ho7)
    have HP7 := h_ h7
    obtain ⟨w7, hw7⟩ : ∃ w7, w6.setCell ⟨Cpb, 3, none⟩ (.int .i64 ((s1.rels : Int) + 1)) = w7 := ⟨_, rfl⟩
    rw [hw7] at h7 y2 HV7 HO7 HP7
    obtain ⟨d0, d1, d2, d3, d4, d5, d6⟩ := h7.cells
    rw [HEr.out] at d3
    have f7 := h7.fz
    clear h6 h7 ho7
    have h9 := HADV.out w7 (by rw [← HSX.out]; exact HP7.out)
    rw [← HSX.out] at HNR
    rw [HNR.out] at d1
    have ho9 := owns_set w7 ⟨Cpb, 1, none⟩ (.int .i64 ((s1.next : Int) + 1)) (F := Fp Cpb Cmb) (.inl rfl)
    have HV9 := h_ (HV7.out.owns ho9)
    have HO9 := h_ (HO7.out.trans ho9)
    have HP9 := h_ h9
    obtain ⟨w9, hw9⟩ : ∃ w9, w7.setCell ⟨Cpb, 1, none⟩ (.int .i64 ((s1.next : Int) + 1)) = w9 := ⟨_, rfl⟩
    rw [hw9] at HV9 HO9 HP9
    clear h9 ho9
    go_wp2_with fail
    refine (HI4.out w9 HP9.out _ rfl).mono ?_
    rintro e w10 ⟨u10, z10, rfl, hv10, hP10, hO10⟩
    have HE := h_ (show FPost ⟨Cb, Cpb, Cmb, CT, CA, Cn, Cc⟩ (some (.fo (.atom l R m))) s' w (.returned (.tuple #[.iface tAtom (.agg #[.iface u3 z3, .int .i64 R, .iface u10 z10]), .bool true])) w10 from ⟨_, _, rfl, ⟨⟨_, _, rfl, (HV9.out.owns hO10).1, hv10.1⟩, by simp, (HV9.out.owns hO10).2.2, hv10.2.2⟩, hP10, HO9.out.trans hO10⟩)
    clear hv10 hP10 hO10
    go_wp2
    go_ret2
    exact HE.out
 | at_go hsee h2 =>
  have HP0 := h_ h
  have HO0 := h_ (Owns.refl w (Fp Cpb Cmb))
  have HS := h_ (fun w1 h2 => sees_any Cb Cpb Cmb Cn Cc CT CA s ⟨#[40]⟩ false w1 h2 hsee)
  have hmea : mea CT (.term none) s < mea CT (.atom b) s := mea_same (by simp [lvl])
  have hg0 := hg
  have hle : s.next ≤ s.next := Nat.le_refl _
  cases h2 with
  | atT_no h3 =>
   have HT := h_ (fun w2 => ih _ _ (hmea) _ _ h3 hg0 (notEncl (by simp)) w2)
   clear h3 ih hg hg0 h hsee htok hmea
   go_enter Tryz.func108, Tryz.ntmps108
   go_wp2_with fail
   refine (HS.out w HP0.out).mono ?_
   rintro e w1 ⟨rfl, hb1⟩
   have HP1 := h_ (HP0.out.below hb1)
   have HO1 := h_ (HO0.out.trans (Owns.of_below hb1 (Fp Cpb Cmb)))
   clear hb1
   go_wp2_with fail
   refine (HT.out w1 HP1.out _ (rfl)).mono ?_
   rintro e w2 ⟨v2, rfl, hov2, hP2, hO2⟩
   have HP2 := h_ hP2
   have HO2 := h_ (HO1.out.trans hO2)
   clear hP2 hO2
   have HE := h_ (show FPost ⟨Cb, Cpb, Cmb, CT, CA, Cn, Cc⟩ none s' w (.returned (.tuple #[.nilIface, .bool false])) w2 from ⟨_, rfl, rfl, HP2.out, HO2.out⟩)
   go_wp2
   go_ret2
   exact HE.out
  | @atT_bare _ _ _ l _ h3 hr hbs =>
   have HT := h_ (fun w2 => ih _ _ (hmea) _ _ h3 hg0 (notEncl (by simp)) w2)
   have HKp := h_ (fun w2 h2 => peek_any Cb Cpb Cmb Cn Cc CT CA s' w2 h2)
   obtain ⟨t, ht⟩ : ∃ t, t = pk CT s' := ⟨_, rfl⟩
   rw [← ht] at HKp hr
   have HR := h_ (fun w2 => rel_any t w2)
   obtain ⟨y, hy⟩ : ∃ y, y = bs t.text := ⟨_, rfl⟩
   rw [← hy] at HR HKp
   rw [hr] at HR
   simp only [Bool.and_eq_true] at hbs
   obtain ⟨rfl, hsee2⟩ := hbs
   have HS2 := h_ (fun w1 h2 => sees_any Cb Cpb Cmb Cn Cc CT CA s' ⟨#[41]⟩ true w1 h2 hsee2)
   clear h3 ih hg hg0 h hsee htok hmea hr ht hy hsee2
   go_enter Tryz.func108, Tryz.ntmps108
   go_wp2_with fail
   refine (HS.out w HP0.out).mono ?_
   rintro e w1 ⟨rfl, hb1⟩
   have HP1 := h_ (HP0.out.below hb1)
   have HO1 := h_ (HO0.out.trans (Owns.of_below hb1 (Fp Cpb Cmb)))
   clear hb1
   go_wp2_with fail
   refine (HT.out w1 HP1.out _ (rfl)).mono ?_
   rintro e w2 ⟨u2, z2, rfl, hv2, hP2, hO2⟩
   have HV2 := h_ hv2
   have HP2 := h_ hP2
   have HO2 := h_ (HO1.out.trans hO2)
   clear hv2 hP2 hO2
   go_wp2_with fail
   refine (HKp.out w2 HP2.out).mono ?_
   rintro e w3 ⟨rfl, hb3⟩
   have hbel : Below w3.heap.size w3 (w3.alloc (.cells #[.int .i64 t.kind, .string y, .int .i64 t.pos] tTok)) := (Below.refl _ _).alloc (Nat.le_refl _) _
   have hx := Box.new w3 #[.int .i64 t.kind, .string y, .int .i64 t.pos] tTok
   have h2 := (HP2.out.below hb3).below hbel
   have ho2 := (Owns.of_below hb3 (Fp Cpb Cmb)).trans (Owns.of_below hbel _)
   obtain ⟨wb, hW⟩ : ∃ wb, wb = w3.heap.size := ⟨_, rfl⟩
   obtain ⟨W, hWW⟩ : ∃ W, w3.alloc (.cells #[.int .i64 t.kind, .string y, .int .i64 t.pos] tTok) = W := ⟨_, rfl⟩
   rw [hWW] at h2 ho2 hx
   have x0 : W.cell? ⟨w3.heap.size, 0, none⟩ = some (.int .i64 t.kind) := hx.cell 0
   have x1 : W.cell? ⟨w3.heap.size, 1, none⟩ = some (.string y) := hx.cell 1
   have x2 : W.cell? ⟨w3.heap.size, 2, none⟩ = some (.int .i64 t.pos) := hx.cell 2
   have xf := hx.fz
   have HX := h_ hx
   have hne : w3.heap.size ≠ Cpb := Nat.ne_of_gt (show Cpb < w3.heap.size from (HP2.out.below hb3).lt)
   have HV5 := h_ (HV2.out.owns ho2)
   have HP5 := h_ h2
   have HO5 := h_ (HO2.out.trans ho2)
   clear hb3 hbel hx h2 ho2 hW
   go_wp2_with fail
   refine (HR.out W).mono ?_
   rintro e w6 ⟨rfl, hb6⟩
   have HX6 := h_ (HX.out.step hb6)
   have HV6 := h_ (HV5.out.owns (Owns.of_below hb6 (Fp Cpb Cmb)))
   have HP6 := h_ (HP5.out.below hb6)
   have HO6 := h_ (HO5.out.trans (Owns.of_below hb6 (Fp Cpb Cmb)))
   clear hb6 x0 x1 x2 xf hWW
   go_wp2_with fail
   refine (HS2.out w6 HP6.out).mono ?_
   rintro e w7 ⟨rfl, hb7⟩
   have HE := h_ (show FPost ⟨Cb, Cpb, Cmb, CT, CA, Cn, Cc⟩ (some (.tm l)) s' w (.returned (.tuple #[.iface u2 z2, .bool true])) w7 from ⟨_, _, rfl, HV6.out.owns (Owns.of_below hb7 _), HP6.out.below hb7, HO6.out.trans (Owns.of_below hb7 _)⟩)
   clear hb7
   go_wp2
   go_ret2
   exact HE.out
  | @atT_none _ _ _ l _ h3 hr hbs =>
   have HT := h_ (fun w2 => ih _ _ (hmea) _ _ h3 hg0 (notEncl (by simp)) w2)
   have HKp := h_ (fun w2 h2 => peek_any Cb Cpb Cmb Cn Cc CT CA s' w2 h2)
   obtain ⟨t, ht⟩ : ∃ t, t = pk CT s' := ⟨_, rfl⟩
   rw [← ht] at HKp hr
   have HR := h_ (fun w2 => rel_any t w2)
   obtain ⟨y, hy⟩ : ∃ y, y = bs t.text := ⟨_, rfl⟩
   rw [← hy] at HR HKp
   rw [hr] at HR
   cases b
   case false =>
    clear h3 ih hg hg0 h hsee htok hmea hr ht hy hbs
    go_enter Tryz.func108, Tryz.ntmps108
    go_wp2_with fail
    refine (HS.out w HP0.out).mono ?_
    rintro e w1 ⟨rfl, hb1⟩
    have HP1 := h_ (HP0.out.below hb1)
    have HO1 := h_ (HO0.out.trans (Owns.of_below hb1 (Fp Cpb Cmb)))
    clear hb1
    go_wp2_with fail
    refine (HT.out w1 HP1.out _ (rfl)).mono ?_
    rintro e w2 ⟨u2, z2, rfl, hv2, hP2, hO2⟩
    have HV2 := h_ hv2
    have HP2 := h_ hP2
    have HO2 := h_ (HO1.out.trans hO2)
    clear hv2 hP2 hO2
    go_wp2_with fail
    refine (HKp.out w2 HP2.out).mono ?_
    rintro e w3 ⟨rfl, hb3⟩
    have hbel : Below w3.heap.size w3 (w3.alloc (.cells #[.int .i64 t.kind, .string y, .int .i64 t.pos] tTok)) := (Below.refl _ _).alloc (Nat.le_refl _) _
    have hx := Box.new w3 #[.int .i64 t.kind, .string y, .int .i64 t.pos] tTok
    have h2 := (HP2.out.below hb3).below hbel
    have ho2 := (Owns.of_below hb3 (Fp Cpb Cmb)).trans (Owns.of_below hbel _)
    obtain ⟨wb, hW⟩ : ∃ wb, wb = w3.heap.size := ⟨_, rfl⟩
    obtain ⟨W, hWW⟩ : ∃ W, w3.alloc (.cells #[.int .i64 t.kind, .string y, .int .i64 t.pos] tTok) = W := ⟨_, rfl⟩
    rw [hWW] at h2 ho2 hx
    have x0 : W.cell? ⟨w3.heap.size, 0, none⟩ = some (.int .i64 t.kind) := hx.cell 0
    have x1 : W.cell? ⟨w3.heap.size, 1, none⟩ = some (.string y) := hx.cell 1
    have x2 : W.cell? ⟨w3.heap.size, 2, none⟩ = some (.int .i64 t.pos) := hx.cell 2
    have xf := hx.fz
    have HX := h_ hx
    have hne : w3.heap.size ≠ Cpb := Nat.ne_of_gt (show Cpb < w3.heap.size from (HP2.out.below hb3).lt)
    have HV5 := h_ (HV2.out.owns ho2)
    have HP5 := h_ h2
    have HO5 := h_ (HO2.out.trans ho2)
    clear hb3 hbel hx h2 ho2 hW
    go_wp2_with fail
    refine (HR.out W).mono ?_
    rintro e w6 ⟨rfl, hb6⟩
    have HX6 := h_ (HX.out.step hb6)
    have HV6 := h_ (HV5.out.owns (Owns.of_below hb6 (Fp Cpb Cmb)))
    have HP6 := h_ (HP5.out.below hb6)
    have HO6 := h_ (HO5.out.trans (Owns.of_below hb6 (Fp Cpb Cmb)))
    clear hb6 x0 x1 x2 xf hWW
    have HE := h_ (show FPost ⟨Cb, Cpb, Cmb, CT, CA, Cn, Cc⟩ none s' w (.returned (.tuple #[.iface u2 z2, .bool false])) w6 from ⟨_, rfl, rfl, HP6.out, HO6.out⟩)
    go_wp2
    go_ret2
    exact HE.out
   case true =>
    have hsee2 : sees CT s' cShut = false := by simpa using hbs
    have HS2 := h_ (fun w1 h2 => sees_any Cb Cpb Cmb Cn Cc CT CA s' ⟨#[41]⟩ false w1 h2 hsee2)
    clear h3 ih hg hg0 h hsee htok hmea hr ht hy hbs hsee2
    go_enter Tryz.func108, Tryz.ntmps108
    go_wp2_with fail
    refine (HS.out w HP0.out).mono ?_
    rintro e w1 ⟨rfl, hb1⟩
    have HP1 := h_ (HP0.out.below hb1)
    have HO1 := h_ (HO0.out.trans (Owns.of_below hb1 (Fp Cpb Cmb)))
    clear hb1
    go_wp2_with fail
    refine (HT.out w1 HP1.out _ (rfl)).mono ?_
    rintro e w2 ⟨u2, z2, rfl, hv2, hP2, hO2⟩
    have HV2 := h_ hv2
    have HP2 := h_ hP2
    have HO2 := h_ (HO1.out.trans hO2)
    clear hv2 hP2 hO2
    go_wp2_with fail
    refine (HKp.out w2 HP2.out).mono ?_
    rintro e w3 ⟨rfl, hb3⟩
    have hbel : Below w3.heap.size w3 (w3.alloc (.cells #[.int .i64 t.kind, .string y, .int .i64 t.pos] tTok)) := (Below.refl _ _).alloc (Nat.le_refl _) _
    have hx := Box.new w3 #[.int .i64 t.kind, .string y, .int .i64 t.pos] tTok
    have h2 := (HP2.out.below hb3).below hbel
    have ho2 := (Owns.of_below hb3 (Fp Cpb Cmb)).trans (Owns.of_below hbel _)
    obtain ⟨wb, hW⟩ : ∃ wb, wb = w3.heap.size := ⟨_, rfl⟩
    obtain ⟨W, hWW⟩ : ∃ W, w3.alloc (.cells #[.int .i64 t.kind, .string y, .int .i64 t.pos] tTok) = W := ⟨_, rfl⟩
    rw [hWW] at h2 ho2 hx
    have x0 : W.cell? ⟨w3.heap.size, 0, none⟩ = some (.int .i64 t.kind) := hx.cell 0
    have x1 : W.cell? ⟨w3.heap.size, 1, none⟩ = some (.string y) := hx.cell 1
    have x2 : W.cell? ⟨w3.heap.size, 2, none⟩ = some (.int .i64 t.pos) := hx.cell 2
    have xf := hx.fz
    have HX := h_ hx
    have hne : w3.heap.size ≠ Cpb := Nat.ne_of_gt (show Cpb < w3.heap.size from (HP2.out.below hb3).lt)
    have HV5 := h_ (HV2.out.owns ho2)
    have HP5 := h_ h2
    have HO5 := h_ (HO2.out.trans ho2)
    clear hb3 hbel hx h2 ho2 hW
    go_wp2_with fail
    refine (HR.out W).mono ?_
    rintro e w6 ⟨rfl, hb6⟩
    have HX6 := h_ (HX.out.step hb6)
    have HV6 := h_ (HV5.out.owns (Owns.of_below hb6 (Fp Cpb Cmb)))
    have HP6 := h_ (HP5.out.below hb6)
    have HO6 := h_ (HO5.out.trans (Owns.of_below hb6 (Fp Cpb Cmb)))
    clear hb6 x0 x1 x2 xf hWW
    go_wp2_with fail
    refine (HS2.out w6 HP6.out).mono ?_
    rintro e w7 ⟨rfl, hb7⟩
    have HE := h_ (show FPost ⟨Cb, Cpb, Cmb, CT, CA, Cn, Cc⟩ none s' w (.returned (.tuple #[.iface u2 z2, .bool false])) w7 from ⟨_, rfl, rfl, HP6.out.below hb7, HO6.out.trans (Owns.of_below hb7 _)⟩)
    clear hb7
    go_wp2
    go_ret2
    exact HE.out
  | @atT_bad _ _ _ l s1 _ h3 hr h4 =>
   have HT := h_ (fun w2 => ih _ _ (hmea) _ _ h3 hg0 (notEncl (by simp)) w2)
   have hlt : s1.next < CT.length := relOf_lt hr
   have hlt' : s1.next < Cn := by rw [hn]; exact hlt
   have hgs := h3.gd hg0
   have hrel := hgs.2.1
   have hle2 : s.next ≤ s1.next := Nat.le_trans hle h3.mono
   have HI4 := h_ (fun w2 => ih _ _ (show mea CT (.term none) (relS CT s1) < _ from mea_adv (by rw [relS_next]; omega) (by omega)) _ _ h4 hgs.c_rel (notEncl (by simp)) w2)
   have HKp := h_ (fun w2 h2 => peek_any Cb Cpb Cmb Cn Cc CT CA s1 w2 h2)
   obtain ⟨t, ht⟩ : ∃ t, t = pk CT s1 := ⟨_, rfl⟩
   rw [← ht] at HKp hr
   have HR := h_ (fun w2 => rel_any t w2)
   obtain ⟨y, hy⟩ : ∃ y, y = bs t.text := ⟨_, rfl⟩
   rw [← hy] at HR HKp
   obtain ⟨R, hRR⟩ : ∃ R, R = relOf t := ⟨_, rfl⟩
   rw [← hRR] at HR hr
   have hR0 : (R == 0) = false := by rw [beq_eq_false_iff_ne]; exact hr
   obtain ⟨s2, hs2⟩ : ∃ s2, s2 = { s1 with rels := s1.rels + 1 } := ⟨_, rfl⟩
   obtain ⟨sR, hsR⟩ : ∃ sR, sR = rel1 CT s1 := ⟨_, rfl⟩
   have nR : sR.next = s1.next := by have := relS_next CT s1; unfold relS adv at this; rw [hsR]; exact Nat.succ.inj this
   have HD := h_ (show ∀ w1, PAt Cb Cpb Cmb CT CA Cn Cc s1 w1 → PAt Cb Cpb Cmb CT CA Cn Cc s2 (w1.setCell ⟨Cpb, 3, none⟩ (.int .i64 ((s1.rels : Int) + 1))) from fun w1 h => h.set (s' := s2) 3 _ (by rw [hs2]; rfl) (by rw [hs2]) (by rw [hs2]; exact h.next) (by rw [hs2]; exact h.depth) (by rw [hs2]; show s1.rels + 1 ≤ s1.next + 1; omega) (by rw [hs2]; exact h.nms))
   have HEr := h_ (show s2.rels = s1.rels + 1 by rw [hs2])
   have HXc := h_ (fun w1 h2 => exceed_any Cb Cpb Cmb Cn Cc CT CA s2 t.pos w1 h2)
   have HADV := h_ (show ∀ w1, PAt Cb Cpb Cmb CT CA Cn Cc sR w1 → PAt Cb Cpb Cmb CT CA Cn Cc (relS CT s1) (w1.setCell ⟨Cpb, 1, none⟩ (.int .i64 ((s1.next : Int) + 1))) from fun w1 h => by
    have h5 := h.advs (by rw [nR]; exact hlt')
    rw [nR, hsR] at h5
    exact h5)
   have HNR := h_ nR
   by_cases h16 : 16 < s1.rels + 1
   case pos =>
    have HSX := h_ (show exc s2 t.pos = sR by rw [hsR, hs2, ht]; unfold rel1; rw [if_pos h16])
    clear h3 ih hg hg0 h hsee htok hmea hr ht hy hlt hgs hle hle2 h4 hRR hs2 hsR nR
    go_enter Tryz.func108, Tryz.ntmps108
    go_wp2_with fail
    refine (HS.out w HP0.out).mono ?_
    rintro e w1 ⟨rfl, hb1⟩
    have HP1 := h_ (HP0.out.below hb1)
    have HO1 := h_ (HO0.out.trans (Owns.of_below hb1 (Fp Cpb Cmb)))
    clear hb1
    go_wp2_with fail
    refine (HT.out w1 HP1.out _ (rfl)).mono ?_
    rintro e w2 ⟨u2, z2, rfl, hv2, hP2, hO2⟩
    have HV2 := h_ hv2
    have HP2 := h_ hP2
    have HO2 := h_ (HO1.out.trans hO2)
    clear hv2 hP2 hO2
    go_wp2_with fail
    refine (HKp.out w2 HP2.out).mono ?_
    rintro e w3 ⟨rfl, hb3⟩
    have hbel : Below w3.heap.size w3 (w3.alloc (.cells #[.int .i64 t.kind, .string y, .int .i64 t.pos] tTok)) := (Below.refl _ _).alloc (Nat.le_refl _) _
    have hx := Box.new w3 #[.int .i64 t.kind, .string y, .int .i64 t.pos] tTok
    have h2 := (HP2.out.below hb3).below hbel
    have ho2 := (Owns.of_below hb3 (Fp Cpb Cmb)).trans (Owns.of_below hbel _)
    obtain ⟨wb, hW⟩ : ∃ wb, wb = w3.heap.size := ⟨_, rfl⟩
    obtain ⟨W, hWW⟩ : ∃ W, w3.alloc (.cells #[.int .i64 t.kind, .string y, .int .i64 t.pos] tTok) = W := ⟨_, rfl⟩
    rw [hWW] at h2 ho2 hx
    have x0 : W.cell? ⟨w3.heap.size, 0, none⟩ = some (.int .i64 t.kind) := hx.cell 0
    have x1 : W.cell? ⟨w3.heap.size, 1, none⟩ = some (.string y) := hx.cell 1
    have x2 : W.cell? ⟨w3.heap.size, 2, none⟩ = some (.int .i64 t.pos) := hx.cell 2
    have xf := hx.fz
    have HX := h_ hx
    have hne : w3.heap.size ≠ Cpb := Nat.ne_of_gt (show Cpb < w3.heap.size from (HP2.out.below hb3).lt)
    have HV5 := h_ (HV2.out.owns ho2)
    have HP5 := h_ h2
    have HO5 := h_ (HO2.out.trans ho2)
    clear hb3 hbel hx h2 ho2 hW
    go_wp2_with fail
    refine (HR.out W).mono ?_
    rintro e w6 ⟨rfl, hb6⟩
    have HX6 := h_ (HX.out.step hb6)
    have HV6 := h_ (HV5.out.owns (Owns.of_below hb6 (Fp Cpb Cmb)))
    have HP6 := h_ (HP5.out.below hb6)
    have HO6 := h_ (HO5.out.trans (Owns.of_below hb6 (Fp Cpb Cmb)))
    clear hb6 x0 x1 x2 xf hWW
    have h6 := HP6.out
    obtain ⟨c0, c1, c2, c3, c4, c5, c6⟩ := h6.cells
    have f6 := h6.fz
    have h7 := HD.out w6 h6
    have ho7 := owns_set w6 ⟨Cpb, 3, none⟩ (.int .i64 ((s1.rels : Int) + 1)) (F := Fp Cpb Cmb) (.inl rfl)
    have y2 : (w6.setCell ⟨Cpb, 3, none⟩ (.int .i64 ((s1.rels : Int) + 1))).cell? ⟨w3.heap.size, 2, none⟩ = some (.int .i64 t.pos) := by
     have e := HX6.out.cell 2
     have e2 : (w6.setCell ⟨Cpb, 3, none⟩ (.int .i64 ((s1.rels : Int) + 1))).heap[w3.heap.size]? = w6.heap[w3.heap.size]? := Below.heap_setCell _ _ _ _ hne
     simp only [World.cell?, e2] at e ⊢
     exact e
    have HV7 := h_ (HV6.out.owns ho7)
    have HO7 := h_ (HO6.out.trans ho7)
    have HP7 := h_ h7
    obtain ⟨w7, hw7⟩ : ∃ w7, w6.setCell ⟨Cpb, 3, none⟩ (.int .i64 ((s1.rels : Int) + 1)) = w7 := ⟨_, rfl⟩
    rw [hw7] at h7 y2 HV7 HO7 HP7
    obtain ⟨d0, d1, d2, d3, d4, d5, d6⟩ := h7.cells
    rw [HEr.out] at d3
    have f7 := h7.fz
    clear h6 h7 ho7
    go_wp2_with fail
    refine (HXc.out w7 HP7.out).mono ?_
    rintro e w8 ⟨rfl, hP8, hO8⟩
    rw [HSX.out] at hP8
    have HV8 := h_ (HV7.out.owns hO8)
    have HO8 := h_ (HO7.out.trans hO8)
    obtain ⟨g0, g1, g2, g3, g4, g5, g6⟩ := hP8.cells
    rw [HNR.out] at g1
    have f8 := hP8.fz
    have h9 := HADV.out w8 hP8
    have ho9 := owns_set w8 ⟨Cpb, 1, none⟩ (.int .i64 ((s1.next : Int) + 1)) (F := Fp Cpb Cmb) (.inl rfl)
    have HV9 := h_ (HV8.out.owns ho9)
    have HO9 := h_ (HO8.out.trans ho9)
    have HP9 := h_ h9
    obtain ⟨w9, hw9⟩ : ∃ w9, w8.setCell ⟨Cpb, 1, none⟩ (.int .i64 ((s1.next : Int) + 1)) = w9 := ⟨_, rfl⟩
    rw [hw9] at HV9 HO9 HP9
    clear hP8 hO8 h9 ho9 c0 c1 c2 c3 c4 c5 c6 f6 d0 d1 d2 d3 d4 d5 d6 f7 y2 hw7
    go_wp2_with fail
    refine (HI4.out w9 HP9.out _ rfl).mono ?_
    rintro e w10 ⟨v10, rfl, hov10, hP10, hO10⟩
    have HE := h_ (show FPost ⟨Cb, Cpb, Cmb, CT, CA, Cn, Cc⟩ none s' w (.returned (.tuple #[.nilIface, .bool false])) w10 from ⟨_, rfl, rfl, hP10, HO9.out.trans hO10⟩)
    clear hP10 hO10
    go_wp2
    go_ret2
    exact HE.out
   case neg =>
    have HSX := h_ (show s2 = sR by rw [hsR, hs2]; unfold rel1; rw [if_neg h16])
    have h16' : s1.rels + 1 ≤ 16 := by omega
    clear h16
    clear h3 ih hg hg0 h hsee htok hmea hr ht hy hlt hgs hle hle2 h4 hRR hs2 hsR nR
    go_enter Tryz.func108, Tryz.ntmps108
    go_wp2_with fail
    refine (HS.out w HP0.out).mono ?_
    rintro e w1 ⟨rfl, hb1⟩
    have HP1 := h_ (HP0.out.below hb1)
    have HO1 := h_ (HO0.out.trans (Owns.of_below hb1 (Fp Cpb Cmb)))
    clear hb1
    go_wp2_with fail
    refine (HT.out w1 HP1.out _ (rfl)).mono ?_
    rintro e w2 ⟨u2, z2, rfl, hv2, hP2, hO2⟩
    have HV2 := h_ hv2
    have HP2 := h_ hP2
    have HO2 := h_ (HO1.out.trans hO2)
    clear hv2 hP2 hO2
    go_wp2_with fail
    refine (HKp.out w2 HP2.out).mono ?_
    rintro e w3 ⟨rfl, hb3⟩
    have hbel : Below w3.heap.size w3 (w3.alloc (.cells #[.int .i64 t.kind, .string y, .int .i64 t.pos] tTok)) := (Below.refl _ _).alloc (Nat.le_refl _) _
    have hx := Box.new w3 #[.int .i64 t.kind, .string y, .int .i64 t.pos] tTok
    have h2 := (HP2.out.below hb3).below hbel
    have ho2 := (Owns.of_below hb3 (Fp Cpb Cmb)).trans (Owns.of_below hbel _)
    obtain ⟨wb, hW⟩ : ∃ wb, wb = w3.heap.size := ⟨_, rfl⟩
    obtain ⟨W, hWW⟩ : ∃ W, w3.alloc (.cells #[.int .i64 t.kind, .string y, .int .i64 t.pos] tTok) = W := ⟨_, rfl⟩
    rw [hWW] at h2 ho2 hx
    have x0 : W.cell? ⟨w3.heap.size, 0, none⟩ = some (.int .i64 t.kind) := hx.cell 0
    have x1 : W.cell? ⟨w3.heap.size, 1, none⟩ = some (.string y) := hx.cell 1
    have x2 : W.cell? ⟨w3.heap.size, 2, none⟩ = some (.int .i64 t.pos) := hx.cell 2
    have xf := hx.fz
    have HX := h_ hx
    have hne : w3.heap.size ≠ Cpb := Nat.ne_of_gt (show Cpb < w3.heap.size from (HP2.out.below hb3).lt)
    have HV5 := h_ (HV2.out.owns ho2)
    have HP5 := h_ h2
    have HO5 := h_ (HO2.out.trans ho2)
    clear hb3 hbel hx h2 ho2 hW
    go_wp2_with fail
    refine (HR.out W).mono ?_
    rintro e w6 ⟨rfl, hb6⟩
    have HX6 := h_ (HX.out.step hb6)
    have HV6 := h_ (HV5.out.owns (Owns.of_below hb6 (Fp Cpb Cmb)))
    have HP6 := h_ (HP5.out.below hb6)
    have HO6 := h_ (HO5.out.trans (Owns.of_below hb6 (Fp Cpb Cmb)))
    clear hb6 x0 x1 x2 xf hWW
    have h6 := HP6.out
    obtain ⟨c0, c1, c2, c3, c4, c5, c6⟩ := h6.cells
    have f6 := h6.fz
    have h7 := HD.out w6 h6
    have ho7 := owns_set w6 ⟨Cpb, 3, none⟩ (.int .i64 ((s1.rels : Int) + 1)) (F := Fp Cpb Cmb) (.inl rfl)
    have y2 : (w6.setCell ⟨Cpb, 3, none⟩ (.int .i64 ((s1.rels : Int) + 1))).cell? ⟨w3.heap.size, 2, none⟩ = some (.int .i64 t.pos) := by
     have e := HX6.out.cell 2
     have e2 : (w6.setCell ⟨Cpb, 3, none⟩ (.int .i64 ((s1.rels : Int) + 1))).heap[w3.heap.size]? = w6.heap[w3.heap.size]? := Below.heap_setCell _ _ _ _ hne
     simp only [World.cell?, e2] at e ⊢
     exact e
    have HV7 := h_ (HV6.out.owns ho7)
    have HO7 := h_ (HO6.out.trans ho7)
    have HP7 := h_ h7
    obtain ⟨w7, hw7⟩ : ∃ w7, w6.setCell ⟨Cpb, 3, none⟩ (.int .i64 ((s1.rels : Int) + 1)) = w7 := ⟨_, rfl⟩
    rw [hw7] at h7 y2 HV7 HO7 HP7
    obtain ⟨d0, d1, d2, d3, d4, d5, d6⟩ := h7.cells
    rw [HEr.out] at d3
    have f7 := h7.fz
    clear h6 h7 ho7
    have h9 := HADV.out w7 (by rw [← HSX.out]; exact HP7.out)
    rw [← HSX.out] at HNR
    rw [HNR.out] at d1
    have ho9 := owns_set w7 ⟨Cpb, 1, none⟩ (.int .i64 ((s1.next : Int) + 1)) (F := Fp Cpb Cmb) (.inl rfl)
    have HV9 := h_ (HV7.out.owns ho9)
    have HO9 := h_ (HO7.out.trans ho9)
    have HP9 := h_ h9
    obtain ⟨w9, hw9⟩ : ∃ w9, w7.setCell ⟨Cpb, 1, none⟩ (.int .i64 ((s1.next : Int) + 1)) = w9 := ⟨_, rfl⟩
    rw [hw9] at HV9 HO9 HP9
    clear h9 ho9
    go_wp2_with fail
    refine (HI4.out w9 HP9.out _ rfl).mono ?_
    rintro e w10 ⟨v10, rfl, hov10, hP10, hO10⟩
    have HE := h_ (show FPost ⟨Cb, Cpb, Cmb, CT, CA, Cn, Cc⟩ none s' w (.returned (.tuple #[.nilIface, .bool false])) w10 from ⟨_, rfl, rfl, hP10, HO9.out.trans hO10⟩)
    clear hP10 hO10
    go_wp2
    go_ret2
    exact HE.out
  | @atT_ok _ _ _ l s1 m _ h3 hr h4 =>
   have HT := h_ (fun w2 => ih _ _ (hmea) _ _ h3 hg0 (notEncl (by simp)) w2)
   have hlt : s1.next < CT.length := relOf_lt hr
   have hlt' : s1.next < Cn := by rw [hn]; exact hlt
   have hgs := h3.gd hg0
   have hrel := hgs.2.1
   have hle2 : s.next ≤ s1.next := Nat.le_trans hle h3.mono
   have HI4 := h_ (fun w2 => ih _ _ (show mea CT (.term none) (relS CT s1) < _ from mea_adv (by rw [relS_next]; omega) (by omega)) _ _ h4 hgs.c_rel (notEncl (by simp)) w2)
   have HKp := h_ (fun w2 h2 => peek_any Cb Cpb Cmb Cn Cc CT CA s1 w2 h2)
   obtain ⟨t, ht⟩ : ∃ t, t = pk CT s1 := ⟨_, rfl⟩
   rw [← ht] at HKp hr ⊢
   have HR := h_ (fun w2 => rel_any t w2)
   obtain ⟨y, hy⟩ : ∃ y, y = bs t.text := ⟨_, rfl⟩
   rw [← hy] at HR HKp
   obtain ⟨R, hRR⟩ : ∃ R, R = relOf t := ⟨_, rfl⟩
   rw [← hRR] at HR hr ⊢
   have hR0 : (R == 0) = false := by rw [beq_eq_false_iff_ne]; exact hr
   obtain ⟨s2, hs2⟩ : ∃ s2, s2 = { s1 with rels := s1.rels + 1 } := ⟨_, rfl⟩
   obtain ⟨sR, hsR⟩ : ∃ sR, sR = rel1 CT s1 := ⟨_, rfl⟩
   have nR : sR.next = s1.next := by have := relS_next CT s1; unfold relS adv at this; rw [hsR]; exact Nat.succ.inj this
   have HD := h_ (show ∀ w1, PAt Cb Cpb Cmb CT CA Cn Cc s1 w1 → PAt Cb Cpb Cmb CT CA Cn Cc s2 (w1.setCell ⟨Cpb, 3, none⟩ (.int .i64 ((s1.rels : Int) + 1))) from fun w1 h => h.set (s' := s2) 3 _ (by rw [hs2]; rfl) (by rw [hs2]) (by rw [hs2]; exact h.next) (by rw [hs2]; exact h.depth) (by rw [hs2]; show s1.rels + 1 ≤ s1.next + 1; omega) (by rw [hs2]; exact h.nms))
   have HEr := h_ (show s2.rels = s1.rels + 1 by rw [hs2])
   have HXc := h_ (fun w1 h2 => exceed_any Cb Cpb Cmb Cn Cc CT CA s2 t.pos w1 h2)
   have HADV := h_ (show ∀ w1, PAt Cb Cpb Cmb CT CA Cn Cc sR w1 → PAt Cb Cpb Cmb CT CA Cn Cc (relS CT s1) (w1.setCell ⟨Cpb, 1, none⟩ (.int .i64 ((s1.next : Int) + 1))) from fun w1 h => by
    have h5 := h.advs (by rw [nR]; exact hlt')
    rw [nR, hsR] at h5
    exact h5)
   have HNR := h_ nR
   by_cases h16 : 16 < s1.rels + 1
   case pos =>
    have HSX := h_ (show exc s2 t.pos = sR by rw [hsR, hs2, ht]; unfold rel1; rw [if_pos h16])
    clear h3 ih hg hg0 h hsee htok hmea hr ht hy hlt hgs hle hle2 h4 hRR hs2 hsR nR
    go_enter Tryz.func108, Tryz.ntmps108
    go_wp2_with fail
    refine (HS.out w HP0.out).mono ?_
    rintro e w1 ⟨rfl, hb1⟩
    have HP1 := h_ (HP0.out.below hb1)
    have HO1 := h_ (HO0.out.trans (Owns.of_below hb1 (Fp Cpb Cmb)))
    clear hb1
    go_wp2_with fail
    refine (HT.out w1 HP1.out _ (rfl)).mono ?_
    rintro e w2 ⟨u2, z2, rfl, hv2, hP2, hO2⟩
    have HV2 := h_ hv2
    have HP2 := h_ hP2
    have HO2 := h_ (HO1.out.trans hO2)
    clear hv2 hP2 hO2
    go_wp2_with fail
    refine (HKp.out w2 HP2.out).mono ?_
    rintro e w3 ⟨rfl, hb3⟩
    have hbel : Below w3.heap.size w3 (w3.alloc (.cells #[.int .i64 t.kind, .string y, .int .i64 t.pos] tTok)) := (Below.refl _ _).alloc (Nat.le_refl _) _
    have hx := Box.new w3 #[.int .i64 t.kind, .string y, .int .i64 t.pos] tTok
    have h2 := (HP2.out.below hb3).below hbel
    have ho2 := (Owns.of_below hb3 (Fp Cpb Cmb)).trans (Owns.of_below hbel _)
    obtain ⟨wb, hW⟩ : ∃ wb, wb = w3.heap.size := ⟨_, rfl⟩
    obtain ⟨W, hWW⟩ : ∃ W, w3.alloc (.cells #[.int .i64 t.kind, .string y, .int .i64 t.pos] tTok) = W := ⟨_, rfl⟩
    rw [hWW] at h2 ho2 hx
    have x0 : W.cell? ⟨w3.heap.size, 0, none⟩ = some (.int .i64 t.kind) := hx.cell 0
    have x1 : W.cell? ⟨w3.heap.size, 1, none⟩ = some (.string y) := hx.cell 1
    have x2 : W.cell? ⟨w3.heap.size, 2, none⟩ = some (.int .i64 t.pos) := hx.cell 2
    have xf := hx.fz
    have HX := h_ hx
    have hne : w3.heap.size ≠ Cpb := Nat.ne_of_gt (show Cpb < w3.heap.size from (HP2.out.below hb3).lt)
    have HV5 := h_ (HV2.out.owns ho2)
    have HP5 := h_ h2
    have HO5 := h_ (HO2.out.trans ho2)
    clear hb3 hbel hx h2 ho2 hW
    go_wp2_with fail
    refine (HR.out W).mono ?_
    rintro e w6 ⟨rfl, hb6⟩
    have HX6 := h_ (HX.out.step hb6)
    have HV6 := h_ (HV5.out.owns (Owns.of_below hb6 (Fp Cpb Cmb)))
    have HP6 := h_ (HP5.out.below hb6)
    have HO6 := h_ (HO5.out.trans (Owns.of_below hb6 (Fp Cpb Cmb)))
    clear hb6 x0 x1 x2 xf hWW
    have h6 := HP6.out
    obtain ⟨c0, c1, c2, c3, c4, c5, c6⟩ := h6.cells
    have f6 := h6.fz
    have h7 := HD.out w6 h6
    have ho7 := owns_set w6 ⟨Cpb, 3, none⟩ (.int .i64 ((s1.rels : Int) + 1)) (F := Fp Cpb Cmb) (.inl rfl)
    have y2 : (w6.setCell ⟨Cpb, 3, none⟩ (.int .i64 ((s1.rels : Int) + 1))).cell? ⟨w3.heap.size, 2, none⟩ = some (.int .i64 t.pos) := by
     have e := HX6.out.cell 2
     have e2 : (w6.setCell ⟨Cpb, 3, none⟩ (.int .i64 ((s1.rels : Int) + 1))).heap[w3.heap.size]? = w6.heap[w3.heap.size]? := Below.heap_setCell _ _ _ _ hne
     simp only [World.cell?, e2] at e ⊢
     exact e
    have HV7 := h_ (HV6.out.owns ho7)
    have HO7 := h_ (HO6.out.trans ho7)
    have HP7 := h_ h7
    obtain ⟨w7, hw7⟩ : ∃ w7, w6.setCell ⟨Cpb, 3, none⟩ (.int .i64 ((s1.rels : Int) + 1)) = w7 := ⟨_, rfl⟩
    rw [hw7] at h7 y2 HV7 HO7 HP7
    obtain ⟨d0, d1, d2, d3, d4, d5, d6⟩ := h7.cells
    rw [HEr.out] at d3
    have f7 := h7.fz
    clear h6 h7 ho7
    go_wp2_with fail
    refine (HXc.out w7 HP7.out).mono ?_
    rintro e w8 ⟨rfl, hP8, hO8⟩
    rw [HSX.out] at hP8
    have HV8 := h_ (HV7.out.owns hO8)
    have HO8 := h_ (HO7.out.trans hO8)
    obtain ⟨g0, g1, g2, g3, g4, g5, g6⟩ := hP8.cells
    rw [HNR.out] at g1
    have f8 := hP8.fz
    have h9 := HADV.out w8 hP8
    have ho9 := owns_set w8 ⟨Cpb, 1, none⟩ (.int .i64 ((s1.next : Int) + 1)) (F := Fp Cpb Cmb) (.inl rfl)
    have HV9 := h_ (HV8.out.owns ho9)
    have HO9 := h_ (HO8.out.trans ho9)
    have HP9 := h_ h9
    obtain ⟨w9, hw9⟩ : ∃ w9, w8.setCell ⟨Cpb, 1, none⟩ (.int .i64 ((s1.next : Int) + 1)) = w9 := ⟨_, rfl⟩
    rw [hw9] at HV9 HO9 HP9
    clear hP8 hO8 h9 ho9 c0 c1 c2 c3 c4 c5 c6 f6 d0 d1 d2 d3 d4 d5 d6 f7 y2 hw7
    go_wp2_with fail
    refine (HI4.out w9 HP9.out _ rfl).mono ?_
    rintro e w10 ⟨u10, z10, rfl, hv10, hP10, hO10⟩
    have HE := h_ (show FPost ⟨Cb, Cpb, Cmb, CT, CA, Cn, Cc⟩ (some (.fo (.atom l R m))) s' w (.returned (.tuple #[.iface tAtom (.agg #[.iface u2 z2, .int .i64 R, .iface u10 z10]), .bool true])) w10 from ⟨_, _, rfl, ⟨⟨_, _, rfl, (HV9.out.owns hO10).1, hv10.1⟩, by simp, (HV9.out.owns hO10).2.2, hv10.2.2⟩, hP10, HO9.out.trans hO10⟩)
    clear hv10 hP10 hO10
    go_wp2
    go_ret2
    exact HE.out
   case neg =>
    have HSX := h_ (show s2 = sR by rw [hsR, hs2]; unfold rel1; rw [if_neg h16])
    have h16' : s1.rels + 1 ≤ 16 := by omega
    clear h16
    clear h3 ih hg hg0 h hsee htok hmea hr ht hy hlt hgs hle hle2 h4 hRR hs2 hsR nR
    go_enter Tryz.func108, Tryz.ntmps108
    go_wp2_with fail
    refine (HS.out w HP0.out).mono ?_
    rintro e w1 ⟨rfl, hb1⟩
    have HP1 := h_ (HP0.out.below hb1)
    have HO1 := h_ (HO0.out.trans (Owns.of_below hb1 (Fp Cpb Cmb)))
    clear hb1
    go_wp2_with fail
    refine (HT.out w1 HP1.out _ (rfl)).mono ?_
    rintro e w2 ⟨u2, z2, rfl, hv2, hP2, hO2⟩
    have HV2 := h_ hv2
    have HP2 := h_ hP2
    have HO2 := h_ (HO1.out.trans hO2)
    clear hv2 hP2 hO2
    go_wp2_with fail
    refine (HKp.out w2 HP2.out).mono ?_
    rintro e w3 ⟨rfl, hb3⟩
    have hbel : Below w3.heap.size w3 (w3.alloc (.cells #[.int .i64 t.kind, .string y, .int .i64 t.pos] tTok)) := (Below.refl _ _).alloc (Nat.le_refl _) _
    have hx := Box.new w3 #[.int .i64 t.kind, .string y, .int .i64 t.pos] tTok
    have h2 := (HP2.out.below hb3).below hbel
    have ho2 := (Owns.of_below hb3 (Fp Cpb Cmb)).trans (Owns.of_below hbel _)
    obtain ⟨wb, hW⟩ : ∃ wb, wb = w3.heap.size := ⟨_, rfl⟩
    obtain ⟨W, hWW⟩ : ∃ W, w3.alloc (.cells #[.int .i64 t.kind, .string y, .int .i64 t.pos] tTok) = W := ⟨_, rfl⟩
    rw [hWW] at h2 ho2 hx
    have x0 : W.cell? ⟨w3.heap.size, 0, none⟩ = some (.int .i64 t.kind) := hx.cell 0
    have x1 : W.cell? ⟨w3.heap.size, 1, none⟩ = some (.string y) := hx.cell 1
    have x2 : W.cell? ⟨w3.heap.size, 2, none⟩ = some (.int .i64 t.pos) := hx.cell 2
    have xf := hx.fz
    have HX := h_ hx
    have hne : w3.heap.size ≠ Cpb := Nat.ne_of_gt (show Cpb < w3.heap.size from (HP2.out.below hb3).lt)
    have HV5 := h_ (HV2.out.owns ho2)
    have HP5 := h_ h2
    have HO5 := h_ (HO2.out.trans ho2)
    clear hb3 hbel hx h2 ho2 hW
    go_wp2_with fail
    refine (HR.out W).mono ?_
    rintro e w6 ⟨rfl, hb6⟩
    have HX6 := h_ (HX.out.step hb6)
    have HV6 := h_ (HV5.out.owns (Owns.of_below hb6 (Fp Cpb Cmb)))
    have HP6 := h_ (HP5.out.below hb6)
    have HO6 := h_ (HO5.out.trans (Owns.of_below hb6 (Fp Cpb Cmb)))
    clear hb6 x0 x1 x2 xf hWW
    have h6 := HP6.out
    obtain ⟨c0, c1, c2, c3, c4, c5, c6⟩ := h6.cells
    have f6 := h6.fz
    have h7 := HD.out w6 h6
    have ho7 := owns_set w6 ⟨Cpb, 3, none⟩ (.int .i64 ((s1.rels : Int) + 1)) (F := Fp Cpb Cmb) (.inl rfl)
    have y2 : (w6.setCell ⟨Cpb, 3, none⟩ (.int .i64 ((s1.rels : Int) + 1))).cell? ⟨w3.heap.size, 2, none⟩ = some (.int .i64 t.pos) := by
     have e := HX6.out.cell 2
     have e2 : (w6.setCell ⟨Cpb, 3, none⟩ (.int .i64 ((s1.rels : Int) + 1))).heap[w3.heap.size]? = w6.heap[w3.heap.size]? := Below.heap_setCell _ _ _ _ hne
     simp only [World.cell?, e2] at e ⊢
     exact e
    have HV7 := h_ (HV6.out.owns ho7)
    have HO7 := h_ (HO6.out.trans ho7)
    have HP7 := h_ h7
    obtain ⟨w7, hw7⟩ : ∃ w7, w6.setCell ⟨Cpb, 3, none⟩ (.int .i64 ((s1.rels : Int) + 1)) = w7 := ⟨_, rfl⟩
    rw [hw7] at h7 y2 HV7 HO7 HP7
    obtain ⟨d0, d1, d2, d3, d4, d5, d6⟩ := h7.cells
    rw [HEr.out] at d3
    have f7 := h7.fz
    clear h6 h7 ho7
    have h9 := HADV.out w7 (by rw [← HSX.out]; exact HP7.out)
    rw [← HSX.out] at HNR
    rw [HNR.out] at d1
    have ho9 := owns_set w7 ⟨Cpb, 1, none⟩ (.int .i64 ((s1.next : Int) + 1)) (F := Fp Cpb Cmb) (.inl rfl)
    have HV9 := h_ (HV7.out.owns ho9)
    have HO9 := h_ (HO7.out.trans ho9)
    have HP9 := h_ h9
    obtain ⟨w9, hw9⟩ : ∃ w9, w7.setCell ⟨Cpb, 1, none⟩ (.int .i64 ((s1.next : Int) + 1)) = w9 := ⟨_, rfl⟩
    rw [hw9] at HV9 HO9 HP9
    clear h9 ho9
    go_wp2_with fail
    refine (HI4.out w9 HP9.out _ rfl).mono ?_
    rintro e w10 ⟨u10, z10, rfl, hv10, hP10, hO10⟩
    have HE := h_ (show FPost ⟨Cb, Cpb, Cmb, CT, CA, Cn, Cc⟩ (some (.fo (.atom l R m))) s' w (.returned (.tuple #[.iface tAtom (.agg #[.iface u2 z2, .int .i64 R, .iface u10 z10]), .bool true])) w10 from ⟨_, _, rfl, ⟨⟨_, _, rfl, (HV9.out.owns hO10).1, hv10.1⟩, by simp, (HV9.out.owns hO10).2.2, hv10.2.2⟩, hP10, HO9.out.trans hO10⟩)
    clear hv10 hP10 hO10
    go_wp2
    go_ret2
    exact HE.out
end Pa
end Go.Proofs.YteneobpacobpdaaGreatDoor
