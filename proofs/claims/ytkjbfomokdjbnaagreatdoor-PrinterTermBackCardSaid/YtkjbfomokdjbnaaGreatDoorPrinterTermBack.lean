/-
  PrinterTermBack: for every tree that came in the law returns true: what is printed of a term is parsed as its canonical form, or exceeds a limit. The table of strconv reads as it was laid; no other condition.
-/
import Derived.Test.YtkjbfomokdjbnaaGreatDoorRdC
import Derived.Test.YtkjbfomokdjbnaaGreatDoorPrW
import Derived.Test.YtkjbfomokdjbnaaGreatDoorPaX
import Derived.Test.YtkjbfomokdjbnaaGreatDoorFmT
import Derived.Test.YtkjbfomokdjbnaaGreatDoorCards
import Derived.Test.YtkjbfomokdjbnaaGreatDoorTie
import Derived.ProofKit
import Derived.OpenShut
import Derived.ShutString
import Derived.Carry
import Derived.LaidMore
import Derived.Stop.Joined
import Derived.Stop.LaidErr
import Derived.SevenTiedAt
import Derived.MakeChecks
import Derived.Deep.RegionHeld3
import Derived.Shelf.Strconv.Itoa3
namespace Go.Proofs.YtkjbfomokdjbnaaGreatDoor.printerTermBack
open Go.ChangeShapes Go.WideShapes Go.ChangeAt Go.WideMaps Go.WideElems Go.RowKit Go.Proofs.YtkjbfomokdjbnaaGreatDoor Go.Proofs.YtkjbfomokdjbnaaGreatDoor.Fm Go.Proofs.YtkjbfomokdjbnaaGreatDoor.Pr Go.Proofs.YtkjbfomokdjbnaaGreatDoor.Pa Go.Proofs.YtkjbfomokdjbnaaGreatDoor.Rd Go.Proofs.YtkjbfomokdjbnaaGreatDoor.Pl
set_option linter.unusedVariables false
set_option linter.unusedSimpArgs false
attribute [local go_sem] run_store
theorem tab_of {w : World} (hL : laidMetH Tryz.prog Rows.printerTermBackRow.laid w) : Lib.TabIs Tryz.prog w "internal/strconv.uint64pow10" .u64 Lib.pow10Tab := by
  rw [Go.MakeChecks.laidMetH_plain _ _ _ (by kernel_rfl)] at hL
  exact Lib.tabIs_of_head (rest := []) (g := 0) (by kernel_rfl) (by kernel_rfl) Tryz.underlying161 Tryz.underlying149 (by kernel_rfl) (by kernel_rfl) (laidMet.tail (laidMet.tail hL))

set_option maxHeartbeats 8000000 in
set_option maxRecDepth 100000 in
theorem walk (t0 : Tr) (cs0 : List Value) (w : World) (hT0 : TreeAt w (fun b => b < w.heap.size) t0 cs0) (hW0 : WfT t0) (hL : laidMetH Tryz.prog Rows.printerTermBackRow.laid w) :
    Calls Tryz.prog 3 #[.agg cs0.toArray] w fun e w' => e = .returned (.bool true) ∧ Below w.heap.size w w' := by
  have htab := tab_of hL
  clear hL
  obtain ⟨A1, n1, c1, A2, n2, c2, k, neg, nm, ex, rl, tr, al, rfl⟩ := hT0.nine
  have hx := Box.new w #[.int .i64 k, .bool neg, .slice A1 n1 c1, .string nm, .int .i64 ex, .int .i64 rl, .bool tr, .bool al, .slice A2 n2 c2] TT
  obtain ⟨R, hR⟩ : ∃ R, R = rightTB t0 := ⟨_, rfl⟩
  have HR := Lib.hid (show ∀ w', Below w.heap.size w w' → Calls Tryz.prog 6 #[.agg #[.int .i64 k, .bool neg, .slice A1 n1 c1, .string nm, .int .i64 ex, .int .i64 rl, .bool tr, .bool al, .slice A2 n2 c2], .bool true] w' fun e w2 => e = .returned (.bool R) ∧ Below w'.heap.size w' w2 from
    fun w' hb => by rw [hR]; exact rightT_any t0 _ (fun b => b < w.heap.size) w' (fun b h => Nat.lt_of_lt_of_le h hb.size) (hT0.below (fun b h => h) hb))
  have HX := Lib.hid hx
  have HT := Lib.hid hT0
  cases R
  · clear hR hx hT0 htab hW0
    go_enter Tryz.func3, Tryz.ntmps3
    go_wp2_with fail
    refine (awake_any _).mono ?_
    rintro e w1 ⟨rfl, hb1⟩
    obtain ⟨g0, g1, g2, g3, g4, g5, g6, g7, g8⟩ := (HX.out.step hb1).c9
    have HB1 := Lib.hid (HX.out.step hb1)
    clear hb1
    go_wp2_with fail
    refine (HR.out _ HB1.out.below).mono ?_
    rintro e w2 ⟨rfl, hb2⟩
    obtain ⟨f0, f1, f2, f3, f4, f5, f6, f7, f8⟩ := (HB1.out.step hb2).c9
    have HB2 := Lib.hid (HB1.out.step hb2)
    clear hb2 g0 g1 g2 g3 g4 g5 g6 g7 g8
    go_wp2_with fail
    refine (awake_any _).mono ?_
    rintro e w3 ⟨rfl, hb3⟩
    have HB3 := Lib.hid (HB2.out.step hb3)
    clear hb3
    go_wp2
    go_ret
    exact ⟨rfl, HB3.out.below⟩
  · have hf : fewB t0 200 = true ∧ isF t0 true = true := by unfold rightTB at hR; simpa using hR.symm
    have hsm := fewB_sm hf.1
    have hnn := fewB_nn hf.1
    obtain ⟨tm, hof⟩ : ∃ tm, ofT t0 = some tm := by have := hf.2; rw [isF_ofT] at this; exact Option.isSome_iff_exists.1 this
    obtain ⟨hpl, hst⟩ := plain_of t0 tm hof hsm
    have hrt := rt_of t0 tm hof
    have hbd := bd_of hrt hsm hW0
    have hsp : Sm (plainT tm) := by rw [hpl]; exact sm_canon hsm
    have htn : tn tm ≤ 200 := by have := tnn_eq hrt; omega
    have HO := Lib.hid hof
    have HOT := Lib.hid (show ∀ w', Below w.heap.size w w' → _ from fun w' hb => ofTerm_any t0 _ (fun b => b < w.heap.size) w' (fun b h => Nat.lt_of_lt_of_le h hb.size) (hT0.below (fun b h => h) hb) hsm)
    have HCN := Lib.hid (show ∀ w', Below w.heap.size w w' → _ from fun w' hb => rcanon_any t0 _ (fun b => b < w.heap.size) w' (fun b h => Nat.lt_of_lt_of_le h hb.size) (hT0.below (fun b h => h) hb) hsm (by omega))
    have hpt : plusT (canonT t0) = plainT (prT tm) := by rw [plain_pr, hpl, plus_pos _ (by rw [← hpl]; exact nmT_plainT tm)]
    rw [hpt] at HCN
    have hstp : SmT (prT tm) := smT_pos (smT_can hst)
    by_cases hn : nmdT (plainT tm) = true
    case neg =>
      have HP := Lib.hid (fun v w' (hv : TmAt w' (fun b => b < w'.heap.size) tm v) => term_err tm v (fun b => b < w'.heap.size) w' (fun b h => h) hv hst (by simpa using hn))
      clear hR hx hT0 hf hsm hnn hof hpl hst hrt hbd hsp htn hpt hstp hn HCN htab hW0
      go_enter Tryz.func3, Tryz.ntmps3
      go_wp2_with fail
      refine (awake_any _).mono ?_
      rintro e w1 ⟨rfl, hb1⟩
      obtain ⟨g0, g1, g2, g3, g4, g5, g6, g7, g8⟩ := (HX.out.step hb1).c9
      have HB1 := Lib.hid (HX.out.step hb1)
      clear hb1
      go_wp2_with fail
      refine (HR.out _ HB1.out.below).mono ?_
      rintro e w2 ⟨rfl, hb2⟩
      obtain ⟨f0, f1, f2, f3, f4, f5, f6, f7, f8⟩ := (HB1.out.step hb2).c9
      have HB2 := Lib.hid (HB1.out.step hb2)
      clear hb2 g0 g1 g2 g3 g4 g5 g6 g7 g8
      go_wp2_with fail
      refine (HOT.out _ HB2.out.below).mono ?_
      intro e w3 hp
      obtain ⟨v3, rfl, hv3, hb3⟩ := hp.yes HO.out
      have HV := Lib.hid (TmAt.more (fun b h => h.2) _ _ hv3 : TmAt w3 (fun b => b < w3.heap.size) tm v3)
      have HB3 := Lib.hid (HB2.out.step hb3)
      have hov := hv3.one
      clear hb3 hv3 hp f0 f1 f2 f3 f4 f5 f6 f7 f8
      go_wp2_with fail
      refine (HP.out _ _ HV.out).mono ?_
      rintro e w4 ⟨rfl, hb4⟩
      have HB4 := Lib.hid (HB3.out.step hb4)
      clear hb4
      go_wp2
      go_ret
      exact ⟨rfl, HB4.out.below⟩
    case pos =>
      have hlen : (txtT (prT tm)).length ≤ 120000 := by have h1 := txt_len _ (bd_pr tm hbd); have h2 := tn_pr tm; omega
      obtain ⟨D, hD⟩ : ∃ D, D = bsL (txtT (prT tm)) := ⟨_, rfl⟩
      have hDt : D.data.toList = txtT (prT tm) := by rw [hD]; rfl
      have hDs : D.size ≤ 120000 := by rw [← hDt] at hlen; exact hlen
      have hrd : GivesT D.data.toList (prT tm) := by rw [hDt]; exact read_T _ (okR_pr tm (rg_bd tm hbd) hn)
      have HP := Lib.hid (fun v w' (hb : Below w.heap.size w w') (hv : TmAt w' (fun b => b < w'.heap.size) tm v) => term_ok tm v (fun b => b < w'.heap.size) w' (fun b h => h) hv hst hsp hn (fun e he => itoa_ok w' (Lib.tabBelow_of_tabIs htab w' hb) e (exp_pr tm hbd e he).1 (exp_pr tm hbd e he).2) (by omega) D hD)
      clear hR hx hT0 hf hsm hnn hof hpl hst hrt hbd hsp htn hpt hn htab hW0 hD hDt hlen
      rcases hrd with hrd | ⟨p, hrd⟩
      · have HQ := Lib.hid (fun w' => Term_walk D _ _ _ hrd (by omega) w')
        have HST := Lib.hid hstp
        clear hrd hstp hDs
        go_enter Tryz.func3, Tryz.ntmps3
        go_wp2_with fail
        refine (awake_any _).mono ?_
        rintro e w1 ⟨rfl, hb1⟩
        obtain ⟨g0, g1, g2, g3, g4, g5, g6, g7, g8⟩ := (HX.out.step hb1).c9
        have HB1 := Lib.hid (HX.out.step hb1)
        clear hb1
        go_wp2_with fail
        refine (HR.out _ HB1.out.below).mono ?_
        rintro e w2 ⟨rfl, hb2⟩
        obtain ⟨f0, f1, f2, f3, f4, f5, f6, f7, f8⟩ := (HB1.out.step hb2).c9
        have HB2 := Lib.hid (HB1.out.step hb2)
        clear hb2 g0 g1 g2 g3 g4 g5 g6 g7 g8
        go_wp2_with fail
        refine (HOT.out _ HB2.out.below).mono ?_
        intro e w3 hp
        obtain ⟨v3, rfl, hv3, hb3⟩ := hp.yes HO.out
        have HV := Lib.hid (TmAt.more (fun b h => h.2) _ _ hv3 : TmAt w3 (fun b => b < w3.heap.size) tm v3)
        have HB3 := Lib.hid (HB2.out.step hb3)
        have hov := hv3.one
        clear hb3 hv3 hp f0 f1 f2 f3 f4 f5 f6 f7 f8
        go_wp2_with fail
        refine (HP.out _ _ HB3.out.below HV.out).mono ?_
        rintro e w4 ⟨rfl, hb4⟩
        have HB4 := Lib.hid (HB3.out.step hb4)
        clear hb4
        go_wp2_with fail
        refine (HQ.out _).mono ?_
        rintro e w5 ⟨⟨u5, z5, rfl, hv5⟩, hb5⟩
        have HV5 := Lib.hid hv5.1
        obtain ⟨d0, d1, d2, d3, d4, d5, d6, d7, d8⟩ := (HB4.out.step hb5).c9
        have HB5 := Lib.hid (HB4.out.step hb5)
        clear hb5 hv5
        go_wp2_with fail
        refine (HCN.out _ HB5.out.below).mono ?_
        intro e w6 hq
        obtain ⟨a1, a2, a3, a4, a5, a6, x1, x2, x3, x4, x5, x6, x7, rfl, hT6, hb6⟩ := hq.cells
        have HT6 := Lib.hid hT6
        have HV6 := Lib.hid (TmAt.more (fun b h => Nat.lt_of_lt_of_le h hb6.size) _ _ (HV5.out.below (fun b h => h) hb6) : TmAt w6 (fun b => b < w6.heap.size) (prT tm) (.iface u5 z5))
        have HB6 := Lib.hid (HB5.out.step hb6)
        clear hb6 hT6 hq d0 d1 d2 d3 d4 d5 d6 d7 d8
        obtain ⟨W7, hW7⟩ : ∃ W, w6.alloc (.cells #[.int .i64 x1, .bool x2, .slice a1 a2 a3, .string x3, .int .i64 x4, .int .i64 x5, .bool x6, .bool x7, .slice a4 a5 a6] TT) = W := ⟨_, rfl⟩
        have hwx : Box w6 W7 w6.heap.size #[.int .i64 x1, .bool x2, .slice a1 a2 a3, .string x3, .int .i64 x4, .int .i64 x5, .bool x6, .bool x7, .slice a4 a5 a6] TT := by rw [← hW7]; exact Box.new w6 _ TT
        obtain ⟨e0, e1, e2, e3, e4, e5, e6, e7, e8⟩ := hwx.c9
        go_wp2_with fail
        have hb67 : Below w6.heap.size w6 W7 := hwx.below
        have HWX := Lib.hid hwx
        have HB7 := Lib.hid (HB6.out.below.trans (hb67.mono HB6.out.below.size))
        have HT7 := Lib.hid (TreeAt.more (fun b h => Nat.lt_of_lt_of_le h.2 hb67.size) _ _ (HT6.out.below (fun b h => h.2) hb67) : TreeAt W7 (fun b => b < W7.heap.size) (plainT (prT tm)) [.int .i64 x1, .bool x2, .slice a1 a2 a3, .string x3, .int .i64 x4, .int .i64 x5, .bool x6, .bool x7, .slice a4 a5 a6])
        have HP7 := Lib.hid (show ∀ w', Below W7.heap.size W7 w' → Calls Tryz.prog 12 #[.iface u5 z5] w' (TreePost (plainT (prT tm)) w') from fun w' hb =>
          plainTerm_any (prT tm) _ (fun b => b < w6.heap.size) w' (fun b h => Nat.lt_of_lt_of_le h (Nat.le_trans hb67.size hb.size)) (TmAt.below ((HV6.out.below (fun b h => h) hb67)) (fun b h => Nat.lt_of_lt_of_le h hb67.size) hb) HST.out)
        have HD : Below W7.heap.size W7 W7.drew := (Below.refl _ W7).drew
        have hstep := Lib.hid (show ∀ wc wn, Below W7.heap.size W7 wc → Below wc.heap.size wc wn → Below W7.heap.size W7 wn from fun wc wn h1 h2 => h1.trans (h2.mono h1.size))
        obtain ⟨T, hT⟩ : ∃ T, T = plainT (prT tm) := ⟨_, rfl⟩
        rw [← hT] at HT7 HP7
        clear hW7 hwx hb67 HT6 HV6 HCN hT HP HR HOT
        go_region_held3 (fun w' => w'.cell? ⟨w6.heap.size, 0, none⟩ = some (.int .i64 x1) ∧ w'.cell? ⟨w6.heap.size, 1, none⟩ = some (.bool x2) ∧ w'.cell? ⟨w6.heap.size, 2, none⟩ = some (.slice a1 a2 a3) ∧ w'.cell? ⟨w6.heap.size, 3, none⟩ = some (.string x3) ∧ w'.cell? ⟨w6.heap.size, 4, none⟩ = some (.int .i64 x4) ∧ w'.cell? ⟨w6.heap.size, 5, none⟩ = some (.int .i64 x5) ∧ w'.cell? ⟨w6.heap.size, 6, none⟩ = some (.bool x6) ∧ w'.cell? ⟨w6.heap.size, 7, none⟩ = some (.bool x7) ∧ w'.cell? ⟨w6.heap.size, 8, none⟩ = some (.slice a4 a5 a6)) (go_keep)
          (first
            | (go_at_call 12; refine (HP7.out _ HD).mono ?_; intro e wL hq; obtain ⟨b1, b2, b3, b4, b5, b6, y1, y2, y3, y4, y5, y6, y7, rfl, htL, hbl⟩ := hq.cells; have hbL := hstep.out _ _ HD hbl; have HTL := Lib.hid htL; have HBL := Lib.hid hbL; clear htL hbl hq; obtain ⟨p0, p1, p2, p3, p4, p5, p6, p7, p8⟩ := (HWX.out.step hbL).c9)
            | (go_at_call 11; refine (same_any T T _ _ (fun b => b < wL.heap.size) true wL (fun b h => h) (TreeAt.more (fun b h => h.2) _ _ HTL.out) (TreeAt.more (fun b h => Nat.lt_of_lt_of_le h HBL.out.size) _ _ (HT7.out.below (fun b h => h) HBL.out)) (by simp)).mono ?_; rintro e w8 ⟨rfl, hb8⟩; have hb78 := hstep.out _ _ HBL.out hb8; obtain ⟨r0, r1, r2, r3, r4, r5, r6, r7, r8⟩ := (HWX.out.step hb78).c9))
        all_goals
          go_wp2
          go_ret
          exact ⟨rfl, HB7.out.trans (hb78.mono HB7.out.size)⟩
      · have HQ := Lib.hid (fun w' => Term_walk D _ _ _ hrd (by omega) w')
        clear hrd hstp hDs
        go_enter Tryz.func3, Tryz.ntmps3
        go_wp2_with fail
        refine (awake_any _).mono ?_
        rintro e w1 ⟨rfl, hb1⟩
        obtain ⟨g0, g1, g2, g3, g4, g5, g6, g7, g8⟩ := (HX.out.step hb1).c9
        have HB1 := Lib.hid (HX.out.step hb1)
        clear hb1
        go_wp2_with fail
        refine (HR.out _ HB1.out.below).mono ?_
        rintro e w2 ⟨rfl, hb2⟩
        obtain ⟨f0, f1, f2, f3, f4, f5, f6, f7, f8⟩ := (HB1.out.step hb2).c9
        have HB2 := Lib.hid (HB1.out.step hb2)
        clear hb2 g0 g1 g2 g3 g4 g5 g6 g7 g8
        go_wp2_with fail
        refine (HOT.out _ HB2.out.below).mono ?_
        intro e w3 hp
        obtain ⟨v3, rfl, hv3, hb3⟩ := hp.yes HO.out
        have HV := Lib.hid (TmAt.more (fun b h => h.2) _ _ hv3 : TmAt w3 (fun b => b < w3.heap.size) tm v3)
        have HB3 := Lib.hid (HB2.out.step hb3)
        have hov := hv3.one
        clear hb3 hv3 hp f0 f1 f2 f3 f4 f5 f6 f7 f8
        go_wp2_with fail
        refine (HP.out _ _ HB3.out.below HV.out).mono ?_
        rintro e w4 ⟨rfl, hb4⟩
        have HB4 := Lib.hid (HB3.out.step hb4)
        clear hb4
        go_wp2_with fail
        refine (HQ.out _).mono ?_
        rintro e w5 ⟨rfl, hb5⟩
        obtain ⟨d0, d1, d2, d3, d4, d5, d6, d7, d8⟩ := (HB4.out.step hb5).c9
        have HB5 := Lib.hid (HB4.out.step hb5)
        clear hb5
        go_wp2_with fail
        refine (HCN.out _ HB5.out.below).mono ?_
        intro e w6 hq
        obtain ⟨a1, a2, a3, a4, a5, a6, x1, x2, x3, x4, x5, x6, x7, rfl, hT6, hb6⟩ := hq.cells
        have HB6 := Lib.hid (HB5.out.step hb6)
        clear hb6 hT6 hq d0 d1 d2 d3 d4 d5 d6 d7 d8
        go_wp2
        go_quiet (fail)
        go_wp2
        go_ret
        exact ⟨rfl, below_drewN (HB6.out.below.trans ((Below.refl _ _).alloc HB6.out.below.size _)) _⟩

theorem laidOut : laidOutB Tryz.prog = true := by kernel_rfl

theorem own : ownKnob Tryz.prog.godebug = none := by kernel_rfl

theorem door_met (os : Os) (args : Array Value) : laidMetH Tryz.prog Rows.printerTermBackRow.laid ((World.doorLaid Tryz.prog 400 os).forCall (fun _ _ => 0) ⟨#[], args, []⟩).memory :=
  laidMetH_of_parts3 (fuel := 8) (laidMet_of_run' 8 (by kernel_rfl) (by kernel_rfl)) (by kernel_rfl) (by kernel_rfl)

set_option maxRecDepth 100000 in
theorem lifted (os : Os) (started : os.Started) (H : Type) (enc : TypeId × Value → H) :
    ReturnsInHanded {} Tryz.checked os 3 .any (fun w args => (Rows.printerTermBackSpec.pre enc Tryz.prog Tryz.f3 [] false w args ∧ laidMetH Tryz.prog Rows.printerTermBackRow.laid w) ∧ sizedMet enc Tryz.prog Tryz.f3 (OpenSpec.ofChange Rows.printerTermBackSpec) false w args)
      (Rows.printerTermBackSpec.post enc Tryz.prog Tryz.f3 false true false false) := by
  refine returnsInHanded_of_change_and (C := Tryz.checked) (X := fun w _ => laidMetH Tryz.prog Rows.printerTermBackRow.laid w) (fun _ _ _ hh h => h.of_heap hh) own started (by kernel_rfl) Tryz.func3
    (ChangeSpec.witness_shaped (enc := enc) (C := Tryz.checked) (os := os) (X := fun w _ => laidMetH Tryz.prog Rows.printerTermBackRow.laid w) false (World.doorLaid Tryz.prog 400 os) #[.agg #[.int .i64 0, .bool false, .slice none 0 0, .string ByteArray.empty, .int .i64 0, .int .i64 0, .bool false, .bool false, .slice none 0 0]] 8 rfl (World.shaped_of_RefB (by kernel_rfl) (by kernel_rfl)) (by kernel_rfl) (by kernel_rfl) (by kernel_rfl) (door_met os _)) ?_
  intro W base args ds gs before hval0 hW _ _ hL _
  have hval : ∀ (j : Nat) t v, Tryz.f3.params[j]? = some t → args[j]? = some v → Value.okWide Tryz.prog W .any base t v := hval0
  have hW' := hW
  obtain ⟨p, q, hA0, hV, rfl, hfz, hnd⟩ := hW
  have hA : DataW.TrodAll enc Tryz.prog W 0 (fun _ => true) true Tryz.f3.params.toList args.toList ds p := hA0
  rw [Tryz.params3] at hA hval
  obtain ⟨v0, vs0, d0, ds0, p0, q0, hargs, rfl, rfl, h0, r0⟩ := trodAll_cons hA
  obtain ⟨rfl, rfl, rfl⟩ := trodAll_nil r0
  obtain rfl : args = #[v0] := by cases args; simp_all
  obtain ⟨rfl, rfl⟩ := trodVars_none hV
  obtain ⟨cs0, rfl, hl0⟩ := okWide_struct Tryz.underlying29 (hval 0 29 v0 rfl rfl)
  have hl0' : cs0.toList.length = 9 := by rw [show Tryz.prog.cellsOf 29 = 9 by kernel_rfl] at hl0; simpa using hl0
  have h0k := h0
  obtain ⟨fuel0, hf0⟩ := h0
  obtain ⟨t0, hT0, hWf0⟩ := open_treeW fuel0 fuel0 (Nat.le_refl _) _ _ hl0' hf0
  clear hA0 hval0
  simp only [List.append_nil] at hW'
  have hlt0 : ∀ x ∈ p0, x.block < W.heap.size := fun x hx => by simpa using hW'.lt x (by simp [hx])
  refine (walk t0 cs0.toList W hT0 hWf0 hL).mono fun e W' ⟨he, bel⟩ => ?_
  subst he
  exact ⟨_, rfl, _, _, _, [], _, [], hW', trodAll_mk1 (shut_bool Tryz.underlying4 _), (trodAll_cons_mk (Below.trod laidOut (by kernel_rfl) (of_decide_eq_true (by kernel_rfl)) h0k bel hlt0) trodAll_mk0), rfl, bel.frame _, fun h => by cases h⟩

theorem over : Rows.printerTermBackRow.holds Tryz.pinned (OpenSpec.ofChange Rows.printerTermBackSpec) :=
  OpenClaim.holds_of_wide 3 Tryz.f3 rfl rfl rfl rfl rfl rfl rfl ⟨rfl, rfl, rfl, rfl, rfl⟩ rfl rfl rfl rfl rfl (by kernel_rfl) Tryz.func3 (by kernel_rfl)
    (of_decide_eq_true (by kernel_rfl)) (by unfold Func.isWrapper; first | (rw [if_pos (by decide +kernel)]; kernel_rfl) | (rw [if_neg (by decide +kernel)]; exact ⟨rfl, rfl⟩))
    (fun os started H enc _ => lifted os started H enc)

/-- THE STATEMENT: the tied card -/
theorem proved : Rows.PrinterTermBackCardSaid :=
  Claim7.holds_tied_plain_at .later [] [.data, .data, .data] true _ true
    over (fun _ h => by cases h) (by kernel_rfl) (fun _ h => by cases h) printerTermBack_row_tie rfl ⟨rfl, rfl⟩ (by kernel_rfl) rfl
    (fun f fn hf hfn => by
      obtain rfl : f = 3 := Option.some.inj ((show Tryz.prog.funcNamed Rows.printerTermBackRow.func = some 3 by kernel_rfl).symm.trans hf) |>.symm
      obtain rfl : fn = Tryz.f3 := (Option.some.inj (Tryz.func3.symm.trans hfn)).symm
      exact ⟨by kernel_rfl, fun j t ht => by
        rw [Tryz.params3] at ht
        have hm : t ∈ [29] := by simpa using Array.mem_of_getElem? ht
        have hall : ([29].all fun u => !Tryz.prog.wantsStandIn u) = true := by kernel_rfl
        exact (show Tryz.prog.wantsStandIn t = false by simpa using List.all_eq_true.1 hall t hm)⟩)
    (by kernel_rfl)
end Go.Proofs.YtkjbfomokdjbnaaGreatDoor.printerTermBack

