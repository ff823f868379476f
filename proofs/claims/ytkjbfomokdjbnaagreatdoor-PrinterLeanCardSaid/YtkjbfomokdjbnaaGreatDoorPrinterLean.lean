/-
  PrinterLean: for every tree that came in the law returns true: of the text of a term no pair of parentheses can be omitted. The table of strconv reads as it was laid; no other condition.
-/
import Derived.Test.YtkjbfomokdjbnaaGreatDoorPrM
import Derived.Test.YtkjbfomokdjbnaaGreatDoorPrW
import Derived.Test.YtkjbfomokdjbnaaGreatDoorPaX
import Derived.Test.YtkjbfomokdjbnaaGreatDoorFmT
import Derived.Test.YtkjbfomokdjbnaaGreatDoorCards
import Derived.Test.YtkjbfomokdjbnaaGreatDoorTie
import Derived.ProofKit
import Derived.OpenShut
import Derived.ShutString
import Derived.Carry
import Derived.LaidMore
import Derived.Stop.Joined
import Derived.Stop.LaidErr
import Derived.SevenTiedAt
import Derived.MakeChecks
import Derived.Deep.RegionHeld3
import Derived.StillTailTactics
import Derived.IntWalk
import Derived.Shelf.Strconv.Itoa3
namespace Go.Proofs.YtkjbfomokdjbnaaGreatDoor.printerLean
open Go.ChangeShapes Go.WideShapes Go.ChangeAt Go.WideMaps Go.WideElems Go.RowKit Go.Proofs.YtkjbfomokdjbnaaGreatDoor Go.Proofs.YtkjbfomokdjbnaaGreatDoor.Fm Go.Proofs.YtkjbfomokdjbnaaGreatDoor.Pr Go.Proofs.YtkjbfomokdjbnaaGreatDoor.Pa Go.Proofs.YtkjbfomokdjbnaaGreatDoor.Rd Go.Proofs.YtkjbfomokdjbnaaGreatDoor.Pl
set_option linter.unusedVariables false
set_option linter.unusedSimpArgs false
attribute [local go_sem] run_store
theorem tab_of {w : World} (hL : laidMetH Tryz.prog Rows.printerLeanRow.laid w) : Lib.TabIs Tryz.prog w "internal/strconv.uint64pow10" .u64 Lib.pow10Tab := by
  rw [Go.MakeChecks.laidMetH_plain _ _ _ (by kernel_rfl)] at hL
  exact Lib.tabIs_of_head (rest := []) (g := 0) (by kernel_rfl) (by kernel_rfl) Tryz.underlying161 Tryz.underlying149 (by kernel_rfl) (by kernel_rfl) (laidMet.tail (laidMet.tail hL))

set_option maxHeartbeats 8000000 in
set_option maxRecDepth 100000 in
theorem walk (t0 : Tr) (cs0 : List Value) (w : World) (hT0 : TreeAt w (fun b => b < w.heap.size) t0 cs0) (hW0 : WfT t0) (hL : laidMetH Tryz.prog Rows.printerLeanRow.laid w) :
    Calls Tryz.prog 4 #[.agg cs0.toArray] w fun e w' => e = .returned (.bool true) ∧ Below w.heap.size w w' := by
  have htab := tab_of hL
  clear hL
  obtain ⟨A1, n1, c1, A2, n2, c2, k, neg, nm, ex, rl, tr, al, rfl⟩ := hT0.nine
  have hx := Box.new w #[.int .i64 k, .bool neg, .slice A1 n1 c1, .string nm, .int .i64 ex, .int .i64 rl, .bool tr, .bool al, .slice A2 n2 c2] TT
  obtain ⟨R, hR⟩ : ∃ R, R = rightTB t0 := ⟨_, rfl⟩
  have HR := Lib.hid (show ∀ w', Below w.heap.size w w' → Calls Tryz.prog 6 #[.agg #[.int .i64 k, .bool neg, .slice A1 n1 c1, .string nm, .int .i64 ex, .int .i64 rl, .bool tr, .bool al, .slice A2 n2 c2], .bool true] w' fun e w2 => e = .returned (.bool R) ∧ Below w'.heap.size w' w2 from
    fun w' hb => by rw [hR]; exact rightT_any t0 _ (fun b => b < w.heap.size) w' (fun b h => Nat.lt_of_lt_of_le h hb.size) (hT0.below (fun b h => h) hb))
  have HX := Lib.hid hx
  have HT := Lib.hid hT0
  cases R
  · clear hR hx hT0 htab hW0
    go_enter Tryz.func4, Tryz.ntmps4
    go_wp2_with fail
    refine (awake_any _).mono ?_
    rintro e w1 ⟨rfl, hb1⟩
    obtain ⟨g0, g1, g2, g3, g4, g5, g6, g7, g8⟩ := (HX.out.step hb1).c9
    have HB1 := Lib.hid (HX.out.step hb1)
    clear hb1
    go_wp2_with fail
    refine (HR.out _ HB1.out.below).mono ?_
    rintro e w2 ⟨rfl, hb2⟩
    obtain ⟨f0, f1, f2, f3, f4, f5, f6, f7, f8⟩ := (HB1.out.step hb2).c9
    have HB2 := Lib.hid (HB1.out.step hb2)
    clear hb2 g0 g1 g2 g3 g4 g5 g6 g7 g8
    go_wp2_with fail
    refine (awake_any _).mono ?_
    rintro e w3 ⟨rfl, hb3⟩
    have HB3 := Lib.hid (HB2.out.step hb3)
    clear hb3
    go_wp2
    go_ret
    exact ⟨rfl, HB3.out.below⟩
  · -- a term
    have hf : fewB t0 200 = true ∧ isF t0 true = true := by unfold rightTB at hR; simpa using hR.symm
    have hsm := fewB_sm hf.1
    have hnn := fewB_nn hf.1
    obtain ⟨tm, hof⟩ : ∃ tm, ofT t0 = some tm := by have := hf.2; rw [isF_ofT] at this; exact Option.isSome_iff_exists.1 this
    obtain ⟨hpl, hst⟩ := plain_of t0 tm hof hsm
    have hrt := rt_of t0 tm hof
    have hbd := bd_of hrt hsm hW0
    have hsp : Sm (plainT tm) := by rw [hpl]; exact sm_canon hsm
    have htn : tn tm ≤ 200 := by have := tnn_eq hrt; omega
    have HO := Lib.hid hof
    have HOT := Lib.hid (show ∀ w', Below w.heap.size w w' → _ from fun w' hb => ofTerm_any t0 _ (fun b => b < w.heap.size) w' (fun b h => Nat.lt_of_lt_of_le h hb.size) (hT0.below (fun b h => h) hb) hsm)
    have hstp : SmT (prT tm) := smT_pos (smT_can hst)
    by_cases hn : nmdT (plainT tm) = true
    case neg =>
      have HP := Lib.hid (fun v w' (hv : TmAt w' (fun b => b < w'.heap.size) tm v) => term_err tm v (fun b => b < w'.heap.size) w' (fun b h => h) hv hst (by simpa using hn))
      clear hR hx hT0 hf hsm hnn hof hpl hst hrt hbd hsp htn hstp hn htab hW0
      obtain ⟨r, p, er, hpe⟩ := parse_ends (.term none) (by simp) id (⟨#[]⟩ : ByteArray).data.toList
      have HQ := Lib.hid (fun w' => Term_walk ⟨#[]⟩ _ _ _ hpe (by decide) w')
      clear hpe
      cases r with
      | none =>
        go_enter Tryz.func4, Tryz.ntmps4
        go_wp2_with fail
        refine (awake_any _).mono ?_
        rintro e w1 ⟨rfl, hb1⟩
        obtain ⟨g0, g1, g2, g3, g4, g5, g6, g7, g8⟩ := (HX.out.step hb1).c9
        have HB1 := Lib.hid (HX.out.step hb1)
        clear hb1
        go_wp2_with fail
        refine (HR.out _ HB1.out.below).mono ?_
        rintro e w2 ⟨rfl, hb2⟩
        obtain ⟨f0, f1, f2, f3, f4, f5, f6, f7, f8⟩ := (HB1.out.step hb2).c9
        have HB2 := Lib.hid (HB1.out.step hb2)
        clear hb2 g0 g1 g2 g3 g4 g5 g6 g7 g8
        go_wp2_with fail
        refine (HOT.out _ HB2.out.below).mono ?_
        intro e w3 hp
        obtain ⟨v3, rfl, hv3, hb3⟩ := hp.yes HO.out
        have HV := Lib.hid (TmAt.more (fun b h => h.2) _ _ hv3 : TmAt w3 (fun b => b < w3.heap.size) tm v3)
        have HB3 := Lib.hid (HB2.out.step hb3)
        have hov := hv3.one
        clear hb3 hv3 hp f0 f1 f2 f3 f4 f5 f6 f7 f8
        go_wp2_with fail
        refine (HP.out _ _ HV.out).mono ?_
        rintro e w4 ⟨rfl, hb4⟩
        have HB4 := Lib.hid (HB3.out.step hb4)
        clear hb4
        go_wp2_with fail
        refine (HQ.out _).mono ?_
        rintro e w5 ⟨rfl, hb5⟩
        have HB5 := Lib.hid (HB4.out.step hb5)
        clear hb5
        go_wp2
        go_ret
        exact ⟨rfl, HB5.out.below⟩
      | some x =>
        go_enter Tryz.func4, Tryz.ntmps4
        go_wp2_with fail
        refine (awake_any _).mono ?_
        rintro e w1 ⟨rfl, hb1⟩
        obtain ⟨g0, g1, g2, g3, g4, g5, g6, g7, g8⟩ := (HX.out.step hb1).c9
        have HB1 := Lib.hid (HX.out.step hb1)
        clear hb1
        go_wp2_with fail
        refine (HR.out _ HB1.out.below).mono ?_
        rintro e w2 ⟨rfl, hb2⟩
        obtain ⟨f0, f1, f2, f3, f4, f5, f6, f7, f8⟩ := (HB1.out.step hb2).c9
        have HB2 := Lib.hid (HB1.out.step hb2)
        clear hb2 g0 g1 g2 g3 g4 g5 g6 g7 g8
        go_wp2_with fail
        refine (HOT.out _ HB2.out.below).mono ?_
        intro e w3 hp
        obtain ⟨v3, rfl, hv3, hb3⟩ := hp.yes HO.out
        have HV := Lib.hid (TmAt.more (fun b h => h.2) _ _ hv3 : TmAt w3 (fun b => b < w3.heap.size) tm v3)
        have HB3 := Lib.hid (HB2.out.step hb3)
        have hov := hv3.one
        clear hb3 hv3 hp f0 f1 f2 f3 f4 f5 f6 f7 f8
        go_wp2_with fail
        refine (HP.out _ _ HV.out).mono ?_
        rintro e w4 ⟨rfl, hb4⟩
        have HB4 := Lib.hid (HB3.out.step hb4)
        clear hb4
        go_wp2_with fail
        refine (HQ.out _).mono ?_
        rintro e w5 ⟨⟨u5, z5, rfl, hv5⟩, hb5⟩
        have HB5 := Lib.hid (HB4.out.step hb5)
        clear hb5 hv5
        go_wp2
        go_ret
        exact ⟨rfl, HB5.out.below⟩
    case pos =>
      have hlen : (txtT (prT tm)).length ≤ 120000 := by have h1 := txt_len _ (bd_pr tm hbd); have h2 := tn_pr tm; omega
      obtain ⟨D, hD⟩ : ∃ D, D = bsL (txtT (prT tm)) := ⟨_, rfl⟩
      have hDt : D.data.toList = txtT (prT tm) := by rw [hD]; rfl
      have hDs : D.size ≤ 120000 := by rw [← hDt] at hlen; exact hlen
      have hok : okR (prT tm) := okR_pr tm (rg_bd tm hbd) hn
      have hrd : GivesT D.data.toList (prT tm) := by rw [hDt]; exact read_T _ hok
      have HP := Lib.hid (fun v w' (hb : Below w.heap.size w w') (hv : TmAt w' (fun b => b < w'.heap.size) tm v) => term_ok tm v (fun b => b < w'.heap.size) w' (fun b h => h) hv hst hsp hn (fun e he => itoa_ok w' (Lib.tabBelow_of_tabIs htab w' hb) e (exp_pr tm hbd e he).1 (exp_pr tm hbd e he).2) (by omega) D hD)
      have HK := Lib.hid (And.intro hok (And.intro hDt hstp))
      clear hR hx hT0 hf hsm hnn hof hpl hst hrt hbd hsp htn hn htab hW0 hD hDt hlen hok hstp
      rcases hrd with hrd | ⟨p, hrd⟩
      · have HQ := Lib.hid (fun w' => Term_walk D _ _ _ hrd (by omega) w')
        have HDS := Lib.hid hDs
        clear hrd
        go_enter Tryz.func4, Tryz.ntmps4
        go_wp2_with fail
        refine (awake_any _).mono ?_
        rintro e w1 ⟨rfl, hb1⟩
        obtain ⟨g0, g1, g2, g3, g4, g5, g6, g7, g8⟩ := (HX.out.step hb1).c9
        have HB1 := Lib.hid (HX.out.step hb1)
        clear hb1
        go_wp2_with fail
        refine (HR.out _ HB1.out.below).mono ?_
        rintro e w2 ⟨rfl, hb2⟩
        obtain ⟨f0, f1, f2, f3, f4, f5, f6, f7, f8⟩ := (HB1.out.step hb2).c9
        have HB2 := Lib.hid (HB1.out.step hb2)
        clear hb2 g0 g1 g2 g3 g4 g5 g6 g7 g8
        go_wp2_with fail
        refine (HOT.out _ HB2.out.below).mono ?_
        intro e w3 hp
        obtain ⟨v3, rfl, hv3, hb3⟩ := hp.yes HO.out
        have HV := Lib.hid (TmAt.more (fun b h => h.2) _ _ hv3 : TmAt w3 (fun b => b < w3.heap.size) tm v3)
        have HB3 := Lib.hid (HB2.out.step hb3)
        have hov := hv3.one
        clear hb3 hv3 hp f0 f1 f2 f3 f4 f5 f6 f7 f8
        go_wp2_with fail
        refine (HP.out _ _ HB3.out.below HV.out).mono ?_
        rintro e w4 ⟨rfl, hb4⟩
        have HB4 := Lib.hid (HB3.out.step hb4)
        clear hb4
        go_wp2_with fail
        refine (HQ.out _).mono ?_
        rintro e w5 ⟨⟨u5, z5, rfl, hv5⟩, hb5⟩
        have HV5 := Lib.hid hv5.1
        have HB5 := Lib.hid (HB4.out.step hb5).below
        clear hb5 hv5
        go_wp2_with fail
        clear HP HR HOT HX HT HV HB1 HB2 HB3 HB4 HQ hov
        go_loopw [10] (fun a_ wr => ∃ i : Nat, i ≤ D.size ∧ a_ = .int .i64 i ∧ Below w5.heap.size w5 wr) (fun a_ _ => D.size - (intOf a_).toNat)
        case atStart => exact ⟨0, Nat.zero_le _, rfl, Below.refl _ _⟩
        case round =>
          obtain ⟨i, hi, rfl, hbr⟩ := hrel
          have HBR := Lib.hid hbr
          clear hbr
          by_cases hlt : i < D.size
          · by_cases h40 : D[i].toNat = 40
            · obtain ⟨c0, hc0⟩ : ∃ c, c = D[i] := ⟨_, rfl⟩
              have hi' : i < (txtT (prT tm)).length := by rw [← HK.out.2.1]; exact hlt
              have hg : (txtT (prT tm))[i].toNat = 40 := by
                have : D.data.toList[i]'hlt = (txtT (prT tm))[i] := by simp only [HK.out.2.1]
                rw [← this]; exact h40
              obtain ⟨m, hm, him, hml, hmc⟩ := pair_of (txt_np _ HK.out.1).2 hi' hg
              have hm' : m < D.size := by rw [← HK.out.2.1] at hml; exact hml
              have HMT := Lib.hid (fun w' => matching_any D i (m : Int) (by rw [HK.out.2.1]; exact hm.symm) (by omega) (by omega) w')
              obtain ⟨E, hE⟩ : ∃ E, E = D.extract 0 i ++ D.extract (i + 1) m ++ D.extract (m + 1) D.size := ⟨_, rfl⟩
              have hEt : E.data.toList = cutP (txtT (prT tm)) i m := by rw [hE, cut_data, HK.out.2.1]
              have HNE := Lib.hid (show ∀ x p, ParseR (.term none) id E.data.toList (some (.tm x)) p 0 → plainT x ≠ plainT (prT tm) from fun x p hp => by rw [hEt] at hp; exact cut_parse HK.out.1 hi' him hml hg hmc hp)
              have hEs : E.size ≤ 400000 := by
                have e1 : E.size = (cutP (txtT (prT tm)) i m).length := by rw [← hEt]; rfl
                have e2 : (txtT (prT tm)).length = D.size := by rw [← HK.out.2.1]; rfl
                rw [e1]
                unfold cutP
                simp only [List.length_append, List.length_take, List.length_drop]
                omega
              have c40 : ((c0.toNat : Int) != 40) = false := by rw [hc0, h40]; rfl
              rw [hc0] at c40
              have hmn : decide ((m : Int) < 0) = false := by simp
              have hE' := Lib.hid hE
              have HES := Lib.hid hEs
              clear hc0 hi' hg hm hml hmc hEt hE hEs h40
              go_wp2_with fail
              refine (HMT.out _).mono ?_
              rintro e wm ⟨rfl, rfl⟩
              go_wp2_with fail
              have e1sz : (D.extract 0 i).size = i := by rw [ByteArray.size_extract]; omega
              have e2sz : (D.extract (i + 1) m).size = m - (i + 1) := by rw [ByteArray.size_extract]; omega
              have hb1' : ¬ 9223372036854775807 < i + (m - (i + 1)) := by have := HDS.out; omega
              have hb2' : ¬ 9223372036854775807 < i + (m - (i + 1)) + (D.size - (m + 1)) := by have := HDS.out; omega
              have hm1 : i + 1 ≤ m := him
              have hm2 : m + 1 ≤ D.size := hm'
              have hDz : D.size ≤ 120000 := HDS.out
              have qz1 : IntKind.i64.wrap ((i : Int) + 1) = (i : Int) + 1 := IntWalk.i64_in _ (by omega)
              have qz2 : 0 ≤ (i : Int) + 1 := by omega
              have qz3 : ((i : Int) + 1).toNat = i + 1 := by omega
              have qz4 : (i : Int) + 1 ≤ (m : Int) := by omega
              have qz5 : (m : Int) ≤ (D.size : Int) := by omega
              have qz6 : IntKind.i64.wrap ((m : Int) + 1) = (m : Int) + 1 := IntWalk.i64_in _ (by omega)
              have qz7 : 0 ≤ (m : Int) + 1 := by omega
              have qz8 : ((m : Int) + 1).toNat = m + 1 := by omega
              have qz9 : (m : Int) + 1 ≤ (D.size : Int) := by omega
              refine wp_region_segs [14] (by kernel_rfl) (by kernel_rfl) ?_
              simp only [wpSegs, List.take_succ_cons, List.take_zero, List.drop_succ_cons, List.drop_zero, Nat.sub_zero, Nat.reduceSub, Nat.reduceAdd]
              repeat still_step
              refine wpStill_nil ?_
              go_wp2_with fail
              clear hb1' hb2' hm1 hm2 qz1 qz2 qz3 qz4 qz5 qz6 qz7 qz8 qz9
              rw [← hE'.out]
              obtain ⟨r9, p9, er9, hpe⟩ := parse_ends (.term none) (by simp) id E.data.toList
              cases r9 with
              | none =>
                have hne : er9 ≠ 0 := fun e => by subst e; exact no_none hpe
                have hbe : ((er9 : Int) == 0) = false := by rw [beq_eq_false_iff_ne]; omega
                refine (Term_walk E _ _ _ hpe (by have := HES.out; omega) _).mono ?_
                rintro e w9 ⟨rfl, hb9⟩
                have HB9 := Lib.hid (HBR.out.drew.trans (hb9.mono HBR.out.drew.size))
                clear hb9 hpe hne
                go_wp2_with fail
                repeat still_step
                refine wpStill_nil ?_
                go_wp2
                go_roundw
                case rel => exact ⟨i + 1, by omega, by go_num, HB9.out⟩
                case measure => simp [intOf]; omega
              | some x9 =>
                obtain ⟨rfl, t9, rfl⟩ := parseT_tm hpe
                have HNQ := Lib.hid (HNE.out _ _ (by have e0 := parseT_zero hpe; rw [e0] at hpe; exact hpe))
                refine (Term_walk E _ _ _ hpe (by have := HES.out; omega) _).mono ?_
                rintro e w9 ⟨⟨u9, z9, rfl, hv9⟩, hb9⟩
                have HB9 := Lib.hid (HBR.out.drew.trans (hb9.mono HBR.out.drew.size))
                have HV9 := Lib.hid hv9.1
                have HS9 := Lib.hid hv9.2.2
                clear hb9 hpe hv9
                go_wp2_with fail
                repeat still_step
                refine wpStill_nil ?_
                go_wp2_with fail
                refine (plainTerm_any t9 _ (fun b => b < w9.heap.size) w9 (fun b h => h) HV9.out HS9.out).mono ?_
                intro e w10 hq
                obtain ⟨b1, b2, b3, b4, b5, b6, y1, y2, y3, y4, y5, y6, y7, rfl, htL, hbl⟩ := hq.cells
                have HTL := Lib.hid htL
                have HB10 := Lib.hid (HB9.out.trans (hbl.mono HB9.out.size))
                clear htL hbl hq
                go_wp2_with fail
                have hv10 : TmAt w10 (fun b => b < w10.heap.size) (prT tm) (.iface u5 z5) := TmAt.more (fun b h => Nat.lt_of_lt_of_le h HB10.out.size) _ _ (HV5.out.below (fun b h => h) HB10.out)
                refine (plainTerm_any (prT tm) _ (fun b => b < w10.heap.size) w10 (fun b h => h) hv10 HK.out.2.2).mono ?_
                intro e w11 hq
                obtain ⟨d1, d2, d3, d4, d5, d6, x1, x2, x3, x4, x5, x6, x7, rfl, htR, hbl⟩ := hq.cells
                have HTR := Lib.hid htR
                have HTL11 := Lib.hid (TreeAt.more (fun b h => Nat.lt_of_lt_of_le h.2 hbl.size) _ _ (HTL.out.below (fun b h => h.2) hbl) : TreeAt w11 (fun b => b < w11.heap.size) (plainT t9) _)
                have HB11 := Lib.hid (HB10.out.trans (hbl.mono HB10.out.size))
                clear htR hbl hq hv10
                go_wp2_with fail
                refine (same_any (plainT t9) (plainT (prT tm)) _ _ (fun b => b < w11.heap.size) false w11 (fun b h => h) HTL11.out (TreeAt.more (fun b h => h.2) _ _ HTR.out) (by simp [HNQ.out])).mono ?_
                rintro e w12 ⟨rfl, hbl⟩
                have HB12 := Lib.hid (HB11.out.trans (hbl.mono HB11.out.size))
                clear hbl
                go_wp2
                go_roundw
                case rel => exact ⟨i + 1, by omega, by go_num, HB12.out⟩
                case measure => simp [intOf]; omega
            · have c40 : ((D[i].toNat : Int) != 40) = true := by rw [bne_iff_ne]; omega
              clear h40
              go_wp2
              go_roundw
              case rel => exact ⟨i + 1, by omega, by go_num, HBR.out⟩
              case measure => simp [intOf]; omega
          · go_wp2
            go_ret
            exact ⟨rfl, HB5.out.trans (HBR.out.mono HB5.out.size)⟩
      · have HQ := Lib.hid (fun w' => Term_walk D _ _ _ hrd (by omega) w')
        clear hrd hDs
        go_enter Tryz.func4, Tryz.ntmps4
        go_wp2_with fail
        refine (awake_any _).mono ?_
        rintro e w1 ⟨rfl, hb1⟩
        obtain ⟨g0, g1, g2, g3, g4, g5, g6, g7, g8⟩ := (HX.out.step hb1).c9
        have HB1 := Lib.hid (HX.out.step hb1)
        clear hb1
        go_wp2_with fail
        refine (HR.out _ HB1.out.below).mono ?_
        rintro e w2 ⟨rfl, hb2⟩
        obtain ⟨f0, f1, f2, f3, f4, f5, f6, f7, f8⟩ := (HB1.out.step hb2).c9
        have HB2 := Lib.hid (HB1.out.step hb2)
        clear hb2 g0 g1 g2 g3 g4 g5 g6 g7 g8
        go_wp2_with fail
        refine (HOT.out _ HB2.out.below).mono ?_
        intro e w3 hp
        obtain ⟨v3, rfl, hv3, hb3⟩ := hp.yes HO.out
        have HV := Lib.hid (TmAt.more (fun b h => h.2) _ _ hv3 : TmAt w3 (fun b => b < w3.heap.size) tm v3)
        have HB3 := Lib.hid (HB2.out.step hb3)
        have hov := hv3.one
        clear hb3 hv3 hp f0 f1 f2 f3 f4 f5 f6 f7 f8
        go_wp2_with fail
        refine (HP.out _ _ HB3.out.below HV.out).mono ?_
        rintro e w4 ⟨rfl, hb4⟩
        have HB4 := Lib.hid (HB3.out.step hb4)
        clear hb4
        go_wp2_with fail
        refine (HQ.out _).mono ?_
        rintro e w5 ⟨rfl, hb5⟩
        have HB5 := Lib.hid (HB4.out.step hb5)
        clear hb5
        go_wp2
        go_ret
        exact ⟨rfl, HB5.out.below⟩

theorem laidOut : laidOutB Tryz.prog = true := by kernel_rfl

theorem own : ownKnob Tryz.prog.godebug = none := by kernel_rfl

theorem door_met (os : Os) (args : Array Value) : laidMetH Tryz.prog Rows.printerLeanRow.laid ((World.doorLaid Tryz.prog 400 os).forCall (fun _ _ => 0) ⟨#[], args, []⟩).memory :=
  laidMetH_of_parts3 (fuel := 8) (laidMet_of_run' 8 (by kernel_rfl) (by kernel_rfl)) (by kernel_rfl) (by kernel_rfl)

set_option maxRecDepth 100000 in
theorem lifted (os : Os) (started : os.Started) (H : Type) (enc : TypeId × Value → H) :
    ReturnsInHanded {} Tryz.checked os 4 .any (fun w args => (Rows.printerLeanSpec.pre enc Tryz.prog Tryz.f4 [] false w args ∧ laidMetH Tryz.prog Rows.printerLeanRow.laid w) ∧ sizedMet enc Tryz.prog Tryz.f4 (OpenSpec.ofChange Rows.printerLeanSpec) false w args)
      (Rows.printerLeanSpec.post enc Tryz.prog Tryz.f4 false true false false) := by
  refine returnsInHanded_of_change_and (C := Tryz.checked) (X := fun w _ => laidMetH Tryz.prog Rows.printerLeanRow.laid w) (fun _ _ _ hh h => h.of_heap hh) own started (by kernel_rfl) Tryz.func4
    (ChangeSpec.witness_shaped (enc := enc) (C := Tryz.checked) (os := os) (X := fun w _ => laidMetH Tryz.prog Rows.printerLeanRow.laid w) false (World.doorLaid Tryz.prog 400 os) #[.agg #[.int .i64 0, .bool false, .slice none 0 0, .string ByteArray.empty, .int .i64 0, .int .i64 0, .bool false, .bool false, .slice none 0 0]] 8 rfl (World.shaped_of_RefB (by kernel_rfl) (by kernel_rfl)) (by kernel_rfl) (by kernel_rfl) (by kernel_rfl) (door_met os _)) ?_
  intro W base args ds gs before hval0 hW _ _ hL _
  have hval : ∀ (j : Nat) t v, Tryz.f4.params[j]? = some t → args[j]? = some v → Value.okWide Tryz.prog W .any base t v := hval0
  have hW' := hW
  obtain ⟨p, q, hA0, hV, rfl, hfz, hnd⟩ := hW
  have hA : DataW.TrodAll enc Tryz.prog W 0 (fun _ => true) true Tryz.f4.params.toList args.toList ds p := hA0
  rw [Tryz.params4] at hA hval
  obtain ⟨v0, vs0, d0, ds0, p0, q0, hargs, rfl, rfl, h0, r0⟩ := trodAll_cons hA
  obtain ⟨rfl, rfl, rfl⟩ := trodAll_nil r0
  obtain rfl : args = #[v0] := by cases args; simp_all
  obtain ⟨rfl, rfl⟩ := trodVars_none hV
  obtain ⟨cs0, rfl, hl0⟩ := okWide_struct Tryz.underlying29 (hval 0 29 v0 rfl rfl)
  have hl0' : cs0.toList.length = 9 := by rw [show Tryz.prog.cellsOf 29 = 9 by kernel_rfl] at hl0; simpa using hl0
  have h0k := h0
  obtain ⟨fuel0, hf0⟩ := h0
  obtain ⟨t0, hT0, hWf0⟩ := open_treeW fuel0 fuel0 (Nat.le_refl _) _ _ hl0' hf0
  clear hA0 hval0
  simp only [List.append_nil] at hW'
  have hlt0 : ∀ x ∈ p0, x.block < W.heap.size := fun x hx => by simpa using hW'.lt x (by simp [hx])
  refine (walk t0 cs0.toList W hT0 hWf0 hL).mono fun e W' ⟨he, bel⟩ => ?_
  subst he
  exact ⟨_, rfl, _, _, _, [], _, [], hW', trodAll_mk1 (shut_bool Tryz.underlying4 _), (trodAll_cons_mk (Below.trod laidOut (by kernel_rfl) (of_decide_eq_true (by kernel_rfl)) h0k bel hlt0) trodAll_mk0), rfl, bel.frame _, fun h => by cases h⟩

theorem over : Rows.printerLeanRow.holds Tryz.pinned (OpenSpec.ofChange Rows.printerLeanSpec) :=
  OpenClaim.holds_of_wide 4 Tryz.f4 rfl rfl rfl rfl rfl rfl rfl ⟨rfl, rfl, rfl, rfl, rfl⟩ rfl rfl rfl rfl rfl (by kernel_rfl) Tryz.func4 (by kernel_rfl)
    (of_decide_eq_true (by kernel_rfl)) (by unfold Func.isWrapper; first | (rw [if_pos (by decide +kernel)]; kernel_rfl) | (rw [if_neg (by decide +kernel)]; exact ⟨rfl, rfl⟩))
    (fun os started H enc _ => lifted os started H enc)

/-- THE STATEMENT: the tied card -/
theorem proved : Rows.PrinterLeanCardSaid :=
  Claim7.holds_tied_plain_at .later [] [.data, .data, .data] true _ true
    over (fun _ h => by cases h) (by kernel_rfl) (fun _ h => by cases h) printerLean_row_tie rfl ⟨rfl, rfl⟩ (by kernel_rfl) rfl
    (fun f fn hf hfn => by
      obtain rfl : f = 4 := Option.some.inj ((show Tryz.prog.funcNamed Rows.printerLeanRow.func = some 4 by kernel_rfl).symm.trans hf) |>.symm
      obtain rfl : fn = Tryz.f4 := (Option.some.inj (Tryz.func4.symm.trans hfn)).symm
      exact ⟨by kernel_rfl, fun j t ht => by
        rw [Tryz.params4] at ht
        have hm : t ∈ [29] := by simpa using Array.mem_of_getElem? ht
        have hall : ([29].all fun u => !Tryz.prog.wantsStandIn u) = true := by kernel_rfl
        exact (show Tryz.prog.wantsStandIn t = false by simpa using List.all_eq_true.1 hall t hm)⟩)
    (by kernel_rfl)
end Go.Proofs.YtkjbfomokdjbnaaGreatDoor.printerLean

