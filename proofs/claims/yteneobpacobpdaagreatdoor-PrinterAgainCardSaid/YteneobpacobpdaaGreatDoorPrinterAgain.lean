/-
  PrinterAgain: for every text the law returns true: a text that is parsed and printed is parsed as the same formula, and printed as the same text, or the printed one is nested too deeply. The table of strconv reads as it was laid; no other condition.
-/
import Derived.Test.YteneobpacobpdaaGreatDoorRdG
import Derived.Test.YteneobpacobpdaaGreatDoorPrW
import Derived.Test.YteneobpacobpdaaGreatDoorPaX
import Derived.Test.YteneobpacobpdaaGreatDoorCards
import Derived.Test.YteneobpacobpdaaGreatDoorTie
import Derived.ProofKit
import Derived.OpenShut
import Derived.ShutString
import Derived.Carry
import Derived.LaidMore
import Derived.Stop.Joined
import Derived.Stop.LaidErr
import Derived.SevenTiedAt
import Derived.MakeChecks
import Derived.Deep.RegionHeld3
import Derived.Shelf.Strconv.Itoa3
namespace Go.Proofs.YteneobpacobpdaaGreatDoor.printerAgain
open Go.ChangeShapes Go.WideShapes Go.ChangeAt Go.WideMaps Go.WideElems Go.RowKit Go.Proofs.YteneobpacobpdaaGreatDoor Go.Proofs.YteneobpacobpdaaGreatDoor.Fm Go.Proofs.YteneobpacobpdaaGreatDoor.Pr Go.Proofs.YteneobpacobpdaaGreatDoor.Pa Go.Proofs.YteneobpacobpdaaGreatDoor.Rd
set_option linter.unusedVariables false
set_option linter.unusedSimpArgs false
attribute [local go_sem] run_store
open Go.ChangeMaps (open_string shut_string)
theorem tab_of {w : World} (hL : laidMetH Tryz.prog Rows.printerAgainRow.laid w) : Lib.TabIs Tryz.prog w "internal/strconv.uint64pow10" .u64 Lib.pow10Tab := by
  rw [Go.MakeChecks.laidMetH_plain _ _ _ (by kernel_rfl)] at hL
  exact Lib.tabIs_of_head (rest := []) (g := 0) (by kernel_rfl) (by kernel_rfl) Tryz.underlying178 Tryz.underlying169 (by kernel_rfl) (by kernel_rfl) (laidMet.tail (laidMet.tail hL))

set_option maxHeartbeats 8000000 in
set_option maxRecDepth 100000 in
theorem walk (s : ByteArray) (hs : s.size ≤ maxLen) (w : World) (hL : laidMetH Tryz.prog Rows.printerAgainRow.laid w) :
    Calls Tryz.prog 3 #[.string s] w fun e w' => e = .returned (.bool true) ∧ Below w.heap.size w w' := by
  have htab := tab_of hL
  clear hL
  by_cases hb : 600 < s.size
  · have hb' : (600 : Int) < (s.size : Int) := by omega
    clear htab hb
    go_enter Tryz.func3, Tryz.ntmps3
    go_wp2_with fail
    refine (awake_any _).mono ?_
    rintro e w1 ⟨rfl, hb1⟩
    have HB1 := Lib.hid hb1
    clear hb1
    go_wp2_with fail
    refine (awake_any _).mono ?_
    rintro e w2 ⟨rfl, hb2⟩
    have HB2 := Lib.hid (HB1.out.trans (hb2.mono HB1.out.size))
    clear hb2
    go_wp2
    go_ret
    exact ⟨rfl, HB2.out⟩
  · have hb' : ¬ (600 : Int) < (s.size : Int) := by omega
    obtain ⟨r, p, er, hpe⟩ := parse_ends (.iff false) (by simp) fm s.data.toList
    have HQ := Lib.hid (fun w' => Parse_walk s _ _ _ hpe (by omega) w')
    cases r with
    | none =>
      have hne : er ≠ 0 := fun e => by subst e; exact no_none hpe
      have hbe : ((er : Int) != 0) = true := by rw [bne_iff_ne]; omega
      clear htab hb hpe hne
      go_enter Tryz.func3, Tryz.ntmps3
      go_wp2_with fail
      refine (awake_any _).mono ?_
      rintro e w1 ⟨rfl, hb1⟩
      have HB1 := Lib.hid hb1
      clear hb1
      go_wp2_with fail
      refine (HQ.out _).mono ?_
      rintro e w2 ⟨rfl, hb2⟩
      have HB2 := Lib.hid (HB1.out.trans (hb2.mono HB1.out.size))
      clear hb2
      go_wp2
      go_ret
      exact ⟨rfl, HB2.out⟩
    | some x =>
      obtain rfl : er = 0 := Decidable.byContradiction fun h => by have := parse_none hpe h; cases this
      obtain ⟨f, -, -, rfl, -, -, -, -, rfl⟩ := parse_ok hpe
      obtain ⟨hok, hsp, hsf, hbd, hfn, hag⟩ := again hpe
      have hpr : prF f = f := pr_ok f hok
      have hlen : (txtF f).length ≤ 1200000 := by have := txtF_len f hbd; omega
      obtain ⟨D, hD⟩ : ∃ D, D = bsL (txtF f) := ⟨_, rfl⟩
      have hDt : D.data.toList = txtF f := by rw [hD]; rfl
      have hDs : D.size ≤ 1200000 := by rw [← hDt] at hlen; exact hlen
      have hexp : ∀ e ∈ expF (prF f), 0 ≤ e ∧ e ≤ 9223372036854775807 := expF_pr f hbd
      have HF := Lib.hid (fun v w' (hb : Below w.heap.size w w') (hv : FoAt w' (fun b => b < w'.heap.size) f v) => format_ok f v (fun b => b < w'.heap.size) w' (fun b h => h) hv hsf hsp (nmd_okF f hok) (fun e he => itoa_ok w' (Lib.tabBelow_of_tabIs htab w' hb) e (hexp e he).1 (hexp e he).2) (by rw [hpr]; omega) D (by rw [hpr]; exact hD))
      have HSF := Lib.hid hsf
      rw [← hDt] at hag
      have hDl : (txtF f).length = D.size := by rw [← hDt]; rfl
      rcases hag with hag | ⟨h60, q, hag⟩
      · have HR := Lib.hid (fun w' => Parse_walk D _ _ _ hag (by omega) w')
        clear htab hb hpe hok hsp hsf hbd hfn hpr hlen hD hDt hexp hag hDl
        go_enter Tryz.func3, Tryz.ntmps3
        go_wp2_with fail
        refine (awake_any _).mono ?_
        rintro e w1 ⟨rfl, hb1⟩
        have HB1 := Lib.hid hb1
        clear hb1
        go_wp2_with fail
        refine (HQ.out _).mono ?_
        rintro e w2 ⟨⟨u2, z2, rfl, hv2⟩, hb2⟩
        have HV2 := Lib.hid hv2.1
        have HB2 := Lib.hid (HB1.out.trans (hb2.mono HB1.out.size))
        clear hb2 hv2
        go_wp2_with fail
        refine (HF.out _ _ HB2.out HV2.out).mono ?_
        rintro e w3 ⟨rfl, hb3⟩
        have HV3 := Lib.hid (FoAt.up HV2.out hb3)
        have HB3 := Lib.hid (HB2.out.trans (hb3.mono HB2.out.size))
        clear hb3 HV2
        go_wp2_with fail
        refine (HR.out _).mono ?_
        rintro e w4 ⟨⟨u4, z4, rfl, hv4⟩, hb4⟩
        have HV4 := Lib.hid hv4.1
        have HW4 := Lib.hid (FoAt.up HV3.out hb4)
        have HB4 := Lib.hid (HB3.out.trans (hb4.mono HB3.out.size))
        clear hb4 hv4 HV3
        go_wp2_with fail
        refine (same_true f _ _ _ HV4.out HW4.out HSF.out).mono ?_
        rintro e w5 ⟨rfl, hb5⟩
        have HV5 := Lib.hid (FoAt.up HV4.out hb5)
        have HB5 := Lib.hid (HB4.out.trans (hb5.mono HB4.out.size))
        clear hb5 HV4 HW4
        go_wp2_with fail
        refine (HF.out _ _ HB5.out HV5.out).mono ?_
        rintro e w6 ⟨rfl, hb6⟩
        have HB6 := Lib.hid (HB5.out.trans (hb6.mono HB5.out.size))
        clear hb6
        go_wp2
        go_ret
        exact ⟨rfl, HB6.out⟩
      · have HR := Lib.hid (fun w' => Parse_walk D _ _ _ hag (by omega) w')
        have h60' : (60 : Int) < (D.size : Int) := by have : D.data.toList.length = D.size := rfl; omega
        clear htab hb hpe hok hsp hsf hbd hfn hpr hlen hD hDt hexp hag hDl h60
        go_enter Tryz.func3, Tryz.ntmps3
        go_wp2_with fail
        refine (awake_any _).mono ?_
        rintro e w1 ⟨rfl, hb1⟩
        have HB1 := Lib.hid hb1
        clear hb1
        go_wp2_with fail
        refine (HQ.out _).mono ?_
        rintro e w2 ⟨⟨u2, z2, rfl, hv2⟩, hb2⟩
        have HV2 := Lib.hid hv2.1
        have HB2 := Lib.hid (HB1.out.trans (hb2.mono HB1.out.size))
        clear hb2 hv2
        go_wp2_with fail
        refine (HF.out _ _ HB2.out HV2.out).mono ?_
        rintro e w3 ⟨rfl, hb3⟩
        have HB3 := Lib.hid (HB2.out.trans (hb3.mono HB2.out.size))
        clear hb3 HV2
        go_wp2_with fail
        refine (HR.out _).mono ?_
        rintro e w4 ⟨rfl, hb4⟩
        have HB4 := Lib.hid (HB3.out.trans (hb4.mono HB3.out.size))
        clear hb4
        go_wp2
        go_ret
        exact ⟨rfl, HB4.out⟩

theorem own : ownKnob Tryz.prog.godebug = none := by kernel_rfl

theorem door_met (os : Os) (args : Array Value) : laidMetH Tryz.prog Rows.printerAgainRow.laid ((World.doorLaid Tryz.prog 400 os).forCall (fun _ _ => 0) ⟨#[], args, []⟩).memory :=
  laidMetH_of_parts3 (fuel := 8) (laidMet_of_run' 8 (by kernel_rfl) (by kernel_rfl)) (by kernel_rfl) (by kernel_rfl)

set_option maxRecDepth 100000 in
theorem lifted (os : Os) (started : os.Started) (H : Type) (enc : TypeId × Value → H) :
    ReturnsInHanded {} Tryz.checked os 3 .any (fun w args => (Rows.printerAgainSpec.pre enc Tryz.prog Tryz.f3 [] false w args ∧ laidMetH Tryz.prog Rows.printerAgainRow.laid w) ∧ sizedMet enc Tryz.prog Tryz.f3 (OpenSpec.ofChange Rows.printerAgainSpec) false w args)
      (Rows.printerAgainSpec.post enc Tryz.prog Tryz.f3 false true false false) := by
  refine returnsInHanded_of_change_and (C := Tryz.checked) (X := fun w _ => laidMetH Tryz.prog Rows.printerAgainRow.laid w) (fun _ _ _ hh h => h.of_heap hh) own started (by kernel_rfl) Tryz.func3
    (ChangeSpec.witness_shaped (enc := enc) (C := Tryz.checked) (os := os) (X := fun w _ => laidMetH Tryz.prog Rows.printerAgainRow.laid w) false (World.doorLaid Tryz.prog 400 os) #[.string ByteArray.empty] 8 rfl (World.shaped_of_RefB (by kernel_rfl) (by kernel_rfl)) (by kernel_rfl) (by kernel_rfl) (by kernel_rfl) (door_met os _)) ?_
  intro W base args ds gs before hval0 hW _ _ hL _
  have hval : ∀ (j : Nat) t v, Tryz.f3.params[j]? = some t → args[j]? = some v → Value.okWide Tryz.prog W .any base t v := hval0
  have hW' := hW
  obtain ⟨p, q, hA0, hV, rfl, hfz, hnd⟩ := hW
  have hA : DataW.TrodAll enc Tryz.prog W 0 (fun _ => true) true Tryz.f3.params.toList args.toList ds p := hA0
  rw [Tryz.params3] at hA hval
  obtain ⟨v0, vs0, d0, ds0, p0, q0, hargs, rfl, rfl, h0, r0⟩ := trodAll_cons hA
  obtain ⟨rfl, rfl, rfl⟩ := trodAll_nil r0
  obtain rfl : args = #[v0] := by cases args; simp_all
  obtain ⟨rfl, rfl⟩ := trodVars_none hV
  obtain ⟨a0, rfl, rfl, rfl, w0⟩ := open_string Tryz.underlying9 (hval 0 9 v0 rfl rfl) h0
  clear hA0 hval0
  simp only [List.append_nil] at hW'
  refine (walk a0 w0 W  hL).mono fun e W' ⟨he, bel⟩ => ?_
  subst he
  exact ⟨_, rfl, _, _, _, [], _, [], hW', trodAll_mk1 (shut_bool Tryz.underlying4 _), (trodAll_cons_mk (shut_string Tryz.underlying9 w0) trodAll_mk0), rfl, bel.frame _, fun h => by cases h⟩

theorem over : Rows.printerAgainRow.holds Tryz.pinned (OpenSpec.ofChange Rows.printerAgainSpec) :=
  OpenClaim.holds_of_wide 3 Tryz.f3 rfl rfl rfl rfl rfl rfl rfl ⟨rfl, rfl, rfl, rfl, rfl⟩ rfl rfl rfl rfl rfl (by kernel_rfl) Tryz.func3 (by kernel_rfl)
    (of_decide_eq_true (by kernel_rfl)) (by unfold Func.isWrapper; first | (rw [if_pos (by decide +kernel)]; kernel_rfl) | (rw [if_neg (by decide +kernel)]; exact ⟨rfl, rfl⟩))
    (fun os started H enc _ => lifted os started H enc)

/-- THE STATEMENT: the tied card -/
theorem proved : Rows.PrinterAgainCardSaid :=
  Claim7.holds_tied_plain_at .later [] [.data, .data, .data] true _ true
    over (fun _ h => by cases h) (by kernel_rfl) (fun _ h => by cases h) printerAgain_row_tie rfl ⟨rfl, rfl⟩ (by kernel_rfl) rfl
    (fun f fn hf hfn => by
      obtain rfl : f = 3 := Option.some.inj ((show Tryz.prog.funcNamed Rows.printerAgainRow.func = some 3 by kernel_rfl).symm.trans hf) |>.symm
      obtain rfl : fn = Tryz.f3 := (Option.some.inj (Tryz.func3.symm.trans hfn)).symm
      exact ⟨by kernel_rfl, fun j t ht => by
        rw [Tryz.params3] at ht
        have hm : t ∈ [9] := by simpa using Array.mem_of_getElem? ht
        have hall : ([9].all fun u => !Tryz.prog.wantsStandIn u) = true := by kernel_rfl
        exact (show Tryz.prog.wantsStandIn t = false by simpa using List.all_eq_true.1 hall t hm)⟩)
    (by kernel_rfl)
end Go.Proofs.YteneobpacobpdaaGreatDoor.printerAgain

