/-
  PrinterBack: for every tree that came in the law returns true: what is printed is parsed as the canonical form, or exceeds a limit. The table of strconv reads as it was laid; no other condition.
-/
import Derived.Test.YteneobpacobpdaaGreatDoorHy
import Derived.Test.YteneobpacobpdaaGreatDoorCkE
import Derived.Test.YteneobpacobpdaaGreatDoorPrW
import Derived.Test.YteneobpacobpdaaGreatDoorPaX
import Derived.Test.YteneobpacobpdaaGreatDoorCards
import Derived.Test.YteneobpacobpdaaGreatDoorTie
import Derived.ProofKit
import Derived.OpenShut
import Derived.ShutString
import Derived.Carry
import Derived.LaidMore
import Derived.Stop.Joined
import Derived.Stop.LaidErr
import Derived.SevenTiedAt
import Derived.MakeChecks
import Derived.Deep.RegionHeld3
import Derived.Shelf.Strconv.Itoa3
set_option linter.unusedVariables false
set_option linter.unusedSimpArgs false
set_option maxRecDepth 100000
set_option maxHeartbeats 16000000
namespace Go.Proofs.YteneobpacobpdaaGreatDoor.printerBack
open Go.ChangeShapes Go.WideShapes Go.ChangeAt Go.WideMaps Go.WideElems Go.RowKit Go.Proofs.YteneobpacobpdaaGreatDoor Go.Proofs.YteneobpacobpdaaGreatDoor.Fm Go.Proofs.YteneobpacobpdaaGreatDoor.Pr Go.Proofs.YteneobpacobpdaaGreatDoor.Pa Go.Proofs.YteneobpacobpdaaGreatDoor.Rd
attribute [local go_sem] run_store
theorem tab_of {w : World} (hL : laidMetH Tryz.prog Rows.printerBackRow.laid w) : Lib.TabIs Tryz.prog w "internal/strconv.uint64pow10" .u64 Lib.pow10Tab := by
 rw [Go.MakeChecks.laidMetH_plain _ _ _ (by kernel_rfl)] at hL
 exact Lib.tabIs_of_head (rest := []) (g := 0) (by kernel_rfl) (by kernel_rfl) Tryz.underlying178 Tryz.underlying169 (by kernel_rfl) (by kernel_rfl) (laidMet.tail (laidMet.tail hL))
theorem walk (t0 : Tr) (cs0 : List Value) (w : World) (hT0 : TreeAt w (fun b => b < w.heap.size) t0 cs0) (hW0 : WfT t0) (hL : laidMetH Tryz.prog Rows.printerBackRow.laid w) :
  Calls Tryz.prog 4 #[.agg cs0.toArray] w fun e w' => e = .returned (.bool true) ∧ Below w.heap.size w w' := by
 have htab := tab_of hL
 clear hL
 obtain ⟨A1, n1, c1, A2, n2, c2, k, neg, nm, ex, rl, tr, al, rfl⟩ := hT0.nine
 have hx := Box.new w #[.int .i64 k, .bool neg, .slice A1 n1 c1, .string nm, .int .i64 ex, .int .i64 rl, .bool tr, .bool al, .slice A2 n2 c2] TT
 obtain ⟨R, hR⟩ : ∃ R, R = rightFB t0 := ⟨_, rfl⟩
 have HR := h_ (show ∀ w', Below w.heap.size w w' → Calls Tryz.prog 9 #[.agg #[.int .i64 k, .bool neg, .slice A1 n1 c1, .string nm, .int .i64 ex, .int .i64 rl, .bool tr, .bool al, .slice A2 n2 c2], .bool false] w' fun e w2 => e = .returned (.bool R) ∧ Below w'.heap.size w' w2 from
  fun w' hb => by rw [hR]; exact rightF_any t0 _ (fun b => b < w.heap.size) w' (fun b h => Nat.lt_of_lt_of_le h hb.size) (hT0.below (fun b h => h) hb))
 have HX := h_ hx
 have HT := h_ hT0
 cases R
 ·clear hR hx hT0 htab hW0
  go_enter Tryz.func4, Tryz.ntmps4
  go_wp2_with fail
  refine (awake_any _).mono ?_
  rintro e w1 ⟨rfl, hb1⟩
  obtain ⟨g0, g1, g2, g3, g4, g5, g6, g7, g8⟩ := (HX.out.step hb1).c9
  have HB1 := h_ (HX.out.step hb1)
  clear hb1
  go_wp2_with fail
  refine (HR.out _ HB1.out.below).mono ?_
  rintro e w2 ⟨rfl, hb2⟩
  obtain ⟨f0, f1, f2, f3, f4, f5, f6, f7, f8⟩ := (HB1.out.step hb2).c9
  have HB2 := h_ (HB1.out.step hb2)
  clear hb2 g0 g1 g2 g3 g4 g5 g6 g7 g8
  go_wp2_with fail
  refine (awake_any _).mono ?_
  rintro e w3 ⟨rfl, hb3⟩
  have HB3 := h_ (HB2.out.step hb3)
  clear hb3
  go_wp2
  go_ret
  exact ⟨rfl, HB3.out.below⟩
 ·have hf : fewB t0 200 = true ∧ isF t0 false = true := by unfold rightFB at hR; simpa using hR.symm
  have hsm := fewB_sm hf.1
  have hnn := fewB_nn hf.1
  obtain ⟨f, hof⟩ : ∃ f, ofF t0 = some f := by have := hf.2; rw [isF_ofF] at this; exact Option.isSome_iff_exists.1 this
  have hrf := rf_of t0 f hof
  obtain ⟨hpl, hsf⟩ := plainF_of hrf hsm
  have hbd := bdF_of hrf hsm hW0
  have hsp : Sm (plainF f) := by rw [hpl]; exact sm_canon hsm
  have hfn : fnn f ≤ 200 := by have := fnnn_eq hrf; omega
  have hsg : SmF (prF f) := smF_pr hsf
  have HO := h_ hof
  have HOF := h_ (show ∀ w', Below w.heap.size w w' → _ from fun w' hb => of_any t0 _ (fun b => b < w.heap.size) w' (fun b h => Nat.lt_of_lt_of_le h hb.size) (hT0.below (fun b h => h) hb) hsm)
  by_cases hn : nmdT (plainF f) = true
  case neg =>
   have hn' : nmdT (plainF f) = false := by simpa using hn
   have HF := h_ (fun v w' (hv : FoAt w' (fun b => b < w'.heap.size) f v) => format_err f v (fun b => b < w'.heap.size) w' (fun b h => h) hv hsf hn')
   have hck := fun v w' (hv : FoAt w' (fun b => b < w'.heap.size) f v) => Dc.check_bad f v (fun b => b < w'.heap.size) w' (fun b h => h) hv hsf (check_name f hn') (by have := fsz_fn f; omega) (by have := free_fn f; omega) (by omega) (bnd_size f hbd) (free_size f hbd)
   have HC := h_ hck
   clear hR hx hT0 hf hsm hnn hof hrf hpl hsf hbd hsp hfn hsg hn hn' hck htab hW0
   go_enter Tryz.func4, Tryz.ntmps4
   go_wp2_with fail
   refine (awake_any _).mono ?_
   rintro e w1 ⟨rfl, hb1⟩
   obtain ⟨g0, g1, g2, g3, g4, g5, g6, g7, g8⟩ := (HX.out.step hb1).c9
   have HB1 := h_ (HX.out.step hb1)
   clear hb1
   go_wp2_with fail
   refine (HR.out _ HB1.out.below).mono ?_
   rintro e w2 ⟨rfl, hb2⟩
   obtain ⟨f0, f1, f2, f3, f4, f5, f6, f7, f8⟩ := (HB1.out.step hb2).c9
   have HB2 := h_ (HB1.out.step hb2)
   clear hb2 g0 g1 g2 g3 g4 g5 g6 g7 g8
   go_wp2_with fail
   refine (HOF.out _ HB2.out.below).mono ?_
   intro e w3 hp
   obtain ⟨v3, rfl, hv3, hb3⟩ := hp.yes HO.out
   have HV3 := h_ (FoAt.more (fun b h => h.2) _ _ hv3 : FoAt w3 (fun b => b < w3.heap.size) f v3)
   have HB3 := h_ (HB2.out.step hb3).below
   have hov := hv3.one
   clear hb3 hv3 hp f0 f1 f2 f3 f4 f5 f6 f7 f8
   go_wp2_with fail
   refine (HF.out _ _ HV3.out).mono ?_
   rintro e w4 ⟨rfl, hb4⟩
   have HV4 := h_ (FoAt.up HV3.out hb4)
   have HB4 := h_ (HB3.out.trans (hb4.mono HB3.out.size))
   clear hb4
   go_wp2_with fail
   refine (HC.out _ _ HV4.out).mono ?_
   rintro e w5 ⟨rfl, hb5⟩
   have HB5 := h_ (HB4.out.trans (hb5.mono HB4.out.size))
   clear hb5
   go_wp2
   go_ret
   exact ⟨rfl, HB5.out⟩
  case pos =>
   have hlen : (txtF (prF f)).length ≤ 120000 := by have h1 := txtF_len _ (bdF_pr f hbd); have h2 := fnn_pr f; omega
   obtain ⟨D, hD⟩ : ∃ D, D = bsL (txtF (prF f)) := ⟨_, rfl⟩
   have hDt : D.data.toList = txtF (prF f) := by rw [hD]; rfl
   have hDs : D.size ≤ 120000 := by rw [← hDt] at hlen; exact hlen
   have hrd : Gives D.data.toList (prF f) := by rw [hDt]; exact read_F _ (okF_pr f (rgF_bd f hbd) hn)
   have HF := h_ (fun v w' (hb : Below w.heap.size w w') (hv : FoAt w' (fun b => b < w'.heap.size) f v) => format_ok f v (fun b => b < w'.heap.size) w' (fun b h => h) hv hsf hsp hn (fun e he => itoa_ok w' (Lib.tabBelow_of_tabIs htab w' hb) e (expF_pr f hbd e he).1 (expF_pr f hbd e he).2) (by omega) D hD)
   have HC := h_ (fun v w' (hv : FoAt w' (fun b => b < w'.heap.size) f v) => canonical_any f v (fun b => b < w'.heap.size) w' (fun b h => h) hv hsf hsp)
   have HSG := h_ hsg
   obtain ⟨g, hg⟩ : ∃ g, g = prF f := ⟨_, rfl⟩
   rw [← hg] at hrd HC HSG
   have HG := h_ (fun w' => gives_walk D g hrd (by omega) w')
   clear hR hx hT0 hf hsm hnn hof hrf hpl hsf hbd hsp hfn hsg hn htab hW0 hlen hD hDt hDs hrd hg
   go_enter Tryz.func4, Tryz.ntmps4
   go_wp2_with fail
   refine (awake_any _).mono ?_
   rintro e w1 ⟨rfl, hb1⟩
   obtain ⟨g0, g1, g2, g3, g4, g5, g6, g7, g8⟩ := (HX.out.step hb1).c9
   have HB1 := h_ (HX.out.step hb1)
   clear hb1
   go_wp2_with fail
   refine (HR.out _ HB1.out.below).mono ?_
   rintro e w2 ⟨rfl, hb2⟩
   obtain ⟨f0, f1, f2, f3, f4, f5, f6, f7, f8⟩ := (HB1.out.step hb2).c9
   have HB2 := h_ (HB1.out.step hb2)
   clear hb2 g0 g1 g2 g3 g4 g5 g6 g7 g8
   go_wp2_with fail
   refine (HOF.out _ HB2.out.below).mono ?_
   intro e w3 hp
   obtain ⟨v3, rfl, hv3, hb3⟩ := hp.yes HO.out
   have HV3 := h_ (FoAt.more (fun b h => h.2) _ _ hv3 : FoAt w3 (fun b => b < w3.heap.size) f v3)
   have HB3 := h_ (HB2.out.step hb3).below
   have hov := hv3.one
   clear hb3 hv3 hp f0 f1 f2 f3 f4 f5 f6 f7 f8
   go_wp2_with fail
   refine (HF.out _ _ HB3.out HV3.out).mono ?_
   rintro e w4 ⟨rfl, hb4⟩
   have HV4 := h_ (FoAt.up HV3.out hb4)
   have HB4 := h_ (HB3.out.trans (hb4.mono HB3.out.size))
   clear hb4
   go_wp2_with fail
   refine (HG.out _).mono ?_
   rintro e w5 ⟨va, p5, x5, rfl, hva, hcase, hb5⟩
   have HV5 := h_ (FoAt.up HV4.out hb5)
   have HB5 := h_ (HB4.out.trans (hb5.mono HB4.out.size))
   clear hb5
   rcases hcase with ⟨rfl, ⟨u5, z5, rfl⟩, hg5, -⟩ | ⟨rfl, rfl, -⟩
   ·have HG5 := h_ hg5
    clear hg5
    go_wp2_with fail
    refine (HC.out _ _ HV5.out).mono ?_
    rintro e w6 ⟨v6, rfl, hv6, hb6⟩
    have HV6 := h_ (FoAt.more (fun b h => h.2) _ _ hv6 : FoAt w6 (fun b => b < w6.heap.size) g v6)
    have HG6 := h_ (FoAt.up HG5.out hb6)
    have HB6 := h_ (HB5.out.trans (hb6.mono HB5.out.size))
    have ho6 := hv6.one
    clear hb6 hv6
    go_wp2_with fail
    refine (same_true g _ _ _ HG6.out HV6.out HSG.out).mono ?_
    rintro e w7 ⟨rfl, hb7⟩
    have HB7 := h_ (HB6.out.trans (hb7.mono HB6.out.size))
    clear hb7
    go_wp2
    go_ret
    exact ⟨rfl, HB7.out⟩
   ·go_wp2
    go_ret
    exact ⟨rfl, HB5.out⟩
theorem laidOut : laidOutB Tryz.prog = true := by kernel_rfl
theorem own : ownKnob Tryz.prog.godebug = none := by kernel_rfl
theorem door_met (os : Os) (args : Array Value) : laidMetH Tryz.prog Rows.printerBackRow.laid ((World.doorLaid Tryz.prog 400 os).forCall (fun _ _ => 0) ⟨#[], args, []⟩).memory :=
 laidMetH_of_parts3 (fuel := 8) (laidMet_of_run' 8 (by kernel_rfl) (by kernel_rfl)) (by kernel_rfl) (by kernel_rfl)
theorem lifted (os : Os) (started : os.Started) (H : Type) (enc : TypeId × Value → H) :
  ReturnsInHanded {} Tryz.checked os 4 .any (fun w args => (Rows.printerBackSpec.pre enc Tryz.prog Tryz.f4 [] false w args ∧ laidMetH Tryz.prog Rows.printerBackRow.laid w) ∧ sizedMet enc Tryz.prog Tryz.f4 (OpenSpec.ofChange Rows.printerBackSpec) false w args)
   (Rows.printerBackSpec.post enc Tryz.prog Tryz.f4 false true false false) := by
 refine returnsInHanded_of_change_and (C := Tryz.checked) (X := fun w _ => laidMetH Tryz.prog Rows.printerBackRow.laid w) (fun _ _ _ hh h => h.of_heap hh) own started (by kernel_rfl) Tryz.func4
  (ChangeSpec.witness_shaped (enc := enc) (C := Tryz.checked) (os := os) (X := fun w _ => laidMetH Tryz.prog Rows.printerBackRow.laid w) false (World.doorLaid Tryz.prog 400 os) #[.agg #[.int .i64 0, .bool false, .slice none 0 0, .string ByteArray.empty, .int .i64 0, .int .i64 0, .bool false, .bool false, .slice none 0 0]] 8 rfl (World.shaped_of_RefB (by kernel_rfl) (by kernel_rfl)) (by kernel_rfl) (by kernel_rfl) (by kernel_rfl) (door_met os _)) ?_
 intro W base args ds gs before hval0 hW _ _ hL _
 have hval : ∀ (j : Nat) t v, Tryz.f4.params[j]? = some t → args[j]? = some v → Value.okWide Tryz.prog W .any base t v := hval0
 have hW' := hW
 obtain ⟨p, q, hA0, hV, rfl, hfz, hnd⟩ := hW
 have hA : DataW.TrodAll enc Tryz.prog W 0 (fun _ => true) true Tryz.f4.params.toList args.toList ds p := hA0
 rw [Tryz.params4] at hA hval
 obtain ⟨v0, vs0, d0, ds0, p0, q0, hargs, rfl, rfl, h0, r0⟩ := trodAll_cons hA
 obtain ⟨rfl, rfl, rfl⟩ := trodAll_nil r0
 obtain rfl : args = #[v0] := by cases args; simp_all
 obtain ⟨rfl, rfl⟩ := trodVars_none hV
 obtain ⟨cs0, rfl, hl0⟩ := okWide_struct Tryz.underlying39 (hval 0 39 v0 rfl rfl)
 have hl0' : cs0.toList.length = 9 := by rw [show Tryz.prog.cellsOf 39 = 9 by kernel_rfl] at hl0; simpa using hl0
 have h0k := h0
 obtain ⟨fuel0, hf0⟩ := h0
 obtain ⟨t0, hT0, hWf0⟩ := open_treeW fuel0 fuel0 (Nat.le_refl _) _ _ hl0' hf0
 clear hA0 hval0
 simp only [List.append_nil] at hW'
 have hlt0 : ∀ x ∈ p0, x.block < W.heap.size := fun x hx => by simpa using hW'.lt x (by simp [hx])
 refine (walk t0 cs0.toList W hT0 hWf0 hL).mono fun e W' ⟨he, bel⟩ => ?_
 subst he
 exact ⟨_, rfl, _, _, _, [], _, [], hW', trodAll_mk1 (shut_bool Tryz.underlying4 _), (trodAll_cons_mk (Below.trod laidOut (by kernel_rfl) (of_decide_eq_true (by kernel_rfl)) h0k bel hlt0) trodAll_mk0), rfl, bel.frame _, fun h => by cases h⟩
theorem over : Rows.printerBackRow.holds Tryz.pinned (OpenSpec.ofChange Rows.printerBackSpec) :=
 OpenClaim.holds_of_wide 4 Tryz.f4 rfl rfl rfl rfl rfl rfl rfl ⟨rfl, rfl, rfl, rfl, rfl⟩ rfl rfl rfl rfl rfl (by kernel_rfl) Tryz.func4 (by kernel_rfl)
  (of_decide_eq_true (by kernel_rfl)) (by unfold Func.isWrapper; first | (rw [if_pos (by decide +kernel)]; kernel_rfl) | (rw [if_neg (by decide +kernel)]; exact ⟨rfl, rfl⟩))
  (fun os started H enc _ => lifted os started H enc)
theorem proved : Rows.PrinterBackCardSaid :=
 Claim7.holds_tied_plain_at .later [] [.data, .data, .data] true _ true
  over (fun _ h => by cases h) (by kernel_rfl) (fun _ h => by cases h) printerBack_row_tie rfl ⟨rfl, rfl⟩ (by kernel_rfl) rfl
  (fun f fn hf hfn => by
   obtain rfl : f = 4 := Option.some.inj ((show Tryz.prog.funcNamed Rows.printerBackRow.func = some 4 by kernel_rfl).symm.trans hf) |>.symm
   obtain rfl : fn = Tryz.f4 := (Option.some.inj (Tryz.func4.symm.trans hfn)).symm
   exact ⟨by kernel_rfl, fun j t ht => by
    rw [Tryz.params4] at ht
    have hm : t ∈ [39] := by simpa using Array.mem_of_getElem? ht
    have hall : ([39].all fun u => !Tryz.prog.wantsStandIn u) = true := by kernel_rfl
    exact (show Tryz.prog.wantsStandIn t = false by simpa using List.all_eq_true.1 hall t hm)⟩)
  (by kernel_rfl)
end Go.Proofs.YteneobpacobpdaaGreatDoor.printerBack
