/-
  PrinterCanonical: for every tree that came in the law returns true: Canonical only replaces negative numbers; it changes neither names nor atoms, and applied again changes nothing. No condition beside what the row lists.
-/
import Derived.Test.YtkjbfomokdjbnaaDoorPrK
import Derived.Test.YtkjbfomokdjbnaaDoorPrW
import Derived.Test.YtkjbfomokdjbnaaDoorFmT
import Derived.Test.YtkjbfomokdjbnaaDoorFmT2
import Derived.Test.YtkjbfomokdjbnaaDoorCards
import Derived.Test.YtkjbfomokdjbnaaDoorTie
import Derived.ProofKit
import Derived.OpenShut
import Derived.ShutString
import Derived.Carry
import Derived.LaidMore
import Derived.Stop.Joined
import Derived.Stop.LaidErr
import Derived.SevenTiedAt
import Derived.MakeChecks
import Derived.Deep.RegionHeld3
import Derived.Shelf.Strconv.Itoa3
namespace Go.Proofs.YtkjbfomokdjbnaaDoor.printerCanonical
open Go.ChangeShapes Go.WideShapes Go.ChangeAt Go.WideMaps Go.WideElems Go.RowKit Go.Proofs.YtkjbfomokdjbnaaDoor Go.Proofs.YtkjbfomokdjbnaaDoor.Fm Go.Proofs.YtkjbfomokdjbnaaDoor.Pr Go.Proofs.YtkjbfomokdjbnaaDoor.Pl
set_option linter.unusedVariables false
set_option linter.unusedSimpArgs false
attribute [local go_sem] run_store
set_option maxHeartbeats 16000000 in
set_option maxRecDepth 100000 in
theorem walk (t0 : Tr) (cs0 : List Value) (w : World) (hT0 : TreeAt w (fun b => b < w.heap.size) t0 cs0) :
    Calls Tryd.prog 6 #[.agg cs0.toArray] w fun e w' => e = .returned (.bool true) ∧ Below w.heap.size w w' := by
  obtain ⟨A1, n1, c1, A2, n2, c2, k, neg, nm, ex, rl, tr, al, rfl⟩ := hT0.nine
  have hx := Box.new w #[.int .i64 k, .bool neg, .slice A1 n1 c1, .string nm, .int .i64 ex, .int .i64 rl, .bool tr, .bool al, .slice A2 n2 c2] TT
  obtain ⟨R, hR⟩ : ∃ R, R = rightFB t0 := ⟨_, rfl⟩
  have HR := Lib.hid (show ∀ w', Below w.heap.size w w' → Calls Tryd.prog 8 #[.agg #[.int .i64 k, .bool neg, .slice A1 n1 c1, .string nm, .int .i64 ex, .int .i64 rl, .bool tr, .bool al, .slice A2 n2 c2], .bool false] w' fun e w2 => e = .returned (.bool R) ∧ Below w'.heap.size w' w2 from
    fun w' hb => by rw [hR]; exact rightF_any t0 _ (fun b => b < w.heap.size) w' (fun b h => Nat.lt_of_lt_of_le h hb.size) (hT0.below (fun b h => h) hb))
  have HX := Lib.hid hx
  have HT := Lib.hid hT0
  cases R
  · clear hR hx hT0
    go_enter Tryd.func6, Tryd.ntmps6
    go_wp2_with fail
    refine (awake_any _).mono ?_
    rintro e w1 ⟨rfl, hb1⟩
    obtain ⟨g0, g1, g2, g3, g4, g5, g6, g7, g8⟩ := (HX.out.step hb1).c9
    have HB1 := Lib.hid (HX.out.step hb1)
    clear hb1
    go_wp2_with fail
    refine (HR.out _ HB1.out.below).mono ?_
    rintro e w2 ⟨rfl, hb2⟩
    obtain ⟨f0, f1, f2, f3, f4, f5, f6, f7, f8⟩ := (HB1.out.step hb2).c9
    have HB2 := Lib.hid (HB1.out.step hb2)
    clear hb2 g0 g1 g2 g3 g4 g5 g6 g7 g8
    go_wp2_with fail
    refine (awake_any _).mono ?_
    rintro e w3 ⟨rfl, hb3⟩
    have HB3 := Lib.hid (HB2.out.step hb3)
    clear hb3
    go_wp2
    go_ret
    exact ⟨rfl, HB3.out.below⟩
  · have hf : fewB t0 200 = true ∧ isF t0 false = true := by unfold rightFB at hR; simpa using hR.symm
    have hsm := fewB_sm hf.1
    have hnn := fewB_nn hf.1
    obtain ⟨f, hof⟩ : ∃ f, ofF t0 = some f := by have := hf.2; rw [isF_ofF] at this; exact Option.isSome_iff_exists.1 this
    have hrf := rf_of t0 f hof
    obtain ⟨hpl, hsf⟩ := plainF_of hrf hsm
    have hsp : Sm (plainF f) := by rw [hpl]; exact sm_canon hsm
    have hfn : fnn f ≤ 200 := by have := fnnn_eq hrf; omega
    have hgn : fnn (prF f) ≤ 400 := by have := fnn_pr f; omega
    have hsg : SmF (prF f) := smF_pr hsf
    have hspg : Sm (plainF (prF f)) := by rw [plainF_pr]; exact sm_pos _ hsp
    have hpt : plusT (canonT t0) = plainF (prF f) := by rw [plainF_pr, hpl, plus_pos _ (by rw [← hpl]; exact nmT_plainF f)]
    have HO := Lib.hid hof
    have HOF := Lib.hid (show ∀ w', Below w.heap.size w w' → _ from fun w' hb => of_any t0 _ (fun b => b < w.heap.size) w' (fun b h => Nat.lt_of_lt_of_le h hb.size) (hT0.below (fun b h => h) hb) hsm)
    have hcn := fun w' (hb : Below w.heap.size w w') => rcanon_any t0 _ (fun b => b < w.heap.size) w' (fun b h => Nat.lt_of_lt_of_le h hb.size) (hT0.below (fun b h => h) hb) hsm (by omega)
    rw [hpt] at hcn
    have HCN := Lib.hid hcn
    have HC1 := Lib.hid (fun v w' (hv : FoAt w' (fun b => b < w'.heap.size) f v) => canonical_any f v (fun b => b < w'.heap.size) w' (fun b h => h) hv hsf hsp)
    obtain ⟨g, hg⟩ : ∃ g, g = prF f := ⟨_, rfl⟩
    have hFr : freeN g = freeN f := by rw [hg, free_pr]
    have hAt : atomsF g = atomsF f := by rw [hg, atoms_pr]
    have hTw : plainF (prF g) = plainF g := by rw [hg, prF_twice]
    rw [← hg] at HCN HC1 hsg hspg hgn
    have HC2 := Lib.hid (fun v w' (hv : FoAt w' (fun b => b < w'.heap.size) g v) => canonical_any g v (fun b => b < w'.heap.size) w' (fun b h => h) hv hsg hspg)
    have HPL := Lib.hid (fun v w' (hv : FoAt w' (fun b => b < w'.heap.size) g v) => plain_any g v (fun b => b < w'.heap.size) w' (fun b h => h) hv hsg)
    have HSF := Lib.hid (fun va vb w' (ha : FoAt w' (fun b => b < w'.heap.size) (prF g) va) (hb : FoAt w' (fun b => b < w'.heap.size) g vb) => fsame_any (prF g) g va vb (fun b => b < w'.heap.size) w' (fun b h => h) ha hb (smF_pr hsg) hsg true (by simp [hTw]))
    have HAG := Lib.hid (fun v w' (hv : FoAt w' (fun b => b < w'.heap.size) g v) => atoms_any g v (fun b => b < w'.heap.size) w' (fun b h => h) hv (by omega))
    have HAF := Lib.hid (fun v w' (hv : FoAt w' (fun b => b < w'.heap.size) f v) => atoms_any f v (fun b => b < w'.heap.size) w' (fun b h => h) hv (by omega))
    rw [hAt] at HAG
    have HFG := Lib.hid (fun v w' (hv : FoAt w' (fun b => b < w'.heap.size) g v) => free_any g v (fun b => b < w'.heap.size) w' (fun b h => h) hv (by have := fsz_le g; omega))
    have HFF := Lib.hid (fun v w' (hv : FoAt w' (fun b => b < w'.heap.size) f v) => free_any f v (fun b => b < w'.heap.size) w' (fun b h => h) hv (by have := fsz_le f; omega))
    rw [hFr] at HFG
    obtain ⟨T, hT⟩ : ∃ T, T = plainF g := ⟨_, rfl⟩
    rw [← hT] at HCN HPL
    obtain ⟨N, hN⟩ : ∃ N, N = atomsF f := ⟨_, rfl⟩
    rw [← hN] at HAG HAF
    obtain ⟨FL, hFL⟩ : ∃ FL, FL = freeN f := ⟨_, rfl⟩
    rw [← hFL] at HFG HFF
    clear hR hx hT0 hf hsm hnn hof hrf hpl hsf hsp hfn hgn hsg hspg hpt hcn hg hFr hAt hTw hT hN hFL
    go_enter Tryd.func6, Tryd.ntmps6
    go_wp2_with fail
    refine (awake_any _).mono ?_
    rintro e w1 ⟨rfl, hb1⟩
    obtain ⟨g0, g1, g2, g3, g4, g5, g6, g7, g8⟩ := (HX.out.step hb1).c9
    have HB1 := Lib.hid (HX.out.step hb1)
    clear hb1
    go_wp2_with fail
    refine (HR.out _ HB1.out.below).mono ?_
    rintro e w2 ⟨rfl, hb2⟩
    obtain ⟨f0, f1, f2, f3, f4, f5, f6, f7, f8⟩ := (HB1.out.step hb2).c9
    have HB2 := Lib.hid (HB1.out.step hb2)
    clear hb2 g0 g1 g2 g3 g4 g5 g6 g7 g8
    go_wp2_with fail
    refine (HOF.out _ HB2.out.below).mono ?_
    intro e w3 hp
    obtain ⟨v3, rfl, hv3, hb3⟩ := hp.yes HO.out
    have HV3 := Lib.hid (FoAt.more (fun b h => h.2) _ _ hv3 : FoAt w3 (fun b => b < w3.heap.size) f v3)
    have HB3 := Lib.hid (HB2.out.step hb3)
    have hov := hv3.one
    clear hb3 hv3 hp f0 f1 f2 f3 f4 f5 f6 f7 f8
    go_wp2_with fail
    refine (HC1.out _ _ HV3.out).mono ?_
    rintro e w4 ⟨v4, rfl, hv4, hb4⟩
    have HV4 := Lib.hid (FoAt.more (fun b h => h.2) _ _ hv4 : FoAt w4 (fun b => b < w4.heap.size) g v4)
    have HF4 := Lib.hid (posT_lift HV3.out (fun b h => h) hb4)
    obtain ⟨e0, e1, e2, e3, e4, e5, e6, e7, e8⟩ := (HB3.out.step hb4).c9
    have HB4 := Lib.hid (HB3.out.step hb4)
    have hog := hv4.one
    clear hb4 hv4
    go_wp2_with fail
    have HD : Below w4.heap.size w4 w4.drew := (Below.refl _ w4).drew
    have hstep := Lib.hid (show ∀ wc wn, Below w4.heap.size w4 wc → Below wc.heap.size wc wn → Below w4.heap.size w4 wn from fun wc wn h1 h2 => h1.trans (h2.mono h1.size))
    have HGL := Lib.hid (show ∀ wc, Below w4.heap.size w4 wc → FoAt wc (fun b => b < wc.heap.size) g v4 from fun wc hb => posT_lift HV4.out (fun b h => h) hb)
    have HFL := Lib.hid (show ∀ wc, Below w4.heap.size w4 wc → FoAt wc (fun b => b < wc.heap.size) f v3 from fun wc hb => posT_lift HF4.out (fun b h => h) hb)
    have HCL := Lib.hid (show ∀ wc, Below w4.heap.size w4 wc → Below w.heap.size w wc from fun wc hb => (HB4.out.step hb).below)
    clear HR HOF HC1 HX HT HB1 HB2 HB3 HV3 HV4 HF4
    go_region_held3 (fun w' => w'.cell? ⟨w.heap.size, 0, none⟩ = some (.int .i64 k) ∧ w'.cell? ⟨w.heap.size, 1, none⟩ = some (.bool neg) ∧ w'.cell? ⟨w.heap.size, 2, none⟩ = some (.slice A1 n1 c1) ∧ w'.cell? ⟨w.heap.size, 3, none⟩ = some (.string nm) ∧ w'.cell? ⟨w.heap.size, 4, none⟩ = some (.int .i64 ex) ∧ w'.cell? ⟨w.heap.size, 5, none⟩ = some (.int .i64 rl) ∧ w'.cell? ⟨w.heap.size, 6, none⟩ = some (.bool tr) ∧ w'.cell? ⟨w.heap.size, 7, none⟩ = some (.bool al) ∧ w'.cell? ⟨w.heap.size, 8, none⟩ = some (.slice A2 n2 c2)) (go_keep)
      (first
        | (go_at_call 16; refine (HPL.out _ _ (HGL.out _ HD)).mono ?_; intro e w5 hq; obtain ⟨b1, b2, b3, b4, b5, b6, y1, y2, y3, y4, y5, y6, y7, rfl, htL, hbl⟩ := hq.cells; have hbL := hstep.out _ _ HD hbl; have HTL := Lib.hid htL; have HE5 := Lib.hid hbL; clear htL hbl hq; obtain ⟨pa0, pa1, pa2, pa3, pa4, pa5, pa6, pa7, pa8⟩ := (HB4.out.step hbL).c9; clear hbL)
        | (go_at_call 17; refine (HCN.out _ (HCL.out _ HE5.out)).mono ?_; intro e w6 hq; obtain ⟨d1, d2, d3, d4, d5, d6, z1, z2, z3, z4, z5, z6, z7, rfl, htR, hbl⟩ := hq.cells; have hbL := hstep.out _ _ HE5.out hbl; have HTR := Lib.hid htR; have HTL6 := Lib.hid (TreeAt.more (fun b h => Nat.lt_of_lt_of_le h.2 hbl.size) _ _ (HTL.out.below (fun b h => h.2) hbl)); have HE6 := Lib.hid hbL; clear htR hbl hq; obtain ⟨pb0, pb1, pb2, pb3, pb4, pb5, pb6, pb7, pb8⟩ := (HB4.out.step hbL).c9; clear hbL)
        | (go_at_call 15; refine (same_any T T _ _ (fun b => b < w6.heap.size) true w6 (fun b h => h) HTL6.out (TreeAt.more (fun b h => h.2) _ _ HTR.out) (by simp)).mono ?_; rintro e w7 ⟨rfl, hbl⟩; have hbL := hstep.out _ _ HE6.out hbl; have HE7 := Lib.hid hbL; clear hbl; obtain ⟨pc0, pc1, pc2, pc3, pc4, pc5, pc6, pc7, pc8⟩ := (HB4.out.step hbL).c9; clear hbL)
        | (go_at_call 14; refine (HC2.out _ _ (HGL.out _ HE7.out)).mono ?_; rintro e w8 ⟨v8, rfl, hv8, hbl⟩; have hbL := hstep.out _ _ HE7.out hbl; have HV8 := Lib.hid hv8; have ho8 := hv8.one; have HE8 := Lib.hid hbL; clear hbl hv8; obtain ⟨pd0, pd1, pd2, pd3, pd4, pd5, pd6, pd7, pd8⟩ := (HB4.out.step hbL).c9; clear hbL)
        | (go_at_call 18; refine (HSF.out _ _ _ (FoAt.more (fun b h => h.2) _ _ HV8.out) (HGL.out _ HE8.out)).mono ?_; rintro e w9 ⟨rfl, hbl⟩; have hbL := hstep.out _ _ HE8.out hbl; have HE9 := Lib.hid hbL; clear hbl; obtain ⟨pe0, pe1, pe2, pe3, pe4, pe5, pe6, pe7, pe8⟩ := (HB4.out.step hbL).c9; clear hbL)
        | (go_at_call 19; first
            | ((with_reducible refine (HAG.out _ _ (HGL.out _ HE9.out)).mono ?_); rintro e w10 ⟨rfl, hbl⟩; have hbL := hstep.out _ _ HE9.out hbl; have HE10 := Lib.hid hbL; clear hbl; obtain ⟨pf0, pf1, pf2, pf3, pf4, pf5, pf6, pf7, pf8⟩ := (HB4.out.step hbL).c9; clear hbL)
            | ((with_reducible refine (HAF.out _ _ (HFL.out _ HE10.out)).mono ?_); rintro e w11 ⟨rfl, hbl⟩; have hbL := hstep.out _ _ HE10.out hbl; have HE11 := Lib.hid hbL; clear hbl; obtain ⟨pg0, pg1, pg2, pg3, pg4, pg5, pg6, pg7, pg8⟩ := (HB4.out.step hbL).c9; clear hbL))
        | (go_at_call 20; first
            | ((with_reducible refine (HFG.out _ _ (HGL.out _ HE11.out)).mono ?_); rintro e w12 ⟨v12, rfl, ho12, hbl⟩; obtain ⟨a12, c12, rfl⟩ := (SS.of_own ho12).form; have hbL := hstep.out _ _ HE11.out hbl; have HE12 := Lib.hid hbL; clear hbl ho12; obtain ⟨ph0, ph1, ph2, ph3, ph4, ph5, ph6, ph7, ph8⟩ := (HB4.out.step hbL).c9; clear hbL)
            | ((with_reducible refine (HFF.out _ _ (HFL.out _ HE12.out)).mono ?_); rintro e w13 ⟨v13, rfl, ho13, hbl⟩; obtain ⟨a13, c13, rfl⟩ := (SS.of_own ho13).form; have hbL := hstep.out _ _ HE12.out hbl; have HE13 := Lib.hid hbL; clear hbl ho13; obtain ⟨pi0, pi1, pi2, pi3, pi4, pi5, pi6, pi7, pi8⟩ := (HB4.out.step hbL).c9; clear hbL)))
    all_goals
      go_wp2
      go_ret
      exact ⟨rfl, (HB4.out.step HE13.out).below⟩

theorem laidOut : laidOutB Tryd.prog = true := by kernel_rfl

theorem own : ownKnob Tryd.prog.godebug = none := by kernel_rfl

theorem door_met (os : Os) (args : Array Value) : laidMetH Tryd.prog Rows.printerCanonicalRow.laid ((World.doorLaid Tryd.prog 400 os).forCall (fun _ _ => 0) ⟨#[], args, []⟩).memory :=
  laidMetH_of_parts3 (fuel := 8) (laidMet_of_run' 8 (by kernel_rfl) (by kernel_rfl)) (by kernel_rfl) (by kernel_rfl)

set_option maxRecDepth 100000 in
theorem lifted (os : Os) (started : os.Started) (H : Type) (enc : TypeId × Value → H) :
    ReturnsInHanded {} Tryd.checked os 6 .any (fun w args => (Rows.printerCanonicalSpec.pre enc Tryd.prog Tryd.f6 [] false w args ∧ laidMetH Tryd.prog Rows.printerCanonicalRow.laid w) ∧ sizedMet enc Tryd.prog Tryd.f6 (OpenSpec.ofChange Rows.printerCanonicalSpec) false w args)
      (Rows.printerCanonicalSpec.post enc Tryd.prog Tryd.f6 false true false false) := by
  refine returnsInHanded_of_change_and (C := Tryd.checked) (X := fun w _ => laidMetH Tryd.prog Rows.printerCanonicalRow.laid w) (fun _ _ _ hh h => h.of_heap hh) own started (by kernel_rfl) Tryd.func6
    (ChangeSpec.witness_shaped (enc := enc) (C := Tryd.checked) (os := os) (X := fun w _ => laidMetH Tryd.prog Rows.printerCanonicalRow.laid w) false (World.doorLaid Tryd.prog 400 os) #[.agg #[.int .i64 0, .bool false, .slice none 0 0, .string ByteArray.empty, .int .i64 0, .int .i64 0, .bool false, .bool false, .slice none 0 0]] 8 rfl (World.shaped_of_RefB (by kernel_rfl) (by kernel_rfl)) (by kernel_rfl) (by kernel_rfl) (by kernel_rfl) (door_met os _)) ?_
  intro W base args ds gs before hval0 hW _ _ hL _
  have hval : ∀ (j : Nat) t v, Tryd.f6.params[j]? = some t → args[j]? = some v → Value.okWide Tryd.prog W .any base t v := hval0
  have hW' := hW
  obtain ⟨p, q, hA0, hV, rfl, hfz, hnd⟩ := hW
  have hA : DataW.TrodAll enc Tryd.prog W 0 (fun _ => true) true Tryd.f6.params.toList args.toList ds p := hA0
  rw [Tryd.params6] at hA hval
  obtain ⟨v0, vs0, d0, ds0, p0, q0, hargs, rfl, rfl, h0, r0⟩ := trodAll_cons hA
  obtain ⟨rfl, rfl, rfl⟩ := trodAll_nil r0
  obtain rfl : args = #[v0] := by cases args; simp_all
  obtain ⟨rfl, rfl⟩ := trodVars_none hV
  obtain ⟨cs0, rfl, hl0⟩ := okWide_struct Tryd.underlying29 (hval 0 29 v0 rfl rfl)
  have hl0' : cs0.toList.length = 9 := by rw [show Tryd.prog.cellsOf 29 = 9 by kernel_rfl] at hl0; simpa using hl0
  have h0k := h0
  obtain ⟨fuel0, hf0⟩ := h0
  obtain ⟨t0, hT0⟩ := open_tree fuel0 fuel0 (Nat.le_refl _) _ _ hl0' hf0
  clear hA0 hval0
  simp only [List.append_nil] at hW'
  have hlt0 : ∀ x ∈ p0, x.block < W.heap.size := fun x hx => by simpa using hW'.lt x (by simp [hx])
  refine (walk t0 cs0.toList W hT0).mono fun e W' ⟨he, bel⟩ => ?_
  subst he
  exact ⟨_, rfl, _, _, _, [], _, [], hW', trodAll_mk1 (shut_bool Tryd.underlying4 _), (trodAll_cons_mk (Below.trod laidOut (by kernel_rfl) (of_decide_eq_true (by kernel_rfl)) h0k bel hlt0) trodAll_mk0), rfl, bel.frame _, fun h => by cases h⟩

theorem over : Rows.printerCanonicalRow.holds Tryd.pinned (OpenSpec.ofChange Rows.printerCanonicalSpec) :=
  OpenClaim.holds_of_wide 6 Tryd.f6 rfl rfl rfl rfl rfl rfl rfl ⟨rfl, rfl, rfl, rfl, rfl⟩ rfl rfl rfl rfl rfl (by kernel_rfl) Tryd.func6 (by kernel_rfl)
    (of_decide_eq_true (by kernel_rfl)) (by unfold Func.isWrapper; first | (rw [if_pos (by decide +kernel)]; kernel_rfl) | (rw [if_neg (by decide +kernel)]; exact ⟨rfl, rfl⟩))
    (fun os started H enc _ => lifted os started H enc)

/-- THE STATEMENT: the tied card -/
theorem proved : Rows.PrinterCanonicalCardSaid :=
  Claim7.holds_tied_plain_at .later [] [.data, .data, .data] true _ true
    over (fun _ h => by cases h) (by kernel_rfl) (fun _ h => by cases h) printerCanonical_row_tie rfl ⟨rfl, rfl⟩ (by kernel_rfl) rfl
    (fun f fn hf hfn => by
      obtain rfl : f = 6 := Option.some.inj ((show Tryd.prog.funcNamed Rows.printerCanonicalRow.func = some 6 by kernel_rfl).symm.trans hf) |>.symm
      obtain rfl : fn = Tryd.f6 := (Option.some.inj (Tryd.func6.symm.trans hfn)).symm
      exact ⟨by kernel_rfl, fun j t ht => by
        rw [Tryd.params6] at ht
        have hm : t ∈ [29] := by simpa using Array.mem_of_getElem? ht
        have hall : ([29].all fun u => !Tryd.prog.wantsStandIn u) = true := by kernel_rfl
        exact (show Tryd.prog.wantsStandIn t = false by simpa using List.all_eq_true.1 hall t hm)⟩)
    (by kernel_rfl)
end Go.Proofs.YtkjbfomokdjbnaaDoor.printerCanonical

