/-
  PrinterTerms: for every tree that came in the law returns true: the text of a term is the reference's, or both refuse its names. The table of strconv reads as it was laid; no other condition.
-/
import Derived.Test.YtkjbfomokdjbnaaDoorRtF
import Derived.Test.YtkjbfomokdjbnaaDoorPrW
import Derived.Test.YtkjbfomokdjbnaaDoorPrK
import Derived.Test.YtkjbfomokdjbnaaDoorFmT
import Derived.Test.YtkjbfomokdjbnaaDoorFmOpn
import Derived.Test.YtkjbfomokdjbnaaDoorCards
import Derived.Test.YtkjbfomokdjbnaaDoorTie
import Derived.ProofKit
import Derived.OpenShut
import Derived.ShutString
import Derived.Carry
import Derived.LaidMore
import Derived.Stop.Joined
import Derived.Stop.LaidErr
import Derived.SevenTiedAt
import Derived.MakeChecks
import Derived.Deep.RegionHeld3
import Derived.Shelf.Strconv.Itoa3
namespace Go.Proofs.YtkjbfomokdjbnaaDoor.printerTerms
open Go.ChangeShapes Go.WideShapes Go.ChangeAt Go.WideMaps Go.WideElems Go.RowKit Go.Proofs.YtkjbfomokdjbnaaDoor Go.Proofs.YtkjbfomokdjbnaaDoor.Fm Go.Proofs.YtkjbfomokdjbnaaDoor.Pr Go.Proofs.YtkjbfomokdjbnaaDoor.Pl Go.Proofs.YtkjbfomokdjbnaaDoor.Rt
set_option linter.unusedVariables false
set_option linter.unusedSimpArgs false
attribute [local go_sem] run_store
theorem tab_of {w : World} (hL : laidMetH Tryd.prog Rows.printerTermsRow.laid w) : Lib.TabIs Tryd.prog w "internal/strconv.uint64pow10" .u64 Lib.pow10Tab := by
  rw [Go.MakeChecks.laidMetH_plain _ _ _ (by kernel_rfl)] at hL
  exact Lib.tabIs_of_head (rest := []) (g := 0) (by kernel_rfl) (by kernel_rfl) Tryd.underlying158 Tryd.underlying132 (by kernel_rfl) (by kernel_rfl) (laidMet.tail (laidMet.tail hL))

set_option maxHeartbeats 8000000 in
set_option maxRecDepth 100000 in
theorem walk (t0 : Tr) (cs0 : List Value) (w : World) (hT0 : TreeAt w (fun b => b < w.heap.size) t0 cs0) (hW0 : WfT t0) (hL : laidMetH Tryd.prog Rows.printerTermsRow.laid w) :
    Calls Tryd.prog 4 #[.agg cs0.toArray] w fun e w' => e = .returned (.bool true) ∧ Below w.heap.size w w' := by
  have htab := tab_of hL
  clear hL
  obtain ⟨A1, n1, c1, A2, n2, c2, k, neg, nm, ex, rl, tr, al, rfl⟩ := hT0.nine
  have hx := Box.new w #[.int .i64 k, .bool neg, .slice A1 n1 c1, .string nm, .int .i64 ex, .int .i64 rl, .bool tr, .bool al, .slice A2 n2 c2] TT
  obtain ⟨R, hR⟩ : ∃ R, R = rightTB t0 := ⟨_, rfl⟩
  have HR := Lib.hid (show ∀ w', Below w.heap.size w w' → Calls Tryd.prog 8 #[.agg #[.int .i64 k, .bool neg, .slice A1 n1 c1, .string nm, .int .i64 ex, .int .i64 rl, .bool tr, .bool al, .slice A2 n2 c2], .bool true] w' fun e w2 => e = .returned (.bool R) ∧ Below w'.heap.size w' w2 from
    fun w' hb => by rw [hR]; exact rightT_any t0 _ (fun b => b < w.heap.size) w' (fun b h => Nat.lt_of_lt_of_le h hb.size) (hT0.below (fun b h => h) hb))
  have HX := Lib.hid hx
  cases R
  · clear hR hx hT0 htab hW0
    go_enter Tryd.func4, Tryd.ntmps4
    go_wp2_with fail
    refine (awake_any _).mono ?_
    rintro e w1 ⟨rfl, hb1⟩
    obtain ⟨g0, g1, g2, g3, g4, g5, g6, g7, g8⟩ := (HX.out.step hb1).c9
    have HB1 := Lib.hid (HX.out.step hb1)
    clear hb1
    go_wp2_with fail
    refine (HR.out _ HB1.out.below).mono ?_
    rintro e w2 ⟨rfl, hb2⟩
    obtain ⟨f0, f1, f2, f3, f4, f5, f6, f7, f8⟩ := (HB1.out.step hb2).c9
    have HB2 := Lib.hid (HB1.out.step hb2)
    clear hb2 g0 g1 g2 g3 g4 g5 g6 g7 g8
    go_wp2_with fail
    refine (awake_any _).mono ?_
    rintro e w3 ⟨rfl, hb3⟩
    have HB3 := Lib.hid (HB2.out.step hb3)
    clear hb3
    go_wp2
    go_ret
    exact ⟨rfl, HB3.out.below⟩
  · have hf : fewB t0 200 = true ∧ isF t0 true = true := by unfold rightTB at hR; simpa using hR.symm
    have hsm := fewB_sm hf.1
    have hnn := fewB_nn hf.1
    obtain ⟨tm, hof⟩ : ∃ tm, ofT t0 = some tm := by have := hf.2; rw [isF_ofT] at this; exact Option.isSome_iff_exists.1 this
    obtain ⟨hpl, hst⟩ := plain_of t0 tm hof hsm
    have hrt := rt_of t0 tm hof
    have hbd := bd_of hrt hsm hW0
    have hsp : Sm (plainT tm) := by rw [hpl]; exact sm_canon hsm
    have htn : tn tm ≤ 200 := by have := tnn_eq hrt; omega
    have HO := Lib.hid hof
    have HOT := Lib.hid (show ∀ w', Below w.heap.size w w' → _ from fun w' hb => ofTerm_any t0 _ (fun b => b < w.heap.size) w' (fun b h => Nat.lt_of_lt_of_le h hb.size) (hT0.below (fun b h => h) hb) hsm)
    have hpt : plusT (canonT t0) = plainT (prT tm) := by rw [plain_pr, hpl, plus_pos _ (by rw [← hpl]; exact nmT_plainT tm)]
    have hnt : nmdT t0 = nmdT (plainT tm) := by rw [hpl, nmd_can]
    obtain ⟨D, hD⟩ : ∃ D, D = bsL (txtT (prT tm)) := ⟨_, rfl⟩
    have htx : TxC (plusT (canonT t0)) D := by rw [hpt, hD]; exact text_T tm hbd (by omega)
    have hlen : (txtT (prT tm)).length ≤ 120000 := by have h1 := txt_len _ (bd_pr tm hbd); have h2 := tn_pr tm; omega
    have hrf0 := fun w' (hb : Below w.heap.size w w') => rformat_any t0 _ (fun b => b < w.heap.size) w' (fun b h => Nat.lt_of_lt_of_le h hb.size) (hT0.below (fun b h => h) hb) hsm (by omega) D htx
    rw [hnt] at hrf0
    obtain ⟨r, q, hp, hq⟩ : ∃ (r : ByteArray) (q : Int), (∀ v w', Below w.heap.size w w' → TmAt w' (fun b => b < w'.heap.size) tm v → Calls Tryd.prog 13 #[v] w' fun e w2 => e = .returned (.tuple #[.string r, .int .i64 q]) ∧ Below w'.heap.size w' w2) ∧
        (∀ w', Below w.heap.size w w' → Calls Tryd.prog 11 #[.agg #[.int .i64 k, .bool neg, .slice A1 n1 c1, .string nm, .int .i64 ex, .int .i64 rl, .bool tr, .bool al, .slice A2 n2 c2]] w' fun e w2 => e = .returned (.tuple #[.string r, .int .i64 q]) ∧ Below w'.heap.size w' w2) := by
      by_cases hn : nmdT (plainT tm) = true
      · rw [hn] at hrf0
        exact ⟨D, 0, fun v w' hb hv => term_ok tm v (fun b => b < w'.heap.size) w' (fun b h => h) hv hst hsp hn (fun e he => itoa_ok w' (Lib.tabBelow_of_tabIs htab w' hb) e (exp_pr tm hbd e he).1 (exp_pr tm hbd e he).2) (by omega) D hD, fun w' hb => (hrf0 w' hb).mono (by rintro e w2 ⟨h1, h2⟩; exact ⟨h1.trans (if_pos rfl), h2⟩)⟩
      · have hn2 : nmdT (plainT tm) = false := by simpa using hn
        rw [hn2] at hrf0
        exact ⟨⟨#[]⟩, 7, fun v w' hb hv => term_err tm v (fun b => b < w'.heap.size) w' (fun b h => h) hv hst (by simpa using hn), fun w' hb => (hrf0 w' hb).mono (by rintro e w2 ⟨h1, h2⟩; exact ⟨h1.trans (if_neg (by decide)), h2⟩)⟩
    have HP := Lib.hid hp
    have HQ := Lib.hid hq
    have hrr : (r.toList == r.toList) = true := by simp
    have hqq : (q == q) = true := by simp
    clear hR hx hT0 hf hsm hnn hof hpl hst hrt hbd hsp htn hpt hnt hD htx hlen hrf0 hp hq htab hW0
    go_enter Tryd.func4, Tryd.ntmps4
    go_wp2_with fail
    refine (awake_any _).mono ?_
    rintro e w1 ⟨rfl, hb1⟩
    obtain ⟨g0, g1, g2, g3, g4, g5, g6, g7, g8⟩ := (HX.out.step hb1).c9
    have HB1 := Lib.hid (HX.out.step hb1)
    clear hb1
    go_wp2_with fail
    refine (HR.out _ HB1.out.below).mono ?_
    rintro e w2 ⟨rfl, hb2⟩
    obtain ⟨f0, f1, f2, f3, f4, f5, f6, f7, f8⟩ := (HB1.out.step hb2).c9
    have HB2 := Lib.hid (HB1.out.step hb2)
    clear hb2 g0 g1 g2 g3 g4 g5 g6 g7 g8
    go_wp2_with fail
    refine (HOT.out _ HB2.out.below).mono ?_
    intro e w3 hp
    obtain ⟨v3, rfl, hv3, hb3⟩ := hp.yes HO.out
    have HV := Lib.hid (TmAt.more (fun b h => h.2) _ _ hv3 : TmAt w3 (fun b => b < w3.heap.size) tm v3)
    have HB3 := Lib.hid (HB2.out.step hb3)
    have hov := hv3.one
    clear hb3 hv3 hp f0 f1 f2 f3 f4 f5 f6 f7 f8
    go_wp2_with fail
    refine (HP.out _ _ HB3.out.below HV.out).mono ?_
    rintro e w4 ⟨rfl, hb4⟩
    obtain ⟨d0, d1, d2, d3, d4, d5, d6, d7, d8⟩ := (HB3.out.step hb4).c9
    have HB4 := Lib.hid (HB3.out.step hb4)
    clear hb4
    go_wp2_with fail
    refine (HQ.out _ HB4.out.below).mono ?_
    rintro e w5 ⟨rfl, hb5⟩
    have HB5 := Lib.hid (HB4.out.step hb5)
    clear hb5
    go_wp2
    go_ret
    exact ⟨rfl, HB5.out.below⟩

theorem laidOut : laidOutB Tryd.prog = true := by kernel_rfl

theorem own : ownKnob Tryd.prog.godebug = none := by kernel_rfl

theorem door_met (os : Os) (args : Array Value) : laidMetH Tryd.prog Rows.printerTermsRow.laid ((World.doorLaid Tryd.prog 400 os).forCall (fun _ _ => 0) ⟨#[], args, []⟩).memory :=
  laidMetH_of_parts3 (fuel := 8) (laidMet_of_run' 8 (by kernel_rfl) (by kernel_rfl)) (by kernel_rfl) (by kernel_rfl)

set_option maxRecDepth 100000 in
theorem lifted (os : Os) (started : os.Started) (H : Type) (enc : TypeId × Value → H) :
    ReturnsInHanded {} Tryd.checked os 4 .any (fun w args => (Rows.printerTermsSpec.pre enc Tryd.prog Tryd.f4 [] false w args ∧ laidMetH Tryd.prog Rows.printerTermsRow.laid w) ∧ sizedMet enc Tryd.prog Tryd.f4 (OpenSpec.ofChange Rows.printerTermsSpec) false w args)
      (Rows.printerTermsSpec.post enc Tryd.prog Tryd.f4 false true false false) := by
  refine returnsInHanded_of_change_and (C := Tryd.checked) (X := fun w _ => laidMetH Tryd.prog Rows.printerTermsRow.laid w) (fun _ _ _ hh h => h.of_heap hh) own started (by kernel_rfl) Tryd.func4
    (ChangeSpec.witness_shaped (enc := enc) (C := Tryd.checked) (os := os) (X := fun w _ => laidMetH Tryd.prog Rows.printerTermsRow.laid w) false (World.doorLaid Tryd.prog 400 os) #[.agg #[.int .i64 0, .bool false, .slice none 0 0, .string ByteArray.empty, .int .i64 0, .int .i64 0, .bool false, .bool false, .slice none 0 0]] 8 rfl (World.shaped_of_RefB (by kernel_rfl) (by kernel_rfl)) (by kernel_rfl) (by kernel_rfl) (by kernel_rfl) (door_met os _)) ?_
  intro W base args ds gs before hval0 hW _ _ hL _
  have hval : ∀ (j : Nat) t v, Tryd.f4.params[j]? = some t → args[j]? = some v → Value.okWide Tryd.prog W .any base t v := hval0
  have hW' := hW
  obtain ⟨p, q, hA0, hV, rfl, hfz, hnd⟩ := hW
  have hA : DataW.TrodAll enc Tryd.prog W 0 (fun _ => true) true Tryd.f4.params.toList args.toList ds p := hA0
  rw [Tryd.params4] at hA hval
  obtain ⟨v0, vs0, d0, ds0, p0, q0, hargs, rfl, rfl, h0, r0⟩ := trodAll_cons hA
  obtain ⟨rfl, rfl, rfl⟩ := trodAll_nil r0
  obtain rfl : args = #[v0] := by cases args; simp_all
  obtain ⟨rfl, rfl⟩ := trodVars_none hV
  obtain ⟨cs0, rfl, hl0⟩ := okWide_struct Tryd.underlying29 (hval 0 29 v0 rfl rfl)
  have hl0' : cs0.toList.length = 9 := by rw [show Tryd.prog.cellsOf 29 = 9 by kernel_rfl] at hl0; simpa using hl0
  have h0k := h0
  obtain ⟨fuel0, hf0⟩ := h0
  obtain ⟨t0, hT0, hWf0⟩ := open_treeW fuel0 fuel0 (Nat.le_refl _) _ _ hl0' hf0
  clear hA0 hval0
  simp only [List.append_nil] at hW'
  have hlt0 : ∀ x ∈ p0, x.block < W.heap.size := fun x hx => by simpa using hW'.lt x (by simp [hx])
  refine (walk t0 cs0.toList W hT0 hWf0 hL).mono fun e W' ⟨he, bel⟩ => ?_
  subst he
  exact ⟨_, rfl, _, _, _, [], _, [], hW', trodAll_mk1 (shut_bool Tryd.underlying4 _), (trodAll_cons_mk (Below.trod laidOut (by kernel_rfl) (of_decide_eq_true (by kernel_rfl)) h0k bel hlt0) trodAll_mk0), rfl, bel.frame _, fun h => by cases h⟩

theorem over : Rows.printerTermsRow.holds Tryd.pinned (OpenSpec.ofChange Rows.printerTermsSpec) :=
  OpenClaim.holds_of_wide 4 Tryd.f4 rfl rfl rfl rfl rfl rfl rfl ⟨rfl, rfl, rfl, rfl, rfl⟩ rfl rfl rfl rfl rfl (by kernel_rfl) Tryd.func4 (by kernel_rfl)
    (of_decide_eq_true (by kernel_rfl)) (by unfold Func.isWrapper; first | (rw [if_pos (by decide +kernel)]; kernel_rfl) | (rw [if_neg (by decide +kernel)]; exact ⟨rfl, rfl⟩))
    (fun os started H enc _ => lifted os started H enc)

/-- THE STATEMENT: the tied card -/
theorem proved : Rows.PrinterTermsCardSaid :=
  Claim7.holds_tied_plain_at .later [] [.data, .data, .data] true _ true
    over (fun _ h => by cases h) (by kernel_rfl) (fun _ h => by cases h) printerTerms_row_tie rfl ⟨rfl, rfl⟩ (by kernel_rfl) rfl
    (fun f fn hf hfn => by
      obtain rfl : f = 4 := Option.some.inj ((show Tryd.prog.funcNamed Rows.printerTermsRow.func = some 4 by kernel_rfl).symm.trans hf) |>.symm
      obtain rfl : fn = Tryd.f4 := (Option.some.inj (Tryd.func4.symm.trans hfn)).symm
      exact ⟨by kernel_rfl, fun j t ht => by
        rw [Tryd.params4] at ht
        have hm : t ∈ [29] := by simpa using Array.mem_of_getElem? ht
        have hall : ([29].all fun u => !Tryd.prog.wantsStandIn u) = true := by kernel_rfl
        exact (show Tryd.prog.wantsStandIn t = false by simpa using List.all_eq_true.1 hall t hm)⟩)
    (by kernel_rfl)
end Go.Proofs.YtkjbfomokdjbnaaDoor.printerTerms

