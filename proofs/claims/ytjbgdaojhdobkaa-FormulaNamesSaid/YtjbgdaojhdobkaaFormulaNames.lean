/-
  FormulaNames: for every tree that came in the law returns true: Free and Bound return the names, in order. No condition.
-/
import Derived.Test.YtjbgdaojhdobkaaFmNa
import Derived.Test.YtjbgdaojhdobkaaFmAw
import Derived.Test.YtjbgdaojhdobkaaFmOpn
import Derived.Test.YtjbgdaojhdobkaaRows
import Derived.Deep.RegionHeld3
import Derived.ProofKit
import Derived.OpenShut
import Derived.ShutString
import Derived.Carry
namespace Go.Proofs.Ytjbgdaojhdobkaa.formulaNames
open Go.ChangeShapes Go.WideShapes Go.ChangeAt Go.RowKit Go.Proofs.Ytjbgdaojhdobkaa Go.Proofs.Ytjbgdaojhdobkaa.Fm
set_option linter.unusedVariables false
set_option linter.unusedSimpArgs false

theorem texts_below (l m : List ByteArray) (v x : Value) (S : Nat → Prop) (w : World) (hv : StrsAt w S v l) (hx : StrsAt w S x m) (r : Bool) (hr : r = true ↔ l = m) :
    Calls Try.prog 25 #[v, x] w fun e w' => e = .returned (.bool r) ∧ Below w.heap.size w w' :=
  (texts_any l m v x S w hv hx r hr).mono fun e w' h => by
    obtain ⟨rfl, n, rfl⟩ := h
    exact ⟨rfl, (Below.refl _ w).drewN n⟩

set_option maxHeartbeats 8000000 in
set_option maxRecDepth 100000 in
theorem walk (t0 : Tr) (cs0 : List Value) (w : World) (hT0 : TreeAt w (fun b => b < w.heap.size) t0 cs0) :
    Calls Try.prog 5 #[.agg cs0.toArray] w fun e w' => e = .returned (.bool true) ∧ Below w.heap.size w w' := by
  obtain ⟨A1, n1, c1, A2, n2, c2, k, neg, nm, ex, rl, tr, al, rfl⟩ := hT0.nine
  have hx := Box.new w #[.int .i64 k, .bool neg, .slice A1 n1 c1, .string nm, .int .i64 ex, .int .i64 rl, .bool tr, .bool al, .slice A2 n2 c2] TT
  have HX := Lib.hid hx
  have HT := Lib.hid hT0
  obtain ⟨R, hR⟩ : ∃ R, R = rightB t0 := ⟨_, rfl⟩
  have HR := Lib.hid hR
  clear hx hT0 hR
  cases R
  · go_enter Try.func5, Try.ntmps5
    go_wp2_with fail
    refine (awake_any _).mono ?_
    rintro e w1 ⟨rfl, hb1⟩
    obtain ⟨g0, g1, g2, g3, g4, g5, g6, g7, g8⟩ := (HX.out.step hb1).c9
    have HB1 := Lib.hid hb1
    clear hb1
    go_wp2_with (first
      | (go_at_call 24; refine (right_any t0 _ _ _ (fun b h => Nat.lt_of_lt_of_le h (HX.out.step HB1.out).below.size) (HT.out.below (fun b h => h) (HX.out.step HB1.out).below)).mono ?_; rintro e w2 ⟨rfl, hb2⟩; rw [← HR.out])
      | (go_at_call 15; refine (awake_any _).mono ?_; rintro e w3 ⟨rfl, hb3⟩))
    go_ret
    exact ⟨rfl, (HX.out.step HB1.out).below.trans ((hb2.trans (hb3.mono hb2.size)).mono (HX.out.step HB1.out).below.size)⟩
  · have hR2 := HR.out
    unfold rightB at hR2
    obtain ⟨hfew, his⟩ : fewB t0 300 = true ∧ isF t0 false = true := by simpa using hR2.symm
    have hsm := fewB_sm hfew
    have hnn := fewB_nn hfew
    obtain ⟨f, hof⟩ : ∃ f, ofF t0 = some f := by rw [isF_ofF] at his; exact Option.isSome_iff_exists.1 his
    have hrf := rf_of t0 f hof
    have hfz := fsz_nn hrf
    have HO := Lib.hid hof
    have HSM := Lib.hid hsm
    have HFR := Lib.hid (free_same hrf)
    have HBO := Lib.hid (bound_same hrf 0)
    have HLEN := Lib.hid (show (freeR t0 [] []).length ≤ 1000000 from by have := freeR_len t0 [] []; simp at this; omega)
    have HLENB := Lib.hid (show (boundN f).length ≤ 1000000 from by have := boundN_le f; omega)
    clear hR2 hfew his hof hsm hrf
    go_enter Try.func5, Try.ntmps5
    go_wp2_with fail
    refine (awake_any _).mono ?_
    rintro e w1 ⟨rfl, hb1⟩
    obtain ⟨g0, g1, g2, g3, g4, g5, g6, g7, g8⟩ := (HX.out.step hb1).c9
    have HB1 := Lib.hid (HX.out.step hb1)
    clear hb1
    go_wp2_with (first
      | (go_at_call 24; refine (right_any t0 _ _ _ (fun b h => Nat.lt_of_lt_of_le h HB1.out.below.size) (HT.out.below (fun b h => h) HB1.out.below)).mono ?_; rintro e w2 ⟨rfl, hb2⟩; rw [← HR.out]; obtain ⟨f0, f1, f2, f3, f4, f5, f6, f7, f8⟩ := (HB1.out.step hb2).c9; have HB2 := Lib.hid (HB1.out.step hb2); clear hb2 g0 g1 g2 g3 g4 g5 g6 g7 g8)
      | (go_at_call 22; refine (of_any t0 _ _ _ (fun b h => Nat.lt_of_lt_of_le h HB2.out.below.size) (HT.out.below (fun b h => h) HB2.out.below) HSM.out).mono ?_; intro e w4 hp; obtain ⟨v3, rfl, hv3, hb3⟩ := hp.yes HO.out; have HV := Lib.hid hv3; obtain ⟨e0, e1, e2, e3, e4, e5, e6, e7, e8⟩ := (HB2.out.step hb3).c9; have HB4 := Lib.hid (HB2.out.step hb3); clear hb3 hv3 hp f0 f1 f2 f3 f4 f5 f6 f7 f8))
    have hF4 : FoAt w4 (fun b => b < w4.heap.size) f v3 := FoAt.more (fun b h => h.2) _ _ HV.out
    have hT4 : TreeAt w4 (fun b => b < w4.heap.size) t0 _ := TreeAt.more (fun b h => Nat.lt_of_lt_of_le h HB4.out.below.size) _ _ (HT.out.below (fun b h => h) HB4.out.below)
    have hcF : ∀ w', Below w4.heap.size w4 w' → Calls Try.prog 26 #[v3] w' fun e w2 => ∃ v, e = .returned v ∧ StrsAt w2 (fun b => b < w2.heap.size) v (freeN f) ∧ Below w'.heap.size w' w2 := fun w' hb =>
      (free_any f v3 (fun b => b < w4.heap.size) w' (fun b h => Nat.lt_of_lt_of_le h hb.size) (hF4.below (fun b h => h) hb) (by omega)).mono fun e w2 hp => by
        obtain ⟨v, rfl, ho, hb2⟩ := hp
        exact ⟨v, rfl, StrsAt.more (StrsAt.of_own ho (by rw [HFR.out]; exact HLEN.out)) (fun b h => h.2), hb2⟩
    have hcG : ∀ w', Below w4.heap.size w4 w' → Calls Try.prog 27 #[.agg #[.int .i64 k, .bool neg, .slice A1 n1 c1, .string nm, .int .i64 ex, .int .i64 rl, .bool tr, .bool al, .slice A2 n2 c2]] w' fun e w2 => ∃ v, e = .returned v ∧ StrsAt w2 (fun b => b < w2.heap.size) v (freeR t0 [] []) ∧ Below w'.heap.size w' w2 := fun w' hb =>
      (rfree_any t0 _ (fun b => b < w4.heap.size) w' (fun b h => Nat.lt_of_lt_of_le h hb.size) (hT4.below (fun b h => h) hb) (by omega)).mono fun e w2 hp => by
        obtain ⟨v, rfl, ho, hb2⟩ := hp
        exact ⟨v, rfl, StrsAt.more (StrsAt.of_own ho HLEN.out) (fun b h => h.2), hb2⟩
    have hcB : ∀ w', Below w4.heap.size w4 w' → Calls Try.prog 28 #[v3] w' fun e w2 => ∃ v, e = .returned v ∧ StrsAt w2 (fun b => b < w2.heap.size) v (boundN f) ∧ Below w'.heap.size w' w2 := fun w' hb =>
      (bound_any f v3 (fun b => b < w4.heap.size) w' (fun b h => Nat.lt_of_lt_of_le h hb.size) (hF4.below (fun b h => h) hb) (by omega)).mono fun e w2 hp => by
        obtain ⟨v, rfl, ho, hb2⟩ := hp
        exact ⟨v, rfl, StrsAt.more (StrsAt.of_own ho HLENB.out) (fun b h => h.2), hb2⟩
    have hcC : ∀ w', Below w4.heap.size w4 w' → Calls Try.prog 29 #[.agg #[.int .i64 k, .bool neg, .slice A1 n1 c1, .string nm, .int .i64 ex, .int .i64 rl, .bool tr, .bool al, .slice A2 n2 c2]] w' fun e w2 => ∃ v, e = .returned v ∧ StrsAt w2 (fun b => b < w2.heap.size) v (boundN f) ∧ Below w'.heap.size w' w2 := fun w' hb =>
      (bound_ref t0 _ (fun b => b < w4.heap.size) w' (fun b h => Nat.lt_of_lt_of_le h hb.size) (hT4.below (fun b h => h) hb) (by omega)).mono fun e w2 hp => by
        obtain ⟨v, rfl, ho, hb2⟩ := hp
        rw [HBO.out] at ho
        exact ⟨v, rfl, StrsAt.more (StrsAt.of_own ho HLENB.out) (fun b h => h.2), hb2⟩
    have HCF := Lib.hid hcF
    have HCG := Lib.hid hcG
    have HCB := Lib.hid hcB
    have HCC := Lib.hid hcC
    have HD : Below w4.heap.size w4 w4.drew := (Below.refl _ w4).drew
    have hstep := Lib.hid (show ∀ wc wn, Below w4.heap.size w4 wc → Below wc.heap.size wc wn → Below w4.heap.size w4 wn from fun wc wn h1 h2 => h1.trans (h2.mono h1.size))
    clear hcF hcG hcB hcC hF4 hT4
    go_region_held3 (fun w' => w'.cell? ⟨w.heap.size, 0, none⟩ = some (.int .i64 k) ∧ w'.cell? ⟨w.heap.size, 1, none⟩ = some (.bool neg) ∧ w'.cell? ⟨w.heap.size, 2, none⟩ = some (.slice A1 n1 c1) ∧ w'.cell? ⟨w.heap.size, 3, none⟩ = some (.string nm) ∧ w'.cell? ⟨w.heap.size, 4, none⟩ = some (.int .i64 ex) ∧ w'.cell? ⟨w.heap.size, 5, none⟩ = some (.int .i64 rl) ∧ w'.cell? ⟨w.heap.size, 6, none⟩ = some (.bool tr) ∧ w'.cell? ⟨w.heap.size, 7, none⟩ = some (.bool al) ∧ w'.cell? ⟨w.heap.size, 8, none⟩ = some (.slice A2 n2 c2)) (go_keep)
      (first
        | (go_at_call 26; refine (HCF.out _ (by assumption)).mono ?_; intro e wA hq; obtain ⟨vA, rfl, hsA, hlA⟩ := hq; obtain ⟨aA, mA, rfl⟩ := hsA.form; have hbA : Below w4.heap.size w4 wA := hstep.out _ _ (by assumption) hlA; have HSA := Lib.hid hsA; have HLA := Lib.hid hlA; clear hsA hlA; obtain ⟨pA0, pA1, pA2, pA3, pA4, pA5, pA6, pA7, pA8⟩ := (HB4.out.step hbA).c9)
        | (go_at_call 27; refine (HCG.out _ (by assumption)).mono ?_; intro e wB hq; obtain ⟨vB, rfl, hsB, hlB⟩ := hq; obtain ⟨aB, mB, rfl⟩ := hsB.form; have hbB : Below w4.heap.size w4 wB := hstep.out _ _ (by assumption) hlB; have HSB := Lib.hid hsB; have HLB := Lib.hid hlB; clear hsB hlB; obtain ⟨pB0, pB1, pB2, pB3, pB4, pB5, pB6, pB7, pB8⟩ := (HB4.out.step hbB).c9)
        | (go_at_call 28; refine (HCB.out _ (by assumption)).mono ?_; intro e wC hq; obtain ⟨vC, rfl, hsC, hlC⟩ := hq; obtain ⟨aC, mC, rfl⟩ := hsC.form; have hbC : Below w4.heap.size w4 wC := hstep.out _ _ (by assumption) hlC; have HSC := Lib.hid hsC; have HLC := Lib.hid hlC; clear hsC hlC; obtain ⟨pC0, pC1, pC2, pC3, pC4, pC5, pC6, pC7, pC8⟩ := (HB4.out.step hbC).c9)
        | (go_at_call 29; refine (HCC.out _ (by assumption)).mono ?_; intro e wE hq; obtain ⟨vE, rfl, hsE, hlE⟩ := hq; obtain ⟨aE, mE, rfl⟩ := hsE.form; have hbE : Below w4.heap.size w4 wE := hstep.out _ _ (by assumption) hlE; have HSE := Lib.hid hsE; have HLE := Lib.hid hlE; clear hsE hlE; obtain ⟨pE0, pE1, pE2, pE3, pE4, pE5, pE6, pE7, pE8⟩ := (HB4.out.step hbE).c9)
        | (go_at_call 25; first
            | ((with_reducible refine (texts_below _ _ _ _ (fun b => b < wB.heap.size) wB ((HSA.out.below (fun b h => h) HLB.out).more (fun b h => Nat.lt_of_lt_of_le h HLB.out.size)) (HSB.out) true (by rw [HFR.out]; simp)).mono ?_); rintro e wT ⟨rfl, hlT⟩; have hbT : Below w4.heap.size w4 wT := hstep.out _ _ (by assumption) hlT; obtain ⟨pT0, pT1, pT2, pT3, pT4, pT5, pT6, pT7, pT8⟩ := (HB4.out.step hbT).c9)
            | ((with_reducible refine (texts_below _ _ _ _ (fun b => b < wA.heap.size) wA (HSA.out) ((HSB.out.below (fun b h => h) HLA.out).more (fun b h => Nat.lt_of_lt_of_le h HLA.out.size)) true (by rw [HFR.out]; simp)).mono ?_); rintro e wT ⟨rfl, hlT⟩; have hbT : Below w4.heap.size w4 wT := hstep.out _ _ (by assumption) hlT; obtain ⟨pT0, pT1, pT2, pT3, pT4, pT5, pT6, pT7, pT8⟩ := (HB4.out.step hbT).c9)
            | ((with_reducible refine (texts_below _ _ _ _ (fun b => b < wE.heap.size) wE ((HSC.out.below (fun b h => h) HLE.out).more (fun b h => Nat.lt_of_lt_of_le h HLE.out.size)) (HSE.out) true (by simp)).mono ?_); rintro e wU ⟨rfl, hlU⟩; have hbU : Below w4.heap.size w4 wU := hstep.out _ _ (by assumption) hlU; obtain ⟨pU0, pU1, pU2, pU3, pU4, pU5, pU6, pU7, pU8⟩ := (HB4.out.step hbU).c9)
            | ((with_reducible refine (texts_below _ _ _ _ (fun b => b < wC.heap.size) wC (HSC.out) ((HSE.out.below (fun b h => h) HLC.out).more (fun b h => Nat.lt_of_lt_of_le h HLC.out.size)) true (by simp)).mono ?_); rintro e wU ⟨rfl, hlU⟩; have hbU : Below w4.heap.size w4 wU := hstep.out _ _ (by assumption) hlU; obtain ⟨pU0, pU1, pU2, pU3, pU4, pU5, pU6, pU7, pU8⟩ := (HB4.out.step hbU).c9)))
    all_goals
      go_wp2
      go_ret
      exact ⟨rfl, (HB4.out.step hbU).below⟩


theorem laidOut : laidOutB Try.prog = true := by kernel_rfl

theorem own : ownKnob Try.prog.godebug = none := by kernel_rfl

set_option maxRecDepth 100000 in
theorem lifted (os : Os) (started : os.Started) (H : Type) (enc : TypeId × Value → H) :
    ReturnsInHanded {} Try.checked os 5 .any (Rows.formulaNamesSpec.pre6 enc Try.prog Try.f5 Rows.formulaNamesRow.domain false) (Rows.formulaNamesSpec.post enc Try.prog Try.f5 false true false false) := by
  refine returnsInHanded_of_change (C := Try.checked) own started (by kernel_rfl) Try.func5
    (ChangeSpec.witness6 (enc := enc) (C := Try.checked) false ⟨#[], #[.agg #[.int .i64 0, .bool false, .slice none 0 0, .string ByteArray.empty, .int .i64 0, .int .i64 0, .bool false, .bool false, .slice none 0 0]], []⟩ 8 (by kernel_rfl) (by kernel_rfl) (by kernel_rfl) (by kernel_rfl)) ?_
  intro W base args ds gs before hval0 hW hcnd _
  have hval : ∀ (j : Nat) t v, Try.f5.params[j]? = some t → args[j]? = some v → Value.okWide Try.prog W .any base t v := hval0
  have hW' := hW
  obtain ⟨p, q, hA0, hV, rfl, hfz, hnd⟩ := hW
  have hA : DataW.TrodAll enc Try.prog W 0 (fun _ => true) true Try.f5.params.toList args.toList ds p := hA0
  rw [Try.params5] at hA hval
  obtain ⟨v0, vs0, d0, ds0, p0, q0, hargs, rfl, rfl, h0, r0⟩ := trodAll_cons hA
  obtain ⟨rfl, rfl, rfl⟩ := trodAll_nil r0
  obtain rfl : args = #[v0] := by cases args; simp_all
  obtain ⟨rfl, rfl⟩ := trodVars_none hV
  obtain ⟨cs0, rfl, hl0⟩ := okWide_struct Try.underlying29 (hval 0 29 v0 rfl rfl)
  have hl0' : cs0.toList.length = 9 := by rw [show Try.prog.cellsOf 29 = 9 by kernel_rfl] at hl0; simpa using hl0
  have h0k := h0
  obtain ⟨fuel0, hf0⟩ := h0
  obtain ⟨t0, hT0⟩ := open_tree fuel0 fuel0 (Nat.le_refl _) _ _ hl0' hf0
  clear hA0 hval0
  simp only [List.append_nil] at hW'
  have hlt0 : ∀ x ∈ p0, x.block < W.heap.size := fun x hx => by simpa using hW'.lt x (by simp [hx])
  refine (walk t0 cs0.toList W hT0).mono fun e W' ⟨he, bel⟩ => ?_
  subst he
  exact ⟨_, rfl, _, _, _, [], _, [], hW', trodAll_mk1 (shut_bool Try.underlying4 _), (trodAll_cons_mk (Below.trod laidOut (by kernel_rfl) (of_decide_eq_true (by kernel_rfl)) h0k bel hlt0) trodAll_mk0), rfl, bel.frame _, fun h => by cases h⟩

theorem over : Rows.formulaNamesRow.holds Try.pinned (OpenSpec.ofChange Rows.formulaNamesSpec) :=
  OpenClaim.holds_of_wide 5 Try.f5 rfl rfl rfl rfl rfl rfl rfl ⟨rfl, rfl, rfl, rfl, rfl⟩ rfl rfl rfl rfl rfl (by kernel_rfl) Try.func5 (by kernel_rfl)
    (of_decide_eq_true (by kernel_rfl)) (by unfold Func.isWrapper; first | (rw [if_pos (by decide +kernel)]; kernel_rfl) | (rw [if_neg (by decide +kernel)]; exact ⟨rfl, rfl⟩))
    (fun os started H enc _ => lifted os started H enc)

/-- THE STATEMENT -/
theorem proved : Rows.FormulaNamesSaid := over
end Go.Proofs.Ytjbgdaojhdobkaa.formulaNames
