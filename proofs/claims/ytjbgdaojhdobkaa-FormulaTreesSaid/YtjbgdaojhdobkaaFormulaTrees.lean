/-
  FormulaTrees: for every tree that came in the law returns true: Of accepts exactly the trees of formulas, and Plain of the result is the canonical tree. No condition.
-/
import Derived.Test.YtjbgdaojhdobkaaFmX
import Derived.Test.YtjbgdaojhdobkaaFmV
import Derived.Test.YtjbgdaojhdobkaaFmAw
import Derived.Test.YtjbgdaojhdobkaaFmOpn
import Derived.Test.YtjbgdaojhdobkaaRows
import Derived.Deep.RegionHeld3
import Derived.ProofKit
import Derived.OpenShut
import Derived.ShutString
import Derived.Carry
namespace Go.Proofs.Ytjbgdaojhdobkaa.formulaTrees
open Go.ChangeShapes Go.WideShapes Go.ChangeAt Go.RowKit Go.Proofs.Ytjbgdaojhdobkaa Go.Proofs.Ytjbgdaojhdobkaa.Fm
set_option linter.unusedVariables false
set_option linter.unusedSimpArgs false

set_option maxHeartbeats 8000000 in
set_option maxRecDepth 100000 in
theorem walk (t0 : Tr) (cs0 : List Value) (w : World) (hT0 : TreeAt w (fun b => b < w.heap.size) t0 cs0) :
    Calls Try.prog 4 #[.agg cs0.toArray] w fun e w' => e = .returned (.bool true) ∧ Below w.heap.size w w' := by
  obtain ⟨A1, n1, c1, A2, n2, c2, k, neg, nm, ex, rl, tr, al, rfl⟩ := hT0.nine
  have hx := Box.new w #[.int .i64 k, .bool neg, .slice A1 n1 c1, .string nm, .int .i64 ex, .int .i64 rl, .bool tr, .bool al, .slice A2 n2 c2] TT
  have HX := Lib.hid hx
  have HT := Lib.hid hT0
  obtain ⟨R, hR⟩ : ∃ R, R = fewB t0 300 := ⟨_, rfl⟩
  have HR := Lib.hid hR
  clear hx hT0 hR
  cases R
  · go_enter Try.func4, Try.ntmps4
    go_wp2_with fail
    refine (awake_any _).mono ?_
    rintro e w1 ⟨rfl, hb1⟩
    obtain ⟨g0, g1, g2, g3, g4, g5, g6, g7, g8⟩ := (HX.out.step hb1).c9
    have HB1 := Lib.hid hb1
    clear hb1
    go_wp2_with (first
      | (go_at_call 16; refine (few_any t0 _ _ 300 _ (fun b h => Nat.lt_of_lt_of_le h (HX.out.step HB1.out).below.size) (HT.out.below (fun b h => h) (HX.out.step HB1.out).below) (by omega) (by omega)).mono ?_; rintro e w2 ⟨rfl, hb2⟩; rw [← HR.out])
      | (go_at_call 15; refine (awake_any _).mono ?_; rintro e w3 ⟨rfl, hb3⟩))
    go_ret
    exact ⟨rfl, (HX.out.step HB1.out).below.trans ((hb2.trans (hb3.mono hb2.size)).mono (HX.out.step HB1.out).below.size)⟩
  · have hsm := fewB_sm HR.out.symm
    have hnn := fewB_nn HR.out.symm
    have HSM := Lib.hid hsm
    cases hof : ofF t0 with
    | none =>
      have HO := Lib.hid hof
      have HI := Lib.hid (show false = isF t0 false from by rw [isF_ofF, hof]; rfl)
      clear hof hsm hnn
      go_enter Try.func4, Try.ntmps4
      go_wp2_with fail
      refine (awake_any _).mono ?_
      rintro e w1 ⟨rfl, hb1⟩
      obtain ⟨g0, g1, g2, g3, g4, g5, g6, g7, g8⟩ := (HX.out.step hb1).c9
      have HB1 := Lib.hid (HX.out.step hb1)
      clear hb1
      go_wp2_with (first
        | (go_at_call 16; refine (few_any t0 _ _ 300 _ (fun b h => Nat.lt_of_lt_of_le h HB1.out.below.size) (HT.out.below (fun b h => h) HB1.out.below) (by omega) (by omega)).mono ?_; rintro e w2 ⟨rfl, hb2⟩; rw [← HR.out]; obtain ⟨f0, f1, f2, f3, f4, f5, f6, f7, f8⟩ := (HB1.out.step hb2).c9; have HB2 := Lib.hid (HB1.out.step hb2); clear hb2 g0 g1 g2 g3 g4 g5 g6 g7 g8)
        | (go_at_call 22; refine (of_any t0 _ _ _ (fun b h => Nat.lt_of_lt_of_le h HB2.out.below.size) (HT.out.below (fun b h => h) HB2.out.below) HSM.out).mono ?_; intro e w3 hp; obtain ⟨rfl, hb3⟩ := hp.no HO.out; obtain ⟨d0, d1, d2, d3, d4, d5, d6, d7, d8⟩ := (HB2.out.step hb3).c9; have HB3 := Lib.hid (HB2.out.step hb3); clear hb3 hp f0 f1 f2 f3 f4 f5 f6 f7 f8)
        | (go_at_call 18; refine (is_any t0 _ _ false _ (fun b h => Nat.lt_of_lt_of_le h HB3.out.below.size) (HT.out.below (fun b h => h) HB3.out.below)).mono ?_; rintro e w4 ⟨rfl, hb4⟩; rw [← HI.out]; have HB4 := Lib.hid (HB3.out.step hb4); clear hb4 d0 d1 d2 d3 d4 d5 d6 d7 d8))
      go_ret
      exact ⟨rfl, HB4.out.below⟩
    | some tm =>
      obtain ⟨hpl, hst⟩ := plainF_of (rf_of t0 tm hof) hsm
      have HO := Lib.hid hof
      have HPL := Lib.hid hpl
      have HST := Lib.hid hst
      have HI := Lib.hid (show true = isF t0 false from by rw [isF_ofF, hof]; rfl)
      clear hof hsm hpl hst
      go_enter Try.func4, Try.ntmps4
      go_wp2_with fail
      refine (awake_any _).mono ?_
      rintro e w1 ⟨rfl, hb1⟩
      obtain ⟨g0, g1, g2, g3, g4, g5, g6, g7, g8⟩ := (HX.out.step hb1).c9
      have HB1 := Lib.hid (HX.out.step hb1)
      clear hb1
      go_wp2_with (first
        | (go_at_call 16; refine (few_any t0 _ _ 300 _ (fun b h => Nat.lt_of_lt_of_le h HB1.out.below.size) (HT.out.below (fun b h => h) HB1.out.below) (by omega) (by omega)).mono ?_; rintro e w2 ⟨rfl, hb2⟩; rw [← HR.out]; obtain ⟨f0, f1, f2, f3, f4, f5, f6, f7, f8⟩ := (HB1.out.step hb2).c9; have HB2 := Lib.hid (HB1.out.step hb2); clear hb2 g0 g1 g2 g3 g4 g5 g6 g7 g8)
        | (go_at_call 22; refine (of_any t0 _ _ _ (fun b h => Nat.lt_of_lt_of_le h HB2.out.below.size) (HT.out.below (fun b h => h) HB2.out.below) HSM.out).mono ?_; intro e w3 hp; obtain ⟨v3, rfl, hv3, hb3⟩ := hp.yes HO.out; have HV := Lib.hid hv3; obtain ⟨d0, d1, d2, d3, d4, d5, d6, d7, d8⟩ := (HB2.out.step hb3).c9; have HB3 := Lib.hid (HB2.out.step hb3); clear hb3 hv3 hp f0 f1 f2 f3 f4 f5 f6 f7 f8)
        | (go_at_call 18; refine (is_any t0 _ _ false _ (fun b h => Nat.lt_of_lt_of_le h HB3.out.below.size) (HT.out.below (fun b h => h) HB3.out.below)).mono ?_; rintro e w4 ⟨rfl, hb4⟩; rw [← HI.out]; have HS4 := Lib.hid hb4; (obtain ⟨e0, e1, e2, e3, e4, e5, e6, e7, e8⟩ := (HB3.out.step hb4).c9); have HB4 := Lib.hid (HB3.out.step hb4); clear hb4 d0 d1 d2 d3 d4 d5 d6 d7 d8))
      have hp : ∀ w', Below w4.heap.size w4 w' → Calls Try.prog 23 #[v3] w' (TreePost (canonT t0) w') := fun w' hb => by
        have h := plain_any tm v3 (fun b => b < w4.heap.size) w' (fun b h => Nat.lt_of_lt_of_le h hb.size) (FoAt.below (FoAt.more (fun b h => Nat.lt_of_lt_of_le h.2 HS4.out.size) _ _ (HV.out.below (fun b h => h.2) HS4.out)) (fun b h => h) hb) HST.out
        rw [HPL.out] at h
        exact h
      have hc : ∀ w', Below w4.heap.size w4 w' → Calls Try.prog 21 #[.agg #[.int .i64 k, .bool neg, .slice A1 n1 c1, .string nm, .int .i64 ex, .int .i64 rl, .bool tr, .bool al, .slice A2 n2 c2]] w' (TreePost (canonT t0) w') := fun w' hb =>
        canon_any t0 _ (fun b => b < w.heap.size) w' (fun b h => Nat.lt_of_lt_of_le h (Nat.le_trans HB4.out.below.size hb.size)) ((HT.out.below (fun b h => h) HB4.out.below).below (fun b h => Nat.lt_of_lt_of_le h HB4.out.below.size) hb) HSM.out (by omega)
      have HP := Lib.hid hp
      have HC := Lib.hid hc
      have HD : Below w4.heap.size w4 w4.drew := (Below.refl _ w4).drew
      have hstep := Lib.hid (show ∀ wc wn, Below w4.heap.size w4 wc → Below wc.heap.size wc wn → Below w4.heap.size w4 wn from fun wc wn h1 h2 => h1.trans (h2.mono h1.size))
      clear hp hc
      go_region_held3 (fun w' => w'.cell? ⟨w.heap.size, 0, none⟩ = some (.int .i64 k) ∧ w'.cell? ⟨w.heap.size, 1, none⟩ = some (.bool neg) ∧ w'.cell? ⟨w.heap.size, 2, none⟩ = some (.slice A1 n1 c1) ∧ w'.cell? ⟨w.heap.size, 3, none⟩ = some (.string nm) ∧ w'.cell? ⟨w.heap.size, 4, none⟩ = some (.int .i64 ex) ∧ w'.cell? ⟨w.heap.size, 5, none⟩ = some (.int .i64 rl) ∧ w'.cell? ⟨w.heap.size, 6, none⟩ = some (.bool tr) ∧ w'.cell? ⟨w.heap.size, 7, none⟩ = some (.bool al) ∧ w'.cell? ⟨w.heap.size, 8, none⟩ = some (.slice A2 n2 c2)) (go_keep)
        (first
          | (go_at_call 23; refine (HP.out _ (by first | exact HD | exact hbR)).mono ?_; intro e wL hq; obtain ⟨a1, a2, a3, a4, a5, a6, x1, x2, x3, x4, x5, x6, x7, rfl, htL, hbl⟩ := hq.cells; have hbL := (by first | exact hstep.out _ _ HD hbl | exact hstep.out _ _ hbR hbl); have HTL := Lib.hid htL; have HBL := Lib.hid hbl; clear htL hbl hq; obtain ⟨p0, p1, p2, p3, p4, p5, p6, p7, p8⟩ := (HB4.out.step hbL).c9)
          | (go_at_call 21; refine (HC.out _ (by first | exact HD | exact hbL)).mono ?_; intro e wR hq; obtain ⟨b1, b2, b3, b4, b5, b6, y1, y2, y3, y4, y5, y6, y7, rfl, htR, hbr⟩ := hq.cells; have hbR := (by first | exact hstep.out _ _ HD hbr | exact hstep.out _ _ hbL hbr); have HTR := Lib.hid htR; have HBR := Lib.hid hbr; clear htR hbr hq; obtain ⟨q0, q1, q2, q3, q4, q5, q6, q7, q8⟩ := (HB4.out.step hbR).c9)
          | (go_at_call 19; first
              | (refine (same_any (canonT t0) (canonT t0) _ _ (fun b => b < wR.heap.size) true wR (fun b h => h) (TreeAt.more (fun b h => Nat.lt_of_lt_of_le h.2 HBR.out.size) _ _ (HTL.out.below (fun b h => h.2) HBR.out)) (TreeAt.more (fun b h => h.2) _ _ HTR.out) (by simp)).mono ?_; rintro e w6 ⟨rfl, hb6⟩; have hb46 := hstep.out _ _ hbR hb6; obtain ⟨r0, r1, r2, r3, r4, r5, r6, r7, r8⟩ := (HB4.out.step hb46).c9)
              | (refine (same_any (canonT t0) (canonT t0) _ _ (fun b => b < wL.heap.size) true wL (fun b h => h) (TreeAt.more (fun b h => h.2) _ _ HTL.out) (TreeAt.more (fun b h => Nat.lt_of_lt_of_le h.2 HBL.out.size) _ _ (HTR.out.below (fun b h => h.2) HBL.out)) (by simp)).mono ?_; rintro e w6 ⟨rfl, hb6⟩; have hb46 := hstep.out _ _ hbL hb6; obtain ⟨r0, r1, r2, r3, r4, r5, r6, r7, r8⟩ := (HB4.out.step hb46).c9)))
      all_goals
        go_wp2
        go_ret
        exact ⟨rfl, (HB4.out.step hb46).below⟩

theorem laidOut : laidOutB Try.prog = true := by kernel_rfl

theorem own : ownKnob Try.prog.godebug = none := by kernel_rfl

set_option maxRecDepth 100000 in
theorem lifted (os : Os) (started : os.Started) (H : Type) (enc : TypeId × Value → H) :
    ReturnsInHanded {} Try.checked os 4 .any (Rows.formulaTreesSpec.pre6 enc Try.prog Try.f4 Rows.formulaTreesRow.domain false) (Rows.formulaTreesSpec.post enc Try.prog Try.f4 false true false false) := by
  refine returnsInHanded_of_change (C := Try.checked) own started (by kernel_rfl) Try.func4
    (ChangeSpec.witness6 (enc := enc) (C := Try.checked) false ⟨#[], #[.agg #[.int .i64 0, .bool false, .slice none 0 0, .string ByteArray.empty, .int .i64 0, .int .i64 0, .bool false, .bool false, .slice none 0 0]], []⟩ 8 (by kernel_rfl) (by kernel_rfl) (by kernel_rfl) (by kernel_rfl)) ?_
  intro W base args ds gs before hval0 hW hcnd _
  have hval : ∀ (j : Nat) t v, Try.f4.params[j]? = some t → args[j]? = some v → Value.okWide Try.prog W .any base t v := hval0
  have hW' := hW
  obtain ⟨p, q, hA0, hV, rfl, hfz, hnd⟩ := hW
  have hA : DataW.TrodAll enc Try.prog W 0 (fun _ => true) true Try.f4.params.toList args.toList ds p := hA0
  rw [Try.params4] at hA hval
  obtain ⟨v0, vs0, d0, ds0, p0, q0, hargs, rfl, rfl, h0, r0⟩ := trodAll_cons hA
  obtain ⟨rfl, rfl, rfl⟩ := trodAll_nil r0
  obtain rfl : args = #[v0] := by cases args; simp_all
  obtain ⟨rfl, rfl⟩ := trodVars_none hV
  obtain ⟨cs0, rfl, hl0⟩ := okWide_struct Try.underlying29 (hval 0 29 v0 rfl rfl)
  have hl0' : cs0.toList.length = 9 := by rw [show Try.prog.cellsOf 29 = 9 by kernel_rfl] at hl0; simpa using hl0
  have h0k := h0
  obtain ⟨fuel0, hf0⟩ := h0
  obtain ⟨t0, hT0⟩ := open_tree fuel0 fuel0 (Nat.le_refl _) _ _ hl0' hf0
  clear hA0 hval0
  simp only [List.append_nil] at hW'
  have hlt0 : ∀ x ∈ p0, x.block < W.heap.size := fun x hx => by simpa using hW'.lt x (by simp [hx])
  refine (walk t0 cs0.toList W hT0).mono fun e W' ⟨he, bel⟩ => ?_
  subst he
  exact ⟨_, rfl, _, _, _, [], _, [], hW', trodAll_mk1 (shut_bool Try.underlying4 _), (trodAll_cons_mk (Below.trod laidOut (by kernel_rfl) (of_decide_eq_true (by kernel_rfl)) h0k bel hlt0) trodAll_mk0), rfl, bel.frame _, fun h => by cases h⟩

theorem over : Rows.formulaTreesRow.holds Try.pinned (OpenSpec.ofChange Rows.formulaTreesSpec) :=
  OpenClaim.holds_of_wide 4 Try.f4 rfl rfl rfl rfl rfl rfl rfl ⟨rfl, rfl, rfl, rfl, rfl⟩ rfl rfl rfl rfl rfl (by kernel_rfl) Try.func4 (by kernel_rfl)
    (of_decide_eq_true (by kernel_rfl)) (by unfold Func.isWrapper; first | (rw [if_pos (by decide +kernel)]; kernel_rfl) | (rw [if_neg (by decide +kernel)]; exact ⟨rfl, rfl⟩))
    (fun os started H enc _ => lifted os started H enc)

/-- THE STATEMENT -/
theorem proved : Rows.FormulaTreesSaid := over
end Go.Proofs.Ytjbgdaojhdobkaa.formulaTrees
