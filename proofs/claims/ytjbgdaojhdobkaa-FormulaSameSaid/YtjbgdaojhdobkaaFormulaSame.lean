/-
  FormulaSame: for every two trees that came in the law returns true: Same is equality of canonical trees; a formula equals itself and differs from its negation. No condition.
-/
import Derived.Test.YtjbgdaojhdobkaaFmT2
import Derived.Test.YtjbgdaojhdobkaaFmY
import Derived.Test.YtjbgdaojhdobkaaFmX
import Derived.Test.YtjbgdaojhdobkaaFmC
import Derived.Test.YtjbgdaojhdobkaaFmAw
import Derived.Test.YtjbgdaojhdobkaaFmOpn
import Derived.Test.YtjbgdaojhdobkaaRows
import Derived.Deep.RegionHeld3
import Derived.ProofKit
import Derived.OpenShut
import Derived.ShutString
import Derived.Carry
namespace Go.Proofs.Ytjbgdaojhdobkaa.formulaSame
open Go.ChangeShapes Go.WideShapes Go.ChangeAt Go.RowKit Go.Proofs.Ytjbgdaojhdobkaa Go.Proofs.Ytjbgdaojhdobkaa.Fm
set_option linter.unusedVariables false
set_option linter.unusedSimpArgs false

/-- both arguments' boxes -/
def Two (w w' : World) (a b : Array Value) : Prop := Box w w' w.heap.size a TT ∧ Box w w' (w.heap.size + 1) b TT
theorem Two.step {w w1 w2 : World} {a b : Array Value} (h : Two w w1 a b) (hb : Below w.heap.size w w1) (h2 : Below w1.heap.size w1 w2) : Two w w2 a b := ⟨h.1.step h2, h.2.step h2⟩

theorem not_ne (f : Fo) : ¬ plainF f = plainF (.not f) := by
  intro h
  have h1 : nn (plainF (.not f)) = nn (plainF f) + 1 := by
    conv => lhs; unfold plainF
    simp [nn, nnL]; try omega
  rw [← h] at h1
  omega

set_option maxHeartbeats 16000000 in
set_option maxRecDepth 100000 in
theorem walk (t0 : Tr) (cs0 : List Value) (t1 : Tr) (cs1 : List Value) (w : World) (hT0 : TreeAt w (fun b => b < w.heap.size) t0 cs0) (hT1 : TreeAt w (fun b => b < w.heap.size) t1 cs1) :
    Calls Try.prog 12 #[.agg cs0.toArray, .agg cs1.toArray] w fun e w' => e = .returned (.bool true) ∧ Below w.heap.size w w' := by
  obtain ⟨A1, n1, c1, A2, n2, c2, k, neg, nm, ex, rl, tr, al, rfl⟩ := hT0.nine
  obtain ⟨A3, n3, c3, A4, n4, c4, k', neg', nm', ex', rl', tr', al', rfl⟩ := hT1.nine
  have hx : Two w ((w.alloc (.cells #[.int .i64 k, .bool neg, .slice A1 n1 c1, .string nm, .int .i64 ex, .int .i64 rl, .bool tr, .bool al, .slice A2 n2 c2] TT)).alloc (.cells #[.int .i64 k', .bool neg', .slice A3 n3 c3, .string nm', .int .i64 ex', .int .i64 rl', .bool tr', .bool al', .slice A4 n4 c4] TT)) #[.int .i64 k, .bool neg, .slice A1 n1 c1, .string nm, .int .i64 ex, .int .i64 rl, .bool tr, .bool al, .slice A2 n2 c2] #[.int .i64 k', .bool neg', .slice A3 n3 c3, .string nm', .int .i64 ex', .int .i64 rl', .bool tr', .bool al', .slice A4 n4 c4] := ⟨(Box.new w _ _).alloc _, Box.second w _ _ _⟩
  have HX := Lib.hid hx
  have hlt : ∀ w', Below w.heap.size w w' → ∀ b, b < w.heap.size → b < w'.heap.size := fun w' h b hb => Nat.lt_of_lt_of_le hb h.size
  have HRT := Lib.hid (show ∀ w', Below w.heap.size w w' → Calls Try.prog 24 #[.agg #[.int .i64 k, .bool neg, .slice A1 n1 c1, .string nm, .int .i64 ex, .int .i64 rl, .bool tr, .bool al, .slice A2 n2 c2]] w' fun e w2 => e = .returned (.bool (rightB t0)) ∧ Below w'.heap.size w' w2 from fun w' h => right_any t0 _ _ w' (hlt w' h) (hT0.below (fun b h => h) h))
  have HRS := Lib.hid (show ∀ w', Below w.heap.size w w' → Calls Try.prog 24 #[.agg #[.int .i64 k', .bool neg', .slice A3 n3 c3, .string nm', .int .i64 ex', .int .i64 rl', .bool tr', .bool al', .slice A4 n4 c4]] w' fun e w2 => e = .returned (.bool (rightB t1)) ∧ Below w'.heap.size w' w2 from fun w' h => right_any t1 _ _ w' (hlt w' h) (hT1.below (fun b h => h) h))
  have hstep := Lib.hid (show ∀ wc wn, Below w.heap.size w wc → Below wc.heap.size wc wn → Below w.heap.size w wn from fun wc wn h1 h2 => h1.trans (h2.mono h1.size))
  obtain ⟨R0, hR0⟩ : ∃ R, R = rightB t0 := ⟨_, rfl⟩
  obtain ⟨R1, hR1⟩ : ∃ R, R = rightB t1 := ⟨_, rfl⟩
  rw [← hR0] at HRT
  rw [← hR1] at HRS
  have HR0 := Lib.hid hR0
  have HR1 := Lib.hid hR1
  have HT0 := Lib.hid hT0
  have HT1 := Lib.hid hT1
  have HLT := Lib.hid hlt
  clear hx hT0 hT1 hR0 hR1 hlt
  by_cases hb : R0 = true ∧ R1 = true
  case neg =>
    have hor : R0 = false ∨ (R0 = true ∧ R1 = false) := by revert hb; cases R0 <;> cases R1 <;> simp
    clear hb
    rcases hor with rfl | ⟨rfl, rfl⟩
    all_goals
      go_enter Try.func12, Try.ntmps12
      go_wp2_with fail
      refine (awake_any _).mono ?_
      rintro e w1 ⟨rfl, hb1⟩
      have hX1 := HX.out.step HX.out.1.below hb1
      have hw1 : Below w.heap.size w w1 := hX1.1.below
      obtain ⟨g0, g1, g2, g3, g4, g5, g6, g7, g8⟩ := (hX1).1.c9; obtain ⟨g0y, g1y, g2y, g3y, g4y, g5y, g6y, g7y, g8y⟩ := (hX1).2.c9
      have HX1 := Lib.hid hX1
      clear hb1 hX1
      go_wp2_with (first
        | (go_at_call 24; (with_reducible refine (HRT.out _ (by assumption)).mono ?_); rintro e w2 ⟨rfl, hb2⟩; have hw2 : Below w.heap.size w w2 := hstep.out _ _ hw1 hb2; have hX2 := HX1.out.step hw1 hb2; obtain ⟨f0, f1, f2, f3, f4, f5, f6, f7, f8⟩ := (hX2).1.c9; obtain ⟨f0y, f1y, f2y, f3y, f4y, f5y, f6y, f7y, f8y⟩ := (hX2).2.c9; clear hb2 hX2)
        | (go_at_call 24; (with_reducible refine (HRS.out _ (by assumption)).mono ?_); rintro e w3 ⟨rfl, hb3⟩; have hw3 : Below w.heap.size w w3 := hstep.out _ _ hw2 hb3)
        | (go_at_call 15; refine (awake_any _).mono ?_; rintro e w4 ⟨rfl, hb4⟩))
      go_ret
      first | exact ⟨rfl, hstep.out _ _ hw3 hb4⟩ | exact ⟨rfl, hstep.out _ _ hw2 hb4⟩
  obtain ⟨rfl, rfl⟩ := hb
  have hR0 := HR0.out.symm
  have hR1 := HR1.out.symm
  unfold rightB at hR0 hR1
  obtain ⟨hfew0, his0⟩ : fewB t0 300 = true ∧ isF t0 false = true := by simpa using hR0
  obtain ⟨hfew1, his1⟩ : fewB t1 300 = true ∧ isF t1 false = true := by simpa using hR1
  have hsm0 := fewB_sm hfew0
  have hsm1 := fewB_sm hfew1
  have hnn0 := fewB_nn hfew0
  have hnn1 := fewB_nn hfew1
  obtain ⟨f, hof0⟩ : ∃ f, ofF t0 = some f := by rw [isF_ofF] at his0; exact Option.isSome_iff_exists.1 his0
  obtain ⟨g, hof1⟩ : ∃ f, ofF t1 = some f := by rw [isF_ofF] at his1; exact Option.isSome_iff_exists.1 his1
  obtain ⟨hpl0, hst0⟩ := plainF_of (rf_of t0 f hof0) hsm0
  obtain ⟨hpl1, hst1⟩ := plainF_of (rf_of t1 g hof1) hsm1
  have HOT := Lib.hid (show ∀ w', Below w.heap.size w w' → Calls Try.prog 22 #[.agg #[.int .i64 k, .bool neg, .slice A1 n1 c1, .string nm, .int .i64 ex, .int .i64 rl, .bool tr, .bool al, .slice A2 n2 c2]] w' (OfPost t0 w') from fun w' h => of_any t0 _ _ w' (HLT.out w' h) (HT0.out.below (fun b h => h) h) hsm0)
  have HOS := Lib.hid (show ∀ w', Below w.heap.size w w' → Calls Try.prog 22 #[.agg #[.int .i64 k', .bool neg', .slice A3 n3 c3, .string nm', .int .i64 ex', .int .i64 rl', .bool tr', .bool al', .slice A4 n4 c4]] w' (OfPost t1 w') from fun w' h => of_any t1 _ _ w' (HLT.out w' h) (HT1.out.below (fun b h => h) h) hsm1)
  have HCT := Lib.hid (show ∀ w', Below w.heap.size w w' → Calls Try.prog 21 #[.agg #[.int .i64 k, .bool neg, .slice A1 n1 c1, .string nm, .int .i64 ex, .int .i64 rl, .bool tr, .bool al, .slice A2 n2 c2]] w' (TreePost (canonT t0) w') from fun w' h => canon_any t0 _ _ w' (HLT.out w' h) (HT0.out.below (fun b h => h) h) hsm0 (by omega))
  have HCS := Lib.hid (show ∀ w', Below w.heap.size w w' → Calls Try.prog 21 #[.agg #[.int .i64 k', .bool neg', .slice A3 n3 c3, .string nm', .int .i64 ex', .int .i64 rl', .bool tr', .bool al', .slice A4 n4 c4]] w' (TreePost (canonT t1) w') from fun w' h => canon_any t1 _ _ w' (HLT.out w' h) (HT1.out.below (fun b h => h) h) hsm1 (by omega))
  have HOF0 := Lib.hid hof0
  have HOF1 := Lib.hid hof1
  have HNE0 := Lib.hid (ofF_ne hof0)
  have HNE1 := Lib.hid (ofF_ne hof1)
  have HST0 := Lib.hid hst0
  have HST1 := Lib.hid hst1
  obtain ⟨r, hr⟩ : ∃ r : Bool, (r = true ↔ canonT t0 = canonT t1) := by classical exact ⟨decide (canonT t0 = canonT t1), by simp⟩
  have HR := Lib.hid hr
  have HFG := Lib.hid (show r = true ↔ plainF f = plainF g from by rw [hpl0, hpl1]; exact hr)
  clear hr hpl0 hpl1 hst0 hst1 hof0 hof1 hsm0 hsm1 hnn0 hnn1 hfew0 hfew1 his0 his1 hR0 hR1 HR0 HR1
  obtain ⟨rr, hrr⟩ : ∃ rr, rr = r := ⟨_, rfl⟩
  rw [← hrr] at HFG HR
  have HRR := Lib.hid hrr
  clear hrr
  cases r
  all_goals
    go_enter Try.func12, Try.ntmps12
    go_wp2_with fail
    refine (awake_any _).mono ?_
    rintro e w1 ⟨rfl, hb1⟩
    have hX1 := HX.out.step HX.out.1.below hb1
    have hw1 : Below w.heap.size w w1 := hX1.1.below
    obtain ⟨g0, g1, g2, g3, g4, g5, g6, g7, g8⟩ := (hX1).1.c9; obtain ⟨g0y, g1y, g2y, g3y, g4y, g5y, g6y, g7y, g8y⟩ := (hX1).2.c9
    have HX1 := Lib.hid hX1
    clear hb1 hX1
    go_wp2_with (first
      | (go_at_call 24; (with_reducible refine (HRT.out _ (by assumption)).mono ?_); rintro e w2 ⟨rfl, hb2⟩; have hw2 : Below w.heap.size w w2 := hstep.out _ _ hw1 hb2; have hX2 := HX1.out.step hw1 hb2; obtain ⟨f0, f1, f2, f3, f4, f5, f6, f7, f8⟩ := (hX2).1.c9; obtain ⟨f0y, f1y, f2y, f3y, f4y, f5y, f6y, f7y, f8y⟩ := (hX2).2.c9; have HX2 := Lib.hid hX2; clear hb2 hX2)
      | (go_at_call 24; (with_reducible refine (HRS.out _ (by assumption)).mono ?_); rintro e w3 ⟨rfl, hb3⟩; have hw3 : Below w.heap.size w w3 := hstep.out _ _ hw2 hb3; have hX3 := HX2.out.step hw2 hb3; obtain ⟨d0, d1, d2, d3, d4, d5, d6, d7, d8⟩ := (hX3).1.c9; obtain ⟨d0y, d1y, d2y, d3y, d4y, d5y, d6y, d7y, d8y⟩ := (hX3).2.c9; have HX3 := Lib.hid hX3; clear hb3 hX3)
      | (go_at_call 22; (with_reducible refine (HOT.out _ (by assumption)).mono ?_); intro e w4 hp; obtain ⟨v0, rfl, hv0, hb4⟩ := hp.yes HOF0.out; obtain ⟨u0, z0, rfl⟩ := hv0.iface HNE0.out; have HV0 := Lib.hid hv0; have HB4 := Lib.hid hb4; have hw4 : Below w.heap.size w w4 := hstep.out _ _ hw3 hb4; have hX4 := HX3.out.step hw3 hb4; obtain ⟨h0, h1, h2, h3, h4, h5, h6, h7, h8⟩ := (hX4).1.c9; obtain ⟨h0y, h1y, h2y, h3y, h4y, h5y, h6y, h7y, h8y⟩ := (hX4).2.c9; have HX4 := Lib.hid hX4; clear hb4 hX4 hv0 hp)
      | (go_at_call 22; (with_reducible refine (HOS.out _ (by assumption)).mono ?_); intro e w5 hp; obtain ⟨v1, rfl, hv1, hb5⟩ := hp.yes HOF1.out; obtain ⟨u1, z1, rfl⟩ := hv1.iface HNE1.out; have HV1 := Lib.hid hv1; have HB5 := Lib.hid hb5; have hw5 : Below w.heap.size w w5 := hstep.out _ _ hw4 hb5; have hX5 := HX4.out.step hw4 hb5; have HX5 := Lib.hid hX5; clear hb5 hX5 hv1 hp))
    have hF : FoAt w5 (fun b => b < w5.heap.size) f (.iface u0 z0) := FoAt.more (fun b h => Nat.lt_of_lt_of_le h.2 HB5.out.size) _ _ (HV0.out.below (fun b h => h.2) HB5.out)
    have hG : FoAt w5 (fun b => b < w5.heap.size) g (.iface u1 z1) := FoAt.more (fun b h => h.2) _ _ HV1.out
    have hFN : FoAt w5 (fun b => b < w5.heap.size) (.not f) (.iface 93 (.agg #[.iface u0 z0])) := ⟨_, rfl, hF⟩
    have hsame : ∀ (p q : Fo) (vp vq : Value) (b : Bool), FoAt w5 (fun b => b < w5.heap.size) p vp → FoAt w5 (fun b => b < w5.heap.size) q vq → SmF p → SmF q → (b = true ↔ plainF p = plainF q) → ∀ w', Below w.heap.size w w' → Below w5.heap.size w5 w' → Calls Try.prog 44 #[vp, vq] w' fun e w2 => e = .returned (.bool b) ∧ Below w'.heap.size w' w2 := fun p q vp vq b hp hq sp sq hb w' _ hw => fsame_any p q vp vq _ w' (fun b h => Nat.lt_of_lt_of_le h hw.size) (hp.below (fun b h => h) hw) (hq.below (fun b h => h) hw) sp sq b hb
    have h1 := hsame f g _ _ rr hF hG HST0.out HST1.out HFG.out
    have h2 := hsame g f _ _ rr hG hF HST1.out HST0.out (HFG.out.trans ⟨Eq.symm, Eq.symm⟩)
    rw [HRR.out] at h1 h2
    have HS1 := Lib.hid h1
    have HS2 := Lib.hid h2
    clear h1 h2
    have HS3 := Lib.hid (hsame f f _ _ true hF hF HST0.out HST0.out (by simp))
    have HS4 := Lib.hid (hsame f (.not f) _ _ false hF hFN HST0.out (by unfold SmF; exact HST0.out) ⟨fun h => (by cases h), fun h => absurd h (not_ne f)⟩)
    have HD : Below w.heap.size w w5.drew := hw5.drew
    have HD5 : Below w5.heap.size w5 w5.drew := (Below.refl _ w5).drew
    have hstep5 := Lib.hid (show ∀ wc wn, Below w5.heap.size w5 wc → Below wc.heap.size wc wn → Below w5.heap.size w5 wn from fun wc wn h1 h2 => h1.trans (h2.mono h1.size))
    obtain ⟨q0, q1, q2, q3, q4, q5, q6, q7, q8⟩ := (HX5.out).1.c9; obtain ⟨q0y, q1y, q2y, q3y, q4y, q5y, q6y, q7y, q8y⟩ := (HX5.out).2.c9
    clear hF hG hFN hsame
    go_region_held3 (fun w' => w'.cell? ⟨w.heap.size, 0, none⟩ = some (.int .i64 k) ∧ w'.cell? ⟨w.heap.size, 1, none⟩ = some (.bool neg) ∧ w'.cell? ⟨w.heap.size, 2, none⟩ = some (.slice A1 n1 c1) ∧ w'.cell? ⟨w.heap.size, 3, none⟩ = some (.string nm) ∧ w'.cell? ⟨w.heap.size, 4, none⟩ = some (.int .i64 ex) ∧ w'.cell? ⟨w.heap.size, 5, none⟩ = some (.int .i64 rl) ∧ w'.cell? ⟨w.heap.size, 6, none⟩ = some (.bool tr) ∧ w'.cell? ⟨w.heap.size, 7, none⟩ = some (.bool al) ∧ w'.cell? ⟨w.heap.size, 8, none⟩ = some (.slice A2 n2 c2) ∧ w'.cell? ⟨w.heap.size + 1, 0, none⟩ = some (.int .i64 k') ∧ w'.cell? ⟨w.heap.size + 1, 1, none⟩ = some (.bool neg') ∧ w'.cell? ⟨w.heap.size + 1, 2, none⟩ = some (.slice A3 n3 c3) ∧ w'.cell? ⟨w.heap.size + 1, 3, none⟩ = some (.string nm') ∧ w'.cell? ⟨w.heap.size + 1, 4, none⟩ = some (.int .i64 ex') ∧ w'.cell? ⟨w.heap.size + 1, 5, none⟩ = some (.int .i64 rl') ∧ w'.cell? ⟨w.heap.size + 1, 6, none⟩ = some (.bool tr') ∧ w'.cell? ⟨w.heap.size + 1, 7, none⟩ = some (.bool al') ∧ w'.cell? ⟨w.heap.size + 1, 8, none⟩ = some (.slice A4 n4 c4)) (go_keep)
      (first
        | (go_at_call 21; (with_reducible refine (HCT.out _ (by assumption)).mono ?_); intro e wA hq; obtain ⟨aA1, aA2, aA3, aA4, aA5, aA6, xA1, xA2, xA3, xA4, xA5, xA6, xA7, rfl, htA, hlA⟩ := hq.cells; have hbA : Below w.heap.size w wA := hstep.out _ _ (by assumption) hlA; have h5A : Below w5.heap.size w5 wA := hstep5.out _ _ (by assumption) hlA; have HTA := Lib.hid htA; have HLA := Lib.hid hlA; clear htA hlA hq; obtain ⟨pA0, pA1, pA2, pA3, pA4, pA5, pA6, pA7, pA8⟩ := (HX5.out.step hw5 h5A).1.c9; obtain ⟨pA0y, pA1y, pA2y, pA3y, pA4y, pA5y, pA6y, pA7y, pA8y⟩ := (HX5.out.step hw5 h5A).2.c9)
        | (go_at_call 21; (with_reducible refine (HCS.out _ (by assumption)).mono ?_); intro e wB hq; obtain ⟨aB1, aB2, aB3, aB4, aB5, aB6, xB1, xB2, xB3, xB4, xB5, xB6, xB7, rfl, htB, hlB⟩ := hq.cells; have hbB : Below w.heap.size w wB := hstep.out _ _ (by assumption) hlB; have h5B : Below w5.heap.size w5 wB := hstep5.out _ _ (by assumption) hlB; have HTB := Lib.hid htB; have HLB := Lib.hid hlB; clear htB hlB hq; obtain ⟨pB0, pB1, pB2, pB3, pB4, pB5, pB6, pB7, pB8⟩ := (HX5.out.step hw5 h5B).1.c9; obtain ⟨pB0y, pB1y, pB2y, pB3y, pB4y, pB5y, pB6y, pB7y, pB8y⟩ := (HX5.out.step hw5 h5B).2.c9)
        | (go_at_call 19; first
            | (refine (same_any (canonT t0) (canonT t1) _ _ (fun b => b < wB.heap.size) rr wB (fun b h => h) (TreeAt.more (fun b h => Nat.lt_of_lt_of_le h.2 HLB.out.size) _ _ (HTA.out.below (fun b h => h.2) HLB.out)) (TreeAt.more (fun b h => h.2) _ _ HTB.out) HR.out).mono ?_; rintro e w6 ⟨rfl, hl6⟩; rw [HRR.out]; have hb6 : Below w.heap.size w w6 := hstep.out _ _ hbB hl6; have h56 : Below w5.heap.size w5 w6 := hstep5.out _ _ h5B hl6; obtain ⟨s0, s1, s2, s3, s4, s5, s6, s7, s8⟩ := (HX5.out.step hw5 h56).1.c9; obtain ⟨s0y, s1y, s2y, s3y, s4y, s5y, s6y, s7y, s8y⟩ := (HX5.out.step hw5 h56).2.c9)
            | (refine (same_any (canonT t0) (canonT t1) _ _ (fun b => b < wA.heap.size) rr wA (fun b h => h) (TreeAt.more (fun b h => h.2) _ _ HTA.out) (TreeAt.more (fun b h => Nat.lt_of_lt_of_le h.2 HLA.out.size) _ _ (HTB.out.below (fun b h => h.2) HLA.out)) HR.out).mono ?_; rintro e w6 ⟨rfl, hl6⟩; rw [HRR.out]; have hb6 : Below w.heap.size w w6 := hstep.out _ _ hbA hl6; have h56 : Below w5.heap.size w5 w6 := hstep5.out _ _ h5A hl6; obtain ⟨s0, s1, s2, s3, s4, s5, s6, s7, s8⟩ := (HX5.out.step hw5 h56).1.c9; obtain ⟨s0y, s1y, s2y, s3y, s4y, s5y, s6y, s7y, s8y⟩ := (HX5.out.step hw5 h56).2.c9)))
    all_goals
      go_wp2_with (first
        | (go_at_call 44; (with_reducible refine (HS1.out _ (by assumption) (by assumption)).mono ?_); rintro e w7 ⟨rfl, hl7⟩; have hb7 : Below w.heap.size w w7 := hstep.out _ _ (by assumption) hl7; have h57 : Below w5.heap.size w5 w7 := hstep5.out _ _ (by assumption) hl7; clear hl7)
        | (go_at_call 44; (with_reducible refine (HS2.out _ (by assumption) (by assumption)).mono ?_); rintro e w8 ⟨rfl, hl8⟩; have hb8 : Below w.heap.size w w8 := hstep.out _ _ (by assumption) hl8; have h58 : Below w5.heap.size w5 w8 := hstep5.out _ _ (by assumption) hl8; clear hl8)
        | (go_at_call 44; (with_reducible refine (HS3.out _ (by assumption) (by assumption)).mono ?_); rintro e w9 ⟨rfl, hl9⟩; have hb9 : Below w.heap.size w w9 := hstep.out _ _ (by assumption) hl9; have h59 : Below w5.heap.size w5 w9 := hstep5.out _ _ (by assumption) hl9; clear hl9)
        | (go_at_call 44; (with_reducible refine (HS4.out _ (by assumption) (by assumption)).mono ?_); rintro e w10 ⟨rfl, hl10⟩; have hb10 : Below w.heap.size w w10 := hstep.out _ _ (by assumption) hl10; have h510 : Below w5.heap.size w5 w10 := hstep5.out _ _ (by assumption) hl10; clear hl10))
      go_ret
      exact ⟨rfl, hb10⟩


theorem laidOut : laidOutB Try.prog = true := by kernel_rfl

theorem own : ownKnob Try.prog.godebug = none := by kernel_rfl

set_option maxRecDepth 100000 in
theorem lifted (os : Os) (started : os.Started) (H : Type) (enc : TypeId × Value → H) :
    ReturnsInHanded {} Try.checked os 12 .any (Rows.formulaSameSpec.pre6 enc Try.prog Try.f12 Rows.formulaSameRow.domain false) (Rows.formulaSameSpec.post enc Try.prog Try.f12 false true false false) := by
  refine returnsInHanded_of_change (C := Try.checked) own started (by kernel_rfl) Try.func12
    (ChangeSpec.witness6 (enc := enc) (C := Try.checked) false ⟨#[], #[.agg #[.int .i64 0, .bool false, .slice none 0 0, .string ByteArray.empty, .int .i64 0, .int .i64 0, .bool false, .bool false, .slice none 0 0], .agg #[.int .i64 0, .bool false, .slice none 0 0, .string ByteArray.empty, .int .i64 0, .int .i64 0, .bool false, .bool false, .slice none 0 0]], []⟩ 8 (by kernel_rfl) (by kernel_rfl) (by kernel_rfl) (by kernel_rfl)) ?_
  intro W base args ds gs before hval0 hW hcnd _
  have hval : ∀ (j : Nat) t v, Try.f12.params[j]? = some t → args[j]? = some v → Value.okWide Try.prog W .any base t v := hval0
  have hW' := hW
  obtain ⟨p, q, hA0, hV, rfl, hfz, hnd⟩ := hW
  have hA : DataW.TrodAll enc Try.prog W 0 (fun _ => true) true Try.f12.params.toList args.toList ds p := hA0
  rw [Try.params12] at hA hval
  obtain ⟨v0, vs0, d0, ds0, p0, q0, hargs, rfl, rfl, h0, r0⟩ := trodAll_cons hA
  obtain ⟨v1, vs1, d1, ds1, p1, q1, rfl, rfl, rfl, h1, r1⟩ := trodAll_cons r0
  obtain ⟨rfl, rfl, rfl⟩ := trodAll_nil r1
  obtain rfl : args = #[v0, v1] := by cases args; simp_all
  obtain ⟨rfl, rfl⟩ := trodVars_none hV
  obtain ⟨cs0, rfl, hl0⟩ := okWide_struct Try.underlying29 (hval 0 29 v0 rfl rfl)
  have hl0' : cs0.toList.length = 9 := by rw [show Try.prog.cellsOf 29 = 9 by kernel_rfl] at hl0; simpa using hl0
  have h0k := h0
  obtain ⟨fuel0, hf0⟩ := h0
  obtain ⟨t0, hT0⟩ := open_tree fuel0 fuel0 (Nat.le_refl _) _ _ hl0' hf0
  obtain ⟨cs1, rfl, hl1⟩ := okWide_struct Try.underlying29 (hval 1 29 v1 rfl rfl)
  have hl1' : cs1.toList.length = 9 := by rw [show Try.prog.cellsOf 29 = 9 by kernel_rfl] at hl1; simpa using hl1
  have h1k := h1
  obtain ⟨fuel1, hf1⟩ := h1
  obtain ⟨t1, hT1⟩ := open_tree fuel1 fuel1 (Nat.le_refl _) _ _ hl1' hf1
  clear hA0 hval0
  simp only [List.append_nil] at hW'
  have hlt0 : ∀ x ∈ p0, x.block < W.heap.size := fun x hx => by simpa using hW'.lt x (by simp [hx])
  have hlt1 : ∀ x ∈ p1, x.block < W.heap.size := fun x hx => by simpa using hW'.lt x (by simp [hx])
  refine (walk t0 cs0.toList t1 cs1.toList W hT0 hT1).mono fun e W' ⟨he, bel⟩ => ?_
  subst he
  exact ⟨_, rfl, _, _, _, [], _, [], hW', trodAll_mk1 (shut_bool Try.underlying4 _), (trodAll_cons_mk (Below.trod laidOut (by kernel_rfl) (of_decide_eq_true (by kernel_rfl)) h0k bel hlt0) (trodAll_cons_mk (Below.trod laidOut (by kernel_rfl) (of_decide_eq_true (by kernel_rfl)) h1k bel hlt1) trodAll_mk0)), rfl, bel.frame _, fun h => by cases h⟩

theorem over : Rows.formulaSameRow.holds Try.pinned (OpenSpec.ofChange Rows.formulaSameSpec) :=
  OpenClaim.holds_of_wide 12 Try.f12 rfl rfl rfl rfl rfl rfl rfl ⟨rfl, rfl, rfl, rfl, rfl⟩ rfl rfl rfl rfl rfl (by kernel_rfl) Try.func12 (by kernel_rfl)
    (of_decide_eq_true (by kernel_rfl)) (by unfold Func.isWrapper; first | (rw [if_pos (by decide +kernel)]; kernel_rfl) | (rw [if_neg (by decide +kernel)]; exact ⟨rfl, rfl⟩))
    (fun os started H enc _ => lifted os started H enc)

/-- THE STATEMENT -/
theorem proved : Rows.FormulaSameSaid := over
end Go.Proofs.Ytjbgdaojhdobkaa.formulaSame
