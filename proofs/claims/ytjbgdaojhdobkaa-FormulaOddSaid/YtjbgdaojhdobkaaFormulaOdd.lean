/-
  FormulaOdd: for every tree and every two numbers that came in the law returns true: nil and pointers count as Truth false and Num 0, an unknown relation as Equal, a negative exponent as 0. No condition.
-/
import Derived.Test.YtjbgdaojhdobkaaFmT2
import Derived.Test.YtjbgdaojhdobkaaFmY
import Derived.Test.YtjbgdaojhdobkaaFmX
import Derived.Test.YtjbgdaojhdobkaaFmAw
import Derived.Test.YtjbgdaojhdobkaaFmOpn
import Derived.Test.YtjbgdaojhdobkaaRows
import Derived.ProofKit
import Derived.OpenShut
import Derived.ShutString
import Derived.Carry
namespace Go.Proofs.Ytjbgdaojhdobkaa.formulaOdd
open Go.ChangeShapes Go.WideShapes Go.ChangeAt Go.RowKit Go.Proofs.Ytjbgdaojhdobkaa Go.Proofs.Ytjbgdaojhdobkaa.Fm
set_option linter.unusedVariables false
set_option linter.unusedSimpArgs false
attribute [local go_sem] run_store

theorem ptr_odd (u : TypeId) (a : Option Addr) (h : u ∉ [tNum, tName, tAdd, tSub, tMul, tNeg, tPow, tTruth, tAtom, tNot, tAnd, tOr, tImplies, tIff, tQuant]) : OddV (.iface u (.pointer a)) := .inr ⟨u, a, rfl, h⟩

theorem and_same (f : Fo) : plainF (.and .odd f) = plainF (.and (.truth false) f) := by simp only [plainF]; rfl
theorem or_same (f : Fo) : plainF (.or f .odd) = plainF (.or f (.truth false)) := by simp only [plainF]; rfl
theorem not_same : plainF (.not .odd) = plainF (.not (.truth false)) := by simp only [plainF]; rfl
theorem ptrT : ∀ u : TypeId, u = 86 ∨ u = 89 → u ∉ [tNum, tName, tAdd, tSub, tMul, tNeg, tPow, tTruth, tAtom, tNot, tAnd, tOr, tImplies, tIff, tQuant] := by
  rintro u (rfl | rfl) <;> decide
theorem atom_same (a1 a2 : Int) (h1 : relR a1 = 3) (h2 : max a2 0 = 0) : plainF (.atom (.add .odd (.pow (.name ⟨#[120]⟩) a2)) a1 .odd) = plainF (.atom (.add (.num false []) (.pow (.name ⟨#[120]⟩) 0)) 3 (.num false [])) := by
  simp only [plainF, plainT, h1, h2]
  rfl
theorem atom_truth (l r : Tm) (rel : Int) (b : Bool) : ¬ plainF (.atom l rel r) = plainF (.truth b) := by
  intro h
  unfold plainF at h
  injection h with h1 h2
  injection h1 with h3
  exact absurd h3 (by decide)

set_option maxHeartbeats 16000000 in
set_option maxRecDepth 100000 in
theorem walk (t0 : Tr) (cs0 : List Value) (a1 a2 : Int) (w1' : (Lit.int .i64 a1).wf = true) (w2' : (Lit.int .i64 a2).wf = true) (w : World) (hT0 : TreeAt w (fun b => b < w.heap.size) t0 cs0) :
    Calls Try.prog 11 #[.agg cs0.toArray, .int .i64 a1, .int .i64 a2] w fun e w' => e = .returned (.bool true) ∧ Below w.heap.size w w' := by
  obtain ⟨A1, n1, c1, A2, n2, c2, k, neg, nm, ex, rl, tr, al, rfl⟩ := hT0.nine
  have hx := Box.new w #[.int .i64 k, .bool neg, .slice A1 n1 c1, .string nm, .int .i64 ex, .int .i64 rl, .bool tr, .bool al, .slice A2 n2 c2] TT
  have HX := Lib.hid hx
  have hlt : ∀ w', Below w.heap.size w w' → ∀ b, b < w.heap.size → b < w'.heap.size := fun w' h b hb => Nat.lt_of_lt_of_le hb h.size
  have HRT := Lib.hid (show ∀ w', Below w.heap.size w w' → Calls Try.prog 24 #[.agg #[.int .i64 k, .bool neg, .slice A1 n1 c1, .string nm, .int .i64 ex, .int .i64 rl, .bool tr, .bool al, .slice A2 n2 c2]] w' fun e w2 => e = .returned (.bool (rightB t0)) ∧ Below w'.heap.size w' w2 from fun w' h => right_any t0 _ _ w' (hlt w' h) (hT0.below (fun b h => h) h))
  have hstep := Lib.hid (show ∀ wc wn, Below w.heap.size w wc → Below wc.heap.size wc wn → Below w.heap.size w wn from fun wc wn h1 h2 => h1.trans (h2.mono h1.size))
  obtain ⟨R0, hR0⟩ : ∃ R, R = rightB t0 := ⟨_, rfl⟩
  rw [← hR0] at HRT
  have HR0 := Lib.hid hR0
  have HT0 := Lib.hid hT0
  have HLT := Lib.hid hlt
  clear hx hT0 hR0 hlt w1' w2'
  cases R0
  case false =>
    go_enter Try.func11, Try.ntmps11
    go_wp2_with fail
    refine (awake_any _).mono ?_
    rintro e w1 ⟨rfl, hb1⟩
    have hX1 := HX.out.step hb1
    have hw1 : Below w.heap.size w w1 := hX1.below
    obtain ⟨g0, g1, g2, g3, g4, g5, g6, g7, g8⟩ := hX1.c9
    have HX1 := Lib.hid hX1
    clear hb1 hX1
    go_wp2_with (first
      | (go_at_call 24; (with_reducible refine (HRT.out _ (by assumption)).mono ?_); rintro e w2 ⟨rfl, hb2⟩; have hw2 : Below w.heap.size w w2 := hstep.out _ _ hw1 hb2; have hX2 := HX1.out.step hb2; obtain ⟨f0, f1, f2, f3, f4, f5, f6, f7, f8⟩ := hX2.c9; have HX2 := Lib.hid hX2; clear hb2 hX2)
      | (go_at_call 15; refine (awake_any _).mono ?_; rintro e w4 ⟨rfl, hb4⟩))
    go_ret
    exact ⟨rfl, hstep.out _ _ hw2 hb4⟩
  have hR0 := HR0.out.symm
  unfold rightB at hR0
  obtain ⟨hfew0, his0⟩ : fewB t0 300 = true ∧ isF t0 false = true := by simpa using hR0
  have hsm0 := fewB_sm hfew0
  obtain ⟨f, hof0⟩ : ∃ f, ofF t0 = some f := by rw [isF_ofF] at his0; exact Option.isSome_iff_exists.1 his0
  obtain ⟨-, hst0⟩ := plainF_of (rf_of t0 f hof0) hsm0
  have HOT := Lib.hid (show ∀ w', Below w.heap.size w w' → Calls Try.prog 22 #[.agg #[.int .i64 k, .bool neg, .slice A1 n1 c1, .string nm, .int .i64 ex, .int .i64 rl, .bool tr, .bool al, .slice A2 n2 c2]] w' (OfPost t0 w') from fun w' h => of_any t0 _ _ w' (HLT.out w' h) (HT0.out.below (fun b h => h) h) hsm0)
  have HOF0 := Lib.hid hof0
  have HNE0 := Lib.hid (ofF_ne hof0)
  have HST0 := Lib.hid hst0
  clear hst0 hof0 hsm0 hfew0 his0 hR0 HR0
  have hall : ((decide ((1 : Int) ≤ a1) = true ∧ decide (a1 ≤ (6 : Int)) = true) ∨ (decide ((1 : Int) ≤ a1) = true ∧ decide (a1 ≤ (6 : Int)) = false ∧ decide ((0 : Int) ≤ a2) = true) ∨ (decide ((1 : Int) ≤ a1) = false ∧ decide ((0 : Int) ≤ a2) = true)) ∨ (((decide ((1 : Int) ≤ a1) = true ∧ decide (a1 ≤ (6 : Int)) = false ∧ decide ((0 : Int) ≤ a2) = false) ∨ (decide ((1 : Int) ≤ a1) = false ∧ decide ((0 : Int) ≤ a2) = false)) ∧ ((a1 < 1 ∨ 6 < a1) ∧ a2 < 0)) := by
    simp only [decide_eq_true_eq, decide_eq_false_iff_not]; omega
  rcases hall with hgood | ⟨hbad, hrel, hmax⟩
  · rcases hgood with ⟨h1, h2⟩ | ⟨h1, h2, h3⟩ | ⟨h1, h2⟩
    all_goals
      go_enter Try.func11, Try.ntmps11
      go_wp2_with fail
      refine (awake_any _).mono ?_
      rintro e w1 ⟨rfl, hb1⟩
      have hX1 := HX.out.step hb1
      have hw1 : Below w.heap.size w w1 := hX1.below
      obtain ⟨g0, g1, g2, g3, g4, g5, g6, g7, g8⟩ := hX1.c9
      have HX1 := Lib.hid hX1
      clear hb1 hX1
      go_wp2_with (first
        | (go_at_call 24; (with_reducible refine (HRT.out _ (by assumption)).mono ?_); rintro e w2 ⟨rfl, hb2⟩; have hw2 : Below w.heap.size w w2 := hstep.out _ _ hw1 hb2; have hX2 := HX1.out.step hb2; obtain ⟨f0, f1, f2, f3, f4, f5, f6, f7, f8⟩ := hX2.c9; have HX2 := Lib.hid hX2; clear hb2 hX2)
        | (go_at_call 22; (with_reducible refine (HOT.out _ (by assumption)).mono ?_); intro e wO hp; obtain ⟨v0, rfl, hv0, hb4⟩ := hp.yes HOF0.out; obtain ⟨u0, z0, rfl⟩ := hv0.iface HNE0.out; have HF := Lib.hid hv0; have hwO : Below w.heap.size w wO := hstep.out _ _ hw2 hb4; clear hb4 hv0 hp; skip))
      have HC1 := Lib.hid (show ∀ (W' : World), Below wO.heap.size wO W' → Calls Try.prog 44 #[.iface 85 (.agg #[.nilIface, .iface u0 z0]), .iface 85 (.agg #[.iface 78 (.agg #[.bool false]), .iface u0 z0])] W' fun e w2 => e = .returned (.bool true) ∧ Below W'.heap.size W' w2 from fun W' hW => by
        have hF3 : FoAt W' (fun b => b < W'.heap.size) f (.iface u0 z0) := FoAt.more (fun b h => Nat.lt_of_lt_of_le h.2 hW.size) _ _ (HF.out.below (fun b h => h.2) hW)
        exact fsame_any (.and .odd f) (.and (.truth false) f) _ _ (fun b => b < W'.heap.size) W' (fun b h => h) ⟨_, _, rfl, .inl rfl, hF3⟩ ⟨_, _, rfl, rfl, hF3⟩ ⟨trivial, HST0.out⟩ ⟨trivial, HST0.out⟩ true ⟨fun _ => and_same f, fun _ => rfl⟩)
      have HC2 := Lib.hid (show ∀ (W' : World) (a : Option Addr), Below wO.heap.size wO W' → Calls Try.prog 44 #[.iface 87 (.agg #[.iface u0 z0, .iface 86 (.pointer a)]), .iface 87 (.agg #[.iface u0 z0, .iface 78 (.agg #[.bool false])])] W' fun e w2 => e = .returned (.bool true) ∧ Below W'.heap.size W' w2 from fun W' a hW => by
        have hF3 : FoAt W' (fun b => b < W'.heap.size) f (.iface u0 z0) := FoAt.more (fun b h => Nat.lt_of_lt_of_le h.2 hW.size) _ _ (HF.out.below (fun b h => h.2) hW)
        exact fsame_any (.or f .odd) (.or f (.truth false)) _ _ (fun b => b < W'.heap.size) W' (fun b h => h) ⟨_, _, rfl, hF3, ptr_odd _ _ (ptrT _ (by simp))⟩ ⟨_, _, rfl, hF3, rfl⟩ ⟨HST0.out, trivial⟩ ⟨HST0.out, trivial⟩ true ⟨fun _ => or_same f, fun _ => rfl⟩)
      have hB3 : Below wO.heap.size wO (((wO.alloc (.cells #[.bool false] 78)).alloc (.cells #[.bool false, .slice none 0 0] 80)).alloc (.cells #[.string ⟨#[120]⟩] 82)) := (((Below.refl _ wO).alloc (Nat.le_refl _) _).alloc (by simp) _).alloc (by simp; omega) _
      have hx3 : Box wO (((wO.alloc (.cells #[.bool false] 78)).alloc (.cells #[.bool false, .slice none 0 0] 80)).alloc (.cells #[.string ⟨#[120]⟩] 82)) wO.heap.size #[.bool false] 78 := ((Box.new wO _ _).alloc _).alloc _
      have HB3 := Lib.hid hB3
      have HX3 := Lib.hid hx3
      clear hB3 hx3
      go_wp2_with (first
        | (go_at_call 44; (with_reducible refine (HC1.out _ HB3.out).mono ?_); rintro e w6 ⟨rfl, hl⟩
           have hB6 : Below wO.heap.size wO w6 := HB3.out.trans (hl.mono HB3.out.size)
           have hx9 : Box wO w6 wO.heap.size #[.bool false] 78 := HX3.out.step hl
           have hBT : Below wO.heap.size wO (w6.alloc (.cells #[.bool true] 78)) := hB6.alloc hB6.size _
           have g9 : (w6.alloc (.cells #[.bool true] 78)).cell? ⟨wO.heap.size, 0, none⟩ = some (.bool false) := (hx9.alloc _).cell 0
           have HBT := Lib.hid hBT
           clear hl hB6 hx9 hBT)
        | (go_at_call 44; (with_reducible refine (HC2.out _ _ HBT.out).mono ?_); rintro e w8 ⟨rfl, hl⟩
           have hB8 := HBT.out.trans (hl.mono HBT.out.size)))
      go_ret
      exact ⟨rfl, hstep.out _ _ hwO hB8⟩
  · have HREL := Lib.hid (show relR a1 = 3 by unfold relR; rw [if_pos hrel])
    have HMAX := Lib.hid (show max a2 0 = 0 by omega)
    clear hrel hmax
    rcases hbad with ⟨h1, h2, h3⟩ | ⟨h1, h2⟩
    all_goals
      go_enter Try.func11, Try.ntmps11
      go_wp2_with fail
      refine (awake_any _).mono ?_
      rintro e w1 ⟨rfl, hb1⟩
      have hX1 := HX.out.step hb1
      have hw1 : Below w.heap.size w w1 := hX1.below
      obtain ⟨g0, g1, g2, g3, g4, g5, g6, g7, g8⟩ := hX1.c9
      have HX1 := Lib.hid hX1
      clear hb1 hX1
      go_wp2_with (first
        | (go_at_call 24; (with_reducible refine (HRT.out _ (by assumption)).mono ?_); rintro e w2 ⟨rfl, hb2⟩; have hw2 : Below w.heap.size w w2 := hstep.out _ _ hw1 hb2; have hX2 := HX1.out.step hb2; obtain ⟨f0, f1, f2, f3, f4, f5, f6, f7, f8⟩ := hX2.c9; have HX2 := Lib.hid hX2; clear hb2 hX2)
        | (go_at_call 22; (with_reducible refine (HOT.out _ (by assumption)).mono ?_); intro e wO hp; obtain ⟨v0, rfl, hv0, hb4⟩ := hp.yes HOF0.out; obtain ⟨u0, z0, rfl⟩ := hv0.iface HNE0.out; have HF := Lib.hid hv0; have hwO : Below w.heap.size w wO := hstep.out _ _ hw2 hb4; clear hb4 hv0 hp; skip))
      have HC1 := Lib.hid (show ∀ (W' : World) (a : Option Addr), Below wO.heap.size wO W' → Calls Try.prog 44 #[.iface 91 (.agg #[.iface 88 (.agg #[.nilIface, .iface 72 (.agg #[.iface 82 (.agg #[.string ⟨#[120]⟩]), .int .i64 a2])]), .int .i64 a1, .iface 89 (.pointer a)]), .iface 91 (.agg #[.iface 88 (.agg #[.iface 80 (.agg #[.bool false, .slice none 0 0]), .iface 72 (.agg #[.iface 82 (.agg #[.string ⟨#[120]⟩]), .int .i64 0])]), .int .i64 3, .iface 80 (.agg #[.bool false, .slice none 0 0])])] W' fun e w2 => e = .returned (.bool true) ∧ Below W'.heap.size W' w2 from fun W' a hW => by
        exact fsame_any (.atom (.add .odd (.pow (.name ⟨#[120]⟩) a2)) a1 .odd) (.atom (.add (.num false []) (.pow (.name ⟨#[120]⟩) 0)) 3 (.num false [])) _ _ (fun b => b < W'.heap.size) W' (fun b h => h) ⟨_, _, rfl, ⟨_, _, rfl, .inl rfl, ⟨_, rfl, ⟨rfl, by decide⟩⟩⟩, ptr_odd _ _ (ptrT _ (by simp))⟩ ⟨_, _, rfl, ⟨_, _, rfl, ⟨none, 0, 0, rfl, AbsAt.empty⟩, ⟨_, rfl, ⟨rfl, by decide⟩⟩⟩, ⟨none, 0, 0, rfl, AbsAt.empty⟩⟩ ⟨⟨trivial, trivial⟩, trivial⟩ ⟨⟨Nat.zero_le _, trivial⟩, Nat.zero_le _⟩ true ⟨fun _ => atom_same a1 a2 HREL.out HMAX.out, fun _ => rfl⟩)
      have HC2 := Lib.hid (show ∀ (W' : World), Below wO.heap.size wO W' → Calls Try.prog 44 #[.iface 93 (.agg #[.nilIface]), .iface 93 (.agg #[.iface 78 (.agg #[.bool false])])] W' fun e w2 => e = .returned (.bool true) ∧ Below W'.heap.size W' w2 from fun W' hW => by
        exact fsame_any (.not .odd) (.not (.truth false)) _ _ (fun b => b < W'.heap.size) W' (fun b h => h) ⟨_, rfl, .inl rfl⟩ ⟨_, rfl, rfl⟩ trivial trivial true ⟨fun _ => not_same, fun _ => rfl⟩)
      have HC3 := Lib.hid (show ∀ (W' : World) (a : Option Addr), Below wO.heap.size wO W' → Calls Try.prog 44 #[.iface 91 (.agg #[.iface 88 (.agg #[.nilIface, .iface 72 (.agg #[.iface 82 (.agg #[.string ⟨#[120]⟩]), .int .i64 a2])]), .int .i64 a1, .iface 89 (.pointer a)]), .iface 78 (.agg #[.bool false])] W' fun e w2 => e = .returned (.bool false) ∧ Below W'.heap.size W' w2 from fun W' a hW => by
        exact fsame_any (.atom (.add .odd (.pow (.name ⟨#[120]⟩) a2)) a1 .odd) (.truth false) _ _ (fun b => b < W'.heap.size) W' (fun b h => h) ⟨_, _, rfl, ⟨_, _, rfl, .inl rfl, ⟨_, rfl, ⟨rfl, by decide⟩⟩⟩, ptr_odd _ _ (ptrT _ (by simp))⟩ rfl ⟨⟨trivial, trivial⟩, trivial⟩ trivial false ⟨fun h => (by cases h), fun h => absurd h (atom_truth _ _ _ _)⟩)
      have hB6 : Below wO.heap.size wO ((((((wO.alloc (.cells #[.bool false] 78)).alloc (.cells #[.bool false, .slice none 0 0] 80)).alloc (.cells #[.string ⟨#[120]⟩] 82)).alloc (.cells #[.iface 82 (.agg #[.string ⟨#[120]⟩]), .int .i64 a2] 72)).alloc (.cells #[.iface 88 (.agg #[.nilIface, .iface 72 (.agg #[.iface 82 (.agg #[.string ⟨#[120]⟩]), .int .i64 a2])]), .int .i64 a1, .iface 89 (.pointer (some ⟨wO.heap.size + 1 + 1, 0, none⟩))] 91)).alloc (.cells #[.iface 88 (.agg #[.iface 80 (.agg #[.bool false, .slice none 0 0]), .iface 72 (.agg #[.iface 82 (.agg #[.string ⟨#[120]⟩]), .int .i64 0])]), .int .i64 3, .iface 80 (.agg #[.bool false, .slice none 0 0])] 91)) := ((((((Below.refl _ wO).alloc (Nat.le_refl _) _).alloc (by simp) _).alloc (by simp; omega) _).alloc (by simp; omega) _).alloc (by simp; omega) _).alloc (by simp; omega) _
      have hx9 : Box wO ((((((wO.alloc (.cells #[.bool false] 78)).alloc (.cells #[.bool false, .slice none 0 0] 80)).alloc (.cells #[.string ⟨#[120]⟩] 82)).alloc (.cells #[.iface 82 (.agg #[.string ⟨#[120]⟩]), .int .i64 a2] 72)).alloc (.cells #[.iface 88 (.agg #[.nilIface, .iface 72 (.agg #[.iface 82 (.agg #[.string ⟨#[120]⟩]), .int .i64 a2])]), .int .i64 a1, .iface 89 (.pointer (some ⟨wO.heap.size + 1 + 1, 0, none⟩))] 91)).alloc (.cells #[.iface 88 (.agg #[.iface 80 (.agg #[.bool false, .slice none 0 0]), .iface 72 (.agg #[.iface 82 (.agg #[.string ⟨#[120]⟩]), .int .i64 0])]), .int .i64 3, .iface 80 (.agg #[.bool false, .slice none 0 0])] 91)) wO.heap.size #[.bool false] 78 := (((((Box.new wO _ _).alloc _).alloc _).alloc _).alloc _).alloc _
      have hx13 : Box ((((wO.alloc (.cells #[.bool false] 78)).alloc (.cells #[.bool false, .slice none 0 0] 80)).alloc (.cells #[.string ⟨#[120]⟩] 82)).alloc (.cells #[.iface 82 (.agg #[.string ⟨#[120]⟩]), .int .i64 a2] 72)) ((((((wO.alloc (.cells #[.bool false] 78)).alloc (.cells #[.bool false, .slice none 0 0] 80)).alloc (.cells #[.string ⟨#[120]⟩] 82)).alloc (.cells #[.iface 82 (.agg #[.string ⟨#[120]⟩]), .int .i64 a2] 72)).alloc (.cells #[.iface 88 (.agg #[.nilIface, .iface 72 (.agg #[.iface 82 (.agg #[.string ⟨#[120]⟩]), .int .i64 a2])]), .int .i64 a1, .iface 89 (.pointer (some ⟨wO.heap.size + 1 + 1, 0, none⟩))] 91)).alloc (.cells #[.iface 88 (.agg #[.iface 80 (.agg #[.bool false, .slice none 0 0]), .iface 72 (.agg #[.iface 82 (.agg #[.string ⟨#[120]⟩]), .int .i64 0])]), .int .i64 3, .iface 80 (.agg #[.bool false, .slice none 0 0])] 91)) ((((wO.alloc (.cells #[.bool false] 78)).alloc (.cells #[.bool false, .slice none 0 0] 80)).alloc (.cells #[.string ⟨#[120]⟩] 82)).alloc (.cells #[.iface 82 (.agg #[.string ⟨#[120]⟩]), .int .i64 a2] 72)).heap.size #[.iface 88 (.agg #[.nilIface, .iface 72 (.agg #[.iface 82 (.agg #[.string ⟨#[120]⟩]), .int .i64 a2])]), .int .i64 a1, .iface 89 (.pointer (some ⟨wO.heap.size + 1 + 1, 0, none⟩))] 91 := (Box.new ((((wO.alloc (.cells #[.bool false] 78)).alloc (.cells #[.bool false, .slice none 0 0] 80)).alloc (.cells #[.string ⟨#[120]⟩] 82)).alloc (.cells #[.iface 82 (.agg #[.string ⟨#[120]⟩]), .int .i64 a2] 72)) _ _).alloc _
      have hsz : ((((wO.alloc (.cells #[.bool false] 78)).alloc (.cells #[.bool false, .slice none 0 0] 80)).alloc (.cells #[.string ⟨#[120]⟩] 82)).alloc (.cells #[.iface 82 (.agg #[.string ⟨#[120]⟩]), .int .i64 a2] 72)).heap.size = wO.heap.size + 1 + 1 + 1 + 1 := by simp
      have HB6 := Lib.hid hB6
      have HX9 := Lib.hid hx9
      have HX13 := Lib.hid hx13
      have HSZ := Lib.hid hsz
      clear hB6 hx9 hx13 hsz
      go_wp2_with (first
        | (go_at_call 44; (with_reducible refine (HC1.out _ _ HB6.out).mono ?_); rintro e w7 ⟨rfl, hl⟩
           have hB7 : Below wO.heap.size wO w7 := HB6.out.trans (hl.mono HB6.out.size)
           have hx9 := HX9.out.step hl
           have HX97 := Lib.hid hx9
           have HX137 := Lib.hid (HX13.out.step hl)
           have HB7 := Lib.hid hB7
           have g9 : w7.cell? ⟨wO.heap.size, 0, none⟩ = some (.bool false) := hx9.cell 0
           clear hl hB7 hx9)
        | (go_at_call 44; (with_reducible refine (HC2.out _ HB7.out).mono ?_); rintro e w8 ⟨rfl, hl⟩
           have hB8 : Below wO.heap.size wO w8 := HB7.out.trans (hl.mono HB7.out.size)
           have hx9 := HX97.out.step hl
           have hx13 := HX137.out.step hl
           rw [HSZ.out] at hx13
           have g9' : w8.cell? ⟨wO.heap.size, 0, none⟩ = some (.bool false) := hx9.cell 0
           have g13 : w8.cell? ⟨wO.heap.size + 1 + 1 + 1 + 1, 0, none⟩ = some (.iface 88 (.agg #[.nilIface, .iface 72 (.agg #[.iface 82 (.agg #[.string ⟨#[120]⟩]), .int .i64 a2])])) := hx13.cell 0
           have g13' : w8.cell? ⟨wO.heap.size + 1 + 1 + 1 + 1, 1, none⟩ = some (.int .i64 a1) := hx13.cell 1
           have g13'' : w8.cell? ⟨wO.heap.size + 1 + 1 + 1 + 1, 2, none⟩ = some (.iface 89 (.pointer (some ⟨wO.heap.size + 1 + 1, 0, none⟩))) := hx13.cell 2
           have HB8 := Lib.hid hB8
           clear hl hB8 hx9 hx13)
        | (go_at_call 44; (with_reducible refine (HC3.out _ _ HB8.out).mono ?_); rintro e w9 ⟨rfl, hl⟩
           have hB9 := HB8.out.trans (hl.mono HB8.out.size)))
      go_ret
      exact ⟨rfl, hstep.out _ _ hwO hB9⟩


theorem laidOut : laidOutB Try.prog = true := by kernel_rfl

theorem own : ownKnob Try.prog.godebug = none := by kernel_rfl

set_option maxRecDepth 100000 in
theorem lifted (os : Os) (started : os.Started) (H : Type) (enc : TypeId × Value → H) :
    ReturnsInHanded {} Try.checked os 11 .any (Rows.formulaOddSpec.pre6 enc Try.prog Try.f11 Rows.formulaOddRow.domain false) (Rows.formulaOddSpec.post enc Try.prog Try.f11 false true false false) := by
  refine returnsInHanded_of_change (C := Try.checked) own started (by kernel_rfl) Try.func11
    (ChangeSpec.witness6 (enc := enc) (C := Try.checked) false ⟨#[], #[.agg #[.int .i64 0, .bool false, .slice none 0 0, .string ByteArray.empty, .int .i64 0, .int .i64 0, .bool false, .bool false, .slice none 0 0], .int .i64 0, .int .i64 0], []⟩ 8 (by kernel_rfl) (by kernel_rfl) (by kernel_rfl) (by kernel_rfl)) ?_
  intro W base args ds gs before hval0 hW hcnd _
  have hval : ∀ (j : Nat) t v, Try.f11.params[j]? = some t → args[j]? = some v → Value.okWide Try.prog W .any base t v := hval0
  have hW' := hW
  obtain ⟨p, q, hA0, hV, rfl, hfz, hnd⟩ := hW
  have hA : DataW.TrodAll enc Try.prog W 0 (fun _ => true) true Try.f11.params.toList args.toList ds p := hA0
  rw [Try.params11] at hA hval
  obtain ⟨v0, vs0, d0, ds0, p0, q0, hargs, rfl, rfl, h0, r0⟩ := trodAll_cons hA
  obtain ⟨v1, vs1, d1, ds1, p1, q1, rfl, rfl, rfl, h1, r1⟩ := trodAll_cons r0
  obtain ⟨v2, vs2, d2, ds2, p2, q2, rfl, rfl, rfl, h2, r2⟩ := trodAll_cons r1
  obtain ⟨rfl, rfl, rfl⟩ := trodAll_nil r2
  obtain rfl : args = #[v0, v1, v2] := by cases args; simp_all
  obtain ⟨rfl, rfl⟩ := trodVars_none hV
  obtain ⟨cs0, rfl, hl0⟩ := okWide_struct Try.underlying29 (hval 0 29 v0 rfl rfl)
  have hl0' : cs0.toList.length = 9 := by rw [show Try.prog.cellsOf 29 = 9 by kernel_rfl] at hl0; simpa using hl0
  have h0k := h0
  obtain ⟨fuel0, hf0⟩ := h0
  obtain ⟨t0, hT0⟩ := open_tree fuel0 fuel0 (Nat.le_refl _) _ _ hl0' hf0
  obtain ⟨a1, rfl, rfl, rfl, w1⟩ := open_int Try.underlying3 (hval 1 3 v1 rfl rfl) h1
  obtain ⟨a2, rfl, rfl, rfl, w2⟩ := open_int Try.underlying3 (hval 2 3 v2 rfl rfl) h2
  clear hA0 hval0
  simp only [List.append_nil] at hW'
  have hlt0 : ∀ x ∈ p0, x.block < W.heap.size := fun x hx => by simpa using hW'.lt x (by simp [hx])
  refine (walk t0 cs0.toList a1 a2 w1 w2 W hT0).mono fun e W' ⟨he, bel⟩ => ?_
  subst he
  exact ⟨_, rfl, _, _, _, [], _, [], hW', trodAll_mk1 (shut_bool Try.underlying4 _), (trodAll_cons_mk (Below.trod laidOut (by kernel_rfl) (of_decide_eq_true (by kernel_rfl)) h0k bel hlt0) (trodAll_cons_mk (shut_int Try.underlying3 w1) (trodAll_cons_mk (shut_int Try.underlying3 w2) trodAll_mk0))), rfl, bel.frame _, fun h => by cases h⟩

theorem over : Rows.formulaOddRow.holds Try.pinned (OpenSpec.ofChange Rows.formulaOddSpec) :=
  OpenClaim.holds_of_wide 11 Try.f11 rfl rfl rfl rfl rfl rfl rfl ⟨rfl, rfl, rfl, rfl, rfl⟩ rfl rfl rfl rfl rfl (by kernel_rfl) Try.func11 (by kernel_rfl)
    (of_decide_eq_true (by kernel_rfl)) (by unfold Func.isWrapper; first | (rw [if_pos (by decide +kernel)]; kernel_rfl) | (rw [if_neg (by decide +kernel)]; exact ⟨rfl, rfl⟩))
    (fun os started H enc _ => lifted os started H enc)

/-- THE STATEMENT -/
theorem proved : Rows.FormulaOddSaid := over
end Go.Proofs.Ytjbgdaojhdobkaa.formulaOdd
