/-
  PrinterOdd: for every two numbers that came in the law returns true: what counts as something else is printed as that. No condition beside what the row lists.
-/
import Derived.Test.YtkjbfomokdjbnaaDoorPrW
import Derived.Test.YtkjbfomokdjbnaaDoorCards
import Derived.Test.YtkjbfomokdjbnaaDoorTie
import Derived.ProofKit
import Derived.OpenShut
import Derived.ShutString
import Derived.Carry
import Derived.LaidMore
import Derived.Stop.Joined
import Derived.SevenTiedAt
import Derived.Shelf.Strconv.Itoa3
namespace Go.Proofs.YtkjbfomokdjbnaaDoor.printerOdd
open Go.ChangeShapes Go.WideShapes Go.ChangeAt Go.WideMaps Go.WideElems Go.RowKit Go.Proofs.YtkjbfomokdjbnaaDoor Go.Proofs.YtkjbfomokdjbnaaDoor.Fm Go.Proofs.YtkjbfomokdjbnaaDoor.Pr
set_option linter.unusedVariables false
set_option linter.unusedSimpArgs false
attribute [local go_sem] run_store

def oF (a0 a1 : Int) : Fo := .and (.atom (.pow (.name xN) a1) a0 .odd) .odd
theorem oF_pr (a0 a1 : Int) (h0 : relR a0 = 3) (h1 : max a1 0 = 0) : prF (oF a0 a1) = .and (.atom (.pow (.name xN) 0) 3 (.num false [])) (.truth false) := by
  show posF (canFo (oF a0 a1)) = _
  simp only [oF, canFo, canTm, h0, h1]
  rfl
theorem oF_plain (a0 a1 : Int) (h0 : relR a0 = 3) (h1 : max a1 0 = 0) : plainF (oF a0 a1) = plainF (.and (.atom (.pow (.name xN) 0) 3 (.num false [])) (.truth false)) := by
  simp only [oF, plainF, plainT, h0, h1]
  rfl
theorem oK_named : nmdT (plainF (.and (.atom (.pow (.name xN) 0) 3 (.num false [])) (.truth false))) = true := by kernel_rfl
theorem oK_text : txtF (.and (.atom (.pow (.name xN) 0) 3 (.num false [])) (.truth false)) = [120, 94, 48, 32, 61, 32, 48, 32, 97, 110, 100, 32, 102, 97, 108, 115, 101] := by kernel_rfl
theorem oF_at (a0 a1 : Int) (w : World) : FoAt w (fun _ => False) (oF a0 a1) (.iface 53 (.agg #[.iface 51 (.agg #[.iface 49 (.agg #[.iface 47 (.agg #[.string ⟨#[120]⟩]), .int .i64 a1]), .int .i64 a0, .nilIface]), .nilIface])) :=
  ⟨_, _, rfl, ⟨_, _, rfl, ⟨_, rfl, xN_at w⟩, .inl rfl⟩, .inl rfl⟩
theorem oK_sm : Sm (plainF (.and (.atom (.pow (.name xN) 0) 3 (.num false [])) (.truth false))) := smB_sm _ (by kernel_rfl)
def oT : Tm := .mul .odd (.sub (.name xN) (.name xN))
theorem oT_named : nmdT (plainT oT) = true := by kernel_rfl
theorem oT_text : txtT (prT oT) = [48, 42, 40, 120, 32, 45, 32, 120, 41] := by kernel_rfl
theorem oT_exp : expT (prT oT) = [] := by kernel_rfl
theorem oT_sm : Sm (plainT oT) := smB_sm _ (by kernel_rfl)
theorem ptr_odd (u : TypeId) (a : Option Addr) (h : u ∉ [tNum, tName, tAdd, tSub, tMul, tNeg, tPow, tTruth, tAtom, tNot, tAnd, tOr, tImplies, tIff, tQuant]) : OddV (.iface u (.pointer a)) := .inr ⟨u, a, rfl, h⟩
theorem oT_at (a : Option Addr) (w : World) : TmAt w (fun _ => False) oT (.iface 57 (.agg #[.iface 54 (.pointer a), .iface 56 (.agg #[.iface 47 (.agg #[.string ⟨#[120]⟩]), .iface 47 (.agg #[.string ⟨#[120]⟩])])])) :=
  ⟨_, _, rfl, ptr_odd _ _ (by decide), ⟨_, _, rfl, xN_at w, xN_at w⟩⟩
theorem relR_odd (a0 : Int) (h : a0 < 1 ∨ 6 < a0) : relR a0 = 3 := by unfold relR; rw [if_pos h]
set_option maxHeartbeats 8000000 in
set_option maxRecDepth 100000 in
theorem walk (a0 a1 : Int) (w1' : (Lit.int .i64 a0).wf = true) (w2' : (Lit.int .i64 a1).wf = true) (w : World) :
    Calls Tryd.prog 5 #[.int .i64 a0, .int .i64 a1] w fun e w' => e = .returned (.bool true) ∧ Below w.heap.size w w' := by
  clear w1' w2'
  by_cases hc : 1 ≤ a0 ∧ a0 ≤ 6
  · obtain ⟨h1, h2⟩ := hc
    go_enter Tryd.func5, Tryd.ntmps5
    go_wp2_with fail
    refine (awake_any _).mono ?_
    rintro e w1 ⟨rfl, hb1⟩
    have HB1 := Lib.hid hb1
    clear hb1
    go_wp2_with fail
    refine (awake_any _).mono ?_
    rintro e w2 ⟨rfl, hb2⟩
    have HB2 := Lib.hid (HB1.out.trans (hb2.mono HB1.out.size))
    clear hb2
    go_wp2
    go_ret
    exact ⟨rfl, HB2.out⟩
  by_cases hp : 0 ≤ a1
  · have hq : (decide (1 ≤ a0) = true ∧ decide (a0 ≤ 6) = false) ∨ (decide (1 ≤ a0) = false ∧ True) := by
      by_cases h1 : 1 ≤ a0
      · by_cases h2 : a0 ≤ 6
        · exact absurd ⟨h1, h2⟩ hc
        · exact .inl ⟨by simpa using h1, by simpa using h2⟩
      · exact .inr ⟨by simpa using h1, trivial⟩
    clear hc
    rcases hq with ⟨h1, h2⟩ | ⟨h1, -⟩
    all_goals
      go_enter Tryd.func5, Tryd.ntmps5
      go_wp2_with fail
      refine (awake_any _).mono ?_
      rintro e w1 ⟨rfl, hb1⟩
      have HB1 := Lib.hid hb1
      clear hb1
      go_wp2_with fail
      refine (awake_any _).mono ?_
      rintro e w2 ⟨rfl, hb2⟩
      have HB2 := Lib.hid (HB1.out.trans (hb2.mono HB1.out.size))
      clear hb2
      go_wp2
      go_ret
      exact ⟨rfl, HB2.out⟩
  have hr := relR_odd a0 (by omega)
  have hm : max a1 0 = 0 := by omega
  have hf := fun w' (hI : ItW w' 0) => format_ok (oF a0 a1) _ _ w' (fun b h => h.elim) (oF_at a0 a1 w') ⟨⟨trivial, trivial⟩, trivial⟩ (by rw [oF_plain a0 a1 hr hm]; exact oK_sm) (by rw [oF_plain a0 a1 hr hm]; exact oK_named) (by
    rw [oF_pr a0 a1 hr hm]; intro e he
    have h0 : expF (.and (.atom (.pow (.name xN) 0) 3 (.num false [])) (.truth false)) = [0] := rfl
    rw [h0] at he
    obtain rfl : e = 0 := by simpa using he
    exact hI) (by rw [oF_pr a0 a1 hr hm, oK_text]; decide) ⟨#[120, 94, 48, 32, 61, 32, 48, 32, 97, 110, 100, 32, 102, 97, 108, 115, 101]⟩ (by rw [oF_pr a0 a1 hr hm, oK_text]; rfl)
  have ht := fun a w' => term_ok oT _ _ w' (fun b h => h.elim) (oT_at a w') ⟨trivial, trivial, trivial⟩ oT_sm oT_named (by rw [oT_exp]; simp) (by rw [oT_text]; decide) ⟨#[48, 42, 40, 120, 32, 45, 32, 120, 41]⟩ (by rw [oT_text]; rfl)
  have HF := Lib.hid hf
  have HT := Lib.hid ht
  have hq : (decide (1 ≤ a0) = true ∧ decide (a0 ≤ 6) = false) ∨ (decide (1 ≤ a0) = false ∧ True) := by
    by_cases h1 : 1 ≤ a0
    · by_cases h2 : a0 ≤ 6
      · exact absurd ⟨h1, h2⟩ hc
      · exact .inl ⟨by simpa using h1, by simpa using h2⟩
    · exact .inr ⟨by simpa using h1, trivial⟩
  have hp' : decide (0 ≤ a1) = false := by simpa using hp
  clear hc hf ht hr hm hp
  rcases hq with ⟨h1, h2⟩ | ⟨h1, -⟩
  all_goals
    go_enter Tryd.func5, Tryd.ntmps5
    go_wp2_with fail
    refine (awake_any _).mono ?_
    rintro e w1 ⟨rfl, hb1⟩
    have HB1 := Lib.hid hb1
    clear hb1
    go_wp2_with fail
    refine (HF.out _ (itoa_zero _)).mono ?_
    rintro e w2 ⟨rfl, hb2⟩
    have hx := (hb2.block w1.heap.size (by simp)).trans (heap_alloc_new w1 (.cells #[.string xN] 47))
    have x0 : w2.cell? ⟨w1.heap.size, 0, none⟩ = some (.string xN) := blk_cell hx 0 _ rfl
    have HB2 := Lib.hid (HB1.out.trans ((((Below.refl _ w1).alloc (Nat.le_refl _) _).trans (hb2.mono (by simp))).mono HB1.out.size))
    clear hb2 hx
    go_wp2_with fail
    refine (HT.out _ _).mono ?_
    rintro e w3 ⟨rfl, hb3⟩
    have HB3 := Lib.hid (HB2.out.trans (hb3.mono HB2.out.size))
    clear hb3
    go_wp2
    go_ret
    exact ⟨rfl, HB3.out⟩

theorem own : ownKnob Tryd.prog.godebug = none := by kernel_rfl

theorem door_met (os : Os) (args : Array Value) : laidMetH Tryd.prog Rows.printerOddRow.laid ((World.doorLaid Tryd.prog 400 os).forCall (fun _ _ => 0) ⟨#[], args, []⟩).memory :=
  laidMetH_of_parts3 (fuel := 8) (laidMet_of_run' 8 (by kernel_rfl) (by kernel_rfl)) (by kernel_rfl) (by kernel_rfl)

set_option maxRecDepth 100000 in
theorem lifted (os : Os) (started : os.Started) (H : Type) (enc : TypeId × Value → H) :
    ReturnsInHanded {} Tryd.checked os 5 .any (fun w args => (Rows.printerOddSpec.pre enc Tryd.prog Tryd.f5 [] false w args ∧ laidMetH Tryd.prog Rows.printerOddRow.laid w) ∧ sizedMet enc Tryd.prog Tryd.f5 (OpenSpec.ofChange Rows.printerOddSpec) false w args)
      (Rows.printerOddSpec.post enc Tryd.prog Tryd.f5 false true false false) := by
  refine returnsInHanded_of_change_and (C := Tryd.checked) (X := fun w _ => laidMetH Tryd.prog Rows.printerOddRow.laid w) (fun _ _ _ hh h => h.of_heap hh) own started (by kernel_rfl) Tryd.func5
    (ChangeSpec.witness_shaped (enc := enc) (C := Tryd.checked) (os := os) (X := fun w _ => laidMetH Tryd.prog Rows.printerOddRow.laid w) false (World.doorLaid Tryd.prog 400 os) #[.int .i64 0, .int .i64 0] 8 rfl (World.shaped_of_RefB (by kernel_rfl) (by kernel_rfl)) (by kernel_rfl) (by kernel_rfl) (by kernel_rfl) (door_met os _)) ?_
  intro W base args ds gs before hval0 hW _ _ hL _
  have hval : ∀ (j : Nat) t v, Tryd.f5.params[j]? = some t → args[j]? = some v → Value.okWide Tryd.prog W .any base t v := hval0
  have hW' := hW
  obtain ⟨p, q, hA0, hV, rfl, hfz, hnd⟩ := hW
  have hA : DataW.TrodAll enc Tryd.prog W 0 (fun _ => true) true Tryd.f5.params.toList args.toList ds p := hA0
  rw [Tryd.params5] at hA hval
  obtain ⟨v0, vs0, d0, ds0, p0, q0, hargs, rfl, rfl, h0, r0⟩ := trodAll_cons hA
  obtain ⟨v1, vs1, d1, ds1, p1, q1, rfl, rfl, rfl, h1, r1⟩ := trodAll_cons r0
  obtain ⟨rfl, rfl, rfl⟩ := trodAll_nil r1
  obtain rfl : args = #[v0, v1] := by cases args; simp_all
  obtain ⟨rfl, rfl⟩ := trodVars_none hV
  obtain ⟨a0, rfl, rfl, rfl, w0⟩ := open_int Tryd.underlying3 (hval 0 3 v0 rfl rfl) h0
  obtain ⟨a1, rfl, rfl, rfl, w1⟩ := open_int Tryd.underlying3 (hval 1 3 v1 rfl rfl) h1
  clear hA0 hval0
  simp only [List.append_nil] at hW'
  refine (walk a0 a1 w0 w1 W ).mono fun e W' ⟨he, bel⟩ => ?_
  subst he
  exact ⟨_, rfl, _, _, _, [], _, [], hW', trodAll_mk1 (shut_bool Tryd.underlying4 _), (trodAll_cons_mk (shut_int Tryd.underlying3 w0) (trodAll_cons_mk (shut_int Tryd.underlying3 w1) trodAll_mk0)), rfl, bel.frame _, fun h => by cases h⟩

theorem over : Rows.printerOddRow.holds Tryd.pinned (OpenSpec.ofChange Rows.printerOddSpec) :=
  OpenClaim.holds_of_wide 5 Tryd.f5 rfl rfl rfl rfl rfl rfl rfl ⟨rfl, rfl, rfl, rfl, rfl⟩ rfl rfl rfl rfl rfl (by kernel_rfl) Tryd.func5 (by kernel_rfl)
    (of_decide_eq_true (by kernel_rfl)) (by unfold Func.isWrapper; first | (rw [if_pos (by decide +kernel)]; kernel_rfl) | (rw [if_neg (by decide +kernel)]; exact ⟨rfl, rfl⟩))
    (fun os started H enc _ => lifted os started H enc)

/-- THE STATEMENT: the tied card -/
theorem proved : Rows.PrinterOddCardSaid :=
  Claim7.holds_tied_plain_at .later [] [.data, .data, .data] true _ true
    over (fun _ h => by cases h) (by kernel_rfl) (fun _ h => by cases h) printerOdd_row_tie rfl ⟨rfl, rfl⟩ (by kernel_rfl) rfl
    (fun f fn hf hfn => by
      obtain rfl : f = 5 := Option.some.inj ((show Tryd.prog.funcNamed Rows.printerOddRow.func = some 5 by kernel_rfl).symm.trans hf) |>.symm
      obtain rfl : fn = Tryd.f5 := (Option.some.inj (Tryd.func5.symm.trans hfn)).symm
      exact ⟨by kernel_rfl, fun j t ht => by
        rw [Tryd.params5] at ht
        have hm : t ∈ [3, 3] := by simpa using Array.mem_of_getElem? ht
        have hall : ([3, 3].all fun u => !Tryd.prog.wantsStandIn u) = true := by kernel_rfl
        exact (show Tryd.prog.wantsStandIn t = false by simpa using List.all_eq_true.1 hall t hm)⟩)
    (by kernel_rfl)
end Go.Proofs.YtkjbfomokdjbnaaDoor.printerOdd

