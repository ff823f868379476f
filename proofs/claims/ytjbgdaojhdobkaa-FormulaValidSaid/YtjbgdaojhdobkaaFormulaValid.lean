/-
  FormulaValid: for every string that came in the law returns true: Valid accepts exactly the valid names, and Check says ErrName of a formula with an invalid one. No condition.
-/
import Derived.Test.YtjbgdaojhdobkaaCkD
import Derived.Test.YtjbgdaojhdobkaaFmX
import Derived.Test.YtjbgdaojhdobkaaFmAw
import Derived.Test.YtjbgdaojhdobkaaFmOpn
import Derived.Test.YtjbgdaojhdobkaaFmP
import Derived.Test.YtjbgdaojhdobkaaRows
import Derived.ProofKit
import Derived.OpenShut
import Derived.ShutString
import Derived.Carry
namespace Go.Proofs.Ytjbgdaojhdobkaa.formulaValid
open Go.ChangeShapes Go.WideShapes Go.ChangeAt Go.RowKit Go.Sort Go.Proofs.Ytjbgdaojhdobkaa Go.Proofs.Ytjbgdaojhdobkaa.Fm Go.Proofs.Ytjbgdaojhdobkaa.Dc Go.Proofs.Ytjbgdaojhdobkaa.Va
open Go.ChangeMaps (open_string shut_string)
set_option linter.unusedVariables false
set_option linter.unusedSimpArgs false
attribute [local go_sem] run_store

theorem fold_nil (L : List ByteArray) (v : Bool) : L.foldl (fStep []) v = v := by
  induction L generalizing v with
  | nil => rfl
  | cons a l ih => rw [List.foldl_cons, ih]; unfold fStep; simp
abbrev fo (s : ByteArray) : Fo := .atom (.name s) 3 (.num false [])
theorem ok_fo (s : ByteArray) : ckOk (fo s) = validB s.data.toList := by
  have h : ckS2 (fo s) = ((1, [s], validB s.data.toList), []) := rfl
  unfold ckOk
  rw [h]
  exact fold_nil _ _
theorem check_fo (s : ByteArray) (R : Bool) (hR : R = validB s.data.toList) : ∃ c : Int, c = checkF (fo s) ∧ ((R = false → c = 7) ∧ (R = true → c = 0 ∨ c = 8)) := by
  refine ⟨_, rfl, ?_, ?_⟩
  · intro h; unfold checkF; rw [ok_fo, ← hR, h]; rfl
  · intro h; unfold checkF; rw [ok_fo, ← hR, h]
    rw [if_neg (by simp)]
    split
    · exact .inr rfl
    · exact .inl rfl
theorem free_fo (s : ByteArray) : (freeN (fo s)).length ≤ 100000 ∧ ∀ nm ∈ freeN (fo s), nm = s := by
  have h : freeN (fo s) = [s] := by
    show freeStep [] (fun _ => 0) s = [s]
    unfold freeStep; simp [addN]
  rw [h]
  exact ⟨by simp, fun nm h => by simpa using h⟩

theorem c3B {w wr : World} {b : Nat} {x0 x1 x2 : Value} {T : TypeId} (h : Box w wr b #[x0, x1, x2] T) : wr.cell? ⟨b, 0, none⟩ = some x0 ∧ wr.cell? ⟨b, 1, none⟩ = some x1 ∧ wr.cell? ⟨b, 2, none⟩ = some x2 := ⟨h.cell 0, h.cell 1, h.cell 2⟩

set_option maxHeartbeats 8000000 in
set_option maxRecDepth 100000 in
theorem walk (s : ByteArray) (hs : s.size ≤ 9223372036854775807) (w : World) :
    Calls Try.prog 13 #[.string s] w fun e w' => e = .returned (.bool true) ∧ Below w.heap.size w w' := by
  by_cases hl : 40 < s.size
  · go_enter Try.func13, Try.ntmps13
    go_wp2_with fail
    refine (awake_any _).mono ?_
    rintro e w1 ⟨rfl, hb1⟩
    go_wp2_with (first
      | (go_at_call 15; refine (awake_any _).mono ?_; rintro e w2 ⟨rfl, hb2⟩))
    go_ret
    exact ⟨rfl, hb1.trans (hb2.mono hb1.size)⟩
  · obtain ⟨R, hR⟩ : ∃ R, R = validB s.data.toList := ⟨_, rfl⟩
    have HV := Lib.hid (show ∀ w, Calls Try.prog 45 #[.string s] w fun e w' => e = .returned (.bool R) ∧ w = w' from fun w => by rw [hR]; exact valid_any s w hs)
    have HRV := Lib.hid (show ∀ w, Calls Try.prog 46 #[.string s] w fun e w' => e = .returned (.bool R) ∧ Below w.heap.size w w' from fun w => by rw [hR]; exact rvalid_any s w (by omega))
    obtain ⟨c, hc, hc7, hc0⟩ := check_fo s R hR
    have HC := Lib.hid (show ∀ w, Calls Try.prog 47 #[.iface 91 (.agg #[.iface 82 (.agg #[.string s]), .int .i64 3, .iface 80 (.agg #[.bool false, .slice none 0 0])])] w fun e w' => e = .returned (.int .i64 c) ∧ Below w.heap.size w w' from fun w => by
      rw [hc]
      exact check_any (fo s) _ (fun _ => False) w (fun b h => h.elim) ⟨_, _, rfl, ⟨rfl, hs⟩, ⟨none, 0, 0, rfl, AbsAt.empty⟩⟩ ⟨by trivial, by show _ ≤ _; simp⟩ (by show 1 + 0 + 1 ≤ 100000; omega) (free_fo s).1 (by show fnn (fo s) ≤ _; simp [fnn, tn]) (fun nm h => by simp [boundN] at h) (fun nm h => by rw [(free_fo s).2 nm h]; exact hs))
    clear hc hR
    cases R
    · obtain rfl : c = 7 := hc7 rfl
      clear hc7 hc0
      go_enter Try.func13, Try.ntmps13
      go_wp2_with fail
      refine (awake_any _).mono ?_
      rintro e w1 ⟨rfl, hb1⟩
      go_wp2_with fail
      have hx := Box.new w1 #[.iface 82 (.agg #[.string s]), .int .i64 3, .iface 80 (.agg #[.bool false, .slice none 0 0])] 91
      obtain ⟨W, hW⟩ : ∃ W, w1.alloc (.cells #[.iface 82 (.agg #[.string s]), .int .i64 3, .iface 80 (.agg #[.bool false, .slice none 0 0])] 91) = W := ⟨_, rfl⟩
      rw [hW] at hx ⊢
      refine (HV.out _).mono ?_
      rintro e w2 ⟨rfl, rfl⟩
      have HX := Lib.hid hx
      have HB1 := Lib.hid hb1
      clear hW hx hb1
      go_wp2_with (first
        | (go_at_call 46; refine (HRV.out _).mono ?_; rintro e w3 ⟨rfl, hb3⟩; have hx3 := HX.out.step hb3; obtain ⟨g0, g1, g2⟩ := c3B hx3; have HX3 := Lib.hid hx3; clear hb3 hx3)
        | (go_at_call 47; refine (HC.out _).mono ?_; rintro e w4 ⟨rfl, hb4⟩; have HX4 := Lib.hid (HX3.out.step hb4); clear hb4)
        | (go_at_call 45; refine (HV.out _).mono ?_; rintro e w5 ⟨rfl, rfl⟩))
      go_ret
      exact ⟨rfl, HB1.out.trans (HX4.out.below.mono HB1.out.size)⟩
    · rcases hc0 rfl with rfl | rfl
      all_goals
        clear hc7 hc0
        go_enter Try.func13, Try.ntmps13
        go_wp2_with fail
        refine (awake_any _).mono ?_
        rintro e w1 ⟨rfl, hb1⟩
        go_wp2_with fail
        have hx := Box.new w1 #[.iface 82 (.agg #[.string s]), .int .i64 3, .iface 80 (.agg #[.bool false, .slice none 0 0])] 91
        obtain ⟨W, hW⟩ : ∃ W, w1.alloc (.cells #[.iface 82 (.agg #[.string s]), .int .i64 3, .iface 80 (.agg #[.bool false, .slice none 0 0])] 91) = W := ⟨_, rfl⟩
        rw [hW] at hx ⊢
        refine (HV.out _).mono ?_
        rintro e w2 ⟨rfl, rfl⟩
        have HX := Lib.hid hx
        have HB1 := Lib.hid hb1
        clear hW hx hb1
        go_wp2_with (first
          | (go_at_call 46; refine (HRV.out _).mono ?_; rintro e w3 ⟨rfl, hb3⟩; have hx3 := HX.out.step hb3; obtain ⟨g0, g1, g2⟩ := c3B hx3; have HX3 := Lib.hid hx3; clear hb3 hx3)
          | (go_at_call 47; refine (HC.out _).mono ?_; rintro e w4 ⟨rfl, hb4⟩; have HX4 := Lib.hid (HX3.out.step hb4); clear hb4)
          | (go_at_call 45; refine (HV.out _).mono ?_; rintro e w5 ⟨rfl, rfl⟩))
        go_ret
        exact ⟨rfl, HB1.out.trans (HX4.out.below.mono HB1.out.size)⟩

theorem own : ownKnob Try.prog.godebug = none := by kernel_rfl

set_option maxRecDepth 100000 in
theorem lifted (os : Os) (started : os.Started) (H : Type) (enc : TypeId × Value → H) :
    ReturnsInHanded {} Try.checked os 13 .any (Rows.formulaValidSpec.pre6 enc Try.prog Try.f13 Rows.formulaValidRow.domain false) (Rows.formulaValidSpec.post enc Try.prog Try.f13 false true false false) := by
  refine returnsInHanded_of_change (C := Try.checked) own started (by kernel_rfl) Try.func13
    (ChangeSpec.witness6 (enc := enc) (C := Try.checked) false ⟨#[], #[.string ByteArray.empty], []⟩ 8 (by kernel_rfl) (by kernel_rfl) (by kernel_rfl) (by kernel_rfl)) ?_
  intro W base args ds gs before hval0 hW hcnd _
  have hval : ∀ (j : Nat) t v, Try.f13.params[j]? = some t → args[j]? = some v → Value.okWide Try.prog W .any base t v := hval0
  have hW' := hW
  obtain ⟨p, q, hA0, hV, rfl, hfz, hnd⟩ := hW
  have hA : DataW.TrodAll enc Try.prog W 0 (fun _ => true) true Try.f13.params.toList args.toList ds p := hA0
  rw [Try.params13] at hA hval
  obtain ⟨v0, vs0, d0, ds0, p0, q0, hargs, rfl, rfl, h0, r0⟩ := trodAll_cons hA
  obtain ⟨rfl, rfl, rfl⟩ := trodAll_nil r0
  obtain rfl : args = #[v0] := by cases args; simp_all
  obtain ⟨rfl, rfl⟩ := trodVars_none hV
  obtain ⟨a0, rfl, rfl, rfl, w0⟩ := open_string Try.underlying9 (hval 0 9 v0 rfl rfl) h0
  clear hA0 hval0
  simp only [List.append_nil] at hW'
  refine (walk a0 w0 W ).mono fun e W' ⟨he, bel⟩ => ?_
  subst he
  exact ⟨_, rfl, _, _, _, [], _, [], hW', trodAll_mk1 (shut_bool Try.underlying4 _), (trodAll_cons_mk (shut_string Try.underlying9 w0) trodAll_mk0), rfl, bel.frame _, fun h => by cases h⟩

theorem over : Rows.formulaValidRow.holds Try.pinned (OpenSpec.ofChange Rows.formulaValidSpec) :=
  OpenClaim.holds_of_wide 13 Try.f13 rfl rfl rfl rfl rfl rfl rfl ⟨rfl, rfl, rfl, rfl, rfl⟩ rfl rfl rfl rfl rfl (by kernel_rfl) Try.func13 (by kernel_rfl)
    (of_decide_eq_true (by kernel_rfl)) (by unfold Func.isWrapper; first | (rw [if_pos (by decide +kernel)]; kernel_rfl) | (rw [if_neg (by decide +kernel)]; exact ⟨rfl, rfl⟩))
    (fun os started H enc _ => lifted os started H enc)

/-- THE STATEMENT -/
theorem proved : Rows.FormulaValidSaid := over
end Go.Proofs.Ytjbgdaojhdobkaa.formulaValid
