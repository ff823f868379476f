/-
  FormulaChecks: for every tree that came in the law returns true: Check returns the error of the rules on names and of the limits, as the reference says. No condition.
-/
import Derived.Test.YteneobpacobpdaaChC
import Derived.Test.YteneobpacobpdaaFmX
import Derived.Test.YteneobpacobpdaaFmAw
import Derived.Test.YteneobpacobpdaaFmOpn
import Derived.Test.YteneobpacobpdaaFmOf
import Derived.Test.YteneobpacobpdaaRows
import Derived.ProofKit
import Derived.OpenShut
import Derived.ShutString
import Derived.Carry
namespace Go.Proofs.Yteneobpacobpdaa.formulaChecks
open Go.ChangeShapes Go.WideShapes Go.ChangeAt Go.RowKit Go.Sort Go.Proofs.Yteneobpacobpdaa Go.Proofs.Yteneobpacobpdaa.Fm Go.Proofs.Yteneobpacobpdaa.Dc Go.Proofs.Yteneobpacobpdaa.Ch
set_option linter.unusedVariables false
set_option linter.unusedSimpArgs false
attribute [local go_sem] run_store

theorem step_len (g : ByteArray → Int) (s : List ByteArray) (nm : ByteArray) : (freeStep s g nm).length ≤ s.length + 1 := by
  unfold freeStep; split
  · simp
  · omega
theorem fold_len (g : ByteArray → Int) (l : List ByteArray) : ∀ s : List ByteArray, (l.foldl (fun s nm => freeStep s g nm) s).length ≤ s.length + l.length := by
  induction l with
  | nil => intro s; simp
  | cons a l ih => intro s; rw [List.foldl_cons, List.length_cons]; have := ih (freeStep s g a); have := step_len g s a; omega
theorem free_len (f : Fo) : ∀ (g : ByteArray → Int) (s : List ByteArray), (walkS freeStep f g s).length ≤ s.length + fsz f := by
  induction f with
  | odd => intro g s; exact Nat.le_add_right _ _
  | truth b => intro g s; exact Nat.le_add_right _ _
  | atom l e r => intro g s; unfold walkS fsz; have h1 := fold_len g (namesT l) s; have h2 := fold_len g (namesT r) ((namesT l).foldl (fun s nm => freeStep s g nm) s); omega
  | not f ih => intro g s; unfold walkS fsz; have := ih g s; omega
  | and l r il ir => intro g s; unfold walkS fsz; have := il g s; have := ir g (walkS freeStep l g s); omega
  | or l r il ir => intro g s; unfold walkS fsz; have := il g s; have := ir g (walkS freeStep l g s); omega
  | implies l r il ir => intro g s; unfold walkS fsz; have := il g s; have := ir g (walkS freeStep l g s); omega
  | iff l r il ir => intro g s; unfold walkS fsz; have := il g s; have := ir g (walkS freeStep l g s); omega
  | quant a n f ih => intro g s; unfold walkS fsz; have := ih (incG g n) s; omega
theorem fold_in (g : ByteArray → Int) (l : List ByteArray) : ∀ (s : List ByteArray) (x : ByteArray), x ∈ l.foldl (fun s nm => freeStep s g nm) s → x ∈ s ∨ x ∈ l := by
  induction l with
  | nil => intro s x h; exact .inl h
  | cons a l ih =>
    intro s x h
    rw [List.foldl_cons] at h
    rcases ih _ _ h with h | h
    · unfold freeStep at h
      split at h
      · rw [List.mem_append, List.mem_singleton] at h
        rcases h with h | rfl
        · exact .inl h
        · exact .inr (List.mem_cons_self ..)
      · exact .inl h
    · exact .inr (List.mem_cons_of_mem _ h)
theorem free_in (f : Fo) : ∀ (g : ByteArray → Int) (s : List ByteArray) (x : ByteArray), x ∈ walkS freeStep f g s → x ∈ s ∨ x ∈ namesF f := by
  induction f with
  | odd => intro g s x h; exact .inl h
  | truth b => intro g s x h; exact .inl h
  | atom l e r =>
    intro g s x h
    unfold walkS at h
    unfold namesF
    rw [List.mem_append]
    rcases fold_in g _ _ _ h with h | h
    · rcases fold_in g _ _ _ h with h | h
      · exact .inl h
      · exact .inr (.inl h)
    · exact .inr (.inr h)
  | not f ih => intro g s x h; exact ih g s x h
  | and l r il ir => intro g s x h; unfold walkS at h; unfold namesF; rw [List.mem_append]; rcases ir _ _ _ h with h | h; (rcases il _ _ _ h with h | h; exact .inl h; exact .inr (.inl h)); exact .inr (.inr h)
  | or l r il ir => intro g s x h; unfold walkS at h; unfold namesF; rw [List.mem_append]; rcases ir _ _ _ h with h | h; (rcases il _ _ _ h with h | h; exact .inl h; exact .inr (.inl h)); exact .inr (.inr h)
  | implies l r il ir => intro g s x h; unfold walkS at h; unfold namesF; rw [List.mem_append]; rcases ir _ _ _ h with h | h; (rcases il _ _ _ h with h | h; exact .inl h; exact .inr (.inl h)); exact .inr (.inr h)
  | iff l r il ir => intro g s x h; unfold walkS at h; unfold namesF; rw [List.mem_append]; rcases ir _ _ _ h with h | h; (rcases il _ _ _ h with h | h; exact .inl h; exact .inr (.inl h)); exact .inr (.inr h)
  | quant a n f ih => intro g s x h; exact ih _ s x h
theorem sm_name {t : Tr} (h : Sm t) : t.h.name.size ≤ 40 := by cases t; unfold Sm at h; exact h.2.1
theorem names_40 {t : Tr} {f : Fo} (h : RF t f) (hs : Sm t) : ∀ nm ∈ nmL (flatF t 0), nm.size ≤ 40 := by
  intro nm hnm
  unfold nmL at hnm
  obtain ⟨p, hp, rfl⟩ := List.mem_map.1 hnm
  exact sm_name (flat_fo h hs 0 p (List.mem_filter.1 hp).1).1
def QI (f : FuncId) (args : Array Value) (k : Int) (W : World) : Prop := ∀ d os, Calls Try.prog f args (grow (redrawn W d) os) fun e w' => e = .returned (.int .i64 k) ∧ Below (grow (redrawn W d) os).heap.size (grow (redrawn W d) os) w'

set_option maxHeartbeats 8000000 in
set_option maxRecDepth 100000 in
theorem walk (t0 : Tr) (cs0 : List Value) (w : World) (hT0 : TreeAt w (fun b => b < w.heap.size) t0 cs0) :
    Calls Try.prog 3 #[.agg cs0.toArray] w fun e w' => e = .returned (.bool true) ∧ Below w.heap.size w w' := by
  obtain ⟨A10, n10, c10, A20, n20, c20, k0, neg0, nm0, ex0, rl0, tr0, al0, rfl⟩ := hT0.nine
  have hx := Box.new w #[.int .i64 k0, .bool neg0, .slice A10 n10 c10, .string nm0, .int .i64 ex0, .int .i64 rl0, .bool tr0, .bool al0, .slice A20 n20 c20] TT
  have HX := Lib.hid hx
  have hlt : ∀ w', Below w.heap.size w w' → ∀ b, b < w.heap.size → b < w'.heap.size := fun w' h b hb => Nat.lt_of_lt_of_le hb h.size
  have hstep := Lib.hid (show ∀ wc wn, Below w.heap.size w wc → Below wc.heap.size wc wn → Below w.heap.size w wn from fun wc wn h1 h2 => h1.trans (h2.mono h1.size))
  obtain ⟨R0, hR0⟩ : ∃ R, R = fewB t0 4500 := ⟨_, rfl⟩
  obtain ⟨I0, hI0⟩ : ∃ I, I = isF t0 false := ⟨_, rfl⟩
  have HFW0 := Lib.hid (show ∀ w', Below w.heap.size w w' → Calls Try.prog 5 #[.agg #[.int .i64 k0, .bool neg0, .slice A10 n10 c10, .string nm0, .int .i64 ex0, .int .i64 rl0, .bool tr0, .bool al0, .slice A20 n20 c20], .int .i64 4500] w' fun e w2 => e = .returned (.bool R0) ∧ Below w'.heap.size w' w2 from fun w' h => by rw [hR0]; exact few_any t0 _ _ 4500 w' (hlt w' h) (hT0.below (fun b h => h) h) (by omega) (by omega))
  have HIS0 := Lib.hid (show ∀ w', Below w.heap.size w w' → Calls Try.prog 6 #[.agg #[.int .i64 k0, .bool neg0, .slice A10 n10 c10, .string nm0, .int .i64 ex0, .int .i64 rl0, .bool tr0, .bool al0, .slice A20 n20 c20], .bool false] w' fun e w2 => e = .returned (.bool I0) ∧ Below w'.heap.size w' w2 from fun w' h => by rw [hI0]; exact is_any t0 _ _ false w' (hlt w' h) (hT0.below (fun b h => h) h))
  have HR0 := Lib.hid hR0
  have HI0 := Lib.hid hI0
  have HT0 := Lib.hid hT0
  have HLT := Lib.hid hlt
  clear hx hT0 hR0 hI0 hlt
  have go : ∀ (r i : Bool), R0 = r → I0 = i → Calls Try.prog 3 #[.agg #[.int .i64 k0, .bool neg0, .slice A10 n10 c10, .string nm0, .int .i64 ex0, .int .i64 rl0, .bool tr0, .bool al0, .slice A20 n20 c20]] w fun e w' => e = .returned (.bool true) ∧ Below w.heap.size w w' := by
    intro r i hr hi
    subst hr
    subst hi
    cases R0
    · go_enter Try.func3, Try.ntmps3
      go_wp2_with fail
      refine (awake_any _).mono ?_
      rintro e w1 ⟨rfl, hb1⟩
      have hX1 := HX.out.step hb1
      have hw1 : Below w.heap.size w w1 := hX1.below
      obtain ⟨g0, g1, g2, g3, g4, g5, g6, g7, g8⟩ := hX1.c9
      have HX1 := Lib.hid hX1
      clear hb1 hX1
      go_wp2_with (first | (go_at_call 5; (with_reducible refine (HFW0.out _ hw1).mono ?_); rintro e w2 ⟨rfl, hb2⟩; have hw2 : Below w.heap.size w w2 := hstep.out _ _ hw1 hb2; have hX2 := HX1.out.step hb2; obtain ⟨f0, f1, f2, f3, f4, f5, f6, f7, f8⟩ := hX2.c9; have HX2 := Lib.hid hX2; clear hb2 hX2) | (go_at_call 4; refine (awake_any _).mono ?_; rintro e w9 ⟨rfl, hb9⟩; have hw9 := hstep.out _ _ hw2 hb9))
      go_ret
      exact ⟨rfl, hw9⟩
    · cases I0
      · go_enter Try.func3, Try.ntmps3
        go_wp2_with fail
        refine (awake_any _).mono ?_
        rintro e w1 ⟨rfl, hb1⟩
        have hX1 := HX.out.step hb1
        have hw1 : Below w.heap.size w w1 := hX1.below
        obtain ⟨g0, g1, g2, g3, g4, g5, g6, g7, g8⟩ := hX1.c9
        have HX1 := Lib.hid hX1
        clear hb1 hX1
        go_wp2_with (first | (go_at_call 5; (with_reducible refine (HFW0.out _ hw1).mono ?_); rintro e w2 ⟨rfl, hb2⟩; have hw2 : Below w.heap.size w w2 := hstep.out _ _ hw1 hb2; have hX2 := HX1.out.step hb2; obtain ⟨f0, f1, f2, f3, f4, f5, f6, f7, f8⟩ := hX2.c9; have HX2 := Lib.hid hX2; clear hb2 hX2) | (go_at_call 6; (with_reducible refine (HIS0.out _ hw2).mono ?_); rintro e w3 ⟨rfl, hb3⟩; have hw3 : Below w.heap.size w w3 := hstep.out _ _ hw2 hb3; have hX3 := HX2.out.step hb3; obtain ⟨d0, d1, d2, d3, d4, d5, d6, d7, d8⟩ := hX3.c9; have HX3 := Lib.hid hX3; clear hb3 hX3) | (go_at_call 4; refine (awake_any _).mono ?_; rintro e w9 ⟨rfl, hb9⟩; have hw9 := hstep.out _ _ hw3 hb9))
        go_ret
        exact ⟨rfl, hw9⟩
      · have hsm := fewB_sm HR0.out.symm
        have hnn := fewB_nn HR0.out.symm
        obtain ⟨f, hof⟩ : ∃ f, ofF t0 = some f := by have h := HI0.out; rw [isF_ofF] at h; exact Option.isSome_iff_exists.1 h.symm
        have hrf := rf_of t0 f hof
        obtain ⟨-, hst⟩ := plainF_of hrf hsm
        have hnn' : nn t0 ≤ 4500 := by omega
        have h40 := names_40 hrf hsm
        have hfz := fsz_nn hrf
        have hfl := free_len f (fun _ => 0) []
        have hbl := boundN_le f
        have hC := fun (v : Value) (S : Nat → Prop) (w' : World) (h1 : ∀ b, S b → b < w'.heap.size) (h2 : FoAt w' S f v) => check_any f v S w' h1 h2 hst (by omega) (by show (walkS freeStep f (fun _ => 0) []).length ≤ _; simp at hfl; omega) (by rw [fnn_eq hrf]; omega) (fun nm h => by have := h40 nm ((nm_fo hrf 0 nm).2 (.inr h)); omega) (fun nm h => by
          rcases free_in f _ _ _ h with h | h
          · cases h
          · have := h40 nm ((nm_fo hrf 0 nm).2 (.inl h)); omega)
        have hRC := fun (cs : List Value) (S : Nat → Prop) (w' : World) (h1 : ∀ b, S b → b < w'.heap.size) (h2 : TreeAt w' S t0 cs) => rcheck_any t0 f hrf hsm cs S w' h1 h2 (by omega) (fun nm h => by have := h40 nm h; omega) (by rw [← free_same hrf]; show (walkS freeStep f (fun _ => 0) []).length ≤ _; simp at hfl; omega) (by rw [bound_same hrf]; omega)
        have HC := Lib.hid hC
        have HRC := Lib.hid hRC
        have HO := Lib.hid hof
        have HNE := Lib.hid (ofF_ne hof)
        have HEQ := Lib.hid (check_eq hrf)
        have HOT := Lib.hid (show ∀ w', Below w.heap.size w w' → Calls Try.prog 7 #[.agg #[.int .i64 k0, .bool neg0, .slice A10 n10 c10, .string nm0, .int .i64 ex0, .int .i64 rl0, .bool tr0, .bool al0, .slice A20 n20 c20]] w' (OfPost t0 w') from fun w' h => of_any t0 _ _ w' (HLT.out w' h) (HT0.out.below (fun b h => h) h) hsm)
        clear hsm hof hrf hst hnn hnn' h40 hfz hfl hbl hC hRC
        go_enter Try.func3, Try.ntmps3
        go_wp2_with fail
        refine (awake_any _).mono ?_
        rintro e w1 ⟨rfl, hb1⟩
        have hX1 := HX.out.step hb1
        have hw1 : Below w.heap.size w w1 := hX1.below
        obtain ⟨g0, g1, g2, g3, g4, g5, g6, g7, g8⟩ := hX1.c9
        have HX1 := Lib.hid hX1
        clear hb1 hX1
        go_wp2_with (first | (go_at_call 5; (with_reducible refine (HFW0.out _ hw1).mono ?_); rintro e w2 ⟨rfl, hb2⟩; have hw2 : Below w.heap.size w w2 := hstep.out _ _ hw1 hb2; have hX2 := HX1.out.step hb2; obtain ⟨f0, f1, f2, f3, f4, f5, f6, f7, f8⟩ := hX2.c9; have HX2 := Lib.hid hX2; clear hb2 hX2) | (go_at_call 6; (with_reducible refine (HIS0.out _ hw2).mono ?_); rintro e w3 ⟨rfl, hb3⟩; have hw3 : Below w.heap.size w w3 := hstep.out _ _ hw2 hb3; have hX3 := HX2.out.step hb3; obtain ⟨d0, d1, d2, d3, d4, d5, d6, d7, d8⟩ := hX3.c9; have HX3 := Lib.hid hX3; clear hb3 hX3) | (go_at_call 7; (with_reducible refine (HOT.out _ hw3).mono ?_); intro e w4 hp; obtain ⟨v4, rfl, hv4, hb4⟩ := hp.yes HO.out; obtain ⟨u4, q4, rfl⟩ := hv4.iface HNE.out; have HV := Lib.hid hv4; have hw4 : Below w.heap.size w w4 := hstep.out _ _ hw3 hb4; have hX4 := HX3.out.step hb4; obtain ⟨e0, e1, e2, e3, e4, e5, e6, e7, e8⟩ := hX4.c9; have HX4 := Lib.hid hX4; clear hb4 hX4 hv4 hp))
        obtain ⟨D, hD⟩ : ∃ D, D = checkF f := ⟨_, rfl⟩
        have hbW : ∀ d os, Below w4.heap.size w4 (grow (redrawn w4 d) os) := fun d os => below_regrown w4 d os
        have h1 : QI 8 #[.iface u4 q4] D w4 := fun d os => by
          rw [hD]
          exact HC.out _ (fun b => b < w4.heap.size) _ (fun b h => Nat.lt_of_lt_of_le h (hbW d os).size) ((FoAt.more (fun b h => h.2) _ _ HV.out).below (fun b h => h) (hbW d os))
        have h3 : QI 9 #[.agg #[.int .i64 k0, .bool neg0, .slice A10 n10 c10, .string nm0, .int .i64 ex0, .int .i64 rl0, .bool tr0, .bool al0, .slice A20 n20 c20]] D w4 := fun d os => by
          rw [hD, ← HEQ.out]
          have hw5 := hstep.out _ _ hw4 (hbW d os)
          exact HRC.out _ _ _ (HLT.out _ hw5) (HT0.out.below (fun b h => h) hw5)
        unfold QI at h1 h3
        have H1 := Lib.hid h1
        have H3 := Lib.hid h3
        have r0 := fun d os => cell_regrown e0 d os
        have r1 := fun d os => cell_regrown e1 d os
        have r2 := fun d os => cell_regrown e2 d os
        have r3 := fun d os => cell_regrown e3 d os
        have r4 := fun d os => cell_regrown e4 d os
        have r5 := fun d os => cell_regrown e5 d os
        have r6 := fun d os => cell_regrown e6 d os
        have r7 := fun d os => cell_regrown e7 d os
        have r8 := fun d os => cell_regrown e8 d os
        clear h1 h3 hD hbW
        refine wp_region_quiet_below (by kernel_rfl) (by kernel_rfl) ?_
        (repeat (quiet_step (first | (with_reducible exact Calls.regrown_of (H1.out _ _)) | (with_reducible exact Calls.regrown_of (H3.out _ _)))))
        refine wpQuiet_nil ?_
        rintro _ ⟨⟨d, os⟩, rfl⟩
        have hb9 := below_regrown w4 d os
        go_wp2
        go_ret
        exact ⟨rfl, hstep.out _ _ hw4 hb9⟩
  exact go R0 I0 rfl rfl

theorem laidOut : laidOutB Try.prog = true := by kernel_rfl

theorem own : ownKnob Try.prog.godebug = none := by kernel_rfl

set_option maxRecDepth 100000 in
theorem lifted (os : Os) (started : os.Started) (H : Type) (enc : TypeId × Value → H) :
    ReturnsInHanded {} Try.checked os 3 .any (Rows.formulaChecksSpec.pre6 enc Try.prog Try.f3 Rows.formulaChecksRow.domain false) (Rows.formulaChecksSpec.post enc Try.prog Try.f3 false true false false) := by
  refine returnsInHanded_of_change (C := Try.checked) own started (by kernel_rfl) Try.func3
    (ChangeSpec.witness6 (enc := enc) (C := Try.checked) false ⟨#[], #[.agg #[.int .i64 0, .bool false, .slice none 0 0, .string ByteArray.empty, .int .i64 0, .int .i64 0, .bool false, .bool false, .slice none 0 0]], []⟩ 8 (by kernel_rfl) (by kernel_rfl) (by kernel_rfl) (by kernel_rfl)) ?_
  intro W base args ds gs before hval0 hW hcnd _
  have hval : ∀ (j : Nat) t v, Try.f3.params[j]? = some t → args[j]? = some v → Value.okWide Try.prog W .any base t v := hval0
  have hW' := hW
  obtain ⟨p, q, hA0, hV, rfl, hfz, hnd⟩ := hW
  have hA : DataW.TrodAll enc Try.prog W 0 (fun _ => true) true Try.f3.params.toList args.toList ds p := hA0
  rw [Try.params3] at hA hval
  obtain ⟨v0, vs0, d0, ds0, p0, q0, hargs, rfl, rfl, h0, r0⟩ := trodAll_cons hA
  obtain ⟨rfl, rfl, rfl⟩ := trodAll_nil r0
  obtain rfl : args = #[v0] := by cases args; simp_all
  obtain ⟨rfl, rfl⟩ := trodVars_none hV
  obtain ⟨cs0, rfl, hl0⟩ := okWide_struct Try.underlying29 (hval 0 29 v0 rfl rfl)
  have hl0' : cs0.toList.length = 9 := by rw [show Try.prog.cellsOf 29 = 9 by kernel_rfl] at hl0; simpa using hl0
  have h0k := h0
  obtain ⟨fuel0, hf0⟩ := h0
  obtain ⟨t0, hT0⟩ := open_tree fuel0 fuel0 (Nat.le_refl _) _ _ hl0' hf0
  clear hA0 hval0
  simp only [List.append_nil] at hW'
  have hlt0 : ∀ x ∈ p0, x.block < W.heap.size := fun x hx => by simpa using hW'.lt x (by simp [hx])
  refine (walk t0 cs0.toList W hT0).mono fun e W' ⟨he, bel⟩ => ?_
  subst he
  exact ⟨_, rfl, _, _, _, [], _, [], hW', trodAll_mk1 (shut_bool Try.underlying4 _), (trodAll_cons_mk (Below.trod laidOut (by kernel_rfl) (of_decide_eq_true (by kernel_rfl)) h0k bel hlt0) trodAll_mk0), rfl, bel.frame _, fun h => by cases h⟩

theorem over : Rows.formulaChecksRow.holds Try.pinned (OpenSpec.ofChange Rows.formulaChecksSpec) :=
  OpenClaim.holds_of_wide 3 Try.f3 rfl rfl rfl rfl rfl rfl rfl ⟨rfl, rfl, rfl, rfl, rfl⟩ rfl rfl rfl rfl rfl (by kernel_rfl) Try.func3 (by kernel_rfl)
    (of_decide_eq_true (by kernel_rfl)) (by unfold Func.isWrapper; first | (rw [if_pos (by decide +kernel)]; kernel_rfl) | (rw [if_neg (by decide +kernel)]; exact ⟨rfl, rfl⟩))
    (fun os started H enc _ => lifted os started H enc)

/-- THE STATEMENT -/
theorem proved : Rows.FormulaChecksSaid := over
end Go.Proofs.Yteneobpacobpdaa.formulaChecks
