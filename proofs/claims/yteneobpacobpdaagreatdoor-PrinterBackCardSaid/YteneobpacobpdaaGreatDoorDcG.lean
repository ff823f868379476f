/-
  formula.capped, product, Degree, Weight.
-/
import Derived.Test.YteneobpacobpdaaGreatDoorHy
import Derived.Test.YteneobpacobpdaaGreatDoorDcF
import Derived.Test.YteneobpacobpdaaGreatDoorFmP
import Derived.Lib.QuietBelow
import Derived.BigQuiet
import Derived.Deep.QuietTactic
set_option linter.unusedSimpArgs false
set_option linter.unusedVariables false
set_option maxRecDepth 100000
set_option maxHeartbeats 16000000
namespace Go.Proofs.YteneobpacobpdaaGreatDoor
open Go.RowKit Go.Sort
namespace Dc
open Fm
attribute [local go_sem] run_store taNum_yes taNum_no taNum_nil taName_yes taName_no taName_nil taAdd_yes taAdd_no taAdd_nil taSub_yes taSub_no taSub_nil taMul_yes taMul_no taMul_nil taNeg_yes taNeg_no taNeg_nil taPow_yes taPow_no taPow_nil
def capN (n : Nat) : Nat := min n 2147483647
theorem capN_le (n : Nat) : capN n ≤ 2147483647 := Nat.min_le_right _ _
theorem capped_any (n : Nat) (w : World) : Calls Tryz.prog 78 #[.int .i64 n] w fun e w' => e = .returned (.int .i64 ((capN n : Nat) : Int)) ∧ w = w' := by
 obtain ⟨m, hm⟩ : ∃ m, m = capN n := ⟨_, rfl⟩
 rw [← hm]
 have hif : (if (2147483647 : Int) < n then (2147483647 : Int) else n) = m := by rw [hm]; unfold capN; split <;> omega
 clear hm
 go_enter Tryz.func78, Tryz.ntmps78
 go_wp2
 go_ret
 exact ⟨rfl, rfl⟩
def prodN (a b : Nat) : Nat := capN (capN a * capN b)
theorem product_any (a b : Nat) (w : World) : Calls Tryz.prog 79 #[.int .i64 a, .int .i64 b] w fun e w' => e = .returned (.int .i64 ((prodN a b : Nat) : Int)) ∧ w = w' := by
 have h1 := h_ (fun w => capped_any a w)
 have h2 := h_ (fun w => capped_any b w)
 have h3 := h_ (fun w => capped_any (capN a * capN b) w)
 have ha := capN_le a
 have hb := capN_le b
 have hr : capN (capN a * capN b) = prodN a b := rfl
 rw [hr] at h3
 obtain ⟨x, hx⟩ : ∃ x, capN a = x := ⟨_, rfl⟩
 obtain ⟨y, hy⟩ : ∃ y, capN b = y := ⟨_, rfl⟩
 obtain ⟨z, hz⟩ : ∃ z, prodN a b = z := ⟨_, rfl⟩
 have hxy : x * y ≤ 2147483647 * 2147483647 := Nat.mul_le_mul (by omega) (by omega)
 rw [hx] at h1 h3
 rw [hy] at h2 h3
 rw [hz] at h3 ⊢
 rw [Int.natCast_mul] at h3
 have hxy2 : (x : Int) * y ≤ 4611686014132420609 := by
   have : ((x * y : Nat) : Int) ≤ 4611686014132420609 := by omega
   rw [Int.natCast_mul] at this; exact this
 have hxy0 : (0 : Int) ≤ (x : Int) * y := by
   have : (0 : Int) ≤ ((x * y : Nat) : Int) := by omega
   rw [Int.natCast_mul] at this; exact this
 clear hx hy hz hr ha hb hxy
 go_enter Tryz.func79, Tryz.ntmps79
 go_wp2_with (first
  |(go_at_call 78; (with_reducible refine (h1.out _).mono ?_); rintro e w' ⟨rfl, rfl⟩)
  |(go_at_call 78; (with_reducible refine (h2.out _).mono ?_); rintro e w' ⟨rfl, rfl⟩)
  |(go_at_call 78; (with_reducible refine (h3.out _).mono ?_); rintro e w' ⟨rfl, rfl⟩))
 go_ret
 exact ⟨rfl, rfl⟩
def degT : Tm → Nat
 | .name _ => 1
 | .neg t => degT t
 | .add l r => max (degT l) (degT r)
 | .sub l r => max (degT l) (degT r)
 | .mul l r => capN (degT l + degT r)
 | .pow t e => prodN e.toNat (degT t)
 | _ => 0
theorem degT_le : ∀ t, degT t ≤ 2147483647
 | .odd => by simp [degT]
 | .num _ _ => by simp [degT]
 | .name _ => by simp [degT]
 | .neg t => by unfold degT; exact degT_le t
 | .add l r => by unfold degT; have := degT_le l; have := degT_le r; omega
 | .sub l r => by unfold degT; have := degT_le l; have := degT_le r; omega
 | .mul l r => by unfold degT; exact capN_le _
 | .pow t e => by unfold degT; exact capN_le _
def wgtT : Tm → Nat
 | .num _ l => capN (digN (valN l))
 | .neg t => wgtT t
 | .add l r => capN (max (wgtT l) (wgtT r) + 1)
 | .sub l r => capN (max (wgtT l) (wgtT r) + 1)
 | .mul l r => capN (wgtT l + wgtT r)
 | .pow t e => prodN (max e 1).toNat (wgtT t)
 | _ => 1
theorem wgtT_le : ∀ t, wgtT t ≤ 2147483647
 | .odd => by simp [wgtT]
 | .num _ _ => by unfold wgtT; exact capN_le _
 | .name _ => by simp [wgtT]
 | .neg t => by unfold wgtT; exact wgtT_le t
 | .add l r => by unfold wgtT; exact capN_le _
 | .sub l r => by unfold wgtT; exact capN_le _
 | .mul l r => by unfold wgtT; exact capN_le _
 | .pow t e => by unfold wgtT; exact capN_le _
def NumPost (n : Nat) (w : World) (e : Ending) (w' : World) : Prop := e = .returned (.int .i64 (n : Int)) ∧ Below w.heap.size w w'
theorem deg_name (nm : ByteArray) (w : World) : Calls Tryz.prog 58 #[.iface 47 (.agg #[.string nm])] w (NumPost (degT (.name nm)) w) := by
 have hfn : degT (.name nm) = 1 := rfl
 rw [hfn]
 clear hfn
 go_enter Tryz.func58, Tryz.ntmps58
 go_wp2
 go_ret
 exact ⟨rfl, by first | exact Below.refl _ _ | exact (Below.refl _ _).alloc (Nat.le_refl _) _⟩
theorem deg_odd (v : Value) (w : World) (hv : OddV v) : Calls Tryz.prog 58 #[v] w (NumPost (degT .odd) w) := by
 have hfn : degT .odd = 0 := rfl
 rw [hfn]
 clear hfn
 rcases hv with rfl | ⟨u, a, rfl, hu⟩
 ·go_enter Tryz.func58, Tryz.ntmps58
  go_wp2
  go_ret
  exact ⟨rfl, Below.refl _ _⟩
 ·simp only [List.mem_cons, List.not_mem_nil, or_false, not_or] at hu
  obtain ⟨h1, h2, h3, h4, h5, h6, h7, _⟩ := hu
  unfold tNum at h1; unfold tName at h2; unfold tAdd at h3; unfold tSub at h4; unfold tMul at h5; unfold tNeg at h6; unfold tPow at h7
  go_enter Tryz.func58, Tryz.ntmps58
  go_wp2
  go_ret
  exact ⟨rfl, Below.refl _ _⟩
theorem deg_num (neg : Bool) (l : List Nat) (v : Value) (S : Nat → Prop) (w : World) (hS : ∀ b, S b → b < w.heap.size) (h : AbsAt w S v l) (hl : l.length ≤ 1000000) : Calls Tryz.prog 58 #[.iface 135 (.agg #[.bool neg, v])] w (NumPost (degT (.num neg l)) w) := by
 have hfn : degT (.num neg l) = 0 := rfl
 rw [hfn]
 obtain ⟨A, c, hv⟩ := h.form
 subst hv
 clear hfn h hS
 go_enter Tryz.func58, Tryz.ntmps58
 go_wp2
 go_ret
 exact ⟨rfl, Below.refl _ _⟩
theorem deg_add (l r : Tm) (vl vr : Value) (w : World) (hol : vl.oneCell' = true) (hor : vr.oneCell' = true)
  (hl : ∀ w', Below w.heap.size w w' → Calls Tryz.prog 58 #[vl] w' (NumPost (degT l) w')) (hr : ∀ w', Below w.heap.size w w' → Calls Tryz.prog 58 #[vr] w' (NumPost (degT r) w')) :
  Calls Tryz.prog 58 #[.iface 137 (.agg #[vl, vr])] w (NumPost (degT (.add l r)) w) := by
 obtain ⟨W, hW⟩ : ∃ W, w.alloc (.cells #[vl, vr] 137) = W := ⟨_, rfl⟩
 have hx : Box w W w.heap.size #[vl, vr] 137 := by rw [← hW]; exact Box.new w _ _
 obtain ⟨s0, s1⟩ := hx.c2
 have hp0 := degT_le l
 have hq0 := degT_le r
 obtain ⟨p, hp⟩ : ∃ p, p = degT l := ⟨_, rfl⟩
 obtain ⟨q, hq⟩ : ∃ q, q = degT r := ⟨_, rfl⟩
 rw [← hp] at hl hp0
 rw [← hq] at hr hq0
 have hL : ∀ d os, _ := fun d os => hl (grow (redrawn W d) os) (hx.below.trans ((below_regrown W d os).mono hx.below.size))
 have hR : ∀ d os, _ := fun d os => hr (grow (redrawn W d) os) (hx.below.trans ((below_regrown W d os).mono hx.below.size))
 unfold NumPost at hL hR
 have HL := h_ hL
 have HR := h_ hR
 have HX := h_ hx
 have hfn : degT (.add l r) = max p q := by unfold degT; rw [← hp, ← hq]
 rw [hfn]
 obtain ⟨m, hm⟩ : ∃ m, m = max p q := ⟨_, rfl⟩
 rw [← hm]
 have r0 := fun d os => cell_regrown s0 d os
 have r1 := fun d os => cell_regrown s1 d os
 have HM := h_ hm
 clear hm
 clear hL hR hx hl hr hp hq hfn
 go_enter Tryz.func58, Tryz.ntmps58
 go_wp2_with fail
 refine wp_region_quiet_below (by kernel_rfl) (by kernel_rfl) ?_
 (repeat (quiet_step (first | (with_reducible exact Calls.regrown_of (HL.out _ _)) | (with_reducible exact Calls.regrown_of (HR.out _ _)))))
 refine wpQuiet_nil ?_
 rintro _ ⟨⟨d, os⟩, rfl⟩
 have hb2 := below_regrown W d os
 go_wp2
 all_goals
  go_ret
  exact ⟨ret_int (by have := HM.out; omega), HX.out.below.trans (hb2.mono HX.out.below.size)⟩
theorem deg_sub (l r : Tm) (vl vr : Value) (w : World) (hol : vl.oneCell' = true) (hor : vr.oneCell' = true)
  (hl : ∀ w', Below w.heap.size w w' → Calls Tryz.prog 58 #[vl] w' (NumPost (degT l) w')) (hr : ∀ w', Below w.heap.size w w' → Calls Tryz.prog 58 #[vr] w' (NumPost (degT r) w')) :
  Calls Tryz.prog 58 #[.iface 138 (.agg #[vl, vr])] w (NumPost (degT (.sub l r)) w) := by
 obtain ⟨W, hW⟩ : ∃ W, w.alloc (.cells #[vl, vr] 138) = W := ⟨_, rfl⟩
 have hx : Box w W w.heap.size #[vl, vr] 138 := by rw [← hW]; exact Box.new w _ _
 obtain ⟨s0, s1⟩ := hx.c2
 have hp0 := degT_le l
 have hq0 := degT_le r
 obtain ⟨p, hp⟩ : ∃ p, p = degT l := ⟨_, rfl⟩
 obtain ⟨q, hq⟩ : ∃ q, q = degT r := ⟨_, rfl⟩
 rw [← hp] at hl hp0
 rw [← hq] at hr hq0
 have hL : ∀ d os, _ := fun d os => hl (grow (redrawn W d) os) (hx.below.trans ((below_regrown W d os).mono hx.below.size))
 have hR : ∀ d os, _ := fun d os => hr (grow (redrawn W d) os) (hx.below.trans ((below_regrown W d os).mono hx.below.size))
 unfold NumPost at hL hR
 have HL := h_ hL
 have HR := h_ hR
 have HX := h_ hx
 have hfn : degT (.sub l r) = max p q := by unfold degT; rw [← hp, ← hq]
 rw [hfn]
 obtain ⟨m, hm⟩ : ∃ m, m = max p q := ⟨_, rfl⟩
 rw [← hm]
 have r0 := fun d os => cell_regrown s0 d os
 have r1 := fun d os => cell_regrown s1 d os
 have HM := h_ hm
 clear hm
 clear hL hR hx hl hr hp hq hfn
 go_enter Tryz.func58, Tryz.ntmps58
 go_wp2_with fail
 refine wp_region_quiet_below (by kernel_rfl) (by kernel_rfl) ?_
 (repeat (quiet_step (first | (with_reducible exact Calls.regrown_of (HL.out _ _)) | (with_reducible exact Calls.regrown_of (HR.out _ _)))))
 refine wpQuiet_nil ?_
 rintro _ ⟨⟨d, os⟩, rfl⟩
 have hb2 := below_regrown W d os
 go_wp2
 all_goals
  go_ret
  exact ⟨ret_int (by have := HM.out; omega), HX.out.below.trans (hb2.mono HX.out.below.size)⟩
theorem deg_mul (l r : Tm) (vl vr : Value) (w : World) (hol : vl.oneCell' = true) (hor : vr.oneCell' = true)
  (hl : ∀ w', Below w.heap.size w w' → Calls Tryz.prog 58 #[vl] w' (NumPost (degT l) w')) (hr : ∀ w', Below w.heap.size w w' → Calls Tryz.prog 58 #[vr] w' (NumPost (degT r) w')) :
  Calls Tryz.prog 58 #[.iface 139 (.agg #[vl, vr])] w (NumPost (degT (.mul l r)) w) := by
 obtain ⟨W, hW⟩ : ∃ W, w.alloc (.cells #[vl, vr] 139) = W := ⟨_, rfl⟩
 have hx : Box w W w.heap.size #[vl, vr] 139 := by rw [← hW]; exact Box.new w _ _
 obtain ⟨s0, s1⟩ := hx.c2
 have hp0 := degT_le l
 have hq0 := degT_le r
 obtain ⟨p, hp⟩ : ∃ p, p = degT l := ⟨_, rfl⟩
 obtain ⟨q, hq⟩ : ∃ q, q = degT r := ⟨_, rfl⟩
 rw [← hp] at hl hp0
 rw [← hq] at hr hq0
 have hL : ∀ d os, _ := fun d os => hl (grow (redrawn W d) os) (hx.below.trans ((below_regrown W d os).mono hx.below.size))
 have hR : ∀ d os, _ := fun d os => hr (grow (redrawn W d) os) (hx.below.trans ((below_regrown W d os).mono hx.below.size))
 unfold NumPost at hL hR
 have HL := h_ hL
 have HR := h_ hR
 have HX := h_ hx
 have hfn : degT (.mul l r) = capN (p + q) := by unfold degT; rw [← hp, ← hq]
 rw [hfn]
 obtain ⟨m, hm⟩ : ∃ m, m = capN (p + q) := ⟨_, rfl⟩
 rw [← hm]
 have r0 := fun d os => cell_regrown s0 d os
 have r1 := fun d os => cell_regrown s1 d os
 have hC := fun w => capped_any (p + q) w
 rw [← hm] at hC
 have hC2 : ∀ d os, _ := fun d os => (hC (grow (redrawn W d) os)).mono (R' := fun e w' => e = .returned (.int .i64 (m : Int)) ∧ Below (grow (redrawn W d) os).heap.size (grow (redrawn W d) os) w') (by rintro e w' ⟨rfl, rfl⟩; exact ⟨rfl, Below.refl _ _⟩)
 rw [Int.natCast_add] at hC2
 have HC := h_ hC2
 have hw1 : IntKind.i64.wrap ((p : Int) + q) = p + q := IntWalk.i64_in _ (by omega)
 clear hm hC hC2
 clear hL hR hx hl hr hp hq hfn
 go_enter Tryz.func58, Tryz.ntmps58
 go_wp2_with fail
 refine wp_region_quiet_below (by kernel_rfl) (by kernel_rfl) ?_
 (repeat (quiet_step (first | (with_reducible exact Calls.regrown_of (HL.out _ _)) | (with_reducible exact Calls.regrown_of (HR.out _ _)) | (with_reducible exact Calls.regrown_of (HC.out _ _)))))
 refine wpQuiet_nil ?_
 rintro _ ⟨⟨d, os⟩, rfl⟩
 have hb2 := below_regrown W d os
 go_wp2
 all_goals
  go_ret
  exact ⟨rfl, HX.out.below.trans (hb2.mono HX.out.below.size)⟩
theorem deg_neg (l : Tm) (vl : Value) (w : World) (hol : vl.oneCell' = true)
  (hl : ∀ w', Below w.heap.size w w' → Calls Tryz.prog 58 #[vl] w' (NumPost (degT l) w')) :
  Calls Tryz.prog 58 #[.iface 141 (.agg #[vl])] w (NumPost (degT (.neg l)) w) := by
 obtain ⟨W, hW⟩ : ∃ W, w.alloc (.cells #[vl] 141) = W := ⟨_, rfl⟩
 have hx : Box w W w.heap.size #[vl] 141 := by rw [← hW]; exact Box.new w _ _
 have s0 : W.cell? ⟨w.heap.size, 0, none⟩ = some vl := hx.cell 0
 have hL := hl W hx.below
 have hfn : degT (.neg l) = degT l := by conv => lhs; unfold degT
 rw [hfn]
 have HL := h_ hL
 have HX := h_ hx
 clear hL hx hl hfn
 go_enter Tryz.func58, Tryz.ntmps58
 go_wp2_with (go_at_call 58; refine HL.out.mono ?_; rintro e w2 ⟨rfl, hb⟩)
 go_ret
 exact ⟨rfl, HX.out.below.trans (hb.mono HX.out.below.size)⟩
theorem deg_pow (l : Tm) (x : Int) (vl : Value) (w : World) (hol : vl.oneCell' = true)
  (hl : ∀ w', Below w.heap.size w w' → Calls Tryz.prog 58 #[vl] w' (NumPost (degT l) w')) :
  Calls Tryz.prog 58 #[.iface 143 (.agg #[vl, .int .i64 x])] w (NumPost (degT (.pow l x)) w) := by
 obtain ⟨W, hW⟩ : ∃ W, w.alloc (.cells #[vl, .int .i64 x] 143) = W := ⟨_, rfl⟩
 have hx : Box w W w.heap.size #[vl, .int .i64 x] 143 := by rw [← hW]; exact Box.new w _ _
 obtain ⟨s0, s1⟩ := hx.c2
 obtain ⟨p, hp⟩ : ∃ p, p = degT l := ⟨_, rfl⟩
 rw [← hp] at hl
 have hL : ∀ d os, _ := fun d os => hl (grow (redrawn W d) os) (hx.below.trans ((below_regrown W d os).mono hx.below.size))
 unfold NumPost at hL
 have HL := h_ hL
 have HX := h_ hx
 obtain ⟨k, hk⟩ : ∃ k, k = x.toNat := ⟨_, rfl⟩
 have hfn : degT (.pow l x) = prodN k p := by unfold degT; rw [← hp, ← hk]
 rw [hfn]
 have hif : (if x < 0 then (0 : Int) else x) = k := by rw [hk]; split <;> omega
 obtain ⟨m, hm⟩ : ∃ m, m = prodN k p := ⟨_, rfl⟩
 have hC := fun w => product_any k p w
 rw [← hm] at hC ⊢
 have hC2 : ∀ d os, _ := fun d os => (hC (grow (redrawn W d) os)).mono (R' := fun e w' => e = .returned (.int .i64 (m : Int)) ∧ Below (grow (redrawn W d) os).heap.size (grow (redrawn W d) os) w') (by rintro e w' ⟨rfl, rfl⟩; exact ⟨rfl, Below.refl _ _⟩)
 have HC := h_ hC2
 have r0 := fun d os => cell_regrown s0 d os
 have r1 := fun d os => cell_regrown s1 d os
 clear hL hx hl hp hfn hk hm hC hC2
 go_enter Tryz.func58, Tryz.ntmps58
 go_wp2_with fail
 refine wp_region_quiet_below (by kernel_rfl) (by kernel_rfl) ?_
 (repeat (quiet_step (first | (with_reducible exact Calls.regrown_of (HL.out _ _)) | (with_reducible exact Calls.regrown_of (HC.out _ _)))))
 refine wpQuiet_nil ?_
 rintro _ ⟨⟨d, os⟩, rfl⟩
 have hb2 := below_regrown W d os
 go_wp2
 all_goals
  go_ret
  exact ⟨rfl, HX.out.below.trans (hb2.mono HX.out.below.size)⟩
theorem deg_any : ∀ (t : Tm) (v : Value) (S : Nat → Prop) (w : World), (∀ b, S b → b < w.heap.size) → TmAt w S t v → SmT t → Calls Tryz.prog 58 #[v] w (NumPost (degT t) w) := by
 intro t
 induction t with
 | odd => intro v S w hS h hs; exact deg_odd v w h
 | num neg abs => intro v S w hS h hs; obtain ⟨A, n, c, rfl, ha⟩ := h; exact deg_num neg abs _ S w hS ha hs
 | name s => intro v S w hS h hs; obtain ⟨rfl, _⟩ := h; exact deg_name s w
 | add l r il ir =>
  intro v S w hS h hs
  obtain ⟨vl, vr, rfl, h1, h2⟩ := h
  exact deg_add l r vl vr w h1.one h2.one (fun w' hb => il vl S w' (fun b hb' => Nat.lt_of_lt_of_le (hS b hb') hb.size) (h1.below hS hb) hs.1) (fun w' hb => ir vr S w' (fun b hb' => Nat.lt_of_lt_of_le (hS b hb') hb.size) (h2.below hS hb) hs.2)
 | sub l r il ir =>
  intro v S w hS h hs
  obtain ⟨vl, vr, rfl, h1, h2⟩ := h
  exact deg_sub l r vl vr w h1.one h2.one (fun w' hb => il vl S w' (fun b hb' => Nat.lt_of_lt_of_le (hS b hb') hb.size) (h1.below hS hb) hs.1) (fun w' hb => ir vr S w' (fun b hb' => Nat.lt_of_lt_of_le (hS b hb') hb.size) (h2.below hS hb) hs.2)
 | mul l r il ir =>
  intro v S w hS h hs
  obtain ⟨vl, vr, rfl, h1, h2⟩ := h
  exact deg_mul l r vl vr w h1.one h2.one (fun w' hb => il vl S w' (fun b hb' => Nat.lt_of_lt_of_le (hS b hb') hb.size) (h1.below hS hb) hs.1) (fun w' hb => ir vr S w' (fun b hb' => Nat.lt_of_lt_of_le (hS b hb') hb.size) (h2.below hS hb) hs.2)
 | neg t it => intro v S w hS h hs; obtain ⟨vt, rfl, h1⟩ := h; exact deg_neg t vt w h1.one (fun w' hb => it vt S w' (fun b hb' => Nat.lt_of_lt_of_le (hS b hb') hb.size) (h1.below hS hb) hs)
 | pow t x it => intro v S w hS h hs; obtain ⟨vt, rfl, h1⟩ := h; exact deg_pow t x vt w h1.one (fun w' hb => it vt S w' (fun b hb' => Nat.lt_of_lt_of_le (hS b hb') hb.size) (h1.below hS hb) hs)
theorem wgt_name (nm : ByteArray) (w : World) : Calls Tryz.prog 59 #[.iface 47 (.agg #[.string nm])] w (NumPost (wgtT (.name nm)) w) := by
 have hfn : wgtT (.name nm) = 1 := rfl
 rw [hfn]
 clear hfn
 go_enter Tryz.func59, Tryz.ntmps59
 go_wp2
 go_ret
 exact ⟨rfl, by first | exact Below.refl _ _ | exact (Below.refl _ _).alloc (Nat.le_refl _) _⟩
theorem wgt_odd (v : Value) (w : World) (hv : OddV v) : Calls Tryz.prog 59 #[v] w (NumPost (wgtT .odd) w) := by
 have hfn : wgtT .odd = 1 := rfl
 rw [hfn]
 clear hfn
 rcases hv with rfl | ⟨u, a, rfl, hu⟩
 ·go_enter Tryz.func59, Tryz.ntmps59
  go_wp2
  go_ret
  exact ⟨rfl, Below.refl _ _⟩
 ·simp only [List.mem_cons, List.not_mem_nil, or_false, not_or] at hu
  obtain ⟨h1, h2, h3, h4, h5, h6, h7, _⟩ := hu
  unfold tNum at h1; unfold tName at h2; unfold tAdd at h3; unfold tSub at h4; unfold tMul at h5; unfold tNeg at h6; unfold tPow at h7
  go_enter Tryz.func59, Tryz.ntmps59
  go_wp2
  go_ret
  exact ⟨rfl, Below.refl _ _⟩
theorem wgt_num (neg : Bool) (l : List Nat) (v : Value) (S : Nat → Prop) (w : World) (hS : ∀ b, S b → b < w.heap.size) (h : AbsAt w S v l) (hl : l.length ≤ 1000000) : Calls Tryz.prog 59 #[.iface 135 (.agg #[.bool neg, v])] w (NumPost (wgtT (.num neg l)) w) := by
 obtain ⟨W, hW⟩ : ∃ W, w.alloc (.cells #[.bool neg, v] 135) = W := ⟨_, rfl⟩
 have hx : Box w W w.heap.size #[.bool neg, v] 135 := by rw [← hW]; exact Box.new w _ _
 obtain ⟨s0, s1⟩ := hx.c2
 have HD := h_ (digits_any neg l v S W (fun b hb => Nat.lt_of_lt_of_le (hS b hb) hx.below.size) (h.below hS hx.below) hl)
 obtain ⟨D, hD⟩ : ∃ D, D = digN (valN l) := ⟨_, rfl⟩
 rw [← hD] at HD
 have hfn : wgtT (.num neg l) = capN D := by rw [hD]; rfl
 rw [hfn]
 have HC := h_ (fun w => capped_any D w)
 obtain ⟨m, hm⟩ : ∃ m, m = capN D := ⟨_, rfl⟩
 rw [← hm] at HC ⊢
 obtain ⟨A, c, hv⟩ := h.form
 subst hv
 have HX := h_ hx
 clear hfn h hS hx hD hm
 go_enter Tryz.func59, Tryz.ntmps59
 go_wp2_with (first
  |(go_at_call 80; refine HD.out.mono ?_; rintro e w2 ⟨rfl, hb⟩)
  |(go_at_call 78; refine (HC.out _).mono ?_; rintro e w3 ⟨rfl, rfl⟩))
 go_ret
 exact ⟨rfl, HX.out.below.trans (hb.mono HX.out.below.size)⟩
theorem wgt_add (l r : Tm) (vl vr : Value) (w : World) (hol : vl.oneCell' = true) (hor : vr.oneCell' = true)
  (hl : ∀ w', Below w.heap.size w w' → Calls Tryz.prog 59 #[vl] w' (NumPost (wgtT l) w')) (hr : ∀ w', Below w.heap.size w w' → Calls Tryz.prog 59 #[vr] w' (NumPost (wgtT r) w')) :
  Calls Tryz.prog 59 #[.iface 137 (.agg #[vl, vr])] w (NumPost (wgtT (.add l r)) w) := by
 obtain ⟨W, hW⟩ : ∃ W, w.alloc (.cells #[vl, vr] 137) = W := ⟨_, rfl⟩
 have hx : Box w W w.heap.size #[vl, vr] 137 := by rw [← hW]; exact Box.new w _ _
 obtain ⟨s0, s1⟩ := hx.c2
 have hp0 := wgtT_le l
 have hq0 := wgtT_le r
 obtain ⟨p, hp⟩ : ∃ p, p = wgtT l := ⟨_, rfl⟩
 obtain ⟨q, hq⟩ : ∃ q, q = wgtT r := ⟨_, rfl⟩
 rw [← hp] at hl hp0
 rw [← hq] at hr hq0
 have hL : ∀ d os, _ := fun d os => hl (grow (redrawn W d) os) (hx.below.trans ((below_regrown W d os).mono hx.below.size))
 have hR : ∀ d os, _ := fun d os => hr (grow (redrawn W d) os) (hx.below.trans ((below_regrown W d os).mono hx.below.size))
 unfold NumPost at hL hR
 have HL := h_ hL
 have HR := h_ hR
 have HX := h_ hx
 have hfn : wgtT (.add l r) = capN (max p q + 1) := by unfold wgtT; rw [← hp, ← hq]
 rw [hfn]
 obtain ⟨m, hm⟩ : ∃ m, m = capN (max p q + 1) := ⟨_, rfl⟩
 rw [← hm]
 have r0 := fun d os => cell_regrown s0 d os
 have r1 := fun d os => cell_regrown s1 d os
 obtain ⟨x, hxx⟩ : ∃ x, x = max p q := ⟨_, rfl⟩
 have HXX := h_ hxx
 rw [← hxx] at hm
 have hxl : x ≤ 2147483647 := by omega
 have hC := fun w => capped_any (x + 1) w
 rw [← hm] at hC
 have hC2 : ∀ d os, _ := fun d os => (hC (grow (redrawn W d) os)).mono (R' := fun e w' => e = .returned (.int .i64 (m : Int)) ∧ Below (grow (redrawn W d) os).heap.size (grow (redrawn W d) os) w') (by rintro e w' ⟨rfl, rfl⟩; exact ⟨rfl, Below.refl _ _⟩)
 rw [Int.natCast_add, show ((1 : Nat) : Int) = 1 from rfl] at hC2
 have HC := h_ hC2
 have hw1 : IntKind.i64.wrap ((x : Int) + 1) = x + 1 := IntWalk.i64_in _ (by omega)
 clear hm hC hC2 hxx
 clear hL hR hx hl hr hp hq hfn
 by_cases hpq : p < q
 all_goals
  first
   |(have hl1 : (p : Int) < q := by omega
     obtain rfl : x = q := by have := HXX.out; omega)
   |(have hl2 : ¬ (p : Int) < q := by omega
     obtain rfl : x = p := by have := HXX.out; omega)
  clear HXX
  go_enter Tryz.func59, Tryz.ntmps59
  go_wp2_with fail
  refine wp_region_quiet_below (by kernel_rfl) (by kernel_rfl) ?_
  (repeat (quiet_step (first | (with_reducible exact Calls.regrown_of (HL.out _ _)) | (with_reducible exact Calls.regrown_of (HR.out _ _)) | (with_reducible exact Calls.regrown_of (HC.out _ _)))))
  refine wpQuiet_nil ?_
  rintro _ ⟨⟨d, os⟩, rfl⟩
  have hb2 := below_regrown W d os
  go_wp2
  all_goals
   go_ret
   exact ⟨rfl, HX.out.below.trans (hb2.mono HX.out.below.size)⟩
theorem wgt_sub (l r : Tm) (vl vr : Value) (w : World) (hol : vl.oneCell' = true) (hor : vr.oneCell' = true)
  (hl : ∀ w', Below w.heap.size w w' → Calls Tryz.prog 59 #[vl] w' (NumPost (wgtT l) w')) (hr : ∀ w', Below w.heap.size w w' → Calls Tryz.prog 59 #[vr] w' (NumPost (wgtT r) w')) :
  Calls Tryz.prog 59 #[.iface 138 (.agg #[vl, vr])] w (NumPost (wgtT (.sub l r)) w) := by
 obtain ⟨W, hW⟩ : ∃ W, w.alloc (.cells #[vl, vr] 138) = W := ⟨_, rfl⟩
 have hx : Box w W w.heap.size #[vl, vr] 138 := by rw [← hW]; exact Box.new w _ _
 obtain ⟨s0, s1⟩ := hx.c2
 have hp0 := wgtT_le l
 have hq0 := wgtT_le r
 obtain ⟨p, hp⟩ : ∃ p, p = wgtT l := ⟨_, rfl⟩
 obtain ⟨q, hq⟩ : ∃ q, q = wgtT r := ⟨_, rfl⟩
 rw [← hp] at hl hp0
 rw [← hq] at hr hq0
 have hL : ∀ d os, _ := fun d os => hl (grow (redrawn W d) os) (hx.below.trans ((below_regrown W d os).mono hx.below.size))
 have hR : ∀ d os, _ := fun d os => hr (grow (redrawn W d) os) (hx.below.trans ((below_regrown W d os).mono hx.below.size))
 unfold NumPost at hL hR
 have HL := h_ hL
 have HR := h_ hR
 have HX := h_ hx
 have hfn : wgtT (.sub l r) = capN (max p q + 1) := by unfold wgtT; rw [← hp, ← hq]
 rw [hfn]
 obtain ⟨m, hm⟩ : ∃ m, m = capN (max p q + 1) := ⟨_, rfl⟩
 rw [← hm]
 have r0 := fun d os => cell_regrown s0 d os
 have r1 := fun d os => cell_regrown s1 d os
 obtain ⟨x, hxx⟩ : ∃ x, x = max p q := ⟨_, rfl⟩
 have HXX := h_ hxx
 rw [← hxx] at hm
 have hxl : x ≤ 2147483647 := by omega
 have hC := fun w => capped_any (x + 1) w
 rw [← hm] at hC
 have hC2 : ∀ d os, _ := fun d os => (hC (grow (redrawn W d) os)).mono (R' := fun e w' => e = .returned (.int .i64 (m : Int)) ∧ Below (grow (redrawn W d) os).heap.size (grow (redrawn W d) os) w') (by rintro e w' ⟨rfl, rfl⟩; exact ⟨rfl, Below.refl _ _⟩)
 rw [Int.natCast_add, show ((1 : Nat) : Int) = 1 from rfl] at hC2
 have HC := h_ hC2
 have hw1 : IntKind.i64.wrap ((x : Int) + 1) = x + 1 := IntWalk.i64_in _ (by omega)
 clear hm hC hC2 hxx
 clear hL hR hx hl hr hp hq hfn
 by_cases hpq : p < q
 all_goals
  first
   |(have hl1 : (p : Int) < q := by omega
     obtain rfl : x = q := by have := HXX.out; omega)
   |(have hl2 : ¬ (p : Int) < q := by omega
     obtain rfl : x = p := by have := HXX.out; omega)
  clear HXX
  go_enter Tryz.func59, Tryz.ntmps59
  go_wp2_with fail
  refine wp_region_quiet_below (by kernel_rfl) (by kernel_rfl) ?_
  (repeat (quiet_step (first | (with_reducible exact Calls.regrown_of (HL.out _ _)) | (with_reducible exact Calls.regrown_of (HR.out _ _)) | (with_reducible exact Calls.regrown_of (HC.out _ _)))))
  refine wpQuiet_nil ?_
  rintro _ ⟨⟨d, os⟩, rfl⟩
  have hb2 := below_regrown W d os
  go_wp2
  all_goals
   go_ret
   exact ⟨rfl, HX.out.below.trans (hb2.mono HX.out.below.size)⟩
theorem wgt_mul (l r : Tm) (vl vr : Value) (w : World) (hol : vl.oneCell' = true) (hor : vr.oneCell' = true)
  (hl : ∀ w', Below w.heap.size w w' → Calls Tryz.prog 59 #[vl] w' (NumPost (wgtT l) w')) (hr : ∀ w', Below w.heap.size w w' → Calls Tryz.prog 59 #[vr] w' (NumPost (wgtT r) w')) :
  Calls Tryz.prog 59 #[.iface 139 (.agg #[vl, vr])] w (NumPost (wgtT (.mul l r)) w) := by
 obtain ⟨W, hW⟩ : ∃ W, w.alloc (.cells #[vl, vr] 139) = W := ⟨_, rfl⟩
 have hx : Box w W w.heap.size #[vl, vr] 139 := by rw [← hW]; exact Box.new w _ _
 obtain ⟨s0, s1⟩ := hx.c2
 have hp0 := wgtT_le l
 have hq0 := wgtT_le r
 obtain ⟨p, hp⟩ : ∃ p, p = wgtT l := ⟨_, rfl⟩
 obtain ⟨q, hq⟩ : ∃ q, q = wgtT r := ⟨_, rfl⟩
 rw [← hp] at hl hp0
 rw [← hq] at hr hq0
 have hL : ∀ d os, _ := fun d os => hl (grow (redrawn W d) os) (hx.below.trans ((below_regrown W d os).mono hx.below.size))
 have hR : ∀ d os, _ := fun d os => hr (grow (redrawn W d) os) (hx.below.trans ((below_regrown W d os).mono hx.below.size))
 unfold NumPost at hL hR
 have HL := h_ hL
 have HR := h_ hR
 have HX := h_ hx
 have hfn : wgtT (.mul l r) = capN (p + q) := by unfold wgtT; rw [← hp, ← hq]
 rw [hfn]
 obtain ⟨m, hm⟩ : ∃ m, m = capN (p + q) := ⟨_, rfl⟩
 rw [← hm]
 have r0 := fun d os => cell_regrown s0 d os
 have r1 := fun d os => cell_regrown s1 d os
 have hC := fun w => capped_any (p + q) w
 rw [← hm] at hC
 have hC2 : ∀ d os, _ := fun d os => (hC (grow (redrawn W d) os)).mono (R' := fun e w' => e = .returned (.int .i64 (m : Int)) ∧ Below (grow (redrawn W d) os).heap.size (grow (redrawn W d) os) w') (by rintro e w' ⟨rfl, rfl⟩; exact ⟨rfl, Below.refl _ _⟩)
 rw [Int.natCast_add] at hC2
 have HC := h_ hC2
 have hw1 : IntKind.i64.wrap ((p : Int) + q) = p + q := IntWalk.i64_in _ (by omega)
 clear hm hC hC2
 clear hL hR hx hl hr hp hq hfn
 go_enter Tryz.func59, Tryz.ntmps59
 go_wp2_with fail
 refine wp_region_quiet_below (by kernel_rfl) (by kernel_rfl) ?_
 (repeat (quiet_step (first | (with_reducible exact Calls.regrown_of (HL.out _ _)) | (with_reducible exact Calls.regrown_of (HR.out _ _)) | (with_reducible exact Calls.regrown_of (HC.out _ _)))))
 refine wpQuiet_nil ?_
 rintro _ ⟨⟨d, os⟩, rfl⟩
 have hb2 := below_regrown W d os
 go_wp2
 all_goals
  go_ret
  exact ⟨rfl, HX.out.below.trans (hb2.mono HX.out.below.size)⟩
theorem wgt_neg (l : Tm) (vl : Value) (w : World) (hol : vl.oneCell' = true)
  (hl : ∀ w', Below w.heap.size w w' → Calls Tryz.prog 59 #[vl] w' (NumPost (wgtT l) w')) :
  Calls Tryz.prog 59 #[.iface 141 (.agg #[vl])] w (NumPost (wgtT (.neg l)) w) := by
 obtain ⟨W, hW⟩ : ∃ W, w.alloc (.cells #[vl] 141) = W := ⟨_, rfl⟩
 have hx : Box w W w.heap.size #[vl] 141 := by rw [← hW]; exact Box.new w _ _
 have s0 : W.cell? ⟨w.heap.size, 0, none⟩ = some vl := hx.cell 0
 have hL := hl W hx.below
 have hfn : wgtT (.neg l) = wgtT l := by conv => lhs; unfold wgtT
 rw [hfn]
 have HL := h_ hL
 have HX := h_ hx
 clear hL hx hl hfn
 go_enter Tryz.func59, Tryz.ntmps59
 go_wp2_with (go_at_call 59; refine HL.out.mono ?_; rintro e w2 ⟨rfl, hb⟩)
 go_ret
 exact ⟨rfl, HX.out.below.trans (hb.mono HX.out.below.size)⟩
theorem wgt_pow (l : Tm) (x : Int) (vl : Value) (w : World) (hol : vl.oneCell' = true)
  (hl : ∀ w', Below w.heap.size w w' → Calls Tryz.prog 59 #[vl] w' (NumPost (wgtT l) w')) :
  Calls Tryz.prog 59 #[.iface 143 (.agg #[vl, .int .i64 x])] w (NumPost (wgtT (.pow l x)) w) := by
 obtain ⟨W, hW⟩ : ∃ W, w.alloc (.cells #[vl, .int .i64 x] 143) = W := ⟨_, rfl⟩
 have hx : Box w W w.heap.size #[vl, .int .i64 x] 143 := by rw [← hW]; exact Box.new w _ _
 obtain ⟨s0, s1⟩ := hx.c2
 obtain ⟨p, hp⟩ : ∃ p, p = wgtT l := ⟨_, rfl⟩
 rw [← hp] at hl
 have hL : ∀ d os, _ := fun d os => hl (grow (redrawn W d) os) (hx.below.trans ((below_regrown W d os).mono hx.below.size))
 unfold NumPost at hL
 have HL := h_ hL
 have HX := h_ hx
 obtain ⟨k, hk⟩ : ∃ k, k = (max x 1).toNat := ⟨_, rfl⟩
 have hfn : wgtT (.pow l x) = prodN k p := by unfold wgtT; rw [← hp, ← hk]
 rw [hfn]
 have hif : (if x < 1 then (1 : Int) else x) = k := by rw [hk]; split <;> omega
 obtain ⟨m, hm⟩ : ∃ m, m = prodN k p := ⟨_, rfl⟩
 have hC := fun w => product_any k p w
 rw [← hm] at hC ⊢
 have hC2 : ∀ d os, _ := fun d os => (hC (grow (redrawn W d) os)).mono (R' := fun e w' => e = .returned (.int .i64 (m : Int)) ∧ Below (grow (redrawn W d) os).heap.size (grow (redrawn W d) os) w') (by rintro e w' ⟨rfl, rfl⟩; exact ⟨rfl, Below.refl _ _⟩)
 have HC := h_ hC2
 have r0 := fun d os => cell_regrown s0 d os
 have r1 := fun d os => cell_regrown s1 d os
 clear hL hx hl hp hfn hk hm hC hC2
 go_enter Tryz.func59, Tryz.ntmps59
 go_wp2_with fail
 refine wp_region_quiet_below (by kernel_rfl) (by kernel_rfl) ?_
 (repeat (quiet_step (first | (with_reducible exact Calls.regrown_of (HL.out _ _)) | (with_reducible exact Calls.regrown_of (HC.out _ _)))))
 refine wpQuiet_nil ?_
 rintro _ ⟨⟨d, os⟩, rfl⟩
 have hb2 := below_regrown W d os
 go_wp2
 all_goals
  go_ret
  exact ⟨rfl, HX.out.below.trans (hb2.mono HX.out.below.size)⟩
theorem wgt_any : ∀ (t : Tm) (v : Value) (S : Nat → Prop) (w : World), (∀ b, S b → b < w.heap.size) → TmAt w S t v → SmT t → Calls Tryz.prog 59 #[v] w (NumPost (wgtT t) w) := by
 intro t
 induction t with
 | odd => intro v S w hS h hs; exact wgt_odd v w h
 | num neg abs => intro v S w hS h hs; obtain ⟨A, n, c, rfl, ha⟩ := h; exact wgt_num neg abs _ S w hS ha hs
 | name s => intro v S w hS h hs; obtain ⟨rfl, _⟩ := h; exact wgt_name s w
 | add l r il ir =>
  intro v S w hS h hs
  obtain ⟨vl, vr, rfl, h1, h2⟩ := h
  exact wgt_add l r vl vr w h1.one h2.one (fun w' hb => il vl S w' (fun b hb' => Nat.lt_of_lt_of_le (hS b hb') hb.size) (h1.below hS hb) hs.1) (fun w' hb => ir vr S w' (fun b hb' => Nat.lt_of_lt_of_le (hS b hb') hb.size) (h2.below hS hb) hs.2)
 | sub l r il ir =>
  intro v S w hS h hs
  obtain ⟨vl, vr, rfl, h1, h2⟩ := h
  exact wgt_sub l r vl vr w h1.one h2.one (fun w' hb => il vl S w' (fun b hb' => Nat.lt_of_lt_of_le (hS b hb') hb.size) (h1.below hS hb) hs.1) (fun w' hb => ir vr S w' (fun b hb' => Nat.lt_of_lt_of_le (hS b hb') hb.size) (h2.below hS hb) hs.2)
 | mul l r il ir =>
  intro v S w hS h hs
  obtain ⟨vl, vr, rfl, h1, h2⟩ := h
  exact wgt_mul l r vl vr w h1.one h2.one (fun w' hb => il vl S w' (fun b hb' => Nat.lt_of_lt_of_le (hS b hb') hb.size) (h1.below hS hb) hs.1) (fun w' hb => ir vr S w' (fun b hb' => Nat.lt_of_lt_of_le (hS b hb') hb.size) (h2.below hS hb) hs.2)
 | neg t it => intro v S w hS h hs; obtain ⟨vt, rfl, h1⟩ := h; exact wgt_neg t vt w h1.one (fun w' hb => it vt S w' (fun b hb' => Nat.lt_of_lt_of_le (hS b hb') hb.size) (h1.below hS hb) hs)
 | pow t x it => intro v S w hS h hs; obtain ⟨vt, rfl, h1⟩ := h; exact wgt_pow t x vt w h1.one (fun w' hb => it vt S w' (fun b hb' => Nat.lt_of_lt_of_le (hS b hb') hb.size) (h1.below hS hb) hs)
end Dc
end Go.Proofs.YteneobpacobpdaaGreatDoor
