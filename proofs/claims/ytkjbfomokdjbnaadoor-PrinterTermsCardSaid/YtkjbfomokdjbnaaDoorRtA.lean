/-
  The reference's strength, small, in, two.
-/
import Derived.Test.YtkjbfomokdjbnaaDoorRtZ
import Derived.Lib.QuietBelow
import Derived.BigQuiet
import Derived.Deep.QuietTactic
import Derived.IntWalk
namespace Go.Proofs.YtkjbfomokdjbnaaDoor
open Go.RowKit Go.Sort
set_option linter.unusedSimpArgs false
set_option linter.unusedVariables false
namespace Rt
open Fm Dc
attribute [local go_sem] run_store
set_option maxRecDepth 100000 in
theorem st_15 : StC 15 0 := by
  intro w
  have hbw := (((Below.refl _ w).alloc (Nat.le_refl _) (.cells #[.int .i64 15, .int .i64 14, .int .i64 13, .int .i64 12, .int .i64 11, .int .i64 10, .int .i64 8, .int .i64 9, .int .i64 3, .int .i64 4, .int .i64 5, .int .i64 6, .int .i64 7, .int .i64 1, .int .i64 2] 3)).alloc (by simp) (.cells #[.int .i64 0, .int .i64 1, .int .i64 2, .int .i64 3, .int .i64 4, .int .i64 5, .int .i64 6, .int .i64 6, .int .i64 1, .int .i64 1, .int .i64 2, .int .i64 3, .int .i64 4, .int .i64 5, .int .i64 5] 3))
  go_enter Tryd.func71, Tryd.ntmps71
  go_wp2
  refine wp_loop_rounds 1 ?_
  repeat (rw [rounds_succ]; go_wp2)
  go_ret
  exact ⟨rfl, hbw⟩
set_option maxRecDepth 100000 in
theorem st_14 : StC 14 1 := by
  intro w
  have hbw := (((Below.refl _ w).alloc (Nat.le_refl _) (.cells #[.int .i64 15, .int .i64 14, .int .i64 13, .int .i64 12, .int .i64 11, .int .i64 10, .int .i64 8, .int .i64 9, .int .i64 3, .int .i64 4, .int .i64 5, .int .i64 6, .int .i64 7, .int .i64 1, .int .i64 2] 3)).alloc (by simp) (.cells #[.int .i64 0, .int .i64 1, .int .i64 2, .int .i64 3, .int .i64 4, .int .i64 5, .int .i64 6, .int .i64 6, .int .i64 1, .int .i64 1, .int .i64 2, .int .i64 3, .int .i64 4, .int .i64 5, .int .i64 5] 3))
  go_enter Tryd.func71, Tryd.ntmps71
  go_wp2
  refine wp_loop_rounds 2 ?_
  repeat (rw [rounds_succ]; go_wp2)
  go_ret
  exact ⟨rfl, hbw⟩
set_option maxRecDepth 100000 in
theorem st_13 : StC 13 2 := by
  intro w
  have hbw := (((Below.refl _ w).alloc (Nat.le_refl _) (.cells #[.int .i64 15, .int .i64 14, .int .i64 13, .int .i64 12, .int .i64 11, .int .i64 10, .int .i64 8, .int .i64 9, .int .i64 3, .int .i64 4, .int .i64 5, .int .i64 6, .int .i64 7, .int .i64 1, .int .i64 2] 3)).alloc (by simp) (.cells #[.int .i64 0, .int .i64 1, .int .i64 2, .int .i64 3, .int .i64 4, .int .i64 5, .int .i64 6, .int .i64 6, .int .i64 1, .int .i64 1, .int .i64 2, .int .i64 3, .int .i64 4, .int .i64 5, .int .i64 5] 3))
  go_enter Tryd.func71, Tryd.ntmps71
  go_wp2
  refine wp_loop_rounds 3 ?_
  repeat (rw [rounds_succ]; go_wp2)
  go_ret
  exact ⟨rfl, hbw⟩
set_option maxRecDepth 100000 in
theorem st_12 : StC 12 3 := by
  intro w
  have hbw := (((Below.refl _ w).alloc (Nat.le_refl _) (.cells #[.int .i64 15, .int .i64 14, .int .i64 13, .int .i64 12, .int .i64 11, .int .i64 10, .int .i64 8, .int .i64 9, .int .i64 3, .int .i64 4, .int .i64 5, .int .i64 6, .int .i64 7, .int .i64 1, .int .i64 2] 3)).alloc (by simp) (.cells #[.int .i64 0, .int .i64 1, .int .i64 2, .int .i64 3, .int .i64 4, .int .i64 5, .int .i64 6, .int .i64 6, .int .i64 1, .int .i64 1, .int .i64 2, .int .i64 3, .int .i64 4, .int .i64 5, .int .i64 5] 3))
  go_enter Tryd.func71, Tryd.ntmps71
  go_wp2
  refine wp_loop_rounds 4 ?_
  repeat (rw [rounds_succ]; go_wp2)
  go_ret
  exact ⟨rfl, hbw⟩
set_option maxRecDepth 100000 in
theorem st_11 : StC 11 4 := by
  intro w
  have hbw := (((Below.refl _ w).alloc (Nat.le_refl _) (.cells #[.int .i64 15, .int .i64 14, .int .i64 13, .int .i64 12, .int .i64 11, .int .i64 10, .int .i64 8, .int .i64 9, .int .i64 3, .int .i64 4, .int .i64 5, .int .i64 6, .int .i64 7, .int .i64 1, .int .i64 2] 3)).alloc (by simp) (.cells #[.int .i64 0, .int .i64 1, .int .i64 2, .int .i64 3, .int .i64 4, .int .i64 5, .int .i64 6, .int .i64 6, .int .i64 1, .int .i64 1, .int .i64 2, .int .i64 3, .int .i64 4, .int .i64 5, .int .i64 5] 3))
  go_enter Tryd.func71, Tryd.ntmps71
  go_wp2
  refine wp_loop_rounds 5 ?_
  repeat (rw [rounds_succ]; go_wp2)
  go_ret
  exact ⟨rfl, hbw⟩
set_option maxRecDepth 100000 in
theorem st_10 : StC 10 5 := by
  intro w
  have hbw := (((Below.refl _ w).alloc (Nat.le_refl _) (.cells #[.int .i64 15, .int .i64 14, .int .i64 13, .int .i64 12, .int .i64 11, .int .i64 10, .int .i64 8, .int .i64 9, .int .i64 3, .int .i64 4, .int .i64 5, .int .i64 6, .int .i64 7, .int .i64 1, .int .i64 2] 3)).alloc (by simp) (.cells #[.int .i64 0, .int .i64 1, .int .i64 2, .int .i64 3, .int .i64 4, .int .i64 5, .int .i64 6, .int .i64 6, .int .i64 1, .int .i64 1, .int .i64 2, .int .i64 3, .int .i64 4, .int .i64 5, .int .i64 5] 3))
  go_enter Tryd.func71, Tryd.ntmps71
  go_wp2
  refine wp_loop_rounds 6 ?_
  repeat (rw [rounds_succ]; go_wp2)
  go_ret
  exact ⟨rfl, hbw⟩
set_option maxRecDepth 100000 in
theorem st_8 : StC 8 6 := by
  intro w
  have hbw := (((Below.refl _ w).alloc (Nat.le_refl _) (.cells #[.int .i64 15, .int .i64 14, .int .i64 13, .int .i64 12, .int .i64 11, .int .i64 10, .int .i64 8, .int .i64 9, .int .i64 3, .int .i64 4, .int .i64 5, .int .i64 6, .int .i64 7, .int .i64 1, .int .i64 2] 3)).alloc (by simp) (.cells #[.int .i64 0, .int .i64 1, .int .i64 2, .int .i64 3, .int .i64 4, .int .i64 5, .int .i64 6, .int .i64 6, .int .i64 1, .int .i64 1, .int .i64 2, .int .i64 3, .int .i64 4, .int .i64 5, .int .i64 5] 3))
  go_enter Tryd.func71, Tryd.ntmps71
  go_wp2
  refine wp_loop_rounds 7 ?_
  repeat (rw [rounds_succ]; go_wp2)
  go_ret
  exact ⟨rfl, hbw⟩
set_option maxRecDepth 100000 in
theorem st_9 : StC 9 6 := by
  intro w
  have hbw := (((Below.refl _ w).alloc (Nat.le_refl _) (.cells #[.int .i64 15, .int .i64 14, .int .i64 13, .int .i64 12, .int .i64 11, .int .i64 10, .int .i64 8, .int .i64 9, .int .i64 3, .int .i64 4, .int .i64 5, .int .i64 6, .int .i64 7, .int .i64 1, .int .i64 2] 3)).alloc (by simp) (.cells #[.int .i64 0, .int .i64 1, .int .i64 2, .int .i64 3, .int .i64 4, .int .i64 5, .int .i64 6, .int .i64 6, .int .i64 1, .int .i64 1, .int .i64 2, .int .i64 3, .int .i64 4, .int .i64 5, .int .i64 5] 3))
  go_enter Tryd.func71, Tryd.ntmps71
  go_wp2
  refine wp_loop_rounds 8 ?_
  repeat (rw [rounds_succ]; go_wp2)
  go_ret
  exact ⟨rfl, hbw⟩
set_option maxRecDepth 100000 in
theorem st_3 : StC 3 1 := by
  intro w
  have hbw := (((Below.refl _ w).alloc (Nat.le_refl _) (.cells #[.int .i64 15, .int .i64 14, .int .i64 13, .int .i64 12, .int .i64 11, .int .i64 10, .int .i64 8, .int .i64 9, .int .i64 3, .int .i64 4, .int .i64 5, .int .i64 6, .int .i64 7, .int .i64 1, .int .i64 2] 3)).alloc (by simp) (.cells #[.int .i64 0, .int .i64 1, .int .i64 2, .int .i64 3, .int .i64 4, .int .i64 5, .int .i64 6, .int .i64 6, .int .i64 1, .int .i64 1, .int .i64 2, .int .i64 3, .int .i64 4, .int .i64 5, .int .i64 5] 3))
  go_enter Tryd.func71, Tryd.ntmps71
  go_wp2
  refine wp_loop_rounds 9 ?_
  repeat (rw [rounds_succ]; go_wp2)
  go_ret
  exact ⟨rfl, hbw⟩
set_option maxRecDepth 100000 in
theorem st_4 : StC 4 1 := by
  intro w
  have hbw := (((Below.refl _ w).alloc (Nat.le_refl _) (.cells #[.int .i64 15, .int .i64 14, .int .i64 13, .int .i64 12, .int .i64 11, .int .i64 10, .int .i64 8, .int .i64 9, .int .i64 3, .int .i64 4, .int .i64 5, .int .i64 6, .int .i64 7, .int .i64 1, .int .i64 2] 3)).alloc (by simp) (.cells #[.int .i64 0, .int .i64 1, .int .i64 2, .int .i64 3, .int .i64 4, .int .i64 5, .int .i64 6, .int .i64 6, .int .i64 1, .int .i64 1, .int .i64 2, .int .i64 3, .int .i64 4, .int .i64 5, .int .i64 5] 3))
  go_enter Tryd.func71, Tryd.ntmps71
  go_wp2
  refine wp_loop_rounds 10 ?_
  repeat (rw [rounds_succ]; go_wp2)
  go_ret
  exact ⟨rfl, hbw⟩
set_option maxRecDepth 100000 in
theorem st_5 : StC 5 2 := by
  intro w
  have hbw := (((Below.refl _ w).alloc (Nat.le_refl _) (.cells #[.int .i64 15, .int .i64 14, .int .i64 13, .int .i64 12, .int .i64 11, .int .i64 10, .int .i64 8, .int .i64 9, .int .i64 3, .int .i64 4, .int .i64 5, .int .i64 6, .int .i64 7, .int .i64 1, .int .i64 2] 3)).alloc (by simp) (.cells #[.int .i64 0, .int .i64 1, .int .i64 2, .int .i64 3, .int .i64 4, .int .i64 5, .int .i64 6, .int .i64 6, .int .i64 1, .int .i64 1, .int .i64 2, .int .i64 3, .int .i64 4, .int .i64 5, .int .i64 5] 3))
  go_enter Tryd.func71, Tryd.ntmps71
  go_wp2
  refine wp_loop_rounds 11 ?_
  repeat (rw [rounds_succ]; go_wp2)
  go_ret
  exact ⟨rfl, hbw⟩
set_option maxRecDepth 100000 in
theorem st_6 : StC 6 3 := by
  intro w
  have hbw := (((Below.refl _ w).alloc (Nat.le_refl _) (.cells #[.int .i64 15, .int .i64 14, .int .i64 13, .int .i64 12, .int .i64 11, .int .i64 10, .int .i64 8, .int .i64 9, .int .i64 3, .int .i64 4, .int .i64 5, .int .i64 6, .int .i64 7, .int .i64 1, .int .i64 2] 3)).alloc (by simp) (.cells #[.int .i64 0, .int .i64 1, .int .i64 2, .int .i64 3, .int .i64 4, .int .i64 5, .int .i64 6, .int .i64 6, .int .i64 1, .int .i64 1, .int .i64 2, .int .i64 3, .int .i64 4, .int .i64 5, .int .i64 5] 3))
  go_enter Tryd.func71, Tryd.ntmps71
  go_wp2
  refine wp_loop_rounds 12 ?_
  repeat (rw [rounds_succ]; go_wp2)
  go_ret
  exact ⟨rfl, hbw⟩
set_option maxRecDepth 100000 in
theorem st_7 : StC 7 4 := by
  intro w
  have hbw := (((Below.refl _ w).alloc (Nat.le_refl _) (.cells #[.int .i64 15, .int .i64 14, .int .i64 13, .int .i64 12, .int .i64 11, .int .i64 10, .int .i64 8, .int .i64 9, .int .i64 3, .int .i64 4, .int .i64 5, .int .i64 6, .int .i64 7, .int .i64 1, .int .i64 2] 3)).alloc (by simp) (.cells #[.int .i64 0, .int .i64 1, .int .i64 2, .int .i64 3, .int .i64 4, .int .i64 5, .int .i64 6, .int .i64 6, .int .i64 1, .int .i64 1, .int .i64 2, .int .i64 3, .int .i64 4, .int .i64 5, .int .i64 5] 3))
  go_enter Tryd.func71, Tryd.ntmps71
  go_wp2
  refine wp_loop_rounds 13 ?_
  repeat (rw [rounds_succ]; go_wp2)
  go_ret
  exact ⟨rfl, hbw⟩
set_option maxRecDepth 100000 in
theorem st_1 : StC 1 5 := by
  intro w
  have hbw := (((Below.refl _ w).alloc (Nat.le_refl _) (.cells #[.int .i64 15, .int .i64 14, .int .i64 13, .int .i64 12, .int .i64 11, .int .i64 10, .int .i64 8, .int .i64 9, .int .i64 3, .int .i64 4, .int .i64 5, .int .i64 6, .int .i64 7, .int .i64 1, .int .i64 2] 3)).alloc (by simp) (.cells #[.int .i64 0, .int .i64 1, .int .i64 2, .int .i64 3, .int .i64 4, .int .i64 5, .int .i64 6, .int .i64 6, .int .i64 1, .int .i64 1, .int .i64 2, .int .i64 3, .int .i64 4, .int .i64 5, .int .i64 5] 3))
  go_enter Tryd.func71, Tryd.ntmps71
  go_wp2
  refine wp_loop_rounds 14 ?_
  repeat (rw [rounds_succ]; go_wp2)
  go_ret
  exact ⟨rfl, hbw⟩
set_option maxRecDepth 100000 in
theorem st_2 : StC 2 5 := by
  intro w
  have hbw := (((Below.refl _ w).alloc (Nat.le_refl _) (.cells #[.int .i64 15, .int .i64 14, .int .i64 13, .int .i64 12, .int .i64 11, .int .i64 10, .int .i64 8, .int .i64 9, .int .i64 3, .int .i64 4, .int .i64 5, .int .i64 6, .int .i64 7, .int .i64 1, .int .i64 2] 3)).alloc (by simp) (.cells #[.int .i64 0, .int .i64 1, .int .i64 2, .int .i64 3, .int .i64 4, .int .i64 5, .int .i64 6, .int .i64 6, .int .i64 1, .int .i64 1, .int .i64 2, .int .i64 3, .int .i64 4, .int .i64 5, .int .i64 5] 3))
  go_enter Tryd.func71, Tryd.ntmps71
  go_wp2
  refine wp_loop_rounds 15 ?_
  repeat (rw [rounds_succ]; go_wp2)
  go_ret
  exact ⟨rfl, hbw⟩
set_option maxRecDepth 100000 in
set_option maxHeartbeats 2000000 in
theorem small_any : ∀ (m n : Nat), n ≤ m → n ≤ 9223372036854775807 → ∀ w, Calls Tryd.prog 58 #[.int .i64 n] w fun e w' => e = .returned (.string (bsR (fmtL false n))) ∧ w = w'
  | m, n, hm, hn => by
    intro w
    by_cases h : n < 10
    · have hlt : decide ((n : Int) < 10) = true := decide_eq_true (by omega)
      have he := enc_digit n h
      rw [num_one h]
      have hw1 : IntKind.i64.wrap (48 + (n : Int)) = 48 + (n : Int) := IntWalk.i64_in _ (by omega)
      clear hm
      go_enter Tryd.func58, Tryd.ntmps58
      go_wp2
      go_ret
      exact ⟨rfl, rfl⟩
    · have hlt : decide ((n : Int) < 10) = false := decide_eq_false (by omega)
      have hq : (n : Int).tdiv 10 = ((n / 10 : Nat) : Int) := by rw [Int.tdiv_eq_ediv_of_nonneg (by omega)]; omega
      have hr : (n : Int).tmod 10 = ((n % 10 : Nat) : Int) := by rw [Int.tmod_eq_emod_of_nonneg (by omega)]; omega
      have he := enc_digit (n % 10) (by omega)
      match m, hm with
      | 0, hm => omega
      | m + 1, hm =>
        have HI := Lib.hid (small_any m (n / 10) (by omega) (by omega))
        obtain ⟨q, hqq⟩ : ∃ q, q = n / 10 := ⟨_, rfl⟩
        obtain ⟨r, hrr⟩ : ∃ r, r = n % 10 := ⟨_, rfl⟩
        rw [num_ten h, ← hqq, ← hrr]
        rw [← hqq] at hq HI
        rw [← hrr] at hr he
        have hr10 : r < 10 := by omega
        have hwq : wrap64 (q : Int) = q := IntWalk.wrap64_in _ (by omega)
        have hsz : (bsR (fmtL false q)).size ≤ 100 := by
          rw [bs_sz]
          have h1 := revd_len 40 q (Nat.lt_of_le_of_lt (m := 9223372036854775807) (by omega) (by decide))
          have h2 := fmt_le q 40 (by decide) h1
          omega
        have hsz1 : (bsR [asc r]).size = 1 := rfl
        obtain ⟨sq, hsq⟩ : ∃ sq, sq = bsR (fmtL false q) := ⟨_, rfl⟩
        obtain ⟨sr, hsr⟩ : ∃ sr, sr = bsR [asc r] := ⟨_, rfl⟩
        rw [← hsq] at HI hsz ⊢
        rw [← hsr] at he hsz1 ⊢
        clear hqq hrr hm hsq hsr
        go_enter Tryd.func58, Tryd.ntmps58
        go_wp2_with fail
        refine (HI.out _).mono ?_
        rintro e w1 ⟨rfl, rfl⟩
        go_wp2
        go_ret
        exact ⟨rfl, rfl⟩
end Rt
end Go.Proofs.YtkjbfomokdjbnaaDoor
