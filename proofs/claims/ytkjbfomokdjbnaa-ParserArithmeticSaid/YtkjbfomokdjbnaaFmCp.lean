/-
  integer.Same, and what it goes by.
-/
import Derived.Test.YtkjbfomokdjbnaaFmJ
import Derived.Lib.QuietBelow
namespace Go.Proofs.Ytkjbfomokdjbnaa
open Go.RowKit Go.Sort
set_option linter.unusedSimpArgs false
set_option linter.unusedVariables false
namespace Fm

def CmpPost (eq : Prop) (w : World) (e : Ending) (w' : World) : Prop := ∃ c : Int, e = .returned (.int .i64 c) ∧ (c = 0 ↔ eq) ∧ Below w.heap.size w w'

set_option maxRecDepth 100000 in
set_option maxHeartbeats 4000000 in
theorem natCmp_any (la lb : List Nat) (va vb : Value) (S : Nat → Prop) (w : World) (ha : AbsAt w S va la) (hb : AbsAt w S vb lb) :
    Calls Try.prog 50 #[va, vb] w (CmpPost (trimN la = trimN lb) w) := by
  have HTA := Lib.hid (trim_any la va S w ha)
  have HTB := Lib.hid (trim_any lb vb S w hb)
  obtain ⟨p, hp⟩ : ∃ p, p = trimN la := ⟨_, rfl⟩
  obtain ⟨q, hq⟩ : ∃ q, q = trimN lb := ⟨_, rfl⟩
  rw [← hp] at HTA ⊢
  rw [← hq] at HTB ⊢
  obtain ⟨n, hn⟩ : ∃ n, n = p.length := ⟨_, rfl⟩
  obtain ⟨m, hm⟩ : ∃ m, m = q.length := ⟨_, rfl⟩
  rw [← hn] at HTA
  rw [← hm] at HTB
  have hl1 : n ≤ 9223372036854775807 := by rw [hn, hp, trimN_len]; exact Nat.le_trans (trimLen_le _ _) ha.2.2
  have hl2 : m ≤ 9223372036854775807 := by rw [hm, hq, trimN_len]; exact Nat.le_trans (trimLen_le _ _) hb.2.2
  have HN := Lib.hid hn
  have HM := Lib.hid hm
  clear hp hq hn hm ha hb
  by_cases h1 : n < m
  · have hd : decide ((n : Int) < m) = true := by simp; omega
    have HF := Lib.hid (show ¬ p = q from fun e => by rw [HN.out, HM.out, e] at h1; omega)
    go_enter Try.func50, Try.ntmps50
    go_wp2_with (first
      | (go_at_call 55; (with_reducible refine HTA.out.mono ?_); intro e w1 hq; obtain ⟨⟨A1, c1, rfl, hA⟩, hw⟩ := hq; obtain rfl : w = w1 := hw.symm)
      | (go_at_call 55; (with_reducible refine HTB.out.mono ?_); intro e w1 hq; obtain ⟨⟨A2, c2, rfl, hB⟩, hw⟩ := hq; obtain rfl : w = w1 := hw.symm))
    go_ret
    exact ⟨-1, rfl, ⟨fun h => by omega, fun h => absurd h HF.out⟩, Below.refl _ w⟩
  · by_cases h2 : m < n
    · have hd1 : decide ((n : Int) < m) = false := by simp; omega
      have hd2 : decide ((m : Int) < n) = true := by simp; omega
      have HF := Lib.hid (show ¬ p = q from fun e => by rw [HN.out, HM.out, e] at h2; omega)
      go_enter Try.func50, Try.ntmps50
      go_wp2_with (first
        | (go_at_call 55; (with_reducible refine HTA.out.mono ?_); intro e w1 hq; obtain ⟨⟨A1, c1, rfl, hA⟩, hw⟩ := hq; obtain rfl : w = w1 := hw.symm)
        | (go_at_call 55; (with_reducible refine HTB.out.mono ?_); intro e w1 hq; obtain ⟨⟨A2, c2, rfl, hB⟩, hw⟩ := hq; obtain rfl : w = w1 := hw.symm))
      go_ret
      exact ⟨1, rfl, ⟨fun h => by omega, fun h => absurd h HF.out⟩, Below.refl _ w⟩
    · obtain rfl : n = m := by omega
      clear h1 h2
      have hd1 : decide ((n : Int) < n) = false := by simp
      go_enter Try.func50, Try.ntmps50
      go_wp2_with (first
        | (go_at_call 55; (with_reducible refine HTA.out.mono ?_); intro e w1 hq; obtain ⟨⟨A1, c1, rfl, hA⟩, hw⟩ := hq; obtain rfl : w = w1 := hw.symm; have HA := Lib.hid hA; clear hA)
        | (go_at_call 55; (with_reducible refine HTB.out.mono ?_); intro e w1 hq; obtain ⟨⟨A2, c2, rfl, hB⟩, hw⟩ := hq; obtain rfl : w = w1 := hw.symm; have HB := Lib.hid hB; clear hB))
      go_loopw [5] (fun a_ wr => ∃ (k d : Nat), k ≤ n ∧ a_ = .int .i64 ((k : Int) - 1) ∧ wr = w.drewN d ∧ Hid (∀ i, k ≤ i → i < n → p.getD i 0 = q.getD i 0)) (fun a_ _ => (intOf a_ + 1).toNat)
      case atStart => exact ⟨n, 0, Nat.le_refl _, rfl, rfl, Lib.hid (fun i h1 h2 => by omega)⟩
      case round =>
        obtain ⟨k, d, hk, rfl, rfl, hall⟩ := hrel
        by_cases h0 : k = 0
        · subst h0
          have HE := Lib.hid (show p = q by
            apply Classical.byContradiction
            intro h
            obtain ⟨i, h1, h2⟩ := list_ne_at (HN.out.symm.trans HM.out) h
            exact h2 (hall.out i (Nat.zero_le _) (by have := HN.out; omega)))
          go_wp2
          go_ret
          exact ⟨0, rfl, ⟨fun _ => HE.out, fun _ => rfl⟩, (Below.refl _ w).drewN _⟩
        · obtain ⟨b1, o1, rfl, _, hc1⟩ := HA.out.at_ HN.out (by omega)
          obtain ⟨b2, o2, rfl, _, hc2⟩ := HB.out.at_ HM.out (by omega)
          have g1 := hc1 (k - 1) (by omega)
          have g2 := hc2 (k - 1) (by omega)
          obtain ⟨x, hx⟩ : ∃ x, x = p.getD (k - 1) 0 := ⟨_, rfl⟩
          obtain ⟨y, hy⟩ : ∃ y, y = q.getD (k - 1) 0 := ⟨_, rfl⟩
          rw [← hx] at g1
          rw [← hy] at g2
          have HX := Lib.hid hx
          have HY := Lib.hid hy
          have hkc : ((k : Int) - 1).toNat = k - 1 := by omega
          have hk1 : (0 : Int) ≤ (k : Int) - 1 ∧ (k : Int) - 1 < n := by omega
          clear hc1 hc2 hx hy
          rcases Nat.lt_trichotomy x y with hlt | heq | hgt
          · have hd : decide ((x : Int) < y) = true := by simp; omega
            have HF := Lib.hid (show ¬ p = q from fun e => by rw [HX.out, HY.out, e] at hlt; omega)
            go_wp2
            go_quiet (fail)
            go_wp2
            go_ret
            exact ⟨-1, rfl, ⟨fun h => by omega, fun h => absurd h HF.out⟩, ((Below.refl _ w).drewN _).drewN _⟩
          · subst heq
            have hd : decide ((x : Int) < x) = false := by simp
            have HA2 := Lib.hid (show ∀ i, k - 1 ≤ i → i < n → p.getD i 0 = q.getD i 0 from fun i h1 h2 => by
              by_cases e : i = k - 1
              · rw [e, ← HX.out, ← HY.out]
              · exact hall.out i (by omega) h2)
            go_wp2
            go_quiet (fail)
            go_wp2
            go_quiet (fail)
            go_wp2
            go_roundw
            case rel => exact ⟨k - 1, _, by omega, by congr 1; omega, rfl, HA2⟩
            case measure => simp [intOf]; omega
          · have hd : decide ((x : Int) < y) = false := by simp; omega
            have hd2 : decide ((y : Int) < x) = true := by simp; omega
            have HF := Lib.hid (show ¬ p = q from fun e => by rw [HX.out, HY.out, e] at hgt; omega)
            go_wp2
            go_quiet (fail)
            go_wp2
            go_quiet (fail)
            go_wp2
            go_ret
            exact ⟨1, rfl, ⟨fun h => by omega, fun h => absurd h HF.out⟩, (((Below.refl _ w).drewN _).drewN _).drewN _⟩

def sg (neg : Bool) (l : List Nat) : Int := if (trimN l).length = 0 then 0 else if neg then -1 else 1
theorem isZero_any (l : List Nat) (v : Value) (S : Nat → Prop) (w : World) (h : AbsAt w S v l) (r : Bool) (hr : r = decide ((trimN l).length = 0)) :
    Calls Try.prog 58 #[v] w fun e w' => e = .returned (.bool r) ∧ w = w' := by
  obtain ⟨n, hn⟩ : ∃ n, n = (trimN l).length := ⟨_, rfl⟩
  have HT := Lib.hid (trim_any l v S w h)
  rw [← hn] at HT
  have hd : ((n : Int) == 0) = r := by rw [hr, ← hn, Bool.eq_iff_iff]; simp
  clear hr hn h
  go_enter Try.func58, Try.ntmps58
  go_wp2_with (go_at_call 55; refine HT.out.mono ?_; intro e w1 hq; obtain ⟨⟨A1, c1, rfl, hA⟩, hw⟩ := hq; obtain rfl : w = w1 := hw.symm)
  go_ret
  exact ⟨by rw [← hd]; rfl, rfl⟩
set_option maxHeartbeats 1000000 in
theorem sign_any (neg : Bool) (l : List Nat) (v : Value) (S : Nat → Prop) (w : World) (hS : ∀ b, S b → b < w.heap.size) (h : AbsAt w S v l) :
    Calls Try.prog 49 #[.agg #[.bool neg, v]] w fun e w' => e = .returned (.int .i64 (sg neg l)) ∧ Below w.heap.size w w' := by
  obtain ⟨A, c, rfl⟩ := h.form
  obtain ⟨n, hn⟩ : ∃ n, n = l.length := ⟨_, rfl⟩
  rw [← hn] at h ⊢
  obtain ⟨r, hr⟩ : ∃ r, r = decide ((trimN l).length = 0) := ⟨_, rfl⟩
  have HS := Lib.hid (show sg neg l = if r then 0 else if neg then -1 else 1 by unfold sg; rw [hr]; by_cases e : (trimN l).length = 0 <;> simp [e])
  have hb := (Below.refl w.heap.size w).alloc (Nat.le_refl _) (.cells #[.bool neg, .slice A n c] 43)
  have HZ := Lib.hid (isZero_any l _ S _ (h.below hS hb) r hr)
  have HB := Lib.hid hb
  clear hr hn h hb
  cases r
  · cases neg
    all_goals
      go_enter Try.func49, Try.ntmps49
      go_wp2_with (go_at_call 58; refine HZ.out.mono ?_; rintro e w1 ⟨rfl, rfl⟩)
      go_ret
      exact ⟨by rw [HS.out]; rfl, HB.out⟩
  · go_enter Try.func49, Try.ntmps49
    go_wp2_with (go_at_call 58; refine HZ.out.mono ?_; rintro e w1 ⟨rfl, rfl⟩)
    go_ret
    exact ⟨by rw [HS.out]; rfl, HB.out⟩
theorem sg_three (neg : Bool) (l : List Nat) : sg neg l = -1 ∨ sg neg l = 0 ∨ sg neg l = 1 := by unfold sg; split <;> (try split) <;> simp
set_option maxRecDepth 100000 in
set_option maxHeartbeats 4000000 in
theorem icmp_any (na nb : Bool) (la lb : List Nat) (va vb : Value) (S : Nat → Prop) (w : World) (hS : ∀ b, S b → b < w.heap.size) (ha : AbsAt w S va la) (hb : AbsAt w S vb lb) (E : Prop) (hE : E ↔ (sg na la = sg nb lb ∧ trimN la = trimN lb)) :
    Calls Try.prog 41 #[.agg #[.bool na, va], .agg #[.bool nb, vb]] w (CmpPost E w) := by
  obtain ⟨A1, c1, rfl⟩ := ha.form
  obtain ⟨A2, c2, rfl⟩ := hb.form
  obtain ⟨n, hn⟩ : ∃ n, n = la.length := ⟨_, rfl⟩
  obtain ⟨m, hm⟩ : ∃ m, m = lb.length := ⟨_, rfl⟩
  rw [← hn] at ha ⊢
  rw [← hm] at hb ⊢
  obtain ⟨W, hW⟩ : ∃ W, (w.alloc (.cells #[.bool na, .slice A1 n c1] 43)).alloc (.cells #[.bool nb, .slice A2 m c2] 43) = W := ⟨_, rfl⟩
  have hx : Box w W w.heap.size #[.bool na, .slice A1 n c1] 43 := by rw [← hW]; exact (Box.new w _ _).alloc _
  have hy : Box w W (w.heap.size + 1) #[.bool nb, .slice A2 m c2] 43 := by rw [← hW]; exact Box.second w _ _ _
  obtain ⟨x0, x1⟩ := hx.c2
  obtain ⟨z0, z1⟩ := hy.c2
  obtain ⟨p, hp⟩ : ∃ p, p = sg na la := ⟨_, rfl⟩
  obtain ⟨q, hq⟩ : ∃ q, q = sg nb lb := ⟨_, rfl⟩
  have hp3 : p = -1 ∨ p = 0 ∨ p = 1 := by rw [hp]; exact sg_three na la
  have hq3 : q = -1 ∨ q = 0 ∨ q = 1 := by rw [hq]; exact sg_three nb lb
  rw [← hp, ← hq] at hE
  have HE := Lib.hid hE
  clear hE
  have hSg : ∀ (wc : World), Below w.heap.size w wc → ∀ b, S b → b < wc.heap.size := fun wc h b hb => Nat.lt_of_lt_of_le (hS b hb) h.size
  have hbW := hx.below
  have hpa : ∀ d os, _ := fun d os => sign_any na la (.slice A1 n c1) S (grow (redrawn W d) os) (hSg _ (hbW.trans ((below_regrown W d os).mono hbW.size))) ((ha.below hS hbW).below (hSg _ hbW) (below_regrown W d os))
  have hpb : ∀ d os, _ := fun d os => sign_any nb lb (.slice A2 m c2) S (grow (redrawn W d) os) (hSg _ (hbW.trans ((below_regrown W d os).mono hbW.size))) ((hb.below hS hbW).below (hSg _ hbW) (below_regrown W d os))
  rw [← hp] at hpa
  rw [← hq] at hpb
  have hn1 : ∀ wc, Below W.heap.size W wc → _ := fun wc h => natCmp_any la lb (.slice A1 n c1) (.slice A2 m c2) S wc ((ha.below hS hbW).below (hSg _ hbW) h) ((hb.below hS hbW).below (hSg _ hbW) h)
  have hn2 : ∀ wc, Below W.heap.size W wc → _ := fun wc h => natCmp_any lb la (.slice A2 m c2) (.slice A1 n c1) S wc ((hb.below hS hbW).below (hSg _ hbW) h) ((ha.below hS hbW).below (hSg _ hbW) h)
  have HPA := Lib.hid hpa
  have HPB := Lib.hid hpb
  have HN1 := Lib.hid hn1
  have HN2 := Lib.hid hn2
  have HX := Lib.hid hx
  have HY := Lib.hid hy
  have HBW := Lib.hid hbW
  have r0 := fun d os => cell_regrown x0 d os
  have r1 := fun d os => cell_regrown x1 d os
  have r2 := fun d os => cell_regrown z0 d os
  have r3 := fun d os => cell_regrown z1 d os
  clear hpa hpb hn1 hn2 hx hy hbW hSg ha hb hS hn hm hp hq
  rcases Int.lt_trichotomy p q with hlt | heq | hgt
  · have hd : decide (p < q) = true := by simpa using hlt
    go_enter Try.func41, Try.ntmps41
    go_wp2_with fail
    refine wp_region_quiet_below (by kernel_rfl) (by kernel_rfl) ?_
    (repeat (quiet_step (first | (with_reducible exact Calls.regrown_of (HPA.out _ _)) | (with_reducible exact Calls.regrown_of (HPB.out _ _)))))
    refine wpQuiet_nil ?_
    rintro _ ⟨⟨d, os⟩, rfl⟩
    have hb2 := below_regrown W d os
    go_wp2
    go_ret
    exact ⟨-1, rfl, ⟨fun h => by omega, fun h => by have := (HE.out.1 h).1; omega⟩, HBW.out.trans (hb2.mono HBW.out.size)⟩
  · subst heq
    have hd : decide (p < p) = false := by simp
    by_cases hneg : p < 0
    · go_enter Try.func41, Try.ntmps41
      go_wp2_with fail
      refine wp_region_quiet_below (by kernel_rfl) (by kernel_rfl) ?_
      (repeat (quiet_step (first | (with_reducible exact Calls.regrown_of (HPA.out _ _)) | (with_reducible exact Calls.regrown_of (HPB.out _ _)))))
      refine wpQuiet_nil ?_
      rintro _ ⟨⟨d, os⟩, rfl⟩
      have hb2 := below_regrown W d os
      go_wp2_with (go_at_call 50; refine (HN2.out _ hb2).mono ?_; intro e w3 hq; obtain ⟨c, rfl, hc, hb3⟩ := hq; have HC := Lib.hid hc; clear hc)
      go_ret
      exact ⟨c, rfl, ⟨fun h => HE.out.2 ⟨by first | rfl | trivial, (HC.out.1 h).symm⟩, fun h => HC.out.2 (HE.out.1 h).2.symm⟩, HBW.out.trans ((hb2.trans (hb3.mono hb2.size)).mono HBW.out.size)⟩
    · go_enter Try.func41, Try.ntmps41
      go_wp2_with fail
      refine wp_region_quiet_below (by kernel_rfl) (by kernel_rfl) ?_
      (repeat (quiet_step (first | (with_reducible exact Calls.regrown_of (HPA.out _ _)) | (with_reducible exact Calls.regrown_of (HPB.out _ _)))))
      refine wpQuiet_nil ?_
      rintro _ ⟨⟨d, os⟩, rfl⟩
      have hb2 := below_regrown W d os
      go_wp2_with (go_at_call 50; refine (HN1.out _ hb2).mono ?_; intro e w3 hq; obtain ⟨c, rfl, hc, hb3⟩ := hq; have HC := Lib.hid hc; clear hc)
      go_ret
      exact ⟨c, rfl, ⟨fun h => HE.out.2 ⟨by first | rfl | trivial, HC.out.1 h⟩, fun h => HC.out.2 (HE.out.1 h).2⟩, HBW.out.trans ((hb2.trans (hb3.mono hb2.size)).mono HBW.out.size)⟩
  · have hd : decide (p < q) = false := by simp; omega
    have hd2 : decide (q < p) = true := by simpa using hgt
    go_enter Try.func41, Try.ntmps41
    go_wp2_with fail
    refine wp_region_quiet_below (by kernel_rfl) (by kernel_rfl) ?_
    (repeat (quiet_step (first | (with_reducible exact Calls.regrown_of (HPA.out _ _)) | (with_reducible exact Calls.regrown_of (HPB.out _ _)))))
    refine wpQuiet_nil ?_
    rintro _ ⟨⟨d, os⟩, rfl⟩
    have hb2 := below_regrown W d os
    go_wp2
    go_ret
    exact ⟨1, rfl, ⟨fun h => by omega, fun h => by have := (HE.out.1 h).1; omega⟩, HBW.out.trans (hb2.mono HBW.out.size)⟩
set_option maxHeartbeats 1000000 in
theorem isame_any (na nb : Bool) (la lb : List Nat) (va vb : Value) (S : Nat → Prop) (w : World) (hS : ∀ b, S b → b < w.heap.size) (ha : AbsAt w S va la) (hb : AbsAt w S vb lb) (r : Bool) (hr : r = true ↔ (sg na la = sg nb lb ∧ trimN la = trimN lb)) :
    Calls Try.prog 28 #[.agg #[.bool na, va], .agg #[.bool nb, vb]] w fun e w' => e = .returned (.bool r) ∧ Below w.heap.size w w' := by
  have hb2 : Below w.heap.size w ((w.alloc (.cells #[.bool na, va] 43)).alloc (.cells #[.bool nb, vb] 43)) := ((Below.refl _ w).alloc (Nat.le_refl _) _).alloc (by simp) _
  have HC := Lib.hid (icmp_any na nb la lb va vb S _ (fun b h => Nat.lt_of_lt_of_le (hS b h) hb2.size) (ha.below hS hb2) (hb.below hS hb2) (r = true) hr)
  obtain ⟨A1, c1, rfl⟩ := ha.form
  obtain ⟨A2, c2, rfl⟩ := hb.form
  obtain ⟨n, hn⟩ : ∃ n, n = la.length := ⟨_, rfl⟩
  obtain ⟨m, hm⟩ : ∃ m, m = lb.length := ⟨_, rfl⟩
  rw [← hn, ← hm] at HC hb2 ⊢
  have HB := Lib.hid hb2
  have HR := Lib.hid hr
  clear hb2 hr ha hb hn hm
  go_enter Try.func28, Try.ntmps28
  go_wp2_with (go_at_call 41; refine HC.out.mono ?_; intro e w3 hq; obtain ⟨c, rfl, hc, hb3⟩ := hq; have hcr : (c == 0) = r := (by rw [Bool.eq_iff_iff, ← hc]; simp); clear hc)
  go_ret
  exact ⟨by rw [← hcr]; rfl, HB.out.trans (hb3.mono HB.out.size)⟩
end Fm
end Go.Proofs.Ytkjbfomokdjbnaa
