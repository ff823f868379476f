/-
  integer.Same, and what it goes by.
-/
import Derived.Test.YteneobpacobpdaaGreatDoorHy
import Derived.Test.YteneobpacobpdaaGreatDoorFmI
import Derived.Lib.QuietBelow
import Derived.Test.YteneobpacobpdaaGreatDoorFmW
import Derived.Test.YteneobpacobpdaaGreatDoorFmOf
import Derived.Test.YteneobpacobpdaaGreatDoorFmPF
import Derived.Test.YteneobpacobpdaaGreatDoorFmT
import Derived.Lib.SlicesS
set_option linter.unusedSimpArgs false
set_option linter.unusedVariables false
set_option maxRecDepth 100000
set_option maxHeartbeats 16000000
namespace Go.Proofs.YteneobpacobpdaaGreatDoor
open Go.RowKit Go.Sort
namespace Fm
def CmpPost (eq : Prop) (w : World) (e : Ending) (w' : World) : Prop := ∃ c : Int, e = .returned (.int .i64 c) ∧ (c = 0 ↔ eq) ∧ Below w.heap.size w w'
theorem natCmp_any (la lb : List Nat) (va vb : Value) (S : Nat → Prop) (w : World) (ha : AbsAt w S va la) (hb : AbsAt w S vb lb) :
  Calls Tryz.prog 89 #[va, vb] w (CmpPost (trimN la = trimN lb) w) := by
 have HTA := h_ (trim_any la va S w ha)
 have HTB := h_ (trim_any lb vb S w hb)
 obtain ⟨p, hp⟩ : ∃ p, p = trimN la := ⟨_, rfl⟩
 obtain ⟨q, hq⟩ : ∃ q, q = trimN lb := ⟨_, rfl⟩
 rw [← hp] at HTA ⊢
 rw [← hq] at HTB ⊢
 obtain ⟨n, hn⟩ : ∃ n, n = p.length := ⟨_, rfl⟩
 obtain ⟨m, hm⟩ : ∃ m, m = q.length := ⟨_, rfl⟩
 rw [← hn] at HTA
 rw [← hm] at HTB
 have hl1 : n ≤ 9223372036854775807 := by rw [hn, hp, trimN_len]; exact Nat.le_trans (trimLen_le _ _) ha.2.2
 have hl2 : m ≤ 9223372036854775807 := by rw [hm, hq, trimN_len]; exact Nat.le_trans (trimLen_le _ _) hb.2.2
 have HN := h_ hn
 have HM := h_ hm
 clear hp hq hn hm ha hb
 by_cases h1 : n < m
 ·have hd : decide ((n : Int) < m) = true := by simp; omega
  have HF := h_ (show ¬ p = q from fun e => by rw [HN.out, HM.out, e] at h1; omega)
  go_enter Tryz.func89, Tryz.ntmps89
  go_wp2_with (first
   |(go_at_call 90; (with_reducible refine HTA.out.mono ?_); intro e w1 hq; obtain ⟨⟨A1, c1, rfl, hA⟩, hw⟩ := hq; obtain rfl : w = w1 := hw.symm)
   |(go_at_call 90; (with_reducible refine HTB.out.mono ?_); intro e w1 hq; obtain ⟨⟨A2, c2, rfl, hB⟩, hw⟩ := hq; obtain rfl : w = w1 := hw.symm))
  go_ret
  exact ⟨-1, rfl, ⟨fun h => by omega, fun h => absurd h HF.out⟩, Below.refl _ w⟩
 ·by_cases h2 : m < n
  ·have hd1 : decide ((n : Int) < m) = false := by simp; omega
   have hd2 : decide ((m : Int) < n) = true := by simp; omega
   have HF := h_ (show ¬ p = q from fun e => by rw [HN.out, HM.out, e] at h2; omega)
   go_enter Tryz.func89, Tryz.ntmps89
   go_wp2_with (first
    |(go_at_call 90; (with_reducible refine HTA.out.mono ?_); intro e w1 hq; obtain ⟨⟨A1, c1, rfl, hA⟩, hw⟩ := hq; obtain rfl : w = w1 := hw.symm)
    |(go_at_call 90; (with_reducible refine HTB.out.mono ?_); intro e w1 hq; obtain ⟨⟨A2, c2, rfl, hB⟩, hw⟩ := hq; obtain rfl : w = w1 := hw.symm))
   go_ret
   exact ⟨1, rfl, ⟨fun h => by omega, fun h => absurd h HF.out⟩, Below.refl _ w⟩
  ·obtain rfl : n = m := by omega
   clear h1 h2
   have hd1 : decide ((n : Int) < n) = false := by simp
   go_enter Tryz.func89, Tryz.ntmps89
   go_wp2_with (first
    |(go_at_call 90; (with_reducible refine HTA.out.mono ?_); intro e w1 hq; obtain ⟨⟨A1, c1, rfl, hA⟩, hw⟩ := hq; obtain rfl : w = w1 := hw.symm; have HA := h_ hA; clear hA)
    |(go_at_call 90; (with_reducible refine HTB.out.mono ?_); intro e w1 hq; obtain ⟨⟨A2, c2, rfl, hB⟩, hw⟩ := hq; obtain rfl : w = w1 := hw.symm; have HB := h_ hB; clear hB))
   go_loopw [5] (fun a_ wr => ∃ (k d : Nat), k ≤ n ∧ a_ = .int .i64 ((k : Int) - 1) ∧ wr = w.drewN d ∧ Hid (∀ i, k ≤ i → i < n → p.getD i 0 = q.getD i 0)) (fun a_ _ => (intOf a_ + 1).toNat)
   case atStart => exact ⟨n, 0, Nat.le_refl _, rfl, rfl, h_ (fun i h1 h2 => by omega)⟩
   case round =>
    obtain ⟨k, d, hk, rfl, rfl, hall⟩ := hrel
    by_cases h0 : k = 0
    ·subst h0
     have HE := h_ (show p = q by
      apply Classical.byContradiction
      intro h
      obtain ⟨i, h1, h2⟩ := list_ne_at (HN.out.symm.trans HM.out) h
      exact h2 (hall.out i (Nat.zero_le _) (by have := HN.out; omega)))
     go_wp2
     go_ret
     exact ⟨0, rfl, ⟨fun _ => HE.out, fun _ => rfl⟩, (Below.refl _ w).drewN _⟩
    ·obtain ⟨b1, o1, rfl, _, hc1⟩ := HA.out.at_ HN.out (by omega)
     obtain ⟨b2, o2, rfl, _, hc2⟩ := HB.out.at_ HM.out (by omega)
     have g1 := hc1 (k - 1) (by omega)
     have g2 := hc2 (k - 1) (by omega)
     obtain ⟨x, hx⟩ : ∃ x, x = p.getD (k - 1) 0 := ⟨_, rfl⟩
     obtain ⟨y, hy⟩ : ∃ y, y = q.getD (k - 1) 0 := ⟨_, rfl⟩
     rw [← hx] at g1
     rw [← hy] at g2
     have HX := h_ hx
     have HY := h_ hy
     have hkc : ((k : Int) - 1).toNat = k - 1 := by omega
     have hk1 : (0 : Int) ≤ (k : Int) - 1 ∧ (k : Int) - 1 < n := by omega
     clear hc1 hc2 hx hy
     rcases Nat.lt_trichotomy x y with hlt | heq | hgt
     ·have hd : decide ((x : Int) < y) = true := by simp; omega
      have HF := h_ (show ¬ p = q from fun e => by rw [HX.out, HY.out, e] at hlt; omega)
      go_wp2
      go_quiet (fail)
      go_wp2
      go_ret
      exact ⟨-1, rfl, ⟨fun h => by omega, fun h => absurd h HF.out⟩, ((Below.refl _ w).drewN _).drewN _⟩
     ·subst heq
      have hd : decide ((x : Int) < x) = false := by simp
      have HA2 := h_ (show ∀ i, k - 1 ≤ i → i < n → p.getD i 0 = q.getD i 0 from fun i h1 h2 => by
       by_cases e : i = k - 1
       ·rw [e, ← HX.out, ← HY.out]
       ·exact hall.out i (by omega) h2)
      go_wp2
      go_quiet (fail)
      go_wp2
      go_quiet (fail)
      go_wp2
      go_roundw
      case rel => exact ⟨k - 1, _, by omega, by congr 1; omega, rfl, HA2⟩
      case measure => simp [intOf]; omega
     ·have hd : decide ((x : Int) < y) = false := by simp; omega
      have hd2 : decide ((y : Int) < x) = true := by simp; omega
      have HF := h_ (show ¬ p = q from fun e => by rw [HX.out, HY.out, e] at hgt; omega)
      go_wp2
      go_quiet (fail)
      go_wp2
      go_quiet (fail)
      go_wp2
      go_ret
      exact ⟨1, rfl, ⟨fun h => by omega, fun h => absurd h HF.out⟩, (((Below.refl _ w).drewN _).drewN _).drewN _⟩
def sg (neg : Bool) (l : List Nat) : Int := if (trimN l).length = 0 then 0 else if neg then -1 else 1
theorem isZero_any (l : List Nat) (v : Value) (S : Nat → Prop) (w : World) (h : AbsAt w S v l) (r : Bool) (hr : r = decide ((trimN l).length = 0)) :
  Calls Tryz.prog 81 #[v] w fun e w' => e = .returned (.bool r) ∧ w = w' := by
 obtain ⟨n, hn⟩ : ∃ n, n = (trimN l).length := ⟨_, rfl⟩
 have HT := h_ (trim_any l v S w h)
 rw [← hn] at HT
 have hd : ((n : Int) == 0) = r := by rw [hr, ← hn, Bool.eq_iff_iff]; simp
 clear hr hn h
 go_enter Tryz.func81, Tryz.ntmps81
 go_wp2_with (go_at_call 90; refine HT.out.mono ?_; intro e w1 hq; obtain ⟨⟨A1, c1, rfl, hA⟩, hw⟩ := hq; obtain rfl : w = w1 := hw.symm)
 go_ret
 exact ⟨by rw [← hd]; rfl, rfl⟩
theorem sign_any (neg : Bool) (l : List Nat) (v : Value) (S : Nat → Prop) (w : World) (hS : ∀ b, S b → b < w.heap.size) (h : AbsAt w S v l) :
  Calls Tryz.prog 61 #[.agg #[.bool neg, v]] w fun e w' => e = .returned (.int .i64 (sg neg l)) ∧ Below w.heap.size w w' := by
 obtain ⟨A, c, rfl⟩ := h.form
 obtain ⟨n, hn⟩ : ∃ n, n = l.length := ⟨_, rfl⟩
 rw [← hn] at h ⊢
 obtain ⟨r, hr⟩ : ∃ r, r = decide ((trimN l).length = 0) := ⟨_, rfl⟩
 have HS := h_ (show sg neg l = if r then 0 else if neg then -1 else 1 by unfold sg; rw [hr]; by_cases e : (trimN l).length = 0 <;> simp [e])
 have hb := (Below.refl w.heap.size w).alloc (Nat.le_refl _) (.cells #[.bool neg, .slice A n c] 35)
 have HZ := h_ (isZero_any l _ S _ (h.below hS hb) r hr)
 have HB := h_ hb
 clear hr hn h hb
 cases r
 ·cases neg
  all_goals
   go_enter Tryz.func61, Tryz.ntmps61
   go_wp2_with (go_at_call 81; refine HZ.out.mono ?_; rintro e w1 ⟨rfl, rfl⟩)
   go_ret
   exact ⟨by rw [HS.out]; rfl, HB.out⟩
 ·go_enter Tryz.func61, Tryz.ntmps61
  go_wp2_with (go_at_call 81; refine HZ.out.mono ?_; rintro e w1 ⟨rfl, rfl⟩)
  go_ret
  exact ⟨by rw [HS.out]; rfl, HB.out⟩
theorem sg_three (neg : Bool) (l : List Nat) : sg neg l = -1 ∨ sg neg l = 0 ∨ sg neg l = 1 := by unfold sg; split <;> (try split) <;> simp
theorem icmp_any (na nb : Bool) (la lb : List Nat) (va vb : Value) (S : Nat → Prop) (w : World) (hS : ∀ b, S b → b < w.heap.size) (ha : AbsAt w S va la) (hb : AbsAt w S vb lb) (E : Prop) (hE : E ↔ (sg na la = sg nb lb ∧ trimN la = trimN lb)) :
  Calls Tryz.prog 76 #[.agg #[.bool na, va], .agg #[.bool nb, vb]] w (CmpPost E w) := by
 obtain ⟨A1, c1, rfl⟩ := ha.form
 obtain ⟨A2, c2, rfl⟩ := hb.form
 obtain ⟨n, hn⟩ : ∃ n, n = la.length := ⟨_, rfl⟩
 obtain ⟨m, hm⟩ : ∃ m, m = lb.length := ⟨_, rfl⟩
 rw [← hn] at ha ⊢
 rw [← hm] at hb ⊢
 obtain ⟨W, hW⟩ : ∃ W, (w.alloc (.cells #[.bool na, .slice A1 n c1] 35)).alloc (.cells #[.bool nb, .slice A2 m c2] 35) = W := ⟨_, rfl⟩
 have hx : Box w W w.heap.size #[.bool na, .slice A1 n c1] 35 := by rw [← hW]; exact (Box.new w _ _).alloc _
 have hy : Box w W (w.heap.size + 1) #[.bool nb, .slice A2 m c2] 35 := by rw [← hW]; exact Box.second w _ _ _
 obtain ⟨x0, x1⟩ := hx.c2
 obtain ⟨z0, z1⟩ := hy.c2
 obtain ⟨p, hp⟩ : ∃ p, p = sg na la := ⟨_, rfl⟩
 obtain ⟨q, hq⟩ : ∃ q, q = sg nb lb := ⟨_, rfl⟩
 have hp3 : p = -1 ∨ p = 0 ∨ p = 1 := by rw [hp]; exact sg_three na la
 have hq3 : q = -1 ∨ q = 0 ∨ q = 1 := by rw [hq]; exact sg_three nb lb
 rw [← hp, ← hq] at hE
 have HE := h_ hE
 clear hE
 have hSg : ∀ (wc : World), Below w.heap.size w wc → ∀ b, S b → b < wc.heap.size := fun wc h b hb => Nat.lt_of_lt_of_le (hS b hb) h.size
 have hbW := hx.below
 have hpa : ∀ d os, _ := fun d os => sign_any na la (.slice A1 n c1) S (grow (redrawn W d) os) (hSg _ (hbW.trans ((below_regrown W d os).mono hbW.size))) ((ha.below hS hbW).below (hSg _ hbW) (below_regrown W d os))
 have hpb : ∀ d os, _ := fun d os => sign_any nb lb (.slice A2 m c2) S (grow (redrawn W d) os) (hSg _ (hbW.trans ((below_regrown W d os).mono hbW.size))) ((hb.below hS hbW).below (hSg _ hbW) (below_regrown W d os))
 rw [← hp] at hpa
 rw [← hq] at hpb
 have hn1 : ∀ wc, Below W.heap.size W wc → _ := fun wc h => natCmp_any la lb (.slice A1 n c1) (.slice A2 m c2) S wc ((ha.below hS hbW).below (hSg _ hbW) h) ((hb.below hS hbW).below (hSg _ hbW) h)
 have hn2 : ∀ wc, Below W.heap.size W wc → _ := fun wc h => natCmp_any lb la (.slice A2 m c2) (.slice A1 n c1) S wc ((hb.below hS hbW).below (hSg _ hbW) h) ((ha.below hS hbW).below (hSg _ hbW) h)
 have HPA := h_ hpa
 have HPB := h_ hpb
 have HN1 := h_ hn1
 have HN2 := h_ hn2
 have HX := h_ hx
 have HY := h_ hy
 have HBW := h_ hbW
 have r0 := fun d os => cell_regrown x0 d os
 have r1 := fun d os => cell_regrown x1 d os
 have r2 := fun d os => cell_regrown z0 d os
 have r3 := fun d os => cell_regrown z1 d os
 clear hpa hpb hn1 hn2 hx hy hbW hSg ha hb hS hn hm hp hq
 rcases Int.lt_trichotomy p q with hlt | heq | hgt
 ·have hd : decide (p < q) = true := by simpa using hlt
  go_enter Tryz.func76, Tryz.ntmps76
  go_wp2_with fail
  refine wp_region_quiet_below (by kernel_rfl) (by kernel_rfl) ?_
  (repeat (quiet_step (first | (with_reducible exact Calls.regrown_of (HPA.out _ _)) | (with_reducible exact Calls.regrown_of (HPB.out _ _)))))
  refine wpQuiet_nil ?_
  rintro _ ⟨⟨d, os⟩, rfl⟩
  have hb2 := below_regrown W d os
  go_wp2
  go_ret
  exact ⟨-1, rfl, ⟨fun h => by omega, fun h => by have := (HE.out.1 h).1; omega⟩, HBW.out.trans (hb2.mono HBW.out.size)⟩
 ·subst heq
  have hd : decide (p < p) = false := by simp
  by_cases hneg : p < 0
  ·go_enter Tryz.func76, Tryz.ntmps76
   go_wp2_with fail
   refine wp_region_quiet_below (by kernel_rfl) (by kernel_rfl) ?_
   (repeat (quiet_step (first | (with_reducible exact Calls.regrown_of (HPA.out _ _)) | (with_reducible exact Calls.regrown_of (HPB.out _ _)))))
   refine wpQuiet_nil ?_
   rintro _ ⟨⟨d, os⟩, rfl⟩
   have hb2 := below_regrown W d os
   go_wp2_with (go_at_call 89; refine (HN2.out _ hb2).mono ?_; intro e w3 hq; obtain ⟨c, rfl, hc, hb3⟩ := hq; have HC := h_ hc; clear hc)
   go_ret
   exact ⟨c, rfl, ⟨fun h => HE.out.2 ⟨by first | rfl | trivial, (HC.out.1 h).symm⟩, fun h => HC.out.2 (HE.out.1 h).2.symm⟩, HBW.out.trans ((hb2.trans (hb3.mono hb2.size)).mono HBW.out.size)⟩
  ·go_enter Tryz.func76, Tryz.ntmps76
   go_wp2_with fail
   refine wp_region_quiet_below (by kernel_rfl) (by kernel_rfl) ?_
   (repeat (quiet_step (first | (with_reducible exact Calls.regrown_of (HPA.out _ _)) | (with_reducible exact Calls.regrown_of (HPB.out _ _)))))
   refine wpQuiet_nil ?_
   rintro _ ⟨⟨d, os⟩, rfl⟩
   have hb2 := below_regrown W d os
   go_wp2_with (go_at_call 89; refine (HN1.out _ hb2).mono ?_; intro e w3 hq; obtain ⟨c, rfl, hc, hb3⟩ := hq; have HC := h_ hc; clear hc)
   go_ret
   exact ⟨c, rfl, ⟨fun h => HE.out.2 ⟨by first | rfl | trivial, HC.out.1 h⟩, fun h => HC.out.2 (HE.out.1 h).2⟩, HBW.out.trans ((hb2.trans (hb3.mono hb2.size)).mono HBW.out.size)⟩
 ·have hd : decide (p < q) = false := by simp; omega
  have hd2 : decide (q < p) = true := by simpa using hgt
  go_enter Tryz.func76, Tryz.ntmps76
  go_wp2_with fail
  refine wp_region_quiet_below (by kernel_rfl) (by kernel_rfl) ?_
  (repeat (quiet_step (first | (with_reducible exact Calls.regrown_of (HPA.out _ _)) | (with_reducible exact Calls.regrown_of (HPB.out _ _)))))
  refine wpQuiet_nil ?_
  rintro _ ⟨⟨d, os⟩, rfl⟩
  have hb2 := below_regrown W d os
  go_wp2
  go_ret
  exact ⟨1, rfl, ⟨fun h => by omega, fun h => by have := (HE.out.1 h).1; omega⟩, HBW.out.trans (hb2.mono HBW.out.size)⟩
theorem isame_any (na nb : Bool) (la lb : List Nat) (va vb : Value) (S : Nat → Prop) (w : World) (hS : ∀ b, S b → b < w.heap.size) (ha : AbsAt w S va la) (hb : AbsAt w S vb lb) (r : Bool) (hr : r = true ↔ (sg na la = sg nb lb ∧ trimN la = trimN lb)) :
  Calls Tryz.prog 47 #[.agg #[.bool na, va], .agg #[.bool nb, vb]] w fun e w' => e = .returned (.bool r) ∧ Below w.heap.size w w' := by
 have hb2 : Below w.heap.size w ((w.alloc (.cells #[.bool na, va] 35)).alloc (.cells #[.bool nb, vb] 35)) := ((Below.refl _ w).alloc (Nat.le_refl _) _).alloc (by simp) _
 have HC := h_ (icmp_any na nb la lb va vb S _ (fun b h => Nat.lt_of_lt_of_le (hS b h) hb2.size) (ha.below hS hb2) (hb.below hS hb2) (r = true) hr)
 obtain ⟨A1, c1, rfl⟩ := ha.form
 obtain ⟨A2, c2, rfl⟩ := hb.form
 obtain ⟨n, hn⟩ : ∃ n, n = la.length := ⟨_, rfl⟩
 obtain ⟨m, hm⟩ : ∃ m, m = lb.length := ⟨_, rfl⟩
 rw [← hn, ← hm] at HC hb2 ⊢
 have HB := h_ hb2
 have HR := h_ hr
 clear hb2 hr ha hb hn hm
 go_enter Tryz.func47, Tryz.ntmps47
 go_wp2_with (go_at_call 76; refine HC.out.mono ?_; intro e w3 hq; obtain ⟨c, rfl, hc, hb3⟩ := hq; have hcr : (c == 0) = r := (by rw [Bool.eq_iff_iff, ← hc]; simp); clear hc)
 go_ret
 exact ⟨by rw [← hcr]; rfl, HB.out.trans (hb3.mono HB.out.size)⟩
end Fm
end Go.Proofs.YteneobpacobpdaaGreatDoor
namespace Go.Proofs.YteneobpacobpdaaGreatDoor
open Go.RowKit
namespace Fm
inductive RT : Tr → Tm → Prop
 | num (h : Hd) (hk : h.k = 1) : RT (.mk h []) (.num (normB h.neg h.abs) (trimN h.abs))
 | name (h : Hd) (hk : h.k = 2) : RT (.mk h []) (.name h.name)
 | add (h : Hd) (a b : Tr) (p q : Tm) (hk : h.k = 3) (ha : RT a p) (hb : RT b q) : RT (.mk h [a, b]) (.add p q)
 | sub (h : Hd) (a b : Tr) (p q : Tm) (hk : h.k = 4) (ha : RT a p) (hb : RT b q) : RT (.mk h [a, b]) (.sub p q)
 | mul (h : Hd) (a b : Tr) (p q : Tm) (hk : h.k = 5) (ha : RT a p) (hb : RT b q) : RT (.mk h [a, b]) (.mul p q)
 | neg (h : Hd) (a : Tr) (p : Tm) (hk : h.k = 6) (ha : RT a p) : RT (.mk h [a]) (.neg p)
 | pow (h : Hd) (a : Tr) (p : Tm) (hk : h.k = 7) (he : 0 ≤ h.exp) (ha : RT a p) : RT (.mk h [a]) (.pow p h.exp)
inductive RF : Tr → Fo → Prop
 | truth (h : Hd) (hk : h.k = 8) : RF (.mk h []) (.truth h.truth)
 | atom (h : Hd) (a b : Tr) (p q : Tm) (hk : h.k = 9) (hr : 1 ≤ h.rel ∧ h.rel ≤ 6) (ha : RT a p) (hb : RT b q) : RF (.mk h [a, b]) (.atom p h.rel q)
 | not (h : Hd) (a : Tr) (p : Fo) (hk : h.k = 10) (ha : RF a p) : RF (.mk h [a]) (.not p)
 | and (h : Hd) (a b : Tr) (p q : Fo) (hk : h.k = 11) (ha : RF a p) (hb : RF b q) : RF (.mk h [a, b]) (.and p q)
 | or (h : Hd) (a b : Tr) (p q : Fo) (hk : h.k = 12) (ha : RF a p) (hb : RF b q) : RF (.mk h [a, b]) (.or p q)
 | implies (h : Hd) (a b : Tr) (p q : Fo) (hk : h.k = 13) (ha : RF a p) (hb : RF b q) : RF (.mk h [a, b]) (.implies p q)
 | iff (h : Hd) (a b : Tr) (p q : Fo) (hk : h.k = 14) (ha : RF a p) (hb : RF b q) : RF (.mk h [a, b]) (.iff p q)
 | quant (h : Hd) (a : Tr) (p : Fo) (hk : h.k = 15) (ha : RF a p) : RF (.mk h [a]) (.quant h.all h.name p)
theorem ofFs_one {a : Tr} {ps : List Fo} (h : ofFs [a] = some ps) : ∃ p, ofF a = some p ∧ ps = [p] := by
 unfold ofFs at h
 cases ha : ofF a with
 | none => rw [ha] at h; cases h
 | some p =>
  rw [ha] at h
  refine ⟨p, rfl, ?_⟩
  simp [ofFs] at h
  exact h.symm
theorem ofFs_two {a b : Tr} {ps : List Fo} (h : ofFs [a, b] = some ps) : ∃ p q, ofF a = some p ∧ ofF b = some q ∧ ps = [p, q] := by
 unfold ofFs at h
 cases ha : ofF a with
 | none => rw [ha] at h; cases h
 | some p =>
  rw [ha] at h
  simp only [Option.map_eq_some_iff] at h
  obtain ⟨qs, hq, rfl⟩ := h
  obtain ⟨q, hb, rfl⟩ := ofFs_one hq
  exact ⟨p, q, rfl, hb, rfl⟩
theorem rt_of : ∀ (t : Tr) (tm : Tm), ofT t = some tm → RT t tm := by
 refine Tr.ind fun h ks ih => ?_
 intro tm ht
 unfold ofT at ht
 split at ht
 case isFalse => cases ht
 rename_i hc
 obtain ⟨ps, hps, rfl⟩ := Option.map_eq_some_iff.1 ht
 have hl := ofTs_len hps
 rcases (show h.k = 1 ∨ h.k = 2 ∨ h.k = 6 ∨ h.k = 7 ∨ h.k = 3 ∨ h.k = 4 ∨ h.k = 5 by
  have := hc.1; unfold kidsT at this; split at this <;> (try split at this) <;> (try split at this) <;> (try omega); cases this) with hk | hk | hk | hk | hk | hk | hk
 all_goals
  have h1 := hc.1
  unfold kidsT at h1
  simp only [hk] at h1
  simp at h1
 ·obtain rfl : ks = [] := by simpa using h1.symm
  have em : mkT h ps = .num (normB h.neg h.abs) (trimN h.abs) := by unfold mkT; rw [if_pos hk]
  rw [em]; exact .num h hk
 ·obtain rfl : ks = [] := by simpa using h1.symm
  have em : mkT h ps = .name h.name := by unfold mkT; simp [hk]
  rw [em]; exact .name h hk
 ·obtain ⟨a, rfl⟩ := List.length_eq_one_iff.1 h1.symm
  obtain ⟨p, ha, rfl⟩ := ofTs_one hps
  have em : mkT h [p] = .neg p := by unfold mkT; simp [hk]
  rw [em]; exact .neg h a p hk (ih a (by simp) p ha)
 ·obtain ⟨a, rfl⟩ := List.length_eq_one_iff.1 h1.symm
  obtain ⟨p, ha, rfl⟩ := ofTs_one hps
  have em : mkT h [p] = .pow p h.exp := by unfold mkT; simp [hk]
  rw [em]; exact .pow h a p hk (by have := hc.2; omega) (ih a (by simp) p ha)
 ·obtain ⟨a, b, rfl⟩ := len_two h1.symm
  obtain ⟨p, q, ha, hb, rfl⟩ := ofTs_two hps
  have em : mkT h [p, q] = .add p q := by unfold mkT; simp [hk]
  rw [em]; exact .add h a b p q hk (ih a (by simp) p ha) (ih b (by simp) q hb)
 ·obtain ⟨a, b, rfl⟩ := len_two h1.symm
  obtain ⟨p, q, ha, hb, rfl⟩ := ofTs_two hps
  have em : mkT h [p, q] = .sub p q := by unfold mkT; simp [hk]
  rw [em]; exact .sub h a b p q hk (ih a (by simp) p ha) (ih b (by simp) q hb)
 ·obtain ⟨a, b, rfl⟩ := len_two h1.symm
  obtain ⟨p, q, ha, hb, rfl⟩ := ofTs_two hps
  have em : mkT h [p, q] = .mul p q := by unfold mkT; simp [hk]
  rw [em]; exact .mul h a b p q hk (ih a (by simp) p ha) (ih b (by simp) q hb)
theorem rf_of : ∀ (t : Tr) (f : Fo), ofF t = some f → RF t f := by
 refine Tr.ind fun h ks ih => ?_
 intro f ht
 unfold ofF at ht
 split at ht
 case isFalse => cases ht
 rename_i hc
 by_cases h9 : h.k = 9
 ·rw [if_pos h9] at ht
  obtain ⟨ps, hps, rfl⟩ := Option.map_eq_some_iff.1 ht
  have h1 := hc.1
  unfold kidsF at h1
  simp only [h9] at h1
  simp at h1
  obtain ⟨a, b, rfl⟩ := len_two h1.symm
  obtain ⟨p, q, ha, hb, rfl⟩ := ofTs_two hps
  exact .atom h a b p q h9 (by have := hc.2; omega) (rt_of a p ha) (rt_of b q hb)
 ·rw [if_neg h9] at ht
  obtain ⟨ps, hps, rfl⟩ := Option.map_eq_some_iff.1 ht
  rcases (show h.k = 8 ∨ h.k = 10 ∨ h.k = 15 ∨ h.k = 11 ∨ h.k = 12 ∨ h.k = 13 ∨ h.k = 14 by
   have := hc.1; unfold kidsF at this; split at this <;> (try split at this) <;> (try split at this) <;> (try omega); cases this) with hk | hk | hk | hk | hk | hk | hk
  all_goals
   have h1 := hc.1
   unfold kidsF at h1
   simp only [hk] at h1
   simp at h1
  ·obtain rfl : ks = [] := by simpa using h1.symm
   have em : mkF h ps = .truth h.truth := by unfold mkF; rw [if_pos hk]
   rw [em]; exact .truth h hk
  ·obtain ⟨a, rfl⟩ := List.length_eq_one_iff.1 h1.symm
   obtain ⟨p, ha, rfl⟩ := ofFs_one hps
   have em : mkF h [p] = .not p := by unfold mkF; simp [hk]
   rw [em]; exact .not h a p hk (ih a (by simp) p ha)
  ·obtain ⟨a, rfl⟩ := List.length_eq_one_iff.1 h1.symm
   obtain ⟨p, ha, rfl⟩ := ofFs_one hps
   have em : mkF h [p] = .quant h.all h.name p := by unfold mkF; simp [hk]
   rw [em]; exact .quant h a p hk (ih a (by simp) p ha)
  ·obtain ⟨a, b, rfl⟩ := len_two h1.symm
   obtain ⟨p, q, ha, hb, rfl⟩ := ofFs_two hps
   have em : mkF h [p, q] = .and p q := by unfold mkF; simp [hk]
   rw [em]; exact .and h a b p q hk (ih a (by simp) p ha) (ih b (by simp) q hb)
  ·obtain ⟨a, b, rfl⟩ := len_two h1.symm
   obtain ⟨p, q, ha, hb, rfl⟩ := ofFs_two hps
   have em : mkF h [p, q] = .or p q := by unfold mkF; simp [hk]
   rw [em]; exact .or h a b p q hk (ih a (by simp) p ha) (ih b (by simp) q hb)
  ·obtain ⟨a, b, rfl⟩ := len_two h1.symm
   obtain ⟨p, q, ha, hb, rfl⟩ := ofFs_two hps
   have em : mkF h [p, q] = .implies p q := by unfold mkF; simp [hk]
   rw [em]; exact .implies h a b p q hk (ih a (by simp) p ha) (ih b (by simp) q hb)
  ·obtain ⟨a, b, rfl⟩ := len_two h1.symm
   obtain ⟨p, q, ha, hb, rfl⟩ := ofFs_two hps
   have em : mkF h [p, q] = .iff p q := by unfold mkF; simp [hk]
   rw [em]; exact .iff h a b p q hk (ih a (by simp) p ha) (ih b (by simp) q hb)
theorem ofT_rt {t : Tr} {tm : Tm} (h : RT t tm) : ofT t = some tm := by
 induction h with
 | num h hk => unfold ofT; rw [if_pos (by simp [kidsT, hk])]; unfold ofTs; simp [mkT, hk]
 | name h hk => unfold ofT; rw [if_pos (by simp [kidsT, hk])]; unfold ofTs; simp [mkT, hk]
 | add h a b p q hk ha hb ia ib => unfold ofT; rw [if_pos (by simp [kidsT, hk])]; unfold ofTs ofTs ofTs; simp [mkT, hk, ia, ib]
 | sub h a b p q hk ha hb ia ib => unfold ofT; rw [if_pos (by simp [kidsT, hk])]; unfold ofTs ofTs ofTs; simp [mkT, hk, ia, ib]
 | mul h a b p q hk ha hb ia ib => unfold ofT; rw [if_pos (by simp [kidsT, hk])]; unfold ofTs ofTs ofTs; simp [mkT, hk, ia, ib]
 | neg h a p hk ha ia => unfold ofT; rw [if_pos (by simp [kidsT, hk])]; unfold ofTs ofTs; simp [mkT, hk, ia]
 | pow h a p hk he ha ia => unfold ofT; rw [if_pos (by simp [kidsT, hk]; omega)]; unfold ofTs ofTs; simp [mkT, hk, ia]
theorem plainF_of {t : Tr} {f : Fo} (h : RF t f) : Sm t → plainF f = canonT t ∧ SmF f := by
 induction h with
 | truth h hk =>
  intro _
  rw [canonT_mk, show canonH h = { hd0 8 with truth := h.truth } by unfold canonH; simp [hk]]
  unfold canonL
  exact ⟨rfl, trivial⟩
 | atom h a b p q hk hr ha hb =>
  intro hs
  unfold Sm SmL SmL at hs
  obtain ⟨e1, s1⟩ := plain_of a p (ofT_rt ha) hs.2.2.1
  obtain ⟨e2, s2⟩ := plain_of b q (ofT_rt hb) hs.2.2.2.1
  rw [canonT_mk, canonL_two, show canonH h = { hd0 9 with rel := h.rel } by unfold canonH; simp [hk]]
  exact ⟨by show Tr.mk { hd0 9 with rel := relR h.rel } [plainT p, plainT q] = _; rw [e1, e2]; unfold relR; rw [if_neg (by omega)], s1, s2⟩
 | not h a p hk ha ih =>
  intro hs
  unfold Sm SmL at hs
  obtain ⟨e1, s1⟩ := ih hs.2.2.1
  rw [canonT_mk, canonL_one, show canonH h = hd0 10 by unfold canonH; simp [hk]]
  exact ⟨by show Tr.mk _ [plainF p] = _; rw [e1], s1⟩
 | quant h a p hk ha ih =>
  intro hs
  unfold Sm SmL at hs
  obtain ⟨e1, s1⟩ := ih hs.2.2.1
  rw [canonT_mk, canonL_one, show canonH h = { hd0 15 with all := h.all, name := h.name } by unfold canonH; simp [hk]]
  exact ⟨by show Tr.mk _ [plainF p] = _; rw [e1], s1⟩
 | and h a b p q hk ha hb ia ib =>
  intro hs
  unfold Sm SmL SmL at hs
  obtain ⟨e1, s1⟩ := ia hs.2.2.1
  obtain ⟨e2, s2⟩ := ib hs.2.2.2.1
  rw [canonT_mk, canonL_two, show canonH h = hd0 11 by unfold canonH; simp [hk]]
  exact ⟨by show Tr.mk _ [plainF p, plainF q] = _; rw [e1, e2], s1, s2⟩
 | or h a b p q hk ha hb ia ib =>
  intro hs
  unfold Sm SmL SmL at hs
  obtain ⟨e1, s1⟩ := ia hs.2.2.1
  obtain ⟨e2, s2⟩ := ib hs.2.2.2.1
  rw [canonT_mk, canonL_two, show canonH h = hd0 12 by unfold canonH; simp [hk]]
  exact ⟨by show Tr.mk _ [plainF p, plainF q] = _; rw [e1, e2], s1, s2⟩
 | implies h a b p q hk ha hb ia ib =>
  intro hs
  unfold Sm SmL SmL at hs
  obtain ⟨e1, s1⟩ := ia hs.2.2.1
  obtain ⟨e2, s2⟩ := ib hs.2.2.2.1
  rw [canonT_mk, canonL_two, show canonH h = hd0 13 by unfold canonH; simp [hk]]
  exact ⟨by show Tr.mk _ [plainF p, plainF q] = _; rw [e1, e2], s1, s2⟩
 | iff h a b p q hk ha hb ia ib =>
  intro hs
  unfold Sm SmL SmL at hs
  obtain ⟨e1, s1⟩ := ia hs.2.2.1
  obtain ⟨e2, s2⟩ := ib hs.2.2.2.1
  rw [canonT_mk, canonL_two, show canonH h = hd0 14 by unfold canonH; simp [hk]]
  exact ⟨by show Tr.mk _ [plainF p, plainF q] = _; rw [e1, e2], s1, s2⟩
theorem isL_ofFs : ∀ (ks : List Tr), (∀ k ∈ ks, isF k false = (ofF k).isSome) → isL ks false = (ofFs ks).isSome
 | [], _ => by rw [isL_nil]; unfold ofFs; rfl
 | k :: ks, h => by
  rw [isL_cons, h k (by simp), isL_ofFs ks (fun j hj => h j (by simp [hj]))]
  conv => rhs; unfold ofFs
  cases ofF k <;> simp
theorem isF_ofF : ∀ (t : Tr), isF t false = (ofF t).isSome := by
 refine Tr.ind fun h ks ih => ?_
 have hL := isL_ofFs ks ih
 have hT := isL_ofTs ks (fun k _ => isF_ofT k)
 by_cases hc : kidsF h.k = some ks.length ∧ ¬ (h.k = 9 ∧ (h.rel < 1 ∨ 6 < h.rel))
 ·by_cases h9 : h.k = 9
  ·have e : ofF (.mk h ks) = (ofTs ks).map (mkA h) := by conv => lhs; unfold ofF; rw [if_pos hc, if_pos h9]
   rw [e]
   have h1 := hc.1
   unfold kidsF at h1
   simp only [h9] at h1
   simp at h1
   rw [isF_yes h ks false ⟨by simp [kidsN, h9, ← h1], by simp [termK, h9], fun hb => by rcases hb with hb | hb; omega; exact hc.2 hb⟩]
   simp [kidsN, h9, hT]
  ·have e : ofF (.mk h ks) = (ofFs ks).map (mkF h) := by conv => lhs; unfold ofF; rw [if_pos hc, if_neg h9]
   rw [e]
   rcases (show h.k = 8 ∨ h.k = 10 ∨ h.k = 15 ∨ h.k = 11 ∨ h.k = 12 ∨ h.k = 13 ∨ h.k = 14 by
    have := hc.1; unfold kidsF at this; split at this <;> (try split at this) <;> (try split at this) <;> (try omega); cases this) with hk | hk | hk | hk | hk | hk | hk
   all_goals
    have h1 := hc.1
    unfold kidsF at h1
    simp only [hk] at h1
    simp at h1
    rw [isF_yes h ks false ⟨by simp [kidsN, hk, ← h1], by simp [termK, hk], fun hb => by rcases hb with hb | hb <;> omega⟩]
   ·obtain rfl : ks = [] := by simpa using h1.symm
    simp [kidsN, hk, isL_nil, ofFs]
   all_goals simp [kidsN, hk, hL]
 ·have e : ofF (.mk h ks) = none := by conv => lhs; unfold ofF; rw [if_neg hc]
  rw [e]
  refine isF_no h ks false fun hh => hc ?_
  obtain ⟨h1, h2, h3⟩ := hh
  refine ⟨?_, fun hb => h3 (.inr hb)⟩
  unfold termK at h2
  by_cases hlo : 8 ≤ h.k ∧ h.k ≤ 15
  ·rcases (show h.k = 8 ∨ h.k = 9 ∨ h.k = 10 ∨ h.k = 11 ∨ h.k = 12 ∨ h.k = 13 ∨ h.k = 14 ∨ h.k = 15 by omega) with hk | hk | hk | hk | hk | hk | hk | hk
   all_goals
    unfold kidsN at h1
    unfold kidsF
    simp [hk] at h1 ⊢
    omega
  ·exfalso
   have h4 : (kidsN h.k).1 = -1 := by
    have h5 : ¬ (1 ≤ h.k ∧ h.k ≤ 7) := by intro h6; simp [h6] at h2
    unfold kidsN
    rw [if_neg (by omega), if_neg (by omega), if_neg (by omega), if_neg (by omega), if_neg (by omega)]
   rw [h4] at h1
   omega
end Fm
end Go.Proofs.YteneobpacobpdaaGreatDoor
namespace Go.Proofs.YteneobpacobpdaaGreatDoor
open Go.RowKit
open Go.Sort
namespace Fm
mutual
def NmT : Tr → Prop
 | .mk h ks => trimN h.abs = h.abs ∧ normB h.neg h.abs = h.neg ∧ NmL ks
def NmL : List Tr → Prop
 | [] => True
 | k :: ks => NmT k ∧ NmL ks
end
theorem NmL.at_ : ∀ {l : List Tr} (h : NmL l) {i : Nat} {k : Tr}, l[i]? = some k → NmT k
 | [], _, i, k, h => by simp at h
 | a :: l, hs, i, k, h => by
  unfold NmL at hs
  match i with
  | 0 => simp at h; subst h; exact hs.1
  | i + 1 => exact NmL.at_ hs.2 (by simpa using h)
theorem sg_same {f1 f2 : Bool} {l1 l2 : List Nat} (h1 : trimN l1 = l1) (h2 : normB f1 l1 = f1) (h3 : trimN l2 = l2) (h4 : normB f2 l2 = f2) : (sg f1 l1 = sg f2 l2 ∧ trimN l1 = trimN l2) ↔ (f1 = f2 ∧ l1 = l2) := by
 rw [h1, h3]
 constructor
 ·rintro ⟨ha, rfl⟩
  refine ⟨?_, rfl⟩
  unfold sg at ha
  unfold normB at h2 h4
  rw [h1] at ha h2 h4
  by_cases e : l1.length = 0
  ·have e0 : decide (0 < l1.length) = false := by rw [e]; rfl
   rw [e0] at h2 h4; simp at h2 h4; rw [h2, h4]
  ·rw [if_neg e, if_neg e] at ha
   cases f1 <;> cases f2 <;> simp at ha ⊢
 ·rintro ⟨rfl, rfl⟩; exact ⟨rfl, rfl⟩
theorem sameTree_any : ∀ (s : Tr) (t : Tr) (cs ds : List Value) (S : Nat → Prop) (r : Bool) (w : World), (∀ b, S b → b < w.heap.size) → TreeAt w S s cs → TreeAt w S t ds → NmT s → NmT t → (r = true ↔ s = t) →
  Calls Tryz.prog 20 #[.agg cs.toArray, .agg ds.toArray] w fun e w' => e = .returned (.bool r) ∧ Below w.heap.size w w' := by
 refine Tr.ind fun h ks ih => ?_
 intro t cs ds S r w hS hT hU hn1' hn2' hr
 obtain ⟨g, js⟩ := t
 unfold NmT at hn1' hn2'
 obtain ⟨hu1, hu2, hu3⟩ := hn1'
 obtain ⟨hv1, hv2, hv3⟩ := hn2'
 have HN1 := h_ hu3
 have HN2 := h_ hv3
 obtain ⟨A1, n1, c1, A2, K, c2, xs, rfl, hK, hKc, hK64, hn1, hnm, hab, hks, htr⟩ := hT.mkN
 obtain ⟨B1, m1, d1, B2, L, d2, ys, rfl, hL, hLc, hL64, hm1, hnm', hab', hjs, htr'⟩ := hU.mkN
 have IH := h_ ih
 have HK := h_ hK
 have HL := h_ hL
 have HKS := h_ hks
 have HTR := h_ htr
 have HJS := h_ hjs
 have HTR' := h_ htr'
 obtain ⟨W, hW⟩ : ∃ W, (w.alloc (.cells (hdC h (.slice A1 n1 c1) (.slice A2 K c2)).toArray TT)).alloc (.cells (hdC g (.slice B1 m1 d1) (.slice B2 L d2)).toArray TT) = W := ⟨_, rfl⟩
 obtain ⟨k1, f1, l1, s1, x1, q1, b1, a1⟩ := h
 obtain ⟨k2, f2, l2, s2, x2, q2, b2, a2⟩ := g
 have hx : Box w W w.heap.size (hdC ⟨k1, f1, l1, s1, x1, q1, b1, a1⟩ (.slice A1 n1 c1) (.slice A2 K c2)).toArray TT := by rw [← hW]; exact (Box.new w _ _).alloc _
 have hy : Box w W (w.heap.size + 1) (hdC ⟨k2, f2, l2, s2, x2, q2, b2, a2⟩ (.slice B1 m1 d1) (.slice B2 L d2)).toArray TT := by rw [← hW]; exact Box.second w _ _ _
 simp only at hu1 hu2 hv1 hv2
 obtain ⟨r7, hr7⟩ : ∃ r7 : Bool, (r7 = true ↔ (f1 = f2 ∧ l1 = l2)) := by classical exact ⟨decide (f1 = f2 ∧ l1 = l2), by simp⟩
 have hI : ∀ w', Below w.heap.size w w' → Calls Tryz.prog 47 #[.agg #[.bool f1, .slice A1 n1 c1], .agg #[.bool f2, .slice B1 m1 d1]] w' fun e w2 => e = .returned (.bool r7) ∧ Below w'.heap.size w' w2 := fun w' hb => isame_any f1 f2 l1 l2 _ _ S w' (fun b hb' => Nat.lt_of_lt_of_le (hS b hb') hb.size) (hab.below hS hb) (hab'.below hS hb) r7 (by rw [hr7, sg_same hu1 hu2 hv1 hv2])
 have HI := h_ (hI W hx.below)
 have hr7' : r7 = true ↔ (f1 = f2 ∧ l1 = l2) := hr7
 have H7 := h_ hr7'
 have HR := h_ hr
 unfold hdC at *
 dsimp only [Tr.h] at *
 have HX := h_ hx
 have HY := h_ hy
 obtain ⟨p0, p1, p2, p3, p4, p5, p6, p7, p8⟩ := hx.c9
 obtain ⟨o0, o1, o2, o3, o4, o5, o6, o7, o8⟩ := hy.c9
 clear ih hK hL hks htr hjs htr' hT hU hab hab' hnm hnm' hr hr7 hr7' hI hx hy hn1 hm1 hu1 hu2 hv1 hv2 hu3 hv3
 by_cases z0 : k1 = k2
 case neg =>
  have e1 : (k1 != k2) = true := by simpa using z0
  have HF := h_ (show r = false by cases hh : r with | false => rfl | true => (exfalso; have h2 := HR.out.1 hh; injection h2 with h3 h4; injection h3; contradiction))
  clear HR
  go_enter Tryz.func20, Tryz.ntmps20
  go_wp2_with (go_at_call 47; refine HI.out.mono ?_; rintro e w2 ⟨rfl, hb2⟩; obtain ⟨-, -, -, -, -, -, -, -, p8⟩ := (HX.out.step hb2).c9; obtain ⟨-, -, -, -, -, -, -, -, o8⟩ := (HY.out.step hb2).c9; have hX2 := h_ (HX.out.step hb2); have hY2 := h_ (HY.out.step hb2))
  go_ret
  exact ⟨by rw [HF.out]; rfl, by first | exact hX2.out.below | exact HX.out.below⟩
 subst z0
 have e1 : (k1 != k1) = false := by simp
 by_cases z1 : s1 = s2
 case neg =>
  have e2 : (s1.toList == s2.toList) = false := (Lib.bytes_beq_false_iff _ _).2 z1
  have e2b : (s1.toList != s2.toList) = true := by simp only [bne, e2, Bool.not_false]
  have HF := h_ (show r = false by cases hh : r with | false => rfl | true => (exfalso; have h2 := HR.out.1 hh; injection h2 with h3 h4; injection h3; contradiction))
  clear HR
  go_enter Tryz.func20, Tryz.ntmps20
  go_wp2_with (go_at_call 47; refine HI.out.mono ?_; rintro e w2 ⟨rfl, hb2⟩; obtain ⟨-, -, -, -, -, -, -, -, p8⟩ := (HX.out.step hb2).c9; obtain ⟨-, -, -, -, -, -, -, -, o8⟩ := (HY.out.step hb2).c9; have hX2 := h_ (HX.out.step hb2); have hY2 := h_ (HY.out.step hb2))
  go_ret
  exact ⟨by rw [HF.out]; rfl, by first | exact hX2.out.below | exact HX.out.below⟩
 subst z1
 by_cases z2 : x1 = x2
 case neg =>
  have e3 : (x1 != x2) = true := by simpa using z2
  have HF := h_ (show r = false by cases hh : r with | false => rfl | true => (exfalso; have h2 := HR.out.1 hh; injection h2 with h3 h4; injection h3; contradiction))
  clear HR
  go_enter Tryz.func20, Tryz.ntmps20
  go_wp2_with (go_at_call 47; refine HI.out.mono ?_; rintro e w2 ⟨rfl, hb2⟩; obtain ⟨-, -, -, -, -, -, -, -, p8⟩ := (HX.out.step hb2).c9; obtain ⟨-, -, -, -, -, -, -, -, o8⟩ := (HY.out.step hb2).c9; have hX2 := h_ (HX.out.step hb2); have hY2 := h_ (HY.out.step hb2))
  go_ret
  exact ⟨by rw [HF.out]; rfl, by first | exact hX2.out.below | exact HX.out.below⟩
 subst z2
 have e3 : (x1 != x1) = false := by simp
 by_cases z3 : q1 = q2
 case neg =>
  have e4 : (q1 != q2) = true := by simpa using z3
  have HF := h_ (show r = false by cases hh : r with | false => rfl | true => (exfalso; have h2 := HR.out.1 hh; injection h2 with h3 h4; injection h3; contradiction))
  clear HR
  go_enter Tryz.func20, Tryz.ntmps20
  go_wp2_with (go_at_call 47; refine HI.out.mono ?_; rintro e w2 ⟨rfl, hb2⟩; obtain ⟨-, -, -, -, -, -, -, -, p8⟩ := (HX.out.step hb2).c9; obtain ⟨-, -, -, -, -, -, -, -, o8⟩ := (HY.out.step hb2).c9; have hX2 := h_ (HX.out.step hb2); have hY2 := h_ (HY.out.step hb2))
  go_ret
  exact ⟨by rw [HF.out]; rfl, by first | exact hX2.out.below | exact HX.out.below⟩
 subst z3
 have e4 : (q1 != q1) = false := by simp
 by_cases z4 : b1 = b2
 case neg =>
  rcases (show (b1 = true ∧ b2 = false) ∨ (b1 = false ∧ b2 = true) by revert z4; cases b1 <;> cases b2 <;> simp) with ⟨rfl, rfl⟩ | ⟨rfl, rfl⟩
  all_goals
   have HF := h_ (show r = false by cases hh : r with | false => rfl | true => (exfalso; have h2 := HR.out.1 hh; injection h2 with h3 h4; injection h3; contradiction))
   clear HR
   go_enter Tryz.func20, Tryz.ntmps20
   go_wp2_with (go_at_call 47; refine HI.out.mono ?_; rintro e w2 ⟨rfl, hb2⟩; obtain ⟨-, -, -, -, -, -, -, -, p8⟩ := (HX.out.step hb2).c9; obtain ⟨-, -, -, -, -, -, -, -, o8⟩ := (HY.out.step hb2).c9; have hX2 := h_ (HX.out.step hb2); have hY2 := h_ (HY.out.step hb2))
   go_ret
   exact ⟨by rw [HF.out]; rfl, by first | exact hX2.out.below | exact HX.out.below⟩
 subst z4
 have e5 : (b1 != b1) = false := by simp
 by_cases z5 : a1 = a2
 case neg =>
  rcases (show (a1 = true ∧ a2 = false) ∨ (a1 = false ∧ a2 = true) by revert z5; cases a1 <;> cases a2 <;> simp) with ⟨rfl, rfl⟩ | ⟨rfl, rfl⟩
  all_goals
   have HF := h_ (show r = false by cases hh : r with | false => rfl | true => (exfalso; have h2 := HR.out.1 hh; injection h2 with h3 h4; injection h3; contradiction))
   clear HR
   go_enter Tryz.func20, Tryz.ntmps20
   go_wp2_with (go_at_call 47; refine HI.out.mono ?_; rintro e w2 ⟨rfl, hb2⟩; obtain ⟨-, -, -, -, -, -, -, -, p8⟩ := (HX.out.step hb2).c9; obtain ⟨-, -, -, -, -, -, -, -, o8⟩ := (HY.out.step hb2).c9; have hX2 := h_ (HX.out.step hb2); have hY2 := h_ (HY.out.step hb2))
   go_ret
   exact ⟨by rw [HF.out]; rfl, by first | exact hX2.out.below | exact HX.out.below⟩
 subst z5
 have e6 : (a1 != a1) = false := by simp
 by_cases z6 : r7 = true
 case neg =>
  have z7 : r7 = false := by simpa using z6
  subst z7
  have HF := h_ (show r = false by cases hh : r with | false => rfl | true => (exfalso; have h2 := HR.out.1 hh; injection h2 with h3 h4; have h5 := H7.out.2 (by injection h3; constructor <;> assumption); cases h5))
  clear HR
  go_enter Tryz.func20, Tryz.ntmps20
  go_wp2_with (go_at_call 47; refine HI.out.mono ?_; rintro e w2 ⟨rfl, hb2⟩; obtain ⟨-, -, -, -, -, -, -, -, p8⟩ := (HX.out.step hb2).c9; obtain ⟨-, -, -, -, -, -, -, -, o8⟩ := (HY.out.step hb2).c9; have hX2 := h_ (HX.out.step hb2); have hY2 := h_ (HY.out.step hb2))
  go_ret
  exact ⟨by rw [HF.out]; rfl, by first | exact hX2.out.below | exact HX.out.below⟩
 subst z6
 by_cases z7 : K = L
 case neg =>
  have e8 : ((K : Int) != L) = true := by simp; omega
  have HF := h_ (show r = false by cases hh : r with | false => rfl | true => (exfalso; have h2 := HR.out.1 hh; injection h2 with h3 h4; exact z7 (by rw [HK.out, HL.out, h4])))
  clear HR
  go_enter Tryz.func20, Tryz.ntmps20
  go_wp2_with (go_at_call 47; refine HI.out.mono ?_; rintro e w2 ⟨rfl, hb2⟩; obtain ⟨-, -, -, -, -, -, -, -, p8⟩ := (HX.out.step hb2).c9; obtain ⟨-, -, -, -, -, -, -, -, o8⟩ := (HY.out.step hb2).c9; have hX2 := h_ (HX.out.step hb2); have hY2 := h_ (HY.out.step hb2))
  go_ret
  exact ⟨by rw [HF.out]; rfl, by first | exact hX2.out.below | exact HX.out.below⟩
 subst z7
 have e8 : ((K : Int) != K) = false := by simp
 have HR2 := h_ (show r = true ↔ ks = js by rw [HR.out, ← (H7.out.1 rfl).1, ← (H7.out.1 rfl).2]; simp)
 clear HR
 go_enter Tryz.func20, Tryz.ntmps20
 go_wp2_with (go_at_call 47; refine HI.out.mono ?_; rintro e w2 ⟨rfl, hb2⟩; obtain ⟨-, -, -, -, -, -, -, -, p8⟩ := (HX.out.step hb2).c9; obtain ⟨-, -, -, -, -, -, -, -, o8⟩ := (HY.out.step hb2).c9; have hX2 := h_ (HX.out.step hb2); have hY2 := h_ (HY.out.step hb2))
 go_loopw [65] (fun a_ wr => ∃ (i : Nat), i ≤ K ∧ a_ = .int .i64 i ∧ Box w wr w.heap.size #[.int .i64 k1, .bool f1, .slice A1 n1 c1, .string s1, .int .i64 x1, .int .i64 q1, .bool b1, .bool a1, .slice A2 K c2] TT ∧ Box w wr (w.heap.size + 1) #[.int .i64 k1, .bool f2, .slice B1 m1 d1, .string s1, .int .i64 x1, .int .i64 q1, .bool b1, .bool a1, .slice B2 K d2] TT ∧ Hid (r = true ↔ ks.drop i = js.drop i)) (fun a_ _ => K - (intOf a_).toNat)
 case atStart => exact ⟨0, Nat.zero_le _, rfl, hX2.out, hY2.out, h_ (by rw [HR2.out, List.drop_zero, List.drop_zero])⟩
 case round =>
  obtain ⟨i, hi, rfl, hbx, hby, hrel⟩ := hrel
  have b8 := hbx.cell 8
  have b8' := hby.cell 8
  have HBX := h_ hbx
  have HBY := h_ hby
  have hbel := hbx.below
  clear hbx hby
  by_cases hlt : i < K
  ·obtain ⟨kd, b, o, D1, j1, v1, D2, j2, v2, hkd, rfl, hb, hT, g0, g1, g2, g3, g4, g5, g6, g7, g8⟩ := kid_cells (HKS.out.below hS hbel) (HTR.out.below hS hbel) HK.out i hlt
   obtain ⟨ke, b', o', E1, j1', v1', E2, j2', v2', hke, rfl, hb', hT', t0, t1, t2, t3, t4, t5, t6, t7, t8⟩ := kid_cells (HJS.out.below hS hbel) (HTR'.out.below hS hbel) HL.out i hlt
   obtain ⟨W2, hW2⟩ : ∃ W2, wr.alloc (.cells #[.int .i64 kd.h.k, .bool kd.h.neg, .slice D1 j1 v1, .string kd.h.name, .int .i64 kd.h.exp, .int .i64 kd.h.rel, .bool kd.h.truth, .bool kd.h.all, .slice D2 j2 v2] TT) = W2 := ⟨_, rfl⟩
   have hx2 : Box wr W2 wr.heap.size #[.int .i64 kd.h.k, .bool kd.h.neg, .slice D1 j1 v1, .string kd.h.name, .int .i64 kd.h.exp, .int .i64 kd.h.rel, .bool kd.h.truth, .bool kd.h.all, .slice D2 j2 v2] TT := by rw [← hW2]; exact Box.new wr _ _
   have hbel2 := hx2.below
   have hW2b : Below w.heap.size w W2 := hbel.trans (hbel2.mono hbel.size)
   obtain ⟨y0, y1, y2, y3, y4, y5, y6, y7, y8⟩ := hx2.c9
   obtain ⟨rk, hrk⟩ : ∃ rk : Bool, (rk = true ↔ kd = ke) := by classical exact ⟨decide (kd = ke), by simp⟩
   have hC : ∀ d os, _ := fun d os => IH.out kd (mem_at hkd) ke _ _ S rk (grow (redrawn W2 d) os) (fun b hb => Nat.lt_of_lt_of_le (hS b hb) (Nat.le_trans hW2b.size (below_regrown W2 d os).size)) ((hT.below (fun b hb => Nat.lt_of_lt_of_le (hS b hb) hbel.size) hbel2).below (fun b hb => Nat.lt_of_lt_of_le (hS b hb) hW2b.size) (below_regrown W2 d os)) ((hT'.below (fun b hb => Nat.lt_of_lt_of_le (hS b hb) hbel.size) hbel2).below (fun b hb => Nat.lt_of_lt_of_le (hS b hb) hW2b.size) (below_regrown W2 d os)) (NmL.at_ HN1.out hkd) (NmL.at_ HN2.out hke) hrk
   have hs := hrel.out
   rw [drop_same hkd hke, ← hrk] at hs
   have c8' : W2.cell? ⟨w.heap.size + 1, 8, none⟩ = _ := (HBY.out.step hbel2).cell 8
   have hlk : b' < wr.heap.size := Nat.lt_of_lt_of_le (hS b' hb') hbel.size
   have z0 := (hbel2.cell (p := ⟨b', o' + i * 9, none⟩) hlk).trans t0
   have z1 := (hbel2.cell (p := ⟨b', o' + i * 9 + 1, none⟩) hlk).trans t1
   have z2 := (hbel2.cell (p := ⟨b', o' + i * 9 + 2, none⟩) hlk).trans t2
   have z3 := (hbel2.cell (p := ⟨b', o' + i * 9 + 3, none⟩) hlk).trans t3
   have z4 := (hbel2.cell (p := ⟨b', o' + i * 9 + 4, none⟩) hlk).trans t4
   have z5 := (hbel2.cell (p := ⟨b', o' + i * 9 + 5, none⟩) hlk).trans t5
   have z6 := (hbel2.cell (p := ⟨b', o' + i * 9 + 6, none⟩) hlk).trans t6
   have z7 := (hbel2.cell (p := ⟨b', o' + i * 9 + 7, none⟩) hlk).trans t7
   have z8 := (hbel2.cell (p := ⟨b', o' + i * 9 + 8, none⟩) hlk).trans t8
   have HC := h_ hC
   have HS := h_ hs
   have HB2 := h_ hbel2
   have HX2 := h_ (HBX.out.step hbel2)
   have HY2 := h_ (HBY.out.step hbel2)
   have HW2B := h_ hW2b
   clear hC hkd hke hb hb' hT hT' hrk hs hbel2 hx2 hW2b
   have rb' := fun d os => cell_regrown c8' d os
   have rg0 := fun d os => cell_regrown y0 d os
   have rt0 := fun d os => cell_regrown z0 d os
   have rg1 := fun d os => cell_regrown y1 d os
   have rt1 := fun d os => cell_regrown z1 d os
   have rg2 := fun d os => cell_regrown y2 d os
   have rt2 := fun d os => cell_regrown z2 d os
   have rg3 := fun d os => cell_regrown y3 d os
   have rt3 := fun d os => cell_regrown z3 d os
   have rg4 := fun d os => cell_regrown y4 d os
   have rt4 := fun d os => cell_regrown z4 d os
   have rg5 := fun d os => cell_regrown y5 d os
   have rt5 := fun d os => cell_regrown z5 d os
   have rg6 := fun d os => cell_regrown y6 d os
   have rt6 := fun d os => cell_regrown z6 d os
   have rg7 := fun d os => cell_regrown y7 d os
   have rt7 := fun d os => cell_regrown z7 d os
   have rg8 := fun d os => cell_regrown y8 d os
   have rt8 := fun d os => cell_regrown z8 d os
   cases rk
   ·have HF := h_ (show r = false by cases hh : r with | false => rfl | true => (have h2 := (HS.out.1 hh).1; cases h2))
    go_wp2_with fail
    clear hW2
    refine wp_region_quiet_below (by kernel_rfl) (by kernel_rfl) ?_
    (repeat (quiet_step (exact Calls.regrown_of (HC.out _ _))))
    refine wpQuiet_nil ?_
    rintro _ ⟨⟨d, os⟩, rfl⟩
    go_wp2; go_ret
    exact ⟨by rw [HF.out]; rfl, HW2B.out.trans ((below_regrown _ d os).mono HW2B.out.size)⟩
   ·go_wp2_with fail
    clear hW2
    refine wp_region_quiet_below (by kernel_rfl) (by kernel_rfl) ?_
    (repeat (quiet_step (exact Calls.regrown_of (HC.out _ _))))
    refine wpQuiet_nil ?_
    rintro _ ⟨⟨d, os⟩, rfl⟩
    have hBX := h_ (HX2.out.step (below_regrown _ d os))
    have hBY := h_ (HY2.out.step (below_regrown _ d os))
    go_wp2
    go_roundw
    case rel => exact ⟨i + 1, by omega, by go_num, hBX.out, hBY.out, h_ (by have := HS.out; simpa using this)⟩
    case measure => simp [intOf]; omega
  ·have HE := h_ (show r = true by rw [hrel.out, List.drop_eq_nil_of_le (by have := HK.out; omega), List.drop_eq_nil_of_le (by have := HL.out; omega)])
   go_wp2
   go_ret
   exact ⟨by rw [HE.out]; rfl, hbel⟩
theorem nmT_plainT (tm : Tm) : NmT (plainT tm) := by
 induction tm with
 | odd => unfold plainT NmT NmL; exact ⟨rfl, rfl, trivial⟩
 | num neg abs => unfold plainT NmT NmL; exact ⟨trimN_idem abs, normB_idem neg abs, trivial⟩
 | name s => unfold plainT NmT NmL; exact ⟨rfl, rfl, trivial⟩
 | add l r hl hr => unfold plainT NmT NmL NmL NmL; exact ⟨rfl, rfl, hl, hr, trivial⟩
 | sub l r hl hr => unfold plainT NmT NmL NmL NmL; exact ⟨rfl, rfl, hl, hr, trivial⟩
 | mul l r hl hr => unfold plainT NmT NmL NmL NmL; exact ⟨rfl, rfl, hl, hr, trivial⟩
 | neg t ht => unfold plainT NmT NmL NmL; exact ⟨rfl, rfl, ht, trivial⟩
 | pow t e ht => unfold plainT NmT NmL NmL; exact ⟨rfl, rfl, ht, trivial⟩
theorem nmT_plainF (f : Fo) : NmT (plainF f) := by
 induction f with
 | odd => unfold plainF NmT NmL; exact ⟨rfl, rfl, trivial⟩
 | truth b => unfold plainF NmT NmL; exact ⟨rfl, rfl, trivial⟩
 | atom l rel r => unfold plainF NmT NmL NmL NmL; exact ⟨rfl, rfl, nmT_plainT l, nmT_plainT r, trivial⟩
 | not f hf => unfold plainF NmT NmL NmL; exact ⟨rfl, rfl, hf, trivial⟩
 | and l r hl hr => unfold plainF NmT NmL NmL NmL; exact ⟨rfl, rfl, hl, hr, trivial⟩
 | or l r hl hr => unfold plainF NmT NmL NmL NmL; exact ⟨rfl, rfl, hl, hr, trivial⟩
 | implies l r hl hr => unfold plainF NmT NmL NmL NmL; exact ⟨rfl, rfl, hl, hr, trivial⟩
 | iff l r hl hr => unfold plainF NmT NmL NmL NmL; exact ⟨rfl, rfl, hl, hr, trivial⟩
 | quant a nm f hf => unfold plainF NmT NmL NmL; exact ⟨rfl, rfl, hf, trivial⟩
theorem fsame_any (f g : Fo) (vf vg : Value) (S : Nat → Prop) (w : World) (hS : ∀ b, S b → b < w.heap.size) (hf : FoAt w S f vf) (hg : FoAt w S g vg) (sf : SmF f) (sg : SmF g) (r : Bool) (hr : r = true ↔ plainF f = plainF g) :
  Calls Tryz.prog 8 #[vf, vg] w fun e w' => e = .returned (.bool r) ∧ Below w.heap.size w w' := by
 have hof := hf.one
 have hog := hg.one
 have HP1 := h_ (plain_any f vf S w hS hf sf)
 have HP2 := h_ (show ∀ w', Below w.heap.size w w' → Calls Tryz.prog 16 #[vg] w' (TreePost (plainF g) w') from fun w' h => plain_any g vg S w' (fun b hb => Nat.lt_of_lt_of_le (hS b hb) h.size) (hg.below hS h) sg)
 have HR := h_ hr
 clear hf hg hr sf sg
 go_enter Tryz.func8, Tryz.ntmps8
 go_wp2_with (first
  |(go_at_call 16; (with_reducible refine HP1.out.mono ?_); rintro e w1 ⟨A1, n1, c1, A2, n2, c2, rfl, ht1, hb1⟩; have HT1 := h_ ht1; have HB1 := h_ hb1; clear ht1)
  |(go_at_call 16; (with_reducible refine (HP2.out _ (by assumption)).mono ?_); rintro e w2 ⟨A3, n3, c3, A4, n4, c4, rfl, ht2, hb2⟩; have HT2 := h_ ht2; have HB2 := h_ hb2; clear ht2)
  |(go_at_call 20
    have ha : TreeAt w2 (fun b => b < w2.heap.size) (plainF f) _ := (HT1.out.below (fun b hb => hb.2) hb2).more (fun b hb => Nat.lt_of_lt_of_le hb.2 hb2.size)
    have hb : TreeAt w2 (fun b => b < w2.heap.size) (plainF g) _ := HT2.out.more (fun b hb => hb.2)
    refine (sameTree_any _ _ _ _ _ r w2 (fun b hb => hb) ha hb (nmT_plainF f) (nmT_plainF g) HR.out).mono ?_
    rintro e w3 ⟨rfl, hb3⟩; have HB3 := h_ hb3))
 go_ret
 exact ⟨rfl, (HB1.out.trans (HB2.out.mono HB1.out.size)).trans (HB3.out.mono (Nat.le_trans HB1.out.size HB2.out.size))⟩
end Fm
end Go.Proofs.YteneobpacobpdaaGreatDoor
