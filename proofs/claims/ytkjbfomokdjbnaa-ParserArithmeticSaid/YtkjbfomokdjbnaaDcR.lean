/-
  slices.Reverse at []byte; integer.Sign, integer.Abs; decimal.chunk at 10.
-/
import Derived.Test.YtkjbfomokdjbnaaDcD
import Derived.Test.YtkjbfomokdjbnaaFmL
import Derived.Laws.OwnMore
import Derived.RegionTactic
import Derived.BigRegion
namespace Go.Proofs.Ytkjbfomokdjbnaa
open Go.RowKit
set_option linter.unusedSimpArgs false
set_option linter.unusedVariables false
namespace Dc
open Fm

/-- ys is xs with its first k and last k elements turned -/
def RvRel (m k : Nat) (xs ys : List Value) : Prop := ys.length = m ∧ ∀ p, p < m → ys[p]? = if p < k ∨ m - 1 - p < k then xs[m - 1 - p]? else xs[p]?
theorem RvRel.done {m k : Nat} {xs ys : List Value} (h : RvRel m k xs ys) (hx : xs.length = m) (hk : m ≤ 2 * k + 1) : ys = xs.reverse := by
  apply List.ext_getElem?
  intro p
  by_cases hp : p < m
  · rw [h.2 p hp, List.getElem?_reverse (by omega), hx]
    split
    · rfl
    · have : m - 1 - p = p := by omega
      rw [this]
  · rw [List.getElem?_eq_none (by rw [h.1]; omega), List.getElem?_eq_none (by simp; omega)]
theorem RvRel.step {m k : Nat} {xs ys : List Value} {u v : Value} (h : RvRel m k xs ys) (hx : xs.length = m) (hk : 2 * k + 1 < m) (hu : ys[k]? = some u) (hv : ys[m - 1 - k]? = some v) : RvRel m (k + 1) xs ((ys.set k v).set (m - 1 - k) u) := by
  refine ⟨by simp [h.1], fun p hp => ?_⟩
  have hu2 := h.2 k (by omega)
  have hv2 := h.2 (m - 1 - k) (by omega)
  rw [hu, if_neg (by omega)] at hu2
  rw [hv, if_neg (by omega)] at hv2
  by_cases e1 : p = m - 1 - k
  · subst e1
    rw [List.getElem?_set_self (by simp [h.1]; omega), if_pos (by omega), hu2, show m - 1 - (m - 1 - k) = k by omega]
  · rw [List.getElem?_set_ne (by omega)]
    by_cases e2 : p = k
    · subst e2
      rw [List.getElem?_set_self (by rw [h.1]; omega), if_pos (by omega), hv2]
    · rw [List.getElem?_set_ne (by omega), h.2 p hp]
      by_cases h3 : p < k ∨ m - 1 - p < k
      · rw [if_pos h3, if_pos (by omega)]
      · rw [if_neg h3, if_neg (by omega)]

set_option maxRecDepth 100000 in
set_option maxHeartbeats 4000000 in
theorem reverse_any (B m : Nat) (v : Value) (xs : List Value) (w : World) (h : w.ownsRow B 5 1 v m xs) (hm : m ≤ 1000000000) (h1 : ∀ u ∈ xs, ∃ n : Int, u = .int .u8 n) :
    Calls Try.prog 82 #[v] w fun e w' => e = .returned (.tuple #[]) ∧ w'.ownsRow B 5 1 v m xs.reverse ∧ w.grownBy w' v.ownBlock := by
  have hlen : xs.length = m := by have := h.1; omega
  rcases h.2 with ⟨rfl, rfl⟩ | ⟨g, cap, cur, rfl, hbg, hg, hnc, hcm, hcs, htk⟩
  · have HH := Lib.hid h
    have HX := Lib.hid (List.eq_nil_of_length_eq_zero hlen)
    clear h hlen h1
    go_enter Try.func82, Try.ntmps82
    go_wp2
    refine wp_loop_rounds 1 ?_
    rw [rounds_succ]
    go_wp2
    go_end0
    exact ⟨rfl, by rw [HX.out]; exact ⟨rfl, .inl ⟨rfl, rfl⟩⟩, grown_of_below (Below.refl _ w) _⟩
  · have HLEN := Lib.hid hlen
    have HH := Lib.hid h
    have H1 := Lib.hid h1
    clear h hlen h1 hbg hg hnc hcm hcs htk
    go_enter Try.func82, Try.ntmps82
    go_wp2
    go_loopw [2, 3] (fun a2 a3 wr => ∃ (k : Nat) (ys : List Value), k ≤ m ∧ 2 * k ≤ m + 1 ∧ a2 = .int .i64 k ∧ a3 = .int .i64 ((m : Int) - 1 - k) ∧ Hid (RvRel m k xs ys) ∧ Hid (wr.ownsRow B 5 1 (.slice (some ⟨g, 0, none⟩) m cap) m ys) ∧ Hid (w.grownBy wr (some g))) (fun a2 _ _ => m - (intOf a2).toNat)
    case atStart => exact ⟨0, xs, Nat.zero_le _, by omega, rfl, by go_num, Lib.hid ⟨HLEN.out, fun p hp => by simp⟩, HH, Lib.hid (grown_of_below (Below.refl _ w) _)⟩
    case round =>
      obtain ⟨k, ys, hk, hk2, rfl, rfl, hrv, hown, hgr⟩ := hrel
      by_cases hlt : 2 * k + 1 < m
      · obtain ⟨j, hj⟩ : ∃ j, j = m - 1 - k := ⟨_, rfl⟩
        have hji : (m : Int) - 1 - k = j := by omega
        have hkj : k < j := by omega
        have hjm : j < m := by omega
        obtain ⟨u, hu⟩ : ∃ u, ys[k]? = some u := ⟨_, List.getElem?_eq_getElem (by have := hrv.out.1; omega)⟩
        obtain ⟨x, hx⟩ : ∃ x, ys[j]? = some x := ⟨_, List.getElem?_eq_getElem (by have := hrv.out.1; omega)⟩
        have hu2 := hrv.out.2 k (by omega)
        rw [hu, if_neg (by omega)] at hu2
        obtain ⟨un, rfl⟩ := H1.out u (List.mem_of_getElem? hu2.symm)
        have hx2 := hrv.out.2 j (by omega)
        rw [hx, if_neg (by omega)] at hx2
        obtain ⟨xn, rfl⟩ := H1.out x (List.mem_of_getElem? hx2.symm)
        clear hu2 hx2
        have c1 : wr.cell? ⟨g, k, none⟩ = some (.int .u8 un) := by rw [hown.out.cellAt k (by omega)]; exact hu
        have c2 : wr.cell? ⟨g, j, none⟩ = some (.int .u8 xn) := by rw [hown.out.cellAt j (by omega)]; exact hx
        have f1 : wr.frozen? ⟨g, k, none⟩ = false := hown.out.frozenAt k
        have f2 : wr.frozen? ⟨g, j, none⟩ = false := hown.out.frozenAt j
        have HST := Lib.hid (hrv.out.step HLEN.out hlt hu (by rw [← hj]; exact hx))
        rw [← hj] at HST
        have HSW := Lib.hid (show ∀ wz : World, wz.ownsRow B 5 1 (.slice (some ⟨g, 0, none⟩) m cap) m ys → wz.heap = wr.heap → wz.os = wr.os → wz.tape = wr.tape → wz.output = wr.output → ((wz.setCell ⟨g, k, none⟩ (.int .u8 xn)).setCell ⟨g, j, none⟩ (.int .u8 un)).ownsRow B 5 1 (.slice (some ⟨g, 0, none⟩) m cap) m ((ys.set k (.int .u8 xn)).set j (.int .u8 un)) ∧ w.grownBy ((wz.setCell ⟨g, k, none⟩ (.int .u8 xn)).setCell ⟨g, j, none⟩ (.int .u8 un)) (some g) from fun wz ho e1 e2 e3 e4 => by
          have s1 := ho.stored k (.int .u8 xn)
          have s2 := s1.1.stored j (.int .u8 un)
          refine ⟨s2.1, ?_⟩
          have hg1 := hgr.out
          have hgz : w.grownBy wz (some g) := ⟨e2.trans hg1.os, e3.trans hg1.tape, e4.trans hg1.output, by rw [e1]; exact hg1.size, fun i hi hne => by rw [e1]; exact hg1.block i hi hne⟩
          exact (hgz.trans s1.2).trans s2.2)
        have hjn : ¬ j = k := by omega
        have hkn : ¬ k = j := by omega
        have hlt1 : (k : Int) < j := by omega
        have hlt2 : (k : Int) < m := by omega
        have hlt3 : (j : Int) < m := by omega
        rw [hji]
        have hk0 : (0 : Int) ≤ j := by omega
        have HJ := Lib.hid hj
        clear hu hx hj hrv hji
        have c2s : ∀ z, (wr.setCell ⟨g, k, none⟩ z).cell? ⟨g, j, none⟩ = some (.int .u8 xn) := fun z => (World.cell?_setCell_other _ _ _ z (fun e => by injection e with _ e2; omega)).trans c2
        have c1s : ∀ z, (wr.setCell ⟨g, j, none⟩ z).cell? ⟨g, k, none⟩ = some (.int .u8 un) := fun z => (World.cell?_setCell_other _ _ _ z (fun e => by injection e with _ e2; omega)).trans c1
        go_wp2_with fail
        go_region
        all_goals
          go_wp2
          go_roundw
          case rel =>
            obtain ⟨h2, h3⟩ := HSW.out wr.drew hown.out rfl rfl rfl rfl
            have hj := HJ.out
            exact ⟨k + 1, _, by omega, by omega, by go_num, by congr 1; omega, HST, Lib.hid h2, Lib.hid h3⟩
          case measure => simp [intOf]; omega
      · have hle : ¬ ((k : Int) < (m : Int) - 1 - k) := by omega
        have HD := Lib.hid (hrv.out.done HLEN.out (by omega))
        go_wp2
        go_end0
        exact ⟨rfl, by rw [← HD.out]; exact hown.out, hgr.out⟩

def sgnI (neg : Bool) (l : List Nat) : Int := if valN l = 0 then 0 else if neg then -1 else 1
set_option maxHeartbeats 1000000 in
theorem sign_any (neg : Bool) (l : List Nat) (v : Value) (S : Nat → Prop) (w : World) (hS : ∀ b, S b → b < w.heap.size) (h : AbsAt w S v l) :
    Calls Try.prog 49 #[.agg #[.bool neg, v]] w fun e w' => e = .returned (.int .i64 (sgnI neg l)) ∧ Below w.heap.size w w' := by
  have hov : v.oneCell' = true := by obtain ⟨A, c, rfl⟩ := h.form; rfl
  obtain ⟨s, hs⟩ : ∃ s, s = sgnI neg l := ⟨_, rfl⟩
  obtain ⟨W, hW⟩ : ∃ W, w.alloc (.cells #[.bool neg, v] 43) = W := ⟨_, rfl⟩
  have hx : Box w W w.heap.size #[.bool neg, v] 43 := by rw [← hW]; exact Box.new w _ _
  obtain ⟨c0, c1⟩ := hx.c2
  have HX := Lib.hid hx
  have hA := h.below hS hx.below
  rw [← hs]
  obtain ⟨A, c, hv⟩ := h.form
  subst hv
  by_cases h0 : valN l = 0
  · have HZ := Lib.hid (isZero_any l _ S W hA true (by simp [h0]))
    obtain rfl : s = 0 := by rw [hs]; unfold sgnI; rw [if_pos h0]
    clear hx h hA h0 hs hov
    go_enter Try.func49, Try.ntmps49
    go_wp2_with (go_at_call 58; refine HZ.out.mono ?_; rintro e w' ⟨rfl, rfl⟩)
    go_ret
    exact ⟨rfl, HX.out.below⟩
  · have HZ := Lib.hid (isZero_any l _ S W hA false (by simp [h0]))
    cases neg
    · obtain rfl : s = 1 := by rw [hs]; unfold sgnI; rw [if_neg h0]; rfl
      clear hx h hA h0 hs hov
      go_enter Try.func49, Try.ntmps49
      go_wp2_with (go_at_call 58; refine HZ.out.mono ?_; rintro e w' ⟨rfl, rfl⟩)
      go_ret
      exact ⟨rfl, HX.out.below⟩
    · obtain rfl : s = -1 := by rw [hs]; unfold sgnI; rw [if_neg h0]; rfl
      clear hx h hA h0 hs hov
      go_enter Try.func49, Try.ntmps49
      go_wp2_with (go_at_call 58; refine HZ.out.mono ?_; rintro e w' ⟨rfl, rfl⟩)
      go_ret
      exact ⟨rfl, HX.out.below⟩

set_option maxHeartbeats 1000000 in
theorem abs_any (neg : Bool) (l : List Nat) (v : Value) (S : Nat → Prop) (w : World) (hS : ∀ b, S b → b < w.heap.size) (h : AbsAt w S v l) (hl : l.length ≤ 1000000) :
    Calls Try.prog 69 #[.agg #[.bool neg, v]] w (NormPost false l w) := by
  have hx0 := Box.new w #[.bool neg, v] 43
  have hx1 := Box.new (w.alloc (.cells #[.bool neg, v] 43)) #[.bool false, .slice none 0 0] 43
  have hs0 : (w.alloc (.cells #[.bool neg, v] 43)).heap.size = w.heap.size + 1 := by simp
  have hs1 : ((w.alloc (.cells #[.bool neg, v] 43)).alloc (.cells #[.bool false, .slice none 0 0] 43)).heap.size = w.heap.size + 2 := by simp
  rw [hs0] at hx1
  have hbel : Below w.heap.size w ((w.alloc (.cells #[.bool neg, v] 43)).alloc (.cells #[.bool false, .slice none 0 0] 43)) := hx0.below.trans (hx1.below.mono (by omega))
  have HN := Lib.hid (from_any false l v S ((w.alloc (.cells #[.bool neg, v] 43)).alloc (.cells #[.bool false, .slice none 0 0] 43)) (fun b hb => by rw [hs1]; have := hS b hb; omega) (h.below hS hbel) hl)
  obtain ⟨r, hr⟩ : ∃ r, r = normB false l := ⟨_, rfl⟩
  have HR := Lib.hid hr
  have HX1 := Lib.hid hx1
  have HX0 := Lib.hid hx0
  have HS1 := Lib.hid hs1
  have HS0 := Lib.hid hs0
  clear hr h hx0 hx1 hs0 hs1 hS hbel
  go_enter Try.func69, Try.ntmps69
  go_wp2_with (first
    | (go_at_call 33; refine HN.out.mono ?_; intro e w2 h; obtain ⟨A, n, c, rfl, hA, hb2⟩ := h.named r HR.out; clear h; have HA := Lib.hid hA; clear hA; have hx2 := HX1.out.step hb2; obtain ⟨y0, y1⟩ := hx2.c2; have yf := hx2.fz))
  refine bodyPost_ret (v := .agg #[.bool r, .slice A n c]) (by simp [results, Try.results69, go_sem, y0, y1, yf]) rfl ?_
  have hz := HS0.out
  have hz1 := HS1.out
  have hb2s := hb2.size
  refine ⟨_, by rw [← HR.out], ?_, ((HX0.out.below.trans (hx2.below.mono (by omega))).setCell (p := ⟨_, _, none⟩) (Nat.le_succ _) _).setCell (p := ⟨_, _, none⟩) (Nat.le_succ _) _⟩
  exact ((HA.out.setCell _ (by omega)).setCell _ (by omega)).more (fun b hb => ⟨by omega, by simp; omega⟩)

set_option maxRecDepth 100000 in
set_option maxHeartbeats 1000000 in
theorem chunk_ten (w : World) : Calls Try.prog 79 #[.int .i64 10] w fun e w' => e = .returned (.tuple #[.int .u32 1000000000, .int .i64 9]) ∧ w = w' := by
  go_enter Try.func79, Try.ntmps79
  go_wp2
  go_loop [4, 5] (fun a4 a5 => ∃ i : Nat, i ≤ 8 ∧ a4 = .int .u64 ((10 ^ (i + 1) : Nat) : Int) ∧ a5 = .int .i64 ((i : Int) + 1)) (fun _ a5 => 10 - (intOf a5).toNat)
  case atStart => exact ⟨0, by omega, rfl, rfl⟩
  case round =>
    obtain ⟨i, hi, rfl, rfl⟩ := hrel
    rcases (show i = 0 ∨ i = 1 ∨ i = 2 ∨ i = 3 ∨ i = 4 ∨ i = 5 ∨ i = 6 ∨ i = 7 ∨ i = 8 by omega) with rfl | rfl | rfl | rfl | rfl | rfl | rfl | rfl | rfl
    case inr.inr.inr.inr.inr.inr.inr.inr =>
      go_wp2
      go_ret2
      exact ⟨rfl, rfl⟩
    all_goals
      go_wp2
      go_round
      case rel => exact ⟨_, by decide, rfl, rfl⟩
      case measure => simp [intOf]
end Dc
end Go.Proofs.Ytkjbfomokdjbnaa
