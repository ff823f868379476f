/-
  The reference's FewList at 400, and the rest of a row of trees.
-/
import Derived.Test.YtjbgdaojhdobkaaFmL
namespace Go.Proofs.Ytjbgdaojhdobkaa
open Go.RowKit
set_option linter.unusedSimpArgs false
set_option linter.unusedVariables false
namespace Fm

def fewL (ts : List Tr) : Bool := decide (ts.length ≤ 20) && ts.all fun t => fewB t 21

set_option maxRecDepth 100000 in
set_option maxHeartbeats 4000000 in
theorem fewlist_any (ts : List Tr) (A : Option Addr) (n c : Nat) (xs : List Value) (S : Nat → Prop) (w : World) (hS : ∀ b, S b → b < w.heap.size) (hn : n = ts.length) (hs : SS w S 9 (.slice A n c) n xs) (ht : TrsC w S ts xs) :
    Calls Try.prog 32 #[.slice A n c, .int .i64 400] w fun e w' => e = .returned (.bool (fewL ts)) ∧ Below w.heap.size w w' := by
  obtain ⟨R, hR⟩ : ∃ R, R = fewL ts := ⟨_, rfl⟩
  rw [← hR]
  have HR := Lib.hid hR
  have HN := Lib.hid hn
  have HSS := Lib.hid hs
  have HT := Lib.hid ht
  have HS := Lib.hid hS
  clear hR hn hs ht hS
  by_cases hbig : 20 < n
  · have hd : decide ((20 : Int) < n) = true := by simp; omega
    have HF := Lib.hid (show R = false by rw [HR.out]; unfold fewL; rw [decide_eq_false (by have := HN.out; omega)]; rfl)
    go_enter Try.func32, Try.ntmps32
    go_wp2
    go_ret
    exact ⟨by rw [HF.out]; rfl, Below.refl _ w⟩
  · have hd : decide ((20 : Int) < n) = false := by simp; omega
    have HG := Lib.hid (show R = (ts.drop 0).all fun t => fewB t 21 by rw [HR.out]; unfold fewL; rw [decide_eq_true (by have := HN.out; omega)]; simp)
    go_enter Try.func32, Try.ntmps32
    go_wp2
    go_loopw [11] (fun a_ wr => ∃ i : Nat, i ≤ n ∧ a_ = .int .i64 i ∧ Below w.heap.size w wr ∧ Hid (R = (ts.drop i).all fun t => fewB t 21)) (fun a_ _ => n - (intOf a_).toNat)
    case atStart => exact ⟨0, Nat.zero_le _, rfl, Below.refl _ w, HG⟩
    case round =>
      obtain ⟨i, hi, rfl, hb, hrel⟩ := hrel
      by_cases hlt : i < n
      · obtain ⟨kd, b, o, A1, n1, c1, A2, n2, c2, hkd, rfl, hbS, hT, k0, k1, k2, k3, k4, k5, k6, k7, k8⟩ := kid_cells (HSS.out.below HS.out hb) (HT.out.below HS.out hb) HN.out i hlt
        have HC := Lib.hid (few_any kd _ S 21 wr (fun b h => Nat.lt_of_lt_of_le (HS.out b h) hb.size) hT (by omega) (by omega))
        obtain ⟨r, hr⟩ : ∃ r, r = fewB kd 21 := ⟨_, rfl⟩
        rw [← hr] at HC
        have hs := hrel.out
        rw [show ts.drop i = kd :: ts.drop (i + 1) from drop_at hkd, List.all_cons, ← hr] at hs
        have HB := Lib.hid hb
        unfold hdC at HC
        have hi1 : (0 : Int) ≤ i ∧ (i : Int) < n := by omega
        clear hr hT hkd hrel hbS
        cases r
        · have HF := Lib.hid (show R = false by rw [hs]; rfl)
          clear hs
          go_wp2_with (go_at_call 16; refine HC.out.mono ?_; rintro e w2 ⟨rfl, hb2⟩; have HB2 := Lib.hid (HB.out.trans (hb2.mono HB.out.size)))
          go_ret
          exact ⟨by rw [HF.out]; rfl, HB2.out⟩
        · have HG2 := Lib.hid (show R = (ts.drop (i + 1)).all fun t => fewB t 21 by rw [hs]; rfl)
          clear hs
          go_wp2_with (go_at_call 16; refine HC.out.mono ?_; rintro e w2 ⟨rfl, hb2⟩; have hB2 := HB.out.trans (hb2.mono HB.out.size))
          go_roundw
          case rel => exact ⟨i + 1, by omega, by go_num, hB2, HG2⟩
          case measure => simp [intOf]; omega
      · have HF := Lib.hid (show R = true by rw [hrel.out, List.drop_eq_nil_of_le (by have := HN.out; omega)]; rfl)
        go_wp2
        go_ret
        exact ⟨by rw [HF.out]; rfl, hb⟩
end Fm
end Go.Proofs.Ytjbgdaojhdobkaa
