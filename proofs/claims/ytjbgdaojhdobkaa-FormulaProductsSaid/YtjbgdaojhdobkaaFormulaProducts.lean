/-
  FormulaProducts: for every two trees and every exponent that came in the law returns true: the degree of a product is the sum, that of a power the multiple, that of a sum the greater one. No condition.
-/
import Derived.Test.YtjbgdaojhdobkaaDcI
import Derived.Test.YtjbgdaojhdobkaaFmX
import Derived.Test.YtjbgdaojhdobkaaFmAw
import Derived.Test.YtjbgdaojhdobkaaFmOpn
import Derived.Test.YtjbgdaojhdobkaaRows
import Derived.ProofKit
import Derived.OpenShut
import Derived.ShutString
import Derived.Carry
namespace Go.Proofs.Ytjbgdaojhdobkaa.formulaProducts
open Go.ChangeShapes Go.WideShapes Go.ChangeAt Go.RowKit Go.Sort Go.Proofs.Ytjbgdaojhdobkaa Go.Proofs.Ytjbgdaojhdobkaa.Fm Go.Proofs.Ytjbgdaojhdobkaa.Dc
set_option linter.unusedVariables false
set_option linter.unusedSimpArgs false
attribute [local go_sem] run_store

theorem mul_deg (A B : Nat) : capN (A + B) = min 2147483647 (A + B) := by unfold capN; omega
theorem pow_deg (n A : Nat) (hn : n ≤ 255) (hA : A ≤ 2147483647) : prodN n A = min 2147483647 (n * A) := by
  unfold prodN
  rw [show capN n = n by unfold capN; omega, show capN A = A by unfold capN; omega]
  unfold capN; omega

theorem if_min (a m : Nat) (h : m = min 2147483647 a) : (if (a : Int) < 2147483647 then (a : Int) else 2147483647) = m := by split <;> omega
theorem if_min2 (a b m : Nat) (h : m = min 2147483647 (a + b)) : (if (a : Int) + b < 2147483647 then (a : Int) + b else 2147483647) = m := by split <;> omega
theorem if_max (a b m : Nat) (h : m = max a b) : (if (a : Int) < b then (b : Int) else a) = m := by split <;> omega
theorem if_max' (a b m : Nat) (h : m = max a b) : (if a < b then (b : Int) else a) = m := by split <;> omega

set_option maxHeartbeats 16000000 in
set_option maxRecDepth 100000 in
theorem walk (t0 : Tr) (cs0 : List Value) (t1 : Tr) (cs1 : List Value) (a2 : Int) (w2' : (Lit.int .u8 a2).wf = true) (w : World) (hT0 : TreeAt w (fun b => b < w.heap.size) t0 cs0) (hT1 : TreeAt w (fun b => b < w.heap.size) t1 cs1) :
    Calls Try.prog 10 #[.agg cs0.toArray, .agg cs1.toArray, .int .u8 a2] w fun e w' => e = .returned (.bool true) ∧ Below w.heap.size w w' := by
  have hq := bounds_u8 w2'
  obtain ⟨q, rfl⟩ := Int.eq_ofNat_of_zero_le hq.1
  have hq255 : q ≤ 255 := by omega
  clear hq w2'
  obtain ⟨A10, n10, c10, A20, n20, c20, k0, neg0, nm0, ex0, rl0, tr0, al0, rfl⟩ := hT0.nine
  obtain ⟨A11, n11, c11, A21, n21, c21, k1, neg1, nm1, ex1, rl1, tr1, al1, rfl⟩ := hT1.nine
  have hx0 : Box w ((w.alloc (.cells #[.int .i64 k0, .bool neg0, .slice A10 n10 c10, .string nm0, .int .i64 ex0, .int .i64 rl0, .bool tr0, .bool al0, .slice A20 n20 c20] TT)).alloc (.cells #[.int .i64 k1, .bool neg1, .slice A11 n11 c11, .string nm1, .int .i64 ex1, .int .i64 rl1, .bool tr1, .bool al1, .slice A21 n21 c21] TT)) w.heap.size #[.int .i64 k0, .bool neg0, .slice A10 n10 c10, .string nm0, .int .i64 ex0, .int .i64 rl0, .bool tr0, .bool al0, .slice A20 n20 c20] TT := (Box.new w #[.int .i64 k0, .bool neg0, .slice A10 n10 c10, .string nm0, .int .i64 ex0, .int .i64 rl0, .bool tr0, .bool al0, .slice A20 n20 c20] TT).alloc _
  have hx1 : Box w ((w.alloc (.cells #[.int .i64 k0, .bool neg0, .slice A10 n10 c10, .string nm0, .int .i64 ex0, .int .i64 rl0, .bool tr0, .bool al0, .slice A20 n20 c20] TT)).alloc (.cells #[.int .i64 k1, .bool neg1, .slice A11 n11 c11, .string nm1, .int .i64 ex1, .int .i64 rl1, .bool tr1, .bool al1, .slice A21 n21 c21] TT)) (w.heap.size + 1) #[.int .i64 k1, .bool neg1, .slice A11 n11 c11, .string nm1, .int .i64 ex1, .int .i64 rl1, .bool tr1, .bool al1, .slice A21 n21 c21] TT := Box.second w _ _ _
  obtain ⟨W, hW⟩ : ∃ W, (w.alloc (.cells #[.int .i64 k0, .bool neg0, .slice A10 n10 c10, .string nm0, .int .i64 ex0, .int .i64 rl0, .bool tr0, .bool al0, .slice A20 n20 c20] TT)).alloc (.cells #[.int .i64 k1, .bool neg1, .slice A11 n11 c11, .string nm1, .int .i64 ex1, .int .i64 rl1, .bool tr1, .bool al1, .slice A21 n21 c21] TT) = W := ⟨_, rfl⟩
  rw [hW] at hx0 hx1
  have HX0 := Lib.hid hx0
  have HX1 := Lib.hid hx1
  have hlt : ∀ w', Below w.heap.size w w' → ∀ b, b < w.heap.size → b < w'.heap.size := fun w' h b hb => Nat.lt_of_lt_of_le hb h.size
  have hstep := Lib.hid (show ∀ wc wn, Below w.heap.size w wc → Below wc.heap.size wc wn → Below w.heap.size w wn from fun wc wn h1 h2 => h1.trans (h2.mono h1.size))
  obtain ⟨R0, hR0⟩ : ∃ R, R = fewB t0 300 := ⟨_, rfl⟩
  obtain ⟨I0, hI0⟩ : ∃ I, I = isF t0 true := ⟨_, rfl⟩
  obtain ⟨R1, hR1⟩ : ∃ R, R = fewB t1 300 := ⟨_, rfl⟩
  obtain ⟨I1, hI1⟩ : ∃ I, I = isF t1 true := ⟨_, rfl⟩
  have HFW0 := Lib.hid (show ∀ w', Below w.heap.size w w' → Calls Try.prog 16 #[.agg #[.int .i64 k0, .bool neg0, .slice A10 n10 c10, .string nm0, .int .i64 ex0, .int .i64 rl0, .bool tr0, .bool al0, .slice A20 n20 c20], .int .i64 300] w' fun e w2 => e = .returned (.bool R0) ∧ Below w'.heap.size w' w2 from fun w' h => by rw [hR0]; exact few_any t0 _ _ 300 w' (hlt w' h) (hT0.below (fun b h => h) h) (by omega) (by omega))
  have HIS0 := Lib.hid (show ∀ w', Below w.heap.size w w' → Calls Try.prog 18 #[.agg #[.int .i64 k0, .bool neg0, .slice A10 n10 c10, .string nm0, .int .i64 ex0, .int .i64 rl0, .bool tr0, .bool al0, .slice A20 n20 c20], .bool true] w' fun e w2 => e = .returned (.bool I0) ∧ Below w'.heap.size w' w2 from fun w' h => by rw [hI0]; exact is_any t0 _ _ true w' (hlt w' h) (hT0.below (fun b h => h) h))
  have HFW1 := Lib.hid (show ∀ w', Below w.heap.size w w' → Calls Try.prog 16 #[.agg #[.int .i64 k1, .bool neg1, .slice A11 n11 c11, .string nm1, .int .i64 ex1, .int .i64 rl1, .bool tr1, .bool al1, .slice A21 n21 c21], .int .i64 300] w' fun e w2 => e = .returned (.bool R1) ∧ Below w'.heap.size w' w2 from fun w' h => by rw [hR1]; exact few_any t1 _ _ 300 w' (hlt w' h) (hT1.below (fun b h => h) h) (by omega) (by omega))
  have HIS1 := Lib.hid (show ∀ w', Below w.heap.size w w' → Calls Try.prog 18 #[.agg #[.int .i64 k1, .bool neg1, .slice A11 n11 c11, .string nm1, .int .i64 ex1, .int .i64 rl1, .bool tr1, .bool al1, .slice A21 n21 c21], .bool true] w' fun e w2 => e = .returned (.bool I1) ∧ Below w'.heap.size w' w2 from fun w' h => by rw [hI1]; exact is_any t1 _ _ true w' (hlt w' h) (hT1.below (fun b h => h) h))
  have HR0 := Lib.hid hR0
  have HI0 := Lib.hid hI0
  have HR1 := Lib.hid hR1
  have HI1 := Lib.hid hI1
  have HT0 := Lib.hid hT0
  have HT1 := Lib.hid hT1
  have HLT := Lib.hid hlt
  clear hx0 hx1 hT0 hR0 hI0 hT1 hR1 hI1 hlt
  cases R0
  · go_enter Try.func10, Try.ntmps10
    go_wp2_with fail
    refine (awake_any _).mono ?_
    rintro e w1 ⟨rfl, hb1⟩
    have hXa1 := HX0.out.step hb1
    have hXb1 := HX1.out.step hb1
    have hw1 : Below w.heap.size w w1 := hXa1.below
    obtain ⟨ga0, ga1, ga2, ga3, ga4, ga5, ga6, ga7, ga8⟩ := hXa1.c9
    obtain ⟨gb0, gb1, gb2, gb3, gb4, gb5, gb6, gb7, gb8⟩ := hXb1.c9
    have HXa1 := Lib.hid hXa1
    have HXb1 := Lib.hid hXb1
    clear hb1 hXa1 hXb1 hW
    go_wp2_with (first | (go_at_call 16; (with_reducible refine (HFW0.out _ hw1).mono ?_); rintro e w2 ⟨rfl, hb2⟩; have hw2 : Below w.heap.size w w2 := hstep.out _ _ hw1 hb2; have hXa2 := HXa1.out.step hb2; have hXb2 := HXb1.out.step hb2; obtain ⟨fa0, fa1, fa2, fa3, fa4, fa5, fa6, fa7, fa8⟩ := hXa2.c9; obtain ⟨fb0, fb1, fb2, fb3, fb4, fb5, fb6, fb7, fb8⟩ := hXb2.c9; have HXa2 := Lib.hid hXa2; have HXb2 := Lib.hid hXb2; clear hb2 hXa2 hXb2) | (go_at_call 15; refine (awake_any _).mono ?_; rintro e w9 ⟨rfl, hb9⟩; have hw9 := hstep.out _ _ hw2 hb9))
    go_ret
    exact ⟨rfl, hw9⟩
  · cases R1
    · go_enter Try.func10, Try.ntmps10
      go_wp2_with fail
      refine (awake_any _).mono ?_
      rintro e w1 ⟨rfl, hb1⟩
      have hXa1 := HX0.out.step hb1
      have hXb1 := HX1.out.step hb1
      have hw1 : Below w.heap.size w w1 := hXa1.below
      obtain ⟨ga0, ga1, ga2, ga3, ga4, ga5, ga6, ga7, ga8⟩ := hXa1.c9
      obtain ⟨gb0, gb1, gb2, gb3, gb4, gb5, gb6, gb7, gb8⟩ := hXb1.c9
      have HXa1 := Lib.hid hXa1
      have HXb1 := Lib.hid hXb1
      clear hb1 hXa1 hXb1 hW
      go_wp2_with (first | (go_at_call 16; (with_reducible refine (HFW0.out _ hw1).mono ?_); rintro e w2 ⟨rfl, hb2⟩; have hw2 : Below w.heap.size w w2 := hstep.out _ _ hw1 hb2; have hXa2 := HXa1.out.step hb2; have hXb2 := HXb1.out.step hb2; obtain ⟨fa0, fa1, fa2, fa3, fa4, fa5, fa6, fa7, fa8⟩ := hXa2.c9; obtain ⟨fb0, fb1, fb2, fb3, fb4, fb5, fb6, fb7, fb8⟩ := hXb2.c9; have HXa2 := Lib.hid hXa2; have HXb2 := Lib.hid hXb2; clear hb2 hXa2 hXb2) | (go_at_call 16; (with_reducible refine (HFW1.out _ hw2).mono ?_); rintro e w3 ⟨rfl, hb3⟩; have hw3 : Below w.heap.size w w3 := hstep.out _ _ hw2 hb3; have hXa3 := HXa2.out.step hb3; have hXb3 := HXb2.out.step hb3; obtain ⟨da0, da1, da2, da3, da4, da5, da6, da7, da8⟩ := hXa3.c9; obtain ⟨db0, db1, db2, db3, db4, db5, db6, db7, db8⟩ := hXb3.c9; have HXa3 := Lib.hid hXa3; have HXb3 := Lib.hid hXb3; clear hb3 hXa3 hXb3) | (go_at_call 15; refine (awake_any _).mono ?_; rintro e w9 ⟨rfl, hb9⟩; have hw9 := hstep.out _ _ hw3 hb9))
      go_ret
      exact ⟨rfl, hw9⟩
    · cases I0
      · go_enter Try.func10, Try.ntmps10
        go_wp2_with fail
        refine (awake_any _).mono ?_
        rintro e w1 ⟨rfl, hb1⟩
        have hXa1 := HX0.out.step hb1
        have hXb1 := HX1.out.step hb1
        have hw1 : Below w.heap.size w w1 := hXa1.below
        obtain ⟨ga0, ga1, ga2, ga3, ga4, ga5, ga6, ga7, ga8⟩ := hXa1.c9
        obtain ⟨gb0, gb1, gb2, gb3, gb4, gb5, gb6, gb7, gb8⟩ := hXb1.c9
        have HXa1 := Lib.hid hXa1
        have HXb1 := Lib.hid hXb1
        clear hb1 hXa1 hXb1 hW
        go_wp2_with (first | (go_at_call 16; (with_reducible refine (HFW0.out _ hw1).mono ?_); rintro e w2 ⟨rfl, hb2⟩; have hw2 : Below w.heap.size w w2 := hstep.out _ _ hw1 hb2; have hXa2 := HXa1.out.step hb2; have hXb2 := HXb1.out.step hb2; obtain ⟨fa0, fa1, fa2, fa3, fa4, fa5, fa6, fa7, fa8⟩ := hXa2.c9; obtain ⟨fb0, fb1, fb2, fb3, fb4, fb5, fb6, fb7, fb8⟩ := hXb2.c9; have HXa2 := Lib.hid hXa2; have HXb2 := Lib.hid hXb2; clear hb2 hXa2 hXb2) | (go_at_call 16; (with_reducible refine (HFW1.out _ hw2).mono ?_); rintro e w3 ⟨rfl, hb3⟩; have hw3 : Below w.heap.size w w3 := hstep.out _ _ hw2 hb3; have hXa3 := HXa2.out.step hb3; have hXb3 := HXb2.out.step hb3; obtain ⟨da0, da1, da2, da3, da4, da5, da6, da7, da8⟩ := hXa3.c9; obtain ⟨db0, db1, db2, db3, db4, db5, db6, db7, db8⟩ := hXb3.c9; have HXa3 := Lib.hid hXa3; have HXb3 := Lib.hid hXb3; clear hb3 hXa3 hXb3) | (go_at_call 18; (with_reducible refine (HIS0.out _ hw3).mono ?_); rintro e w4 ⟨rfl, hb4⟩; have hw4 : Below w.heap.size w w4 := hstep.out _ _ hw3 hb4; have hXa4 := HXa3.out.step hb4; have hXb4 := HXb3.out.step hb4; obtain ⟨ea0, ea1, ea2, ea3, ea4, ea5, ea6, ea7, ea8⟩ := hXa4.c9; obtain ⟨eb0, eb1, eb2, eb3, eb4, eb5, eb6, eb7, eb8⟩ := hXb4.c9; have HXa4 := Lib.hid hXa4; have HXb4 := Lib.hid hXb4; clear hb4 hXa4 hXb4) | (go_at_call 15; refine (awake_any _).mono ?_; rintro e w9 ⟨rfl, hb9⟩; have hw9 := hstep.out _ _ hw4 hb9))
        go_ret
        exact ⟨rfl, hw9⟩
      · cases I1
        · go_enter Try.func10, Try.ntmps10
          go_wp2_with fail
          refine (awake_any _).mono ?_
          rintro e w1 ⟨rfl, hb1⟩
          have hXa1 := HX0.out.step hb1
          have hXb1 := HX1.out.step hb1
          have hw1 : Below w.heap.size w w1 := hXa1.below
          obtain ⟨ga0, ga1, ga2, ga3, ga4, ga5, ga6, ga7, ga8⟩ := hXa1.c9
          obtain ⟨gb0, gb1, gb2, gb3, gb4, gb5, gb6, gb7, gb8⟩ := hXb1.c9
          have HXa1 := Lib.hid hXa1
          have HXb1 := Lib.hid hXb1
          clear hb1 hXa1 hXb1 hW
          go_wp2_with (first | (go_at_call 16; (with_reducible refine (HFW0.out _ hw1).mono ?_); rintro e w2 ⟨rfl, hb2⟩; have hw2 : Below w.heap.size w w2 := hstep.out _ _ hw1 hb2; have hXa2 := HXa1.out.step hb2; have hXb2 := HXb1.out.step hb2; obtain ⟨fa0, fa1, fa2, fa3, fa4, fa5, fa6, fa7, fa8⟩ := hXa2.c9; obtain ⟨fb0, fb1, fb2, fb3, fb4, fb5, fb6, fb7, fb8⟩ := hXb2.c9; have HXa2 := Lib.hid hXa2; have HXb2 := Lib.hid hXb2; clear hb2 hXa2 hXb2) | (go_at_call 16; (with_reducible refine (HFW1.out _ hw2).mono ?_); rintro e w3 ⟨rfl, hb3⟩; have hw3 : Below w.heap.size w w3 := hstep.out _ _ hw2 hb3; have hXa3 := HXa2.out.step hb3; have hXb3 := HXb2.out.step hb3; obtain ⟨da0, da1, da2, da3, da4, da5, da6, da7, da8⟩ := hXa3.c9; obtain ⟨db0, db1, db2, db3, db4, db5, db6, db7, db8⟩ := hXb3.c9; have HXa3 := Lib.hid hXa3; have HXb3 := Lib.hid hXb3; clear hb3 hXa3 hXb3) | (go_at_call 18; (with_reducible refine (HIS0.out _ hw3).mono ?_); rintro e w4 ⟨rfl, hb4⟩; have hw4 : Below w.heap.size w w4 := hstep.out _ _ hw3 hb4; have hXa4 := HXa3.out.step hb4; have hXb4 := HXb3.out.step hb4; obtain ⟨ea0, ea1, ea2, ea3, ea4, ea5, ea6, ea7, ea8⟩ := hXa4.c9; obtain ⟨eb0, eb1, eb2, eb3, eb4, eb5, eb6, eb7, eb8⟩ := hXb4.c9; have HXa4 := Lib.hid hXa4; have HXb4 := Lib.hid hXb4; clear hb4 hXa4 hXb4) | (go_at_call 18; (with_reducible refine (HIS1.out _ hw4).mono ?_); rintro e w5 ⟨rfl, hb5⟩; have hw5 : Below w.heap.size w w5 := hstep.out _ _ hw4 hb5; have hXa5 := HXa4.out.step hb5; have hXb5 := HXb4.out.step hb5; obtain ⟨ia0, ia1, ia2, ia3, ia4, ia5, ia6, ia7, ia8⟩ := hXa5.c9; obtain ⟨ib0, ib1, ib2, ib3, ib4, ib5, ib6, ib7, ib8⟩ := hXb5.c9; have HXa5 := Lib.hid hXa5; have HXb5 := Lib.hid hXb5; clear hb5 hXa5 hXb5) | (go_at_call 15; refine (awake_any _).mono ?_; rintro e w9 ⟨rfl, hb9⟩; have hw9 := hstep.out _ _ hw5 hb9))
          go_ret
          exact ⟨rfl, hw9⟩
        · have hsm0 := fewB_sm HR0.out.symm
          obtain ⟨tm0, hof0⟩ : ∃ tm, ofT t0 = some tm := by have h := HI0.out; rw [isF_ofT] at h; exact Option.isSome_iff_exists.1 h.symm
          obtain ⟨-, hst0⟩ := plain_of t0 tm0 hof0 hsm0
          have HO0 := Lib.hid hof0
          have HNE0 := Lib.hid (ofT_ne hof0)
          have HST0 := Lib.hid hst0
          have HOT0 := Lib.hid (show ∀ w', Below w.heap.size w w' → Calls Try.prog 17 #[.agg #[.int .i64 k0, .bool neg0, .slice A10 n10 c10, .string nm0, .int .i64 ex0, .int .i64 rl0, .bool tr0, .bool al0, .slice A20 n20 c20]] w' (OfTPost t0 w') from fun w' h => ofTerm_any t0 _ _ w' (HLT.out w' h) (HT0.out.below (fun b h => h) h) hsm0)
          clear hsm0 hof0 hst0
          have hsm1 := fewB_sm HR1.out.symm
          obtain ⟨tm1, hof1⟩ : ∃ tm, ofT t1 = some tm := by have h := HI1.out; rw [isF_ofT] at h; exact Option.isSome_iff_exists.1 h.symm
          obtain ⟨-, hst1⟩ := plain_of t1 tm1 hof1 hsm1
          have HO1 := Lib.hid hof1
          have HNE1 := Lib.hid (ofT_ne hof1)
          have HST1 := Lib.hid hst1
          have HOT1 := Lib.hid (show ∀ w', Below w.heap.size w w' → Calls Try.prog 17 #[.agg #[.int .i64 k1, .bool neg1, .slice A11 n11 c11, .string nm1, .int .i64 ex1, .int .i64 rl1, .bool tr1, .bool al1, .slice A21 n21 c21]] w' (OfTPost t1 w') from fun w' h => ofTerm_any t1 _ _ w' (HLT.out w' h) (HT1.out.below (fun b h => h) h) hsm1)
          clear hsm1 hof1 hst1
          go_enter Try.func10, Try.ntmps10
          go_wp2_with fail
          refine (awake_any _).mono ?_
          rintro e w1 ⟨rfl, hb1⟩
          have hXa1 := HX0.out.step hb1
          have hXb1 := HX1.out.step hb1
          have hw1 : Below w.heap.size w w1 := hXa1.below
          obtain ⟨ga0, ga1, ga2, ga3, ga4, ga5, ga6, ga7, ga8⟩ := hXa1.c9
          obtain ⟨gb0, gb1, gb2, gb3, gb4, gb5, gb6, gb7, gb8⟩ := hXb1.c9
          have HXa1 := Lib.hid hXa1
          have HXb1 := Lib.hid hXb1
          clear hb1 hXa1 hXb1 hW
          go_wp2_with (first | (go_at_call 16; (with_reducible refine (HFW0.out _ hw1).mono ?_); rintro e w2 ⟨rfl, hb2⟩; have hw2 : Below w.heap.size w w2 := hstep.out _ _ hw1 hb2; have hXa2 := HXa1.out.step hb2; have hXb2 := HXb1.out.step hb2; obtain ⟨fa0, fa1, fa2, fa3, fa4, fa5, fa6, fa7, fa8⟩ := hXa2.c9; obtain ⟨fb0, fb1, fb2, fb3, fb4, fb5, fb6, fb7, fb8⟩ := hXb2.c9; have HXa2 := Lib.hid hXa2; have HXb2 := Lib.hid hXb2; clear hb2 hXa2 hXb2) | (go_at_call 16; (with_reducible refine (HFW1.out _ hw2).mono ?_); rintro e w3 ⟨rfl, hb3⟩; have hw3 : Below w.heap.size w w3 := hstep.out _ _ hw2 hb3; have hXa3 := HXa2.out.step hb3; have hXb3 := HXb2.out.step hb3; obtain ⟨da0, da1, da2, da3, da4, da5, da6, da7, da8⟩ := hXa3.c9; obtain ⟨db0, db1, db2, db3, db4, db5, db6, db7, db8⟩ := hXb3.c9; have HXa3 := Lib.hid hXa3; have HXb3 := Lib.hid hXb3; clear hb3 hXa3 hXb3) | (go_at_call 18; (with_reducible refine (HIS0.out _ hw3).mono ?_); rintro e w4 ⟨rfl, hb4⟩; have hw4 : Below w.heap.size w w4 := hstep.out _ _ hw3 hb4; have hXa4 := HXa3.out.step hb4; have hXb4 := HXb3.out.step hb4; obtain ⟨ea0, ea1, ea2, ea3, ea4, ea5, ea6, ea7, ea8⟩ := hXa4.c9; obtain ⟨eb0, eb1, eb2, eb3, eb4, eb5, eb6, eb7, eb8⟩ := hXb4.c9; have HXa4 := Lib.hid hXa4; have HXb4 := Lib.hid hXb4; clear hb4 hXa4 hXb4) | (go_at_call 18; (with_reducible refine (HIS1.out _ hw4).mono ?_); rintro e w5 ⟨rfl, hb5⟩; have hw5 : Below w.heap.size w w5 := hstep.out _ _ hw4 hb5; have hXa5 := HXa4.out.step hb5; have hXb5 := HXb4.out.step hb5; obtain ⟨ia0, ia1, ia2, ia3, ia4, ia5, ia6, ia7, ia8⟩ := hXa5.c9; obtain ⟨ib0, ib1, ib2, ib3, ib4, ib5, ib6, ib7, ib8⟩ := hXb5.c9; have HXa5 := Lib.hid hXa5; have HXb5 := Lib.hid hXb5; clear hb5 hXa5 hXb5) | (go_at_call 17; (with_reducible refine (HOT0.out _ hw5).mono ?_); intro e w6 hp; obtain ⟨v6, rfl, hv6, hb6⟩ := hp.yes HO0.out; obtain ⟨ux, zx, rfl⟩ := hv6.iface HNE0.out; have HVX := Lib.hid hv6; clear hv6 hp; have hw6 : Below w.heap.size w w6 := hstep.out _ _ hw5 hb6; have hXa6 := HXa5.out.step hb6; have hXb6 := HXb5.out.step hb6; obtain ⟨ja0, ja1, ja2, ja3, ja4, ja5, ja6, ja7, ja8⟩ := hXa6.c9; obtain ⟨jb0, jb1, jb2, jb3, jb4, jb5, jb6, jb7, jb8⟩ := hXb6.c9; have HXa6 := Lib.hid hXa6; have HXb6 := Lib.hid hXb6; clear hb6 hXa6 hXb6) | (go_at_call 17; (with_reducible refine (HOT1.out _ hw6).mono ?_); intro e w7 hp; obtain ⟨v7, rfl, hv7, hb7⟩ := hp.yes HO1.out; obtain ⟨uy, zy, rfl⟩ := hv7.iface HNE1.out; have HVY := Lib.hid hv7; have HB7 := Lib.hid hb7; clear hv7 hp; have hw7 : Below w.heap.size w w7 := hstep.out _ _ hw6 hb7; have hXa7 := HXa6.out.step hb7; have hXb7 := HXb6.out.step hb7; obtain ⟨la0, la1, la2, la3, la4, la5, la6, la7, la8⟩ := hXa7.c9; obtain ⟨lb0, lb1, lb2, lb3, lb4, lb5, lb6, lb7, lb8⟩ := hXb7.c9; have HXa7 := Lib.hid hXa7; have HXb7 := Lib.hid hXb7; clear hb7 hXa7 hXb7))
          have HLX := Lib.hid (show ∀ w', Below w7.heap.size w7 w' → TmAt w' (fun b => b < w'.heap.size) tm0 (.iface ux zx) from fun w' h => TmAt.more (fun b hb => Nat.lt_of_lt_of_le hb.2 (Nat.le_trans HB7.out.size h.size)) _ _ ((HVX.out.below (fun b h => h.2) HB7.out).below (fun b hb => Nat.lt_of_lt_of_le hb.2 HB7.out.size) h))
          have HLY := Lib.hid (show ∀ w', Below w7.heap.size w7 w' → TmAt w' (fun b => b < w'.heap.size) tm1 (.iface uy zy) from fun w' h => TmAt.more (fun b hb => Nat.lt_of_lt_of_le hb.2 h.size) _ _ (HVY.out.below (fun b h => h.2) h))
          obtain ⟨A, hA⟩ : ∃ A, A = degT tm0 := ⟨_, rfl⟩
          obtain ⟨B, hB⟩ : ∃ B, B = degT tm1 := ⟨_, rfl⟩
          obtain ⟨X, hX⟩ : ∃ X, X = wgtT tm0 := ⟨_, rfl⟩
          obtain ⟨Y, hY⟩ : ∃ Y, Y = wgtT tm1 := ⟨_, rfl⟩
          have hAl : A ≤ 2147483647 := by rw [hA]; exact degT_le _
          have hBl : B ≤ 2147483647 := by rw [hB]; exact degT_le _
          have hXl : X ≤ 2147483647 := by rw [hX]; exact wgtT_le _
          have hYl : Y ≤ 2147483647 := by rw [hY]; exact wgtT_le _
          have HDX := Lib.hid (show ∀ w', Below w7.heap.size w7 w' → Calls Try.prog 40 #[.iface ux zx] w' (NumPost A w') from fun w' h => by rw [hA]; exact deg_any tm0 _ _ w' (fun b h => h) (HLX.out w' h) HST0.out)
          have HDY := Lib.hid (show ∀ w', Below w7.heap.size w7 w' → Calls Try.prog 40 #[.iface uy zy] w' (NumPost B w') from fun w' h => by rw [hB]; exact deg_any tm1 _ _ w' (fun b h => h) (HLY.out w' h) HST1.out)
          have HWX := Lib.hid (show ∀ w', Below w7.heap.size w7 w' → Calls Try.prog 42 #[.iface ux zx] w' (NumPost X w') from fun w' h => by rw [hX]; exact wgt_any tm0 _ _ w' (fun b h => h) (HLX.out w' h) HST0.out)
          have HWY := Lib.hid (show ∀ w', Below w7.heap.size w7 w' → Calls Try.prog 42 #[.iface uy zy] w' (NumPost Y w') from fun w' h => by rw [hY]; exact wgt_any tm1 _ _ w' (fun b h => h) (HLY.out w' h) HST1.out)
          obtain ⟨m1, hm1⟩ : ∃ m, m = capN (A + B) := ⟨_, rfl⟩
          obtain ⟨m2, hm2⟩ : ∃ m, m = prodN q A := ⟨_, rfl⟩
          obtain ⟨m3, hm3⟩ : ∃ m, m = max A B := ⟨_, rfl⟩
          obtain ⟨m4, hm4⟩ : ∃ m, m = capN (X + Y) := ⟨_, rfl⟩
          have HM1 := Lib.hid (show ∀ w', Below w7.heap.size w7 w' → Calls Try.prog 40 #[.iface 70 (.agg #[.iface ux zx, .iface uy zy])] w' (NumPost m1 w') from fun w' h => by
            have e : m1 = degT (.mul tm0 tm1) := by rw [hm1, hA, hB]; rfl
            rw [e]; exact deg_any (.mul tm0 tm1) _ _ w' (fun b h => h) ⟨_, _, rfl, HLX.out w' h, HLY.out w' h⟩ ⟨HST0.out, HST1.out⟩)
          have HM2 := Lib.hid (show ∀ w', Below w7.heap.size w7 w' → Calls Try.prog 40 #[.iface 72 (.agg #[.iface ux zx, .int .i64 (q : Int)])] w' (NumPost m2 w') from fun w' h => by
            have e : m2 = degT (.pow tm0 (q : Int)) := by rw [hm2, hA]; show _ = prodN (q : Int).toNat _; simp
            rw [e]; exact deg_any (.pow tm0 (q : Int)) _ _ w' (fun b h => h) ⟨_, rfl, HLX.out w' h⟩ HST0.out)
          have HM3 := Lib.hid (show ∀ w', Below w7.heap.size w7 w' → Calls Try.prog 40 #[.iface 75 (.agg #[.iface ux zx, .iface 74 (.agg #[.iface uy zy])])] w' (NumPost m3 w') from fun w' h => by
            have e : m3 = degT (.sub tm0 (.neg tm1)) := by rw [hm3, hA, hB]; rfl
            rw [e]; exact deg_any (.sub tm0 (.neg tm1)) _ _ w' (fun b h => h) ⟨_, _, rfl, HLX.out w' h, ⟨_, rfl, HLY.out w' h⟩⟩ ⟨HST0.out, HST1.out⟩)
          have HM4 := Lib.hid (show ∀ w', Below w7.heap.size w7 w' → Calls Try.prog 42 #[.iface 70 (.agg #[.iface ux zx, .iface uy zy])] w' (NumPost m4 w') from fun w' h => by
            have e : m4 = wgtT (.mul tm0 tm1) := by rw [hm4, hX, hY]; rfl
            rw [e]; exact wgt_any (.mul tm0 tm1) _ _ w' (fun b h => h) ⟨_, _, rfl, HLX.out w' h, HLY.out w' h⟩ ⟨HST0.out, HST1.out⟩)
          rw [mul_deg] at hm1 hm4
          rw [pow_deg q A hq255 hAl] at hm2
          have hqA : q * A ≤ 255 * 2147483647 := Nat.mul_le_mul hq255 hAl
          obtain ⟨P, hP⟩ : ∃ P, P = q * A := ⟨_, rfl⟩
          rw [← hP] at hm2 hqA
          have hPi : (q : Int) * A = (P : Int) := by rw [hP]; simp
          have i1 := if_min2 A B m1 hm1
          have i2 := if_min P m2 hm2
          have i3 := if_max A B m3 hm3
          have i3' := if_max' A B m3 hm3
          have i4 := if_min2 X Y m4 hm4
          have hst7 := Lib.hid (show ∀ wc wn, Below w7.heap.size w7 wc → Below wc.heap.size wc wn → Below w7.heap.size w7 wn from fun wc wn h1 h2 => h1.trans (h2.mono h1.size))
          have hz7 : Below w7.heap.size w7 w7 := Below.refl _ _
          clear hA hB hX hY hm1 hm2 hm3 hm4 hP
          go_wp2_with (first
            | (go_at_call 40; (with_reducible refine (HDX.out _ hz7).mono ?_); rintro e wa ⟨rfl, hla⟩; have hza := hst7.out _ _ hz7 hla; clear hla HDX)
            | (go_at_call 40; (with_reducible refine (HDY.out _ hza).mono ?_); rintro e wb ⟨rfl, hlb⟩; have hzb := hst7.out _ _ hza hlb; clear hlb)
            | (go_at_call 40; (with_reducible refine (HM1.out _ hzb).mono ?_); rintro e wc ⟨rfl, hlc⟩; have hzc := hst7.out _ _ hzb hlc; clear hlc)
            | (go_at_call 40; (with_reducible refine (HM2.out _ hzc).mono ?_); rintro e wd ⟨rfl, hld⟩; have hzd := hst7.out _ _ hzc hld; clear hld)
            | (go_at_call 40; (with_reducible refine (HM3.out _ hzd).mono ?_); rintro e we ⟨rfl, hle⟩; have hze := hst7.out _ _ hzd hle; clear hle)
            | (go_at_call 42; (with_reducible refine (HM4.out _ hze).mono ?_); rintro e wf ⟨rfl, hlf⟩; have hzf := hst7.out _ _ hze hlf; clear hlf)
            | (go_at_call 42; (with_reducible refine (HWX.out _ hzf).mono ?_); rintro e wg ⟨rfl, hlg⟩; have hzg := hst7.out _ _ hzf hlg; clear hlg)
            | (go_at_call 42; (with_reducible refine (HWY.out _ hzg).mono ?_); rintro e wh ⟨rfl, hlh⟩; have hzh := hst7.out _ _ hzg hlh; clear hlh))
          go_ret
          exact ⟨rfl, hstep.out _ _ hw7 hzh⟩


theorem laidOut : laidOutB Try.prog = true := by kernel_rfl

theorem own : ownKnob Try.prog.godebug = none := by kernel_rfl

set_option maxRecDepth 100000 in
theorem lifted (os : Os) (started : os.Started) (H : Type) (enc : TypeId × Value → H) :
    ReturnsInHanded {} Try.checked os 10 .any (Rows.formulaProductsSpec.pre6 enc Try.prog Try.f10 Rows.formulaProductsRow.domain false) (Rows.formulaProductsSpec.post enc Try.prog Try.f10 false true false false) := by
  refine returnsInHanded_of_change (C := Try.checked) own started (by kernel_rfl) Try.func10
    (ChangeSpec.witness6 (enc := enc) (C := Try.checked) false ⟨#[], #[.agg #[.int .i64 0, .bool false, .slice none 0 0, .string ByteArray.empty, .int .i64 0, .int .i64 0, .bool false, .bool false, .slice none 0 0], .agg #[.int .i64 0, .bool false, .slice none 0 0, .string ByteArray.empty, .int .i64 0, .int .i64 0, .bool false, .bool false, .slice none 0 0], .int .u8 0], []⟩ 8 (by kernel_rfl) (by kernel_rfl) (by kernel_rfl) (by kernel_rfl)) ?_
  intro W base args ds gs before hval0 hW hcnd _
  have hval : ∀ (j : Nat) t v, Try.f10.params[j]? = some t → args[j]? = some v → Value.okWide Try.prog W .any base t v := hval0
  have hW' := hW
  obtain ⟨p, q, hA0, hV, rfl, hfz, hnd⟩ := hW
  have hA : DataW.TrodAll enc Try.prog W 0 (fun _ => true) true Try.f10.params.toList args.toList ds p := hA0
  rw [Try.params10] at hA hval
  obtain ⟨v0, vs0, d0, ds0, p0, q0, hargs, rfl, rfl, h0, r0⟩ := trodAll_cons hA
  obtain ⟨v1, vs1, d1, ds1, p1, q1, rfl, rfl, rfl, h1, r1⟩ := trodAll_cons r0
  obtain ⟨v2, vs2, d2, ds2, p2, q2, rfl, rfl, rfl, h2, r2⟩ := trodAll_cons r1
  obtain ⟨rfl, rfl, rfl⟩ := trodAll_nil r2
  obtain rfl : args = #[v0, v1, v2] := by cases args; simp_all
  obtain ⟨rfl, rfl⟩ := trodVars_none hV
  obtain ⟨cs0, rfl, hl0⟩ := okWide_struct Try.underlying29 (hval 0 29 v0 rfl rfl)
  have hl0' : cs0.toList.length = 9 := by rw [show Try.prog.cellsOf 29 = 9 by kernel_rfl] at hl0; simpa using hl0
  have h0k := h0
  obtain ⟨fuel0, hf0⟩ := h0
  obtain ⟨t0, hT0⟩ := open_tree fuel0 fuel0 (Nat.le_refl _) _ _ hl0' hf0
  obtain ⟨cs1, rfl, hl1⟩ := okWide_struct Try.underlying29 (hval 1 29 v1 rfl rfl)
  have hl1' : cs1.toList.length = 9 := by rw [show Try.prog.cellsOf 29 = 9 by kernel_rfl] at hl1; simpa using hl1
  have h1k := h1
  obtain ⟨fuel1, hf1⟩ := h1
  obtain ⟨t1, hT1⟩ := open_tree fuel1 fuel1 (Nat.le_refl _) _ _ hl1' hf1
  obtain ⟨a2, rfl, rfl, rfl, w2⟩ := open_int Try.underlying5 (hval 2 5 v2 rfl rfl) h2
  clear hA0 hval0
  simp only [List.append_nil] at hW'
  have hlt0 : ∀ x ∈ p0, x.block < W.heap.size := fun x hx => by simpa using hW'.lt x (by simp [hx])
  have hlt1 : ∀ x ∈ p1, x.block < W.heap.size := fun x hx => by simpa using hW'.lt x (by simp [hx])
  refine (walk t0 cs0.toList t1 cs1.toList a2 w2 W hT0 hT1).mono fun e W' ⟨he, bel⟩ => ?_
  subst he
  exact ⟨_, rfl, _, _, _, [], _, [], hW', trodAll_mk1 (shut_bool Try.underlying4 _), (trodAll_cons_mk (Below.trod laidOut (by kernel_rfl) (of_decide_eq_true (by kernel_rfl)) h0k bel hlt0) (trodAll_cons_mk (Below.trod laidOut (by kernel_rfl) (of_decide_eq_true (by kernel_rfl)) h1k bel hlt1) (trodAll_cons_mk (shut_int Try.underlying5 w2) trodAll_mk0))), rfl, bel.frame _, fun h => by cases h⟩

theorem over : Rows.formulaProductsRow.holds Try.pinned (OpenSpec.ofChange Rows.formulaProductsSpec) :=
  OpenClaim.holds_of_wide 10 Try.f10 rfl rfl rfl rfl rfl rfl rfl ⟨rfl, rfl, rfl, rfl, rfl⟩ rfl rfl rfl rfl rfl (by kernel_rfl) Try.func10 (by kernel_rfl)
    (of_decide_eq_true (by kernel_rfl)) (by unfold Func.isWrapper; first | (rw [if_pos (by decide +kernel)]; kernel_rfl) | (rw [if_neg (by decide +kernel)]; exact ⟨rfl, rfl⟩))
    (fun os started H enc _ => lifted os started H enc)

/-- THE STATEMENT -/
theorem proved : Rows.FormulaProductsSaid := over
end Go.Proofs.Ytjbgdaojhdobkaa.formulaProducts
