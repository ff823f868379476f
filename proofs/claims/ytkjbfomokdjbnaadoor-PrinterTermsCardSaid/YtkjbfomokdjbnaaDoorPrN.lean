/-
  printer.named: are all names of a tree valid?
-/
import Derived.Test.YtkjbfomokdjbnaaDoorPrF
import Derived.Test.YtkjbfomokdjbnaaDoorVa
namespace Go.Proofs.YtkjbfomokdjbnaaDoor
open Go.RowKit
set_option linter.unusedSimpArgs false
set_option linter.unusedVariables false
namespace Pr
open Fm Dc Va
attribute [local go_sem] run_store

mutual
def nmdT : Tr → Bool
  | .mk h ks => if (h.k = 2 ∨ h.k = 15) ∧ validB h.name.data.toList = false then false else nmdL ks
def nmdL : List Tr → Bool
  | [] => true
  | k :: ks => nmdT k && nmdL ks
end
theorem nmdL_nil : nmdL [] = true := by unfold nmdL; rfl
theorem nmdL_cons (k : Tr) (ks : List Tr) : nmdL (k :: ks) = (nmdT k && nmdL ks) := by conv => lhs; unfold nmdL

set_option maxRecDepth 100000 in
set_option maxHeartbeats 8000000 in
theorem named_any : ∀ (t : Tr) (cs : List Value) (S : Nat → Prop) (w : World), (∀ b, S b → b < w.heap.size) → TreeAt w S t cs →
    Calls Tryd.prog 26 #[.agg cs.toArray] w fun e w' => e = .returned (.bool (nmdT t)) ∧ Below w.heap.size w w' := by
  refine Tr.ind fun h ks ih => ?_
  intro cs S w hS hT
  obtain ⟨A1, n1, c1, A2, K, c2, xs, rfl, hK, hKc, hK64, hn1', hnm, hab, hks, htr⟩ := hT.mkN
  have IH := Lib.hid ih
  have HK := Lib.hid hK
  have HKS := Lib.hid hks
  have HTR := Lib.hid htr
  clear ih hK hks htr hT hab hn1'
  obtain ⟨R, hR⟩ : ∃ R, R = nmdT (.mk h ks) := ⟨_, rfl⟩
  rw [← hR]
  obtain ⟨V, hV⟩ : ∃ V, V = validB h.name.data.toList := ⟨_, rfl⟩
  have hR1 := hR
  unfold nmdT at hR1
  rw [← hV] at hR1
  have hval : ∀ w', Calls Tryd.prog 47 #[.string h.name] w' fun e w2 => e = .returned (.bool V) ∧ w' = w2 := fun w' => by rw [hV]; exact valid_any h.name w' hnm
  have HR := Lib.hid hR1
  have HVL := Lib.hid hval
  clear hR hR1 hV hval
  have hx0 := Box.new w (hdC h (.slice A1 n1 c1) (.slice A2 K c2)).toArray TT
  have HX0 := Lib.hid hx0
  clear hx0
  unfold hdC
  have hcase : ((h.k == 2) = true ∧ (h.k = 2 ∨ h.k = 15)) ∨ ((h.k == 2) = false ∧ (h.k == 15) = true ∧ (h.k = 2 ∨ h.k = 15)) ∨ ((h.k == 2) = false ∧ (h.k == 15) = false ∧ ¬ (h.k = 2 ∨ h.k = 15)) := by
    by_cases e1 : h.k = 2
    · simp [e1]
    · by_cases e2 : h.k = 15
      · simp [e2]
      · simp [e1, e2]
  have tail : ∀ (hI : R = nmdL ks) (hf : ((h.k == 2) = true ∧ V = true) ∨ ((h.k == 2) = false ∧ (h.k == 15) = true ∧ V = true) ∨ ((h.k == 2) = false ∧ (h.k == 15) = false ∧ True)),
      Calls Tryd.prog 26 #[.agg #[.int .i64 h.k, .bool h.neg, .slice A1 n1 c1, .string h.name, .int .i64 h.exp, .int .i64 h.rel, .bool h.truth, .bool h.all, .slice A2 K c2]] w fun e w' => e = .returned (.bool R) ∧ Below w.heap.size w w' := by
    intro hI hf
    have HI := Lib.hid hI
    clear HR hI hcase
    rcases hf with ⟨f2, rfl⟩ | ⟨f2, f15, rfl⟩ | ⟨f2, f15, -⟩
    all_goals
      go_enter Tryd.func26, Tryd.ntmps26
      go_wp2_with (go_at_call 47; refine (HVL.out _).mono ?_; rintro e w' ⟨rfl, rfl⟩)
      go_loopw [22] (fun a_ wr => ∃ (i : Nat), i ≤ K ∧ a_ = .int .i64 i ∧ Box w wr w.heap.size (hdC h (.slice A1 n1 c1) (.slice A2 K c2)).toArray TT ∧ Hid (R = nmdL (ks.drop i))) (fun a_ _ => K - (intOf a_).toNat)
      case atStart => exact ⟨0, Nat.zero_le _, rfl, HX0.out, Lib.hid (by rw [HI.out, List.drop_zero])⟩
      case round =>
        obtain ⟨i, hi, rfl, hbox, hrel⟩ := hrel
        have b8 : wr.cell? ⟨w.heap.size, 8, none⟩ = some (.slice A2 K c2) := hbox.cell 8
        have HB := Lib.hid hbox
        have hbel := hbox.below
        clear hbox
        by_cases hlt : i < K
        · obtain ⟨kd, b, o, B1, m1, e1', B2, m2, e2', hkd, rfl, hb, hT, g0, g1, g2, g3, g4, g5, g6, g7, g8⟩ := kid_cells (HKS.out.below hS hbel) (HTR.out.below hS hbel) HK.out i hlt
          have hC : ∀ w', Below wr.heap.size wr w' → _ := fun w' hb' => IH.out kd (mem_at hkd) _ S w' (fun b hb => Nat.lt_of_lt_of_le (hS b hb) (hbel.trans (hb'.mono hbel.size)).size) (hT.below (fun b hb => Nat.lt_of_lt_of_le (hS b hb) hbel.size) hb')
          have hs := hrel.out
          rw [drop_at hkd, nmdL_cons] at hs
          obtain ⟨Rk, hRk⟩ : ∃ Rk, Rk = nmdT kd := ⟨_, rfl⟩
          rw [← hRk] at hC hs
          unfold hdC at hC
          have HC := Lib.hid hC
          have HS := Lib.hid hs
          have HD2 : Below wr.heap.size wr (wr.alloc (.cells #[.int .i64 kd.h.k, .bool kd.h.neg, .slice B1 m1 e1', .string kd.h.name, .int .i64 kd.h.exp, .int .i64 kd.h.rel, .bool kd.h.truth, .bool kd.h.all, .slice B2 m2 e2'] TT)) := ((Below.refl _ wr).alloc (Nat.le_refl _) _)
          clear hC hkd hb hT hRk hs hrel
          cases Rk
          · obtain rfl : R = false := by rw [HS.out]; rfl
            go_wp2_with (go_at_call 26; refine (HC.out _ HD2).mono ?_; rintro e w2 ⟨rfl, hb2⟩; have hb2' := Lib.hid (HB.out.step (HD2.trans (hb2.mono HD2.size))))
            go_ret
            exact ⟨rfl, hb2'.out.below⟩
          · go_wp2_with (go_at_call 26; refine (HC.out _ HD2).mono ?_; rintro e w2 ⟨rfl, hb2⟩; have hb2' := Lib.hid (HB.out.step (HD2.trans (hb2.mono HD2.size))))
            go_roundw
            case rel => exact ⟨i + 1, by omega, by go_num, hb2'.out, Lib.hid (by rw [HS.out]; rfl)⟩
            case measure => simp [intOf]; omega
        · obtain rfl : R = true := by rw [hrel.out, List.drop_eq_nil_of_le (by have := HK.out; omega), nmdL_nil]
          go_wp2
          go_ret
          exact ⟨rfl, hbel⟩
  rcases hcase with ⟨f2, hk⟩ | ⟨f2, f15, hk⟩ | ⟨f2, f15, hk⟩
  · cases V
    · obtain rfl : R = false := by rw [HR.out, if_pos ⟨hk, rfl⟩]
      clear hk HR tail
      go_enter Tryd.func26, Tryd.ntmps26
      go_wp2_with (go_at_call 47; refine (HVL.out _).mono ?_; rintro e w' ⟨rfl, rfl⟩)
      go_ret
      exact ⟨rfl, HX0.out.below⟩
    · exact tail (by rw [HR.out, if_neg (by simp)]) (.inl ⟨f2, rfl⟩)
  · cases V
    · obtain rfl : R = false := by rw [HR.out, if_pos ⟨hk, rfl⟩]
      clear hk HR tail
      go_enter Tryd.func26, Tryd.ntmps26
      go_wp2_with (go_at_call 47; refine (HVL.out _).mono ?_; rintro e w' ⟨rfl, rfl⟩)
      go_ret
      exact ⟨rfl, HX0.out.below⟩
    · exact tail (by rw [HR.out, if_neg (by simp)]) (.inr (.inl ⟨f2, f15, rfl⟩))
  · exact tail (by rw [HR.out, if_neg (fun e => hk e.1)]) (.inr (.inr ⟨f2, f15, trivial⟩))
end Pr
end Go.Proofs.YtkjbfomokdjbnaaDoor
