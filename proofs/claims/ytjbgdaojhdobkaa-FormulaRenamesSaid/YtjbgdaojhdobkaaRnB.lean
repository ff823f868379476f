/-
  The reference's captured.
-/
import Derived.Test.YtjbgdaojhdobkaaFmS
import Derived.Test.YtjbgdaojhdobkaaFmZ
namespace Go.Proofs.Ytjbgdaojhdobkaa
open Go.RowKit
set_option linter.unusedSimpArgs false
set_option linter.unusedVariables false
namespace Rn
open Fm
attribute [local go_sem] run_store

mutual
def capT (fr to_ : ByteArray) : Tr → Bool → Bool
  | .mk h ks, ins => if h.k = 2 then (ins && decide (h.name = fr)) else if h.k = 15 ∧ h.name = fr then false else capL fr to_ ks (ins || (decide (h.k = 15) && decide (h.name = to_)))
def capL (fr to_ : ByteArray) : List Tr → Bool → Bool
  | [], _ => false
  | k :: ks, ins => capT fr to_ k ins || capL fr to_ ks ins
end
theorem capL_nil (fr to_ : ByteArray) (ins : Bool) : capL fr to_ [] ins = false := by unfold capL; rfl
theorem capL_cons (fr to_ : ByteArray) (k : Tr) (ks : List Tr) (ins : Bool) : capL fr to_ (k :: ks) ins = (capT fr to_ k ins || capL fr to_ ks ins) := by conv => lhs; unfold capL

set_option maxRecDepth 100000 in
set_option maxHeartbeats 8000000 in
theorem captured_any (fr to_ : ByteArray) : ∀ (t : Tr) (cs : List Value) (S : Nat → Prop) (ins : Bool) (w : World), (∀ b, S b → b < w.heap.size) → TreeAt w S t cs →
    Calls Try.prog 82 #[.agg cs.toArray, .string fr, .string to_, .bool ins] w fun e w' => e = .returned (.bool (capT fr to_ t ins)) ∧ Below w.heap.size w w' := by
  refine Tr.ind fun h ks ih => ?_
  intro cs S ins w hS hT
  obtain ⟨A1, n1, c1, A2, K, c2, xs, rfl, hK, hKc, hK64, hn1', hnm, hab, hks, htr⟩ := hT.mkN
  have IH := Lib.hid ih
  have HK := Lib.hid hK
  have HKS := Lib.hid hks
  have HTR := Lib.hid htr
  clear ih hK hks htr hT hab hnm hn1'
  obtain ⟨R, hR⟩ : ∃ R, R = capT fr to_ (.mk h ks) ins := ⟨_, rfl⟩
  rw [← hR]
  have hR1 := hR
  unfold capT at hR1
  have HR := Lib.hid hR1
  clear hR hR1
  have hx0 := Box.new w (hdC h (.slice A1 n1 c1) (.slice A2 K c2)).toArray TT
  have HX0 := Lib.hid hx0
  clear hx0
  unfold hdC
  by_cases k2 : h.k = 2
  · have f2 : (h.k == 2) = true := by simpa using k2
    have HR2 := Lib.hid (show R = (ins && decide (h.name = fr)) by rw [HR.out, if_pos k2])
    clear k2 HR
    cases ins
    · obtain rfl : R = false := HR2.out
      go_enter Try.func82, Try.ntmps82
      go_wp2
      go_ret
      exact ⟨rfl, HX0.out.below⟩
    · by_cases hn : h.name = fr
      · obtain rfl : R = true := by rw [HR2.out]; simp [hn]
        have nf : (h.name.toList == fr.toList) = true := by rw [hn]; simp
        clear hn HR2
        go_enter Try.func82, Try.ntmps82
        go_wp2
        go_ret
        exact ⟨rfl, HX0.out.below⟩
      · obtain rfl : R = false := by rw [HR2.out]; simp [hn]
        have nf : (h.name.toList == fr.toList) = false := (Lib.bytes_beq_false_iff h.name fr).2 hn
        clear hn HR2
        go_enter Try.func82, Try.ntmps82
        go_wp2
        go_ret
        exact ⟨rfl, HX0.out.below⟩
  have f2 : (h.k == 2) = false := by simpa using k2
  by_cases kf : h.k = 15 ∧ h.name = fr
  · obtain rfl : R = false := by rw [HR.out, if_neg k2, if_pos kf]
    have f15 : (h.k == 15) = true := by simpa using kf.1
    have nf : (h.name.toList == fr.toList) = true := by rw [kf.2]; simp
    clear k2 kf HR
    go_enter Try.func82, Try.ntmps82
    go_wp2
    go_ret
    exact ⟨rfl, HX0.out.below⟩
  have HR2 := Lib.hid (show R = capL fr to_ ks (ins || (decide (h.k = 15) && decide (h.name = to_))) by rw [HR.out, if_neg k2, if_neg kf])
  clear HR k2
  have tail : ∀ (I : Bool) (hI : R = capL fr to_ ks I) (hf : ((h.k == 15) = false ∧ ins = true ∧ I = true) ∨ ((h.k == 15) = false ∧ ins = false ∧ I = false) ∨ ((h.k == 15) = true ∧ (h.name.toList == fr.toList) = false ∧ ins = true ∧ I = true) ∨ ((h.k == 15) = true ∧ (h.name.toList == fr.toList) = false ∧ ins = false ∧ (h.name.toList == to_.toList) = true ∧ I = true) ∨ ((h.k == 15) = true ∧ (h.name.toList == fr.toList) = false ∧ ins = false ∧ (h.name.toList == to_.toList) = false ∧ I = false)),
      Calls Try.prog 82 #[.agg #[.int .i64 h.k, .bool h.neg, .slice A1 n1 c1, .string h.name, .int .i64 h.exp, .int .i64 h.rel, .bool h.truth, .bool h.all, .slice A2 K c2], .string fr, .string to_, .bool ins] w fun e w' => e = .returned (.bool R) ∧ Below w.heap.size w w' := by
    intro I hI hf
    have HI := Lib.hid hI
    clear HR2 hI kf
    have HX : Hid (Box w (w.alloc (.cells (hdC h (.slice A1 n1 c1) (.slice A2 K c2)).toArray TT)) w.heap.size (hdC h (.slice A1 n1 c1) (.slice A2 K c2)).toArray TT) := HX0
    rcases hf with ⟨f15, rfl, rfl⟩ | ⟨f15, rfl, rfl⟩ | ⟨f15, nf, rfl, rfl⟩ | ⟨f15, nf, rfl, nt, rfl⟩ | ⟨f15, nf, rfl, nt, rfl⟩
    · go_enter Try.func82, Try.ntmps82
      go_wp2
      go_loopw [44] (fun a_ wr => ∃ (i : Nat), i ≤ K ∧ a_ = .int .i64 i ∧ Box w wr w.heap.size (hdC h (.slice A1 n1 c1) (.slice A2 K c2)).toArray TT ∧ Hid (R = capL fr to_ (ks.drop i) true)) (fun a_ _ => K - (intOf a_).toNat)
      case atStart => exact ⟨0, Nat.zero_le _, rfl, HX0.out, Lib.hid (by rw [HI.out, List.drop_zero])⟩
      case round =>
        obtain ⟨i, hi, rfl, hbox, hrel⟩ := hrel
        have b8 : wr.cell? ⟨w.heap.size, 8, none⟩ = some (.slice A2 K c2) := hbox.cell 8
        have HB := Lib.hid hbox
        have hbel := hbox.below
        clear hbox
        by_cases hlt : i < K
        · obtain ⟨kd, b, o, B1, m1, e1', B2, m2, e2', hkd, rfl, hb, hT, g0, g1, g2, g3, g4, g5, g6, g7, g8⟩ := kid_cells (HKS.out.below hS hbel) (HTR.out.below hS hbel) HK.out i hlt
          have hC := IH.out kd (mem_at hkd) _ S true wr (fun b hb => Nat.lt_of_lt_of_le (hS b hb) hbel.size) hT
          have hs := hrel.out
          rw [drop_at hkd, capL_cons] at hs
          obtain ⟨Rk, hRk⟩ : ∃ Rk, Rk = capT fr to_ kd true := ⟨_, rfl⟩
          rw [← hRk] at hC hs
          unfold hdC at hC
          have HC := Lib.hid hC
          have HS := Lib.hid hs
          clear hC hkd hb hT hRk hs hrel
          cases Rk
          · go_wp2_with (go_at_call 82; refine HC.out.mono ?_; rintro e w2 ⟨rfl, hb2⟩; have hb2' := Lib.hid (HB.out.step hb2))
            go_roundw
            case rel => exact ⟨i + 1, by omega, by go_num, hb2'.out, Lib.hid (by rw [HS.out]; rfl)⟩
            case measure => simp [intOf]; omega
          · obtain rfl : R = true := by rw [HS.out]; rfl
            go_wp2_with (go_at_call 82; refine HC.out.mono ?_; rintro e w2 ⟨rfl, hb2⟩; have hb2' := Lib.hid (HB.out.step hb2))
            go_ret
            exact ⟨rfl, hb2'.out.below⟩
        · obtain rfl : R = false := by rw [hrel.out, List.drop_eq_nil_of_le (by have := HK.out; omega), capL_nil]
          go_wp2
          go_ret
          exact ⟨rfl, hbel⟩
    · go_enter Try.func82, Try.ntmps82
      go_wp2
      go_loopw [44] (fun a_ wr => ∃ (i : Nat), i ≤ K ∧ a_ = .int .i64 i ∧ Box w wr w.heap.size (hdC h (.slice A1 n1 c1) (.slice A2 K c2)).toArray TT ∧ Hid (R = capL fr to_ (ks.drop i) false)) (fun a_ _ => K - (intOf a_).toNat)
      case atStart => exact ⟨0, Nat.zero_le _, rfl, HX0.out, Lib.hid (by rw [HI.out, List.drop_zero])⟩
      case round =>
        obtain ⟨i, hi, rfl, hbox, hrel⟩ := hrel
        have b8 : wr.cell? ⟨w.heap.size, 8, none⟩ = some (.slice A2 K c2) := hbox.cell 8
        have HB := Lib.hid hbox
        have hbel := hbox.below
        clear hbox
        by_cases hlt : i < K
        · obtain ⟨kd, b, o, B1, m1, e1', B2, m2, e2', hkd, rfl, hb, hT, g0, g1, g2, g3, g4, g5, g6, g7, g8⟩ := kid_cells (HKS.out.below hS hbel) (HTR.out.below hS hbel) HK.out i hlt
          have hC := IH.out kd (mem_at hkd) _ S false wr (fun b hb => Nat.lt_of_lt_of_le (hS b hb) hbel.size) hT
          have hs := hrel.out
          rw [drop_at hkd, capL_cons] at hs
          obtain ⟨Rk, hRk⟩ : ∃ Rk, Rk = capT fr to_ kd false := ⟨_, rfl⟩
          rw [← hRk] at hC hs
          unfold hdC at hC
          have HC := Lib.hid hC
          have HS := Lib.hid hs
          clear hC hkd hb hT hRk hs hrel
          cases Rk
          · go_wp2_with (go_at_call 82; refine HC.out.mono ?_; rintro e w2 ⟨rfl, hb2⟩; have hb2' := Lib.hid (HB.out.step hb2))
            go_roundw
            case rel => exact ⟨i + 1, by omega, by go_num, hb2'.out, Lib.hid (by rw [HS.out]; rfl)⟩
            case measure => simp [intOf]; omega
          · obtain rfl : R = true := by rw [HS.out]; rfl
            go_wp2_with (go_at_call 82; refine HC.out.mono ?_; rintro e w2 ⟨rfl, hb2⟩; have hb2' := Lib.hid (HB.out.step hb2))
            go_ret
            exact ⟨rfl, hb2'.out.below⟩
        · obtain rfl : R = false := by rw [hrel.out, List.drop_eq_nil_of_le (by have := HK.out; omega), capL_nil]
          go_wp2
          go_ret
          exact ⟨rfl, hbel⟩
    · go_enter Try.func82, Try.ntmps82
      go_wp2
      go_loopw [44] (fun a_ wr => ∃ (i : Nat), i ≤ K ∧ a_ = .int .i64 i ∧ Box w wr w.heap.size (hdC h (.slice A1 n1 c1) (.slice A2 K c2)).toArray TT ∧ Hid (R = capL fr to_ (ks.drop i) true)) (fun a_ _ => K - (intOf a_).toNat)
      case atStart => exact ⟨0, Nat.zero_le _, rfl, HX0.out, Lib.hid (by rw [HI.out, List.drop_zero])⟩
      case round =>
        obtain ⟨i, hi, rfl, hbox, hrel⟩ := hrel
        have b8 : wr.cell? ⟨w.heap.size, 8, none⟩ = some (.slice A2 K c2) := hbox.cell 8
        have HB := Lib.hid hbox
        have hbel := hbox.below
        clear hbox
        by_cases hlt : i < K
        · obtain ⟨kd, b, o, B1, m1, e1', B2, m2, e2', hkd, rfl, hb, hT, g0, g1, g2, g3, g4, g5, g6, g7, g8⟩ := kid_cells (HKS.out.below hS hbel) (HTR.out.below hS hbel) HK.out i hlt
          have hC := IH.out kd (mem_at hkd) _ S true wr (fun b hb => Nat.lt_of_lt_of_le (hS b hb) hbel.size) hT
          have hs := hrel.out
          rw [drop_at hkd, capL_cons] at hs
          obtain ⟨Rk, hRk⟩ : ∃ Rk, Rk = capT fr to_ kd true := ⟨_, rfl⟩
          rw [← hRk] at hC hs
          unfold hdC at hC
          have HC := Lib.hid hC
          have HS := Lib.hid hs
          clear hC hkd hb hT hRk hs hrel
          cases Rk
          · go_wp2_with (go_at_call 82; refine HC.out.mono ?_; rintro e w2 ⟨rfl, hb2⟩; have hb2' := Lib.hid (HB.out.step hb2))
            go_roundw
            case rel => exact ⟨i + 1, by omega, by go_num, hb2'.out, Lib.hid (by rw [HS.out]; rfl)⟩
            case measure => simp [intOf]; omega
          · obtain rfl : R = true := by rw [HS.out]; rfl
            go_wp2_with (go_at_call 82; refine HC.out.mono ?_; rintro e w2 ⟨rfl, hb2⟩; have hb2' := Lib.hid (HB.out.step hb2))
            go_ret
            exact ⟨rfl, hb2'.out.below⟩
        · obtain rfl : R = false := by rw [hrel.out, List.drop_eq_nil_of_le (by have := HK.out; omega), capL_nil]
          go_wp2
          go_ret
          exact ⟨rfl, hbel⟩
    · go_enter Try.func82, Try.ntmps82
      go_wp2
      go_loopw [44] (fun a_ wr => ∃ (i : Nat), i ≤ K ∧ a_ = .int .i64 i ∧ Box w wr w.heap.size (hdC h (.slice A1 n1 c1) (.slice A2 K c2)).toArray TT ∧ Hid (R = capL fr to_ (ks.drop i) true)) (fun a_ _ => K - (intOf a_).toNat)
      case atStart => exact ⟨0, Nat.zero_le _, rfl, HX0.out, Lib.hid (by rw [HI.out, List.drop_zero])⟩
      case round =>
        obtain ⟨i, hi, rfl, hbox, hrel⟩ := hrel
        have b8 : wr.cell? ⟨w.heap.size, 8, none⟩ = some (.slice A2 K c2) := hbox.cell 8
        have HB := Lib.hid hbox
        have hbel := hbox.below
        clear hbox
        by_cases hlt : i < K
        · obtain ⟨kd, b, o, B1, m1, e1', B2, m2, e2', hkd, rfl, hb, hT, g0, g1, g2, g3, g4, g5, g6, g7, g8⟩ := kid_cells (HKS.out.below hS hbel) (HTR.out.below hS hbel) HK.out i hlt
          have hC := IH.out kd (mem_at hkd) _ S true wr (fun b hb => Nat.lt_of_lt_of_le (hS b hb) hbel.size) hT
          have hs := hrel.out
          rw [drop_at hkd, capL_cons] at hs
          obtain ⟨Rk, hRk⟩ : ∃ Rk, Rk = capT fr to_ kd true := ⟨_, rfl⟩
          rw [← hRk] at hC hs
          unfold hdC at hC
          have HC := Lib.hid hC
          have HS := Lib.hid hs
          clear hC hkd hb hT hRk hs hrel
          cases Rk
          · go_wp2_with (go_at_call 82; refine HC.out.mono ?_; rintro e w2 ⟨rfl, hb2⟩; have hb2' := Lib.hid (HB.out.step hb2))
            go_roundw
            case rel => exact ⟨i + 1, by omega, by go_num, hb2'.out, Lib.hid (by rw [HS.out]; rfl)⟩
            case measure => simp [intOf]; omega
          · obtain rfl : R = true := by rw [HS.out]; rfl
            go_wp2_with (go_at_call 82; refine HC.out.mono ?_; rintro e w2 ⟨rfl, hb2⟩; have hb2' := Lib.hid (HB.out.step hb2))
            go_ret
            exact ⟨rfl, hb2'.out.below⟩
        · obtain rfl : R = false := by rw [hrel.out, List.drop_eq_nil_of_le (by have := HK.out; omega), capL_nil]
          go_wp2
          go_ret
          exact ⟨rfl, hbel⟩
    · go_enter Try.func82, Try.ntmps82
      go_wp2
      go_loopw [44] (fun a_ wr => ∃ (i : Nat), i ≤ K ∧ a_ = .int .i64 i ∧ Box w wr w.heap.size (hdC h (.slice A1 n1 c1) (.slice A2 K c2)).toArray TT ∧ Hid (R = capL fr to_ (ks.drop i) false)) (fun a_ _ => K - (intOf a_).toNat)
      case atStart => exact ⟨0, Nat.zero_le _, rfl, HX0.out, Lib.hid (by rw [HI.out, List.drop_zero])⟩
      case round =>
        obtain ⟨i, hi, rfl, hbox, hrel⟩ := hrel
        have b8 : wr.cell? ⟨w.heap.size, 8, none⟩ = some (.slice A2 K c2) := hbox.cell 8
        have HB := Lib.hid hbox
        have hbel := hbox.below
        clear hbox
        by_cases hlt : i < K
        · obtain ⟨kd, b, o, B1, m1, e1', B2, m2, e2', hkd, rfl, hb, hT, g0, g1, g2, g3, g4, g5, g6, g7, g8⟩ := kid_cells (HKS.out.below hS hbel) (HTR.out.below hS hbel) HK.out i hlt
          have hC := IH.out kd (mem_at hkd) _ S false wr (fun b hb => Nat.lt_of_lt_of_le (hS b hb) hbel.size) hT
          have hs := hrel.out
          rw [drop_at hkd, capL_cons] at hs
          obtain ⟨Rk, hRk⟩ : ∃ Rk, Rk = capT fr to_ kd false := ⟨_, rfl⟩
          rw [← hRk] at hC hs
          unfold hdC at hC
          have HC := Lib.hid hC
          have HS := Lib.hid hs
          clear hC hkd hb hT hRk hs hrel
          cases Rk
          · go_wp2_with (go_at_call 82; refine HC.out.mono ?_; rintro e w2 ⟨rfl, hb2⟩; have hb2' := Lib.hid (HB.out.step hb2))
            go_roundw
            case rel => exact ⟨i + 1, by omega, by go_num, hb2'.out, Lib.hid (by rw [HS.out]; rfl)⟩
            case measure => simp [intOf]; omega
          · obtain rfl : R = true := by rw [HS.out]; rfl
            go_wp2_with (go_at_call 82; refine HC.out.mono ?_; rintro e w2 ⟨rfl, hb2⟩; have hb2' := Lib.hid (HB.out.step hb2))
            go_ret
            exact ⟨rfl, hb2'.out.below⟩
        · obtain rfl : R = false := by rw [hrel.out, List.drop_eq_nil_of_le (by have := HK.out; omega), capL_nil]
          go_wp2
          go_ret
          exact ⟨rfl, hbel⟩
  have hh := HR2.out
  by_cases k15 : h.k = 15
  · have f15 : (h.k == 15) = true := by simpa using k15
    have nf : (h.name.toList == fr.toList) = false := (Lib.bytes_beq_false_iff h.name fr).2 (fun e => kf ⟨k15, e⟩)
    cases ins
    · by_cases ht : h.name = to_
      · exact tail true (by simpa [k15, ht] using hh) (.inr (.inr (.inr (.inl ⟨f15, nf, rfl, by rw [ht]; simp, rfl⟩))))
      · exact tail false (by simpa [k15, ht] using hh) (.inr (.inr (.inr (.inr ⟨f15, nf, rfl, (Lib.bytes_beq_false_iff h.name to_).2 ht, rfl⟩))))
    · exact tail true (by simpa using hh) (.inr (.inr (.inl ⟨f15, nf, rfl, rfl⟩)))
  · have f15 : (h.k == 15) = false := by simpa using k15
    cases ins
    · exact tail false (by simpa [k15] using hh) (.inr (.inl ⟨f15, rfl, rfl⟩))
    · exact tail true (by simpa using hh) (.inl ⟨f15, rfl, rfl⟩)
end Rn
end Go.Proofs.Ytjbgdaojhdobkaa
