/-
  cylinderlaw36.leaves.
-/
import Derived.Test.YtkjbfomokdjbnaaFmR
namespace Go.Proofs.Ytkjbfomokdjbnaa
open Go.RowKit
set_option linter.unusedSimpArgs false
set_option linter.unusedVariables false
namespace Pa
open Fm
mutual
def lvT : Tr → Nat
  | .mk h ks => if h.k = 8 then 1 else lvTL ks
def lvTL : List Tr → Nat
  | [] => 0
  | k :: ks => lvT k + lvTL ks
end
theorem lvTL_cons (k : Tr) (ks : List Tr) : lvTL (k :: ks) = lvT k + lvTL ks := by rw [lvTL]
set_option maxRecDepth 100000 in
set_option maxHeartbeats 4000000 in
theorem leaves_any : ∀ (t : Tr) (cs : List Value) (S : Nat → Prop) (w : World), (∀ b, S b → b < w.heap.size) → TreeAt w S t cs → lvT t ≤ 1000000 →
    Calls Try.prog 14 #[.agg cs.toArray] w fun e w' => e = .returned (.int .i64 (lvT t : Nat)) ∧ Below w.heap.size w w' := by
  refine Tr.ind fun h ks ih => ?_
  intro cs S w hS hT hle
  obtain ⟨A1, n1, c1, A2, K, c2, xs, rfl, hK, hKc, hK64, hn1', hnm, hab, hks, htr⟩ := hT.mkN
  have IH := Lib.hid ih
  have HK := Lib.hid hK
  have HKS := Lib.hid hks
  have HTR := Lib.hid htr
  clear ih hK hks htr hT hab hnm hn1'
  obtain ⟨R, hR⟩ : ∃ R, R = lvT (.mk h ks) := ⟨_, rfl⟩
  rw [← hR] at hle ⊢
  have HR := Lib.hid hR
  clear hR
  have hx0 := Box.new w (hdC h (.slice A1 n1 c1) (.slice A2 K c2)).toArray TT
  have HX0 := Lib.hid hx0
  clear hx0
  by_cases hk : h.k = 8
  · have HF := Lib.hid (show R = 1 by rw [HR.out, lvT, if_pos hk])
    have hk' : (h.k == 8) = true := by rw [hk]; rfl
    unfold hdC
    go_enter Try.func14, Try.ntmps14
    go_wp2
    go_ret
    exact ⟨by rw [HF.out]; rfl, (Below.refl _ _).alloc (Nat.le_refl _) _⟩
  · have HF := Lib.hid (show R = lvTL ks by rw [HR.out, lvT, if_neg hk])
    have hk' : (h.k == 8) = false := by simpa using hk
    unfold hdC
    go_enter Try.func14, Try.ntmps14
    go_wp2
    go_loopw [3, 11] (fun n_ a_ wr => ∃ (i m : Nat), i ≤ K ∧ a_ = .int .i64 i ∧ n_ = .int .i64 m ∧ m ≤ R ∧ Box w wr w.heap.size (hdC h (.slice A1 n1 c1) (.slice A2 K c2)).toArray TT ∧ Hid (m + lvTL (ks.drop i) = R)) (fun _ a_ _ => K - (intOf a_).toNat)
    case atStart => exact ⟨0, 0, Nat.zero_le _, rfl, rfl, Nat.zero_le _, HX0.out, Lib.hid (by rw [HF.out, List.drop_zero, Nat.zero_add])⟩
    case round =>
      obtain ⟨i, m, hi, rfl, rfl, hm, hbox, hrel⟩ := hrel
      have b8 : wr.cell? ⟨w.heap.size, 8, none⟩ = some (.slice A2 K c2) := hbox.cell 8
      have HB := Lib.hid hbox
      have hbel := hbox.below
      clear hbox
      by_cases hlt : i < K
      · obtain ⟨kd, b, o, B1, m1, e1, B2, m2, e2, hkd, rfl, hb, hT, g0, g1, g2, g3, g4, g5, g6, g7, g8⟩ := kid_cells (HKS.out.below hS hbel) (HTR.out.below hS hbel) HK.out i hlt
        have HS := Lib.hid (show m + lvT kd + lvTL (ks.drop (i + 1)) = R by rw [← hrel.out, drop_at hkd, lvTL_cons]; omega)
        have hle2 : lvT kd ≤ R ∧ m + lvT kd ≤ R := by have := HS.out; omega
        have hC := IH.out kd (mem_at hkd) _ S wr (fun b hb => Nat.lt_of_lt_of_le (hS b hb) hbel.size) hT (by omega)
        have HC := Lib.hid hC
        obtain ⟨Rk, hRk⟩ : ∃ Rk, Rk = lvT kd := ⟨_, rfl⟩
        rw [← hRk] at HS HC hle2
        clear hC hkd hb hT hRk
        go_wp2_with (go_at_call 14; refine HC.out.mono ?_; rintro e w2 ⟨rfl, hb2⟩; have hb2' := Lib.hid (HB.out.step hb2))
        go_roundw
        case rel => exact ⟨i + 1, m + Rk, by omega, by go_num, by go_num, hle2.2, hb2'.out, HS⟩
        case measure => simp [intOf]; omega
      · have HE := Lib.hid (show R = m by have h5 := hrel.out; rw [List.drop_eq_nil_of_le (by have := HK.out; omega), lvTL] at h5; omega)
        go_wp2
        go_ret
        exact ⟨by rw [HE.out]; rfl, hbel⟩
end Pa
end Go.Proofs.Ytkjbfomokdjbnaa
