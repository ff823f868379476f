/-
  The reference's Is: whether a tree is that of a term, or of a formula.
-/
import Derived.Test.YtkjbfomokdjbnaaDoorFmL
import Derived.Lib.QuietBelow
import Derived.Lib.SlicesS
namespace Go.Proofs.YtkjbfomokdjbnaaDoor
open Go.RowKit
set_option linter.unusedSimpArgs false
set_option linter.unusedVariables false
namespace Fm

def termK (k : Int) : Bool := decide (1 ≤ k) && decide (k ≤ 7)
def badH (h : Hd) : Prop := (h.k = 7 ∧ h.exp < 0) ∨ (h.k = 9 ∧ (h.rel < 1 ∨ 6 < h.rel))
instance (h : Hd) : Decidable (badH h) := by unfold badH; infer_instance
mutual
def isF : Tr → Bool → Bool
  | .mk h ks, term => if (kidsN h.k).1 = (ks.length : Int) ∧ termK h.k = term ∧ ¬ badH h then isL ks (kidsN h.k).2 else false
def isL : List Tr → Bool → Bool
  | [], _ => true
  | k :: ks, ts => isF k ts && isL ks ts
end
theorem isF_no (h : Hd) (ks : List Tr) (term : Bool) (hn : ¬ ((kidsN h.k).1 = (ks.length : Int) ∧ termK h.k = term ∧ ¬ badH h)) : isF (.mk h ks) term = false := by unfold isF; rw [if_neg hn]
theorem isF_yes (h : Hd) (ks : List Tr) (term : Bool) (hn : (kidsN h.k).1 = (ks.length : Int) ∧ termK h.k = term ∧ ¬ badH h) : isF (.mk h ks) term = isL ks (kidsN h.k).2 := by
  conv => lhs; unfold isF
  rw [if_pos hn]
theorem isL_cons (k : Tr) (ks : List Tr) (ts : Bool) : isL (k :: ks) ts = (isF k ts && isL ks ts) := by conv => lhs; unfold isL
theorem isL_nil (ts : Bool) : isL [] ts = true := by unfold isL; rfl

set_option maxRecDepth 100000 in
set_option maxHeartbeats 8000000 in
theorem is_any : ∀ (t : Tr) (cs : List Value) (S : Nat → Prop) (term : Bool) (w : World), (∀ b, S b → b < w.heap.size) → TreeAt w S t cs →
    Calls Tryd.prog 22 #[.agg cs.toArray, .bool term] w fun e w' => e = .returned (.bool (isF t term)) ∧ Below w.heap.size w w' := by
  refine Tr.ind fun h ks ih => ?_
  intro cs S term w hS hT
  obtain ⟨A1, n1, c1, A2, K, c2, xs, rfl, hK, hKc, hK64, hn1', hnm, hab, hks, htr⟩ := hT.mkN
  have IH := Lib.hid ih
  have HK := Lib.hid hK
  have HKS := Lib.hid hks
  have HTR := Lib.hid htr
  clear ih hK hks htr hT hab hnm hn1'
  obtain ⟨R, hR⟩ : ∃ R, R = isF (.mk h ks) term := ⟨_, rfl⟩
  rw [← hR]
  have HR := Lib.hid hR
  clear hR
  have hx0 := Box.new w (hdC h (.slice A1 n1 c1) (.slice A2 K c2)).toArray TT
  have HX0 := Lib.hid hx0
  clear hx0
  obtain ⟨N, ts, hkn⟩ : ∃ N ts, kidsN h.k = (N, ts) := ⟨_, _, rfl⟩
  have hKC := kids_any h.k
  rw [hkn] at hKC
  have HKC := Lib.hid hKC
  have HKN := Lib.hid hkn
  obtain ⟨tk, htk⟩ : ∃ tk, tk = termK h.k := ⟨_, rfl⟩
  have HIT := Lib.hid (fun w => isTerm_any h.k w tk htk)
  have HTK := Lib.hid htk
  clear hKC hkn htk
  unfold hdC
  by_cases q1 : N = (K : Int)
  · have e1 : (N != (K : Int)) = false := by simpa using q1
    by_cases q2 : tk = term
    · subst q2
      have e2 : (tk != tk) = false := by simp
      have bad : badH h → R = false := fun hb => by rw [HR.out]; exact isF_no h ks tk (fun hh => hh.2.2 hb)
      have Bad := Lib.hid bad
      clear bad
      have Good := Lib.hid (show ¬ badH h → R = isL ks ts from fun hb => by
        rw [HR.out, isF_yes h ks tk ⟨by rw [HKN.out, ← HK.out]; exact q1, HTK.out.symm, hb⟩, HKN.out])
      rcases (show (h.k = 7 ∧ h.exp < 0) ∨ (h.k = 9 ∧ h.rel < 1) ∨ (h.k = 9 ∧ 1 ≤ h.rel ∧ 6 < h.rel) ∨ ((h.k = 7 ∧ 0 ≤ h.exp) ∨ (h.k = 9 ∧ 1 ≤ h.rel ∧ h.rel ≤ 6) ∨ (h.k ≠ 7 ∧ h.k ≠ 9)) by omega) with ⟨k1, k2⟩ | ⟨k1, k2⟩ | ⟨k1, k2, k3⟩ | hg
      · have HF := Lib.hid (Bad.out (.inl ⟨k1, k2⟩))
        have f7 : (h.k == 7) = true := by simpa using k1
        clear k1
        go_enter Tryd.func22, Tryd.ntmps22
        go_wp2_with (first
          | (go_at_call 45; refine (HKC.out _).mono ?_; rintro e w' ⟨rfl, rfl⟩)
          | (go_at_call 46; refine (HIT.out _).mono ?_; rintro e w' ⟨rfl, rfl⟩))
        go_ret
        exact ⟨by rw [HF.out]; rfl, HX0.out.below⟩
      · have HF := Lib.hid (Bad.out (.inr ⟨k1, .inl k2⟩))
        have f7 : (h.k == 7) = false := by simp; omega
        have f9 : (h.k == 9) = true := by simpa using k1
        clear k1
        go_enter Tryd.func22, Tryd.ntmps22
        go_wp2_with (first
          | (go_at_call 45; refine (HKC.out _).mono ?_; rintro e w' ⟨rfl, rfl⟩)
          | (go_at_call 46; refine (HIT.out _).mono ?_; rintro e w' ⟨rfl, rfl⟩))
        go_ret
        exact ⟨by rw [HF.out]; rfl, HX0.out.below⟩
      · have HF := Lib.hid (Bad.out (.inr ⟨k1, .inr k3⟩))
        have f7 : (h.k == 7) = false := by simp; omega
        have f9 : (h.k == 9) = true := by simpa using k1
        clear k1
        go_enter Tryd.func22, Tryd.ntmps22
        go_wp2_with (first
          | (go_at_call 45; refine (HKC.out _).mono ?_; rintro e w' ⟨rfl, rfl⟩)
          | (go_at_call 46; refine (HIT.out _).mono ?_; rintro e w' ⟨rfl, rfl⟩))
        go_ret
        exact ⟨by rw [HF.out]; rfl, HX0.out.below⟩
      · have HG := Lib.hid (Good.out (by unfold badH; omega))
        have HX : Hid (Box w (w.alloc (.cells (hdC h (.slice A1 n1 c1) (.slice A2 K c2)).toArray TT)) w.heap.size (hdC h (.slice A1 n1 c1) (.slice A2 K c2)).toArray TT) := HX0
        have tail : ∀ (hf : ((h.k == 7) = true ∧ 0 ≤ h.exp ∧ (h.k == 9) = false) ∨ ((h.k == 7) = false ∧ (h.k == 9) = true ∧ 1 ≤ h.rel ∧ h.rel ≤ 6) ∨ ((h.k == 7) = false ∧ (h.k == 9) = false)),
            Calls Tryd.prog 22 #[.agg #[.int .i64 h.k, .bool h.neg, .slice A1 n1 c1, .string h.name, .int .i64 h.exp, .int .i64 h.rel, .bool h.truth, .bool h.all, .slice A2 K c2], .bool tk] w fun e w' => e = .returned (.bool R) ∧ Below w.heap.size w w' := by
          intro hf
          rcases hf with ⟨f7, k2, f9⟩ | ⟨f7, f9, k2, k3⟩ | ⟨f7, f9⟩
          all_goals
            go_enter Tryd.func22, Tryd.ntmps22
            go_wp2_with (first
              | (go_at_call 45; refine (HKC.out _).mono ?_; rintro e w' ⟨rfl, rfl⟩)
              | (go_at_call 46; refine (HIT.out _).mono ?_; rintro e w' ⟨rfl, rfl⟩))
            go_loopw [52] (fun a_ wr => ∃ (i : Nat), i ≤ K ∧ a_ = .int .i64 i ∧ Box w wr w.heap.size (hdC h (.slice A1 n1 c1) (.slice A2 K c2)).toArray TT ∧ Hid (isL (ks.drop i) ts = R)) (fun a_ _ => K - (intOf a_).toNat)
            case atStart => exact ⟨0, Nat.zero_le _, rfl, HX0.out, Lib.hid (by rw [HG.out, List.drop_zero])⟩
            case round =>
              obtain ⟨i, hi, rfl, hbox, hrel⟩ := hrel
              have b8 : wr.cell? ⟨w.heap.size, 8, none⟩ = some (.slice A2 K c2) := hbox.cell 8
              have HB := Lib.hid hbox
              have hbel := hbox.below
              clear hbox
              by_cases hlt : i < K
              · obtain ⟨kd, b, o, B1, m1, e1', B2, m2, e2', hkd, rfl, hb, hT, g0, g1, g2, g3, g4, g5, g6, g7, g8⟩ := kid_cells (HKS.out.below hS hbel) (HTR.out.below hS hbel) HK.out i hlt
                have hC := IH.out kd (mem_at hkd) _ S ts wr (fun b hb => Nat.lt_of_lt_of_le (hS b hb) hbel.size) hT
                have hs := hrel.out
                rw [drop_at hkd, isL_cons] at hs
                obtain ⟨Rk, hRk⟩ : ∃ Rk, Rk = isF kd ts := ⟨_, rfl⟩
                rw [← hRk] at hC hs
                have HC := Lib.hid hC
                have HS := Lib.hid hs
                clear hC hkd hb hT hRk hs
                cases Rk
                · have HF := Lib.hid (show R = false by rw [← HS.out]; rfl)
                  go_wp2_with (go_at_call 22; refine HC.out.mono ?_; rintro e w2 ⟨rfl, hb2⟩; have hb2' := Lib.hid (HB.out.step hb2))
                  go_ret
                  exact ⟨by rw [HF.out]; rfl, hb2'.out.below⟩
                · go_wp2_with (go_at_call 22; refine HC.out.mono ?_; rintro e w2 ⟨rfl, hb2⟩; have hb2' := Lib.hid (HB.out.step hb2))
                  go_roundw
                  case rel => exact ⟨i + 1, by omega, by go_num, hb2'.out, Lib.hid (by rw [← HS.out]; rfl)⟩
                  case measure => simp [intOf]; omega
              · have HE := Lib.hid (show R = true by rw [← hrel.out, List.drop_eq_nil_of_le (by have := HK.out; omega), isL_nil])
                go_wp2
                go_ret
                exact ⟨by rw [HE.out]; rfl, hbel⟩
        refine tail ?_
        rcases hg with ⟨k1, k2⟩ | ⟨k1, k2, k3⟩ | ⟨k1, k2⟩
        · exact .inl ⟨by simpa using k1, k2, by simp; omega⟩
        · exact .inr (.inl ⟨by simp; omega, by simpa using k1, k2, k3⟩)
        · exact .inr (.inr ⟨by simpa using k1, by simpa using k2⟩)
    · have HF := Lib.hid (show R = false by rw [HR.out]; exact isF_no h ks term (fun hh => q2 (HTK.out.trans hh.2.1)))
      have hcase : (tk = true ∧ term = false) ∨ (tk = false ∧ term = true) := by cases tk <;> cases term <;> simp at q2 ⊢
      clear q2
      rcases hcase with ⟨rfl, rfl⟩ | ⟨rfl, rfl⟩
      all_goals
        go_enter Tryd.func22, Tryd.ntmps22
        go_wp2_with (first
          | (go_at_call 45; refine (HKC.out _).mono ?_; rintro e w' ⟨rfl, rfl⟩)
          | (go_at_call 46; refine (HIT.out _).mono ?_; rintro e w' ⟨rfl, rfl⟩))
        go_ret
        exact ⟨by rw [HF.out]; rfl, HX0.out.below⟩
  · have e1 : (N != (K : Int)) = true := by simpa using q1
    have HF := Lib.hid (show R = false by rw [HR.out]; exact isF_no h ks term (fun hh => q1 (by have := hh.1; rw [HKN.out, ← HK.out] at this; exact this)))
    clear q1
    go_enter Tryd.func22, Tryd.ntmps22
    go_wp2_with (first
      | (go_at_call 45; refine (HKC.out _).mono ?_; rintro e w' ⟨rfl, rfl⟩)
      | (go_at_call 46; refine (HIT.out _).mono ?_; rintro e w' ⟨rfl, rfl⟩))
    go_ret
    exact ⟨by rw [HF.out]; rfl, HX0.out.below⟩
end Fm
end Go.Proofs.YtkjbfomokdjbnaaDoor

/-
  The reference's Same: equality of trees.
-/
namespace Go.Proofs.YtkjbfomokdjbnaaDoor
open Go.RowKit
open Go.Sort
set_option linter.unusedSimpArgs false
set_option linter.unusedVariables false
namespace Fm

end Fm
end Go.Proofs.YtkjbfomokdjbnaaDoor
