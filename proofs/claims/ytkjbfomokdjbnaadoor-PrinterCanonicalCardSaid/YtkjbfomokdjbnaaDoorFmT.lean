/-
  The reference's Is: whether a tree is that of a term, or of a formula.
-/
import Derived.Test.YtkjbfomokdjbnaaDoorFmL
import Derived.Lib.QuietBelow
import Derived.Lib.SlicesS
namespace Go.Proofs.YtkjbfomokdjbnaaDoor
open Go.RowKit
set_option linter.unusedSimpArgs false
set_option linter.unusedVariables false
namespace Fm

def termK (k : Int) : Bool := decide (1 ≤ k) && decide (k ≤ 7)
def badH (h : Hd) : Prop := (h.k = 7 ∧ h.exp < 0) ∨ (h.k = 9 ∧ (h.rel < 1 ∨ 6 < h.rel))
instance (h : Hd) : Decidable (badH h) := by unfold badH; infer_instance
mutual
def isF : Tr → Bool → Bool
  | .mk h ks, term => if (kidsN h.k).1 = (ks.length : Int) ∧ termK h.k = term ∧ ¬ badH h then isL ks (kidsN h.k).2 else false
def isL : List Tr → Bool → Bool
  | [], _ => true
  | k :: ks, ts => isF k ts && isL ks ts
end
theorem isF_no (h : Hd) (ks : List Tr) (term : Bool) (hn : ¬ ((kidsN h.k).1 = (ks.length : Int) ∧ termK h.k = term ∧ ¬ badH h)) : isF (.mk h ks) term = false := by unfold isF; rw [if_neg hn]
theorem isF_yes (h : Hd) (ks : List Tr) (term : Bool) (hn : (kidsN h.k).1 = (ks.length : Int) ∧ termK h.k = term ∧ ¬ badH h) : isF (.mk h ks) term = isL ks (kidsN h.k).2 := by
  conv => lhs; unfold isF
  rw [if_pos hn]
theorem isL_cons (k : Tr) (ks : List Tr) (ts : Bool) : isL (k :: ks) ts = (isF k ts && isL ks ts) := by conv => lhs; unfold isL
theorem isL_nil (ts : Bool) : isL [] ts = true := by unfold isL; rfl

set_option maxRecDepth 100000 in
set_option maxHeartbeats 8000000 in
theorem is_any : ∀ (t : Tr) (cs : List Value) (S : Nat → Prop) (term : Bool) (w : World), (∀ b, S b → b < w.heap.size) → TreeAt w S t cs →
    Calls Tryd.prog 22 #[.agg cs.toArray, .bool term] w fun e w' => e = .returned (.bool (isF t term)) ∧ Below w.heap.size w w' := by
  refine Tr.ind fun h ks ih => ?_
  intro cs S term w hS hT
  obtain ⟨A1, n1, c1, A2, K, c2, xs, rfl, hK, hKc, hK64, hn1', hnm, hab, hks, htr⟩ := hT.mkN
  have IH := Lib.hid ih
  have HK := Lib.hid hK
  have HKS := Lib.hid hks
  have HTR := Lib.hid htr
  clear ih hK hks htr hT hab hnm hn1'
  obtain ⟨R, hR⟩ : ∃ R, R = isF (.mk h ks) term := ⟨_, rfl⟩
  rw [← hR]
  have HR := Lib.hid hR
  clear hR
  have hx0 := Box.new w (hdC h (.slice A1 n1 c1) (.slice A2 K c2)).toArray TT
  have HX0 := Lib.hid hx0
  clear hx0
  obtain ⟨N, ts, hkn⟩ : ∃ N ts, kidsN h.k = (N, ts) := ⟨_, _, rfl⟩
  have hKC := kids_any h.k
  rw [hkn] at hKC
  have HKC := Lib.hid hKC
  have HKN := Lib.hid hkn
  obtain ⟨tk, htk⟩ : ∃ tk, tk = termK h.k := ⟨_, rfl⟩
  have HIT := Lib.hid (fun w => isTerm_any h.k w tk htk)
  have HTK := Lib.hid htk
  clear hKC hkn htk
  unfold hdC
  by_cases q1 : N = (K : Int)
  · have e1 : (N != (K : Int)) = false := by simpa using q1
    by_cases q2 : tk = term
    · subst q2
      have e2 : (tk != tk) = false := by simp
      have bad : badH h → R = false := fun hb => by rw [HR.out]; exact isF_no h ks tk (fun hh => hh.2.2 hb)
      have Bad := Lib.hid bad
      clear bad
      have Good := Lib.hid (show ¬ badH h → R = isL ks ts from fun hb => by
        rw [HR.out, isF_yes h ks tk ⟨by rw [HKN.out, ← HK.out]; exact q1, HTK.out.symm, hb⟩, HKN.out])
      rcases (show (h.k = 7 ∧ h.exp < 0) ∨ (h.k = 9 ∧ h.rel < 1) ∨ (h.k = 9 ∧ 1 ≤ h.rel ∧ 6 < h.rel) ∨ ((h.k = 7 ∧ 0 ≤ h.exp) ∨ (h.k = 9 ∧ 1 ≤ h.rel ∧ h.rel ≤ 6) ∨ (h.k ≠ 7 ∧ h.k ≠ 9)) by omega) with ⟨k1, k2⟩ | ⟨k1, k2⟩ | ⟨k1, k2, k3⟩ | hg
      · have HF := Lib.hid (Bad.out (.inl ⟨k1, k2⟩))
        have f7 : (h.k == 7) = true := by simpa using k1
        clear k1
        go_enter Tryd.func22, Tryd.ntmps22
        go_wp2_with (first
          | (go_at_call 45; refine (HKC.out _).mono ?_; rintro e w' ⟨rfl, rfl⟩)
          | (go_at_call 46; refine (HIT.out _).mono ?_; rintro e w' ⟨rfl, rfl⟩))
        go_ret
        exact ⟨by rw [HF.out]; rfl, HX0.out.below⟩
      · have HF := Lib.hid (Bad.out (.inr ⟨k1, .inl k2⟩))
        have f7 : (h.k == 7) = false := by simp; omega
        have f9 : (h.k == 9) = true := by simpa using k1
        clear k1
        go_enter Tryd.func22, Tryd.ntmps22
        go_wp2_with (first
          | (go_at_call 45; refine (HKC.out _).mono ?_; rintro e w' ⟨rfl, rfl⟩)
          | (go_at_call 46; refine (HIT.out _).mono ?_; rintro e w' ⟨rfl, rfl⟩))
        go_ret
        exact ⟨by rw [HF.out]; rfl, HX0.out.below⟩
      · have HF := Lib.hid (Bad.out (.inr ⟨k1, .inr k3⟩))
        have f7 : (h.k == 7) = false := by simp; omega
        have f9 : (h.k == 9) = true := by simpa using k1
        clear k1
        go_enter Tryd.func22, Tryd.ntmps22
        go_wp2_with (first
          | (go_at_call 45; refine (HKC.out _).mono ?_; rintro e w' ⟨rfl, rfl⟩)
          | (go_at_call 46; refine (HIT.out _).mono ?_; rintro e w' ⟨rfl, rfl⟩))
        go_ret
        exact ⟨by rw [HF.out]; rfl, HX0.out.below⟩
      · have HG := Lib.hid (Good.out (by unfold badH; omega))
        have HX : Hid (Box w (w.alloc (.cells (hdC h (.slice A1 n1 c1) (.slice A2 K c2)).toArray TT)) w.heap.size (hdC h (.slice A1 n1 c1) (.slice A2 K c2)).toArray TT) := HX0
        have tail : ∀ (hf : ((h.k == 7) = true ∧ 0 ≤ h.exp ∧ (h.k == 9) = false) ∨ ((h.k == 7) = false ∧ (h.k == 9) = true ∧ 1 ≤ h.rel ∧ h.rel ≤ 6) ∨ ((h.k == 7) = false ∧ (h.k == 9) = false)),
            Calls Tryd.prog 22 #[.agg #[.int .i64 h.k, .bool h.neg, .slice A1 n1 c1, .string h.name, .int .i64 h.exp, .int .i64 h.rel, .bool h.truth, .bool h.all, .slice A2 K c2], .bool tk] w fun e w' => e = .returned (.bool R) ∧ Below w.heap.size w w' := by
          intro hf
          rcases hf with ⟨f7, k2, f9⟩ | ⟨f7, f9, k2, k3⟩ | ⟨f7, f9⟩
          all_goals
            go_enter Tryd.func22, Tryd.ntmps22
            go_wp2_with (first
              | (go_at_call 45; refine (HKC.out _).mono ?_; rintro e w' ⟨rfl, rfl⟩)
              | (go_at_call 46; refine (HIT.out _).mono ?_; rintro e w' ⟨rfl, rfl⟩))
            go_loopw [52] (fun a_ wr => ∃ (i : Nat), i ≤ K ∧ a_ = .int .i64 i ∧ Box w wr w.heap.size (hdC h (.slice A1 n1 c1) (.slice A2 K c2)).toArray TT ∧ Hid (isL (ks.drop i) ts = R)) (fun a_ _ => K - (intOf a_).toNat)
            case atStart => exact ⟨0, Nat.zero_le _, rfl, HX0.out, Lib.hid (by rw [HG.out, List.drop_zero])⟩
            case round =>
              obtain ⟨i, hi, rfl, hbox, hrel⟩ := hrel
              have b8 : wr.cell? ⟨w.heap.size, 8, none⟩ = some (.slice A2 K c2) := hbox.cell 8
              have HB := Lib.hid hbox
              have hbel := hbox.below
              clear hbox
              by_cases hlt : i < K
              · obtain ⟨kd, b, o, B1, m1, e1', B2, m2, e2', hkd, rfl, hb, hT, g0, g1, g2, g3, g4, g5, g6, g7, g8⟩ := kid_cells (HKS.out.below hS hbel) (HTR.out.below hS hbel) HK.out i hlt
                have hC := IH.out kd (mem_at hkd) _ S ts wr (fun b hb => Nat.lt_of_lt_of_le (hS b hb) hbel.size) hT
                have hs := hrel.out
                rw [drop_at hkd, isL_cons] at hs
                obtain ⟨Rk, hRk⟩ : ∃ Rk, Rk = isF kd ts := ⟨_, rfl⟩
                rw [← hRk] at hC hs
                have HC := Lib.hid hC
                have HS := Lib.hid hs
                clear hC hkd hb hT hRk hs
                cases Rk
                · have HF := Lib.hid (show R = false by rw [← HS.out]; rfl)
                  go_wp2_with (go_at_call 22; refine HC.out.mono ?_; rintro e w2 ⟨rfl, hb2⟩; have hb2' := Lib.hid (HB.out.step hb2))
                  go_ret
                  exact ⟨by rw [HF.out]; rfl, hb2'.out.below⟩
                · go_wp2_with (go_at_call 22; refine HC.out.mono ?_; rintro e w2 ⟨rfl, hb2⟩; have hb2' := Lib.hid (HB.out.step hb2))
                  go_roundw
                  case rel => exact ⟨i + 1, by omega, by go_num, hb2'.out, Lib.hid (by rw [← HS.out]; rfl)⟩
                  case measure => simp [intOf]; omega
              · have HE := Lib.hid (show R = true by rw [← hrel.out, List.drop_eq_nil_of_le (by have := HK.out; omega), isL_nil])
                go_wp2
                go_ret
                exact ⟨by rw [HE.out]; rfl, hbel⟩
        refine tail ?_
        rcases hg with ⟨k1, k2⟩ | ⟨k1, k2, k3⟩ | ⟨k1, k2⟩
        · exact .inl ⟨by simpa using k1, k2, by simp; omega⟩
        · exact .inr (.inl ⟨by simp; omega, by simpa using k1, k2, k3⟩)
        · exact .inr (.inr ⟨by simpa using k1, by simpa using k2⟩)
    · have HF := Lib.hid (show R = false by rw [HR.out]; exact isF_no h ks term (fun hh => q2 (HTK.out.trans hh.2.1)))
      have hcase : (tk = true ∧ term = false) ∨ (tk = false ∧ term = true) := by cases tk <;> cases term <;> simp at q2 ⊢
      clear q2
      rcases hcase with ⟨rfl, rfl⟩ | ⟨rfl, rfl⟩
      all_goals
        go_enter Tryd.func22, Tryd.ntmps22
        go_wp2_with (first
          | (go_at_call 45; refine (HKC.out _).mono ?_; rintro e w' ⟨rfl, rfl⟩)
          | (go_at_call 46; refine (HIT.out _).mono ?_; rintro e w' ⟨rfl, rfl⟩))
        go_ret
        exact ⟨by rw [HF.out]; rfl, HX0.out.below⟩
  · have e1 : (N != (K : Int)) = true := by simpa using q1
    have HF := Lib.hid (show R = false by rw [HR.out]; exact isF_no h ks term (fun hh => q1 (by have := hh.1; rw [HKN.out, ← HK.out] at this; exact this)))
    clear q1
    go_enter Tryd.func22, Tryd.ntmps22
    go_wp2_with (first
      | (go_at_call 45; refine (HKC.out _).mono ?_; rintro e w' ⟨rfl, rfl⟩)
      | (go_at_call 46; refine (HIT.out _).mono ?_; rintro e w' ⟨rfl, rfl⟩))
    go_ret
    exact ⟨by rw [HF.out]; rfl, HX0.out.below⟩
end Fm
end Go.Proofs.YtkjbfomokdjbnaaDoor

/-
  The reference's Same: equality of trees.
-/
namespace Go.Proofs.YtkjbfomokdjbnaaDoor
open Go.RowKit
open Go.Sort
set_option linter.unusedSimpArgs false
set_option linter.unusedVariables false
namespace Fm

theorem drop_same {ks js : List Tr} {i : Nat} {a b : Tr} (h1 : ks[i]? = some a) (h2 : js[i]? = some b) : (ks.drop i = js.drop i) ↔ (a = b ∧ ks.drop (i + 1) = js.drop (i + 1)) := by
  rw [drop_at h1, drop_at h2]; simp

set_option maxRecDepth 100000 in
set_option maxHeartbeats 8000000 in
theorem same_any : ∀ (s : Tr) (t : Tr) (cs ds : List Value) (S : Nat → Prop) (r : Bool) (w : World), (∀ b, S b → b < w.heap.size) → TreeAt w S s cs → TreeAt w S t ds → (r = true ↔ s = t) →
    Calls Tryd.prog 15 #[.agg cs.toArray, .agg ds.toArray] w fun e w' => e = .returned (.bool r) ∧ Below w.heap.size w w' := by
  refine Tr.ind fun h ks ih => ?_
  intro t cs ds S r w hS hT hU hr
  obtain ⟨g, js⟩ := t
  obtain ⟨A1, n1, c1, A2, K, c2, xs, rfl, hK, hKc, hK64, hn1, hnm, hab, hks, htr⟩ := hT.mkN
  obtain ⟨B1, m1, d1, B2, L, d2, ys, rfl, hL, hLc, hL64, hm1, hnm', hab', hjs, htr'⟩ := hU.mkN
  have IH := Lib.hid ih
  have HK := Lib.hid hK
  have HL := Lib.hid hL
  have HKS := Lib.hid hks
  have HTR := Lib.hid htr
  have HJS := Lib.hid hjs
  have HTR' := Lib.hid htr'
  obtain ⟨W, hW⟩ : ∃ W, (w.alloc (.cells (hdC h (.slice A1 n1 c1) (.slice A2 K c2)).toArray TT)).alloc (.cells (hdC g (.slice B1 m1 d1) (.slice B2 L d2)).toArray TT) = W := ⟨_, rfl⟩
  obtain ⟨k1, f1, l1, s1, x1, q1, b1, a1⟩ := h
  obtain ⟨k2, f2, l2, s2, x2, q2, b2, a2⟩ := g
  have hx : Box w W w.heap.size (hdC ⟨k1, f1, l1, s1, x1, q1, b1, a1⟩ (.slice A1 n1 c1) (.slice A2 K c2)).toArray TT := by rw [← hW]; exact (Box.new w _ _).alloc _
  have hy : Box w W (w.heap.size + 1) (hdC ⟨k2, f2, l2, s2, x2, q2, b2, a2⟩ (.slice B1 m1 d1) (.slice B2 L d2)).toArray TT := by rw [← hW]; exact Box.second w _ _ _
  obtain ⟨r7, hr7⟩ : ∃ r7, r7 = (f1 == f2 && l1 == l2) := ⟨_, rfl⟩
  have hI : ∀ w', Below w.heap.size w w' → Calls Tryd.prog 36 #[.agg #[.bool f1, .slice A1 n1 c1], .agg #[.bool f2, .slice B1 m1 d1]] w' fun e w2 => e = .returned (.bool r7) ∧ Below w'.heap.size w' w2 := fun w' hb => sameInt_any f1 f2 l1 l2 _ _ S w' (fun b hb' => Nat.lt_of_lt_of_le (hS b hb') hb.size) (hab.below hS hb) (hab'.below hS hb) r7 hr7
  have HI := Lib.hid (hI W hx.below)
  have hr7' : r7 = true ↔ (f1 = f2 ∧ l1 = l2) := by rw [hr7]; simp
  have H7 := Lib.hid hr7'
  have HR := Lib.hid hr
  unfold hdC at *
  dsimp only [Tr.h] at *
  have HX := Lib.hid hx
  have HY := Lib.hid hy
  obtain ⟨p0, p1, p2, p3, p4, p5, p6, p7, p8⟩ := hx.c9
  obtain ⟨o0, o1, o2, o3, o4, o5, o6, o7, o8⟩ := hy.c9
  clear ih hK hL hks htr hjs htr' hT hU hab hab' hnm hnm' hr hr7 hr7' hI hx hy hn1 hm1
  by_cases z0 : k1 = k2
  case neg =>
    have e1 : (k1 != k2) = true := by simpa using z0
    have HF := Lib.hid (show r = false by cases hh : r with | false => rfl | true => (exfalso; have h2 := HR.out.1 hh; injection h2 with h3 h4; injection h3; contradiction))
    clear HR
    go_enter Tryd.func15, Tryd.ntmps15
    go_wp2_with (go_at_call 36; refine HI.out.mono ?_; rintro e w2 ⟨rfl, hb2⟩; obtain ⟨-, -, -, -, -, -, -, -, p8⟩ := (HX.out.step hb2).c9; obtain ⟨-, -, -, -, -, -, -, -, o8⟩ := (HY.out.step hb2).c9; have hX2 := Lib.hid (HX.out.step hb2); have hY2 := Lib.hid (HY.out.step hb2))
    go_ret
    exact ⟨by rw [HF.out]; rfl, by first | exact hX2.out.below | exact HX.out.below⟩
  subst z0
  have e1 : (k1 != k1) = false := by simp
  by_cases z1 : s1 = s2
  case neg =>
    have e2 : (s1.toList == s2.toList) = false := (Lib.bytes_beq_false_iff _ _).2 z1
    have e2b : (s1.toList != s2.toList) = true := by simp only [bne, e2, Bool.not_false]
    have HF := Lib.hid (show r = false by cases hh : r with | false => rfl | true => (exfalso; have h2 := HR.out.1 hh; injection h2 with h3 h4; injection h3; contradiction))
    clear HR
    go_enter Tryd.func15, Tryd.ntmps15
    go_wp2_with (go_at_call 36; refine HI.out.mono ?_; rintro e w2 ⟨rfl, hb2⟩; obtain ⟨-, -, -, -, -, -, -, -, p8⟩ := (HX.out.step hb2).c9; obtain ⟨-, -, -, -, -, -, -, -, o8⟩ := (HY.out.step hb2).c9; have hX2 := Lib.hid (HX.out.step hb2); have hY2 := Lib.hid (HY.out.step hb2))
    go_ret
    exact ⟨by rw [HF.out]; rfl, by first | exact hX2.out.below | exact HX.out.below⟩
  subst z1
  by_cases z2 : x1 = x2
  case neg =>
    have e3 : (x1 != x2) = true := by simpa using z2
    have HF := Lib.hid (show r = false by cases hh : r with | false => rfl | true => (exfalso; have h2 := HR.out.1 hh; injection h2 with h3 h4; injection h3; contradiction))
    clear HR
    go_enter Tryd.func15, Tryd.ntmps15
    go_wp2_with (go_at_call 36; refine HI.out.mono ?_; rintro e w2 ⟨rfl, hb2⟩; obtain ⟨-, -, -, -, -, -, -, -, p8⟩ := (HX.out.step hb2).c9; obtain ⟨-, -, -, -, -, -, -, -, o8⟩ := (HY.out.step hb2).c9; have hX2 := Lib.hid (HX.out.step hb2); have hY2 := Lib.hid (HY.out.step hb2))
    go_ret
    exact ⟨by rw [HF.out]; rfl, by first | exact hX2.out.below | exact HX.out.below⟩
  subst z2
  have e3 : (x1 != x1) = false := by simp
  by_cases z3 : q1 = q2
  case neg =>
    have e4 : (q1 != q2) = true := by simpa using z3
    have HF := Lib.hid (show r = false by cases hh : r with | false => rfl | true => (exfalso; have h2 := HR.out.1 hh; injection h2 with h3 h4; injection h3; contradiction))
    clear HR
    go_enter Tryd.func15, Tryd.ntmps15
    go_wp2_with (go_at_call 36; refine HI.out.mono ?_; rintro e w2 ⟨rfl, hb2⟩; obtain ⟨-, -, -, -, -, -, -, -, p8⟩ := (HX.out.step hb2).c9; obtain ⟨-, -, -, -, -, -, -, -, o8⟩ := (HY.out.step hb2).c9; have hX2 := Lib.hid (HX.out.step hb2); have hY2 := Lib.hid (HY.out.step hb2))
    go_ret
    exact ⟨by rw [HF.out]; rfl, by first | exact hX2.out.below | exact HX.out.below⟩
  subst z3
  have e4 : (q1 != q1) = false := by simp
  by_cases z4 : b1 = b2
  case neg =>
    rcases (show (b1 = true ∧ b2 = false) ∨ (b1 = false ∧ b2 = true) by revert z4; cases b1 <;> cases b2 <;> simp) with ⟨rfl, rfl⟩ | ⟨rfl, rfl⟩
    all_goals
      have HF := Lib.hid (show r = false by cases hh : r with | false => rfl | true => (exfalso; have h2 := HR.out.1 hh; injection h2 with h3 h4; injection h3; contradiction))
      clear HR
      go_enter Tryd.func15, Tryd.ntmps15
      go_wp2_with (go_at_call 36; refine HI.out.mono ?_; rintro e w2 ⟨rfl, hb2⟩; obtain ⟨-, -, -, -, -, -, -, -, p8⟩ := (HX.out.step hb2).c9; obtain ⟨-, -, -, -, -, -, -, -, o8⟩ := (HY.out.step hb2).c9; have hX2 := Lib.hid (HX.out.step hb2); have hY2 := Lib.hid (HY.out.step hb2))
      go_ret
      exact ⟨by rw [HF.out]; rfl, by first | exact hX2.out.below | exact HX.out.below⟩
  subst z4
  have e5 : (b1 != b1) = false := by simp
  by_cases z5 : a1 = a2
  case neg =>
    rcases (show (a1 = true ∧ a2 = false) ∨ (a1 = false ∧ a2 = true) by revert z5; cases a1 <;> cases a2 <;> simp) with ⟨rfl, rfl⟩ | ⟨rfl, rfl⟩
    all_goals
      have HF := Lib.hid (show r = false by cases hh : r with | false => rfl | true => (exfalso; have h2 := HR.out.1 hh; injection h2 with h3 h4; injection h3; contradiction))
      clear HR
      go_enter Tryd.func15, Tryd.ntmps15
      go_wp2_with (go_at_call 36; refine HI.out.mono ?_; rintro e w2 ⟨rfl, hb2⟩; obtain ⟨-, -, -, -, -, -, -, -, p8⟩ := (HX.out.step hb2).c9; obtain ⟨-, -, -, -, -, -, -, -, o8⟩ := (HY.out.step hb2).c9; have hX2 := Lib.hid (HX.out.step hb2); have hY2 := Lib.hid (HY.out.step hb2))
      go_ret
      exact ⟨by rw [HF.out]; rfl, by first | exact hX2.out.below | exact HX.out.below⟩
  subst z5
  have e6 : (a1 != a1) = false := by simp
  by_cases z6 : r7 = true
  case neg =>
    have z7 : r7 = false := by simpa using z6
    subst z7
    have HF := Lib.hid (show r = false by cases hh : r with | false => rfl | true => (exfalso; have h2 := HR.out.1 hh; injection h2 with h3 h4; have h5 := H7.out.2 (by injection h3; constructor <;> assumption); cases h5))
    clear HR
    go_enter Tryd.func15, Tryd.ntmps15
    go_wp2_with (go_at_call 36; refine HI.out.mono ?_; rintro e w2 ⟨rfl, hb2⟩; obtain ⟨-, -, -, -, -, -, -, -, p8⟩ := (HX.out.step hb2).c9; obtain ⟨-, -, -, -, -, -, -, -, o8⟩ := (HY.out.step hb2).c9; have hX2 := Lib.hid (HX.out.step hb2); have hY2 := Lib.hid (HY.out.step hb2))
    go_ret
    exact ⟨by rw [HF.out]; rfl, by first | exact hX2.out.below | exact HX.out.below⟩
  subst z6
  by_cases z7 : K = L
  case neg =>
    have e8 : ((K : Int) != L) = true := by simp; omega
    have HF := Lib.hid (show r = false by cases hh : r with | false => rfl | true => (exfalso; have h2 := HR.out.1 hh; injection h2 with h3 h4; exact z7 (by rw [HK.out, HL.out, h4])))
    clear HR
    go_enter Tryd.func15, Tryd.ntmps15
    go_wp2_with (go_at_call 36; refine HI.out.mono ?_; rintro e w2 ⟨rfl, hb2⟩; obtain ⟨-, -, -, -, -, -, -, -, p8⟩ := (HX.out.step hb2).c9; obtain ⟨-, -, -, -, -, -, -, -, o8⟩ := (HY.out.step hb2).c9; have hX2 := Lib.hid (HX.out.step hb2); have hY2 := Lib.hid (HY.out.step hb2))
    go_ret
    exact ⟨by rw [HF.out]; rfl, by first | exact hX2.out.below | exact HX.out.below⟩
  subst z7
  have e8 : ((K : Int) != K) = false := by simp
  have HR2 := Lib.hid (show r = true ↔ ks = js by rw [HR.out, ← (H7.out.1 rfl).1, ← (H7.out.1 rfl).2]; simp)
  clear HR
  go_enter Tryd.func15, Tryd.ntmps15
  go_wp2_with (go_at_call 36; refine HI.out.mono ?_; rintro e w2 ⟨rfl, hb2⟩; obtain ⟨-, -, -, -, -, -, -, -, p8⟩ := (HX.out.step hb2).c9; obtain ⟨-, -, -, -, -, -, -, -, o8⟩ := (HY.out.step hb2).c9; have hX2 := Lib.hid (HX.out.step hb2); have hY2 := Lib.hid (HY.out.step hb2))
  go_loopw [66] (fun a_ wr => ∃ (i : Nat), i ≤ K ∧ a_ = .int .i64 i ∧ Box w wr w.heap.size #[.int .i64 k1, .bool f1, .slice A1 n1 c1, .string s1, .int .i64 x1, .int .i64 q1, .bool b1, .bool a1, .slice A2 K c2] TT ∧ Box w wr (w.heap.size + 1) #[.int .i64 k1, .bool f2, .slice B1 m1 d1, .string s1, .int .i64 x1, .int .i64 q1, .bool b1, .bool a1, .slice B2 K d2] TT ∧ Hid (r = true ↔ ks.drop i = js.drop i)) (fun a_ _ => K - (intOf a_).toNat)
  case atStart => exact ⟨0, Nat.zero_le _, rfl, hX2.out, hY2.out, Lib.hid (by rw [HR2.out, List.drop_zero, List.drop_zero])⟩
  case round =>
    obtain ⟨i, hi, rfl, hbx, hby, hrel⟩ := hrel
    have b8 := hbx.cell 8
    have b8' := hby.cell 8
    have HBX := Lib.hid hbx
    have HBY := Lib.hid hby
    have hbel := hbx.below
    clear hbx hby
    by_cases hlt : i < K
    · obtain ⟨kd, b, o, D1, j1, v1, D2, j2, v2, hkd, rfl, hb, hT, g0, g1, g2, g3, g4, g5, g6, g7, g8⟩ := kid_cells (HKS.out.below hS hbel) (HTR.out.below hS hbel) HK.out i hlt
      obtain ⟨ke, b', o', E1, j1', v1', E2, j2', v2', hke, rfl, hb', hT', t0, t1, t2, t3, t4, t5, t6, t7, t8⟩ := kid_cells (HJS.out.below hS hbel) (HTR'.out.below hS hbel) HL.out i hlt
      obtain ⟨rk, hrk⟩ : ∃ rk : Bool, (rk = true ↔ kd = ke) := by classical exact ⟨decide (kd = ke), by simp⟩
      have hC : ∀ d os, _ := fun d os => IH.out kd (mem_at hkd) ke _ _ S rk (grow (redrawn wr d) os) (fun b hb => Nat.lt_of_lt_of_le (hS b hb) (Nat.le_trans hbel.size (below_regrown wr d os).size)) (hT.below (fun b hb => Nat.lt_of_lt_of_le (hS b hb) hbel.size) (below_regrown wr d os)) (hT'.below (fun b hb => Nat.lt_of_lt_of_le (hS b hb) hbel.size) (below_regrown wr d os)) hrk
      have hs := hrel.out
      rw [drop_same hkd hke, ← hrk] at hs
      have HC := Lib.hid hC
      have HS := Lib.hid hs
      clear hC hkd hke hb hb' hT hT' hrk hs
      have rb := fun d os => cell_regrown b8 d os
      have rb' := fun d os => cell_regrown b8' d os
      have rg0 := fun d os => cell_regrown g0 d os
      have rt0 := fun d os => cell_regrown t0 d os
      have rg1 := fun d os => cell_regrown g1 d os
      have rt1 := fun d os => cell_regrown t1 d os
      have rg2 := fun d os => cell_regrown g2 d os
      have rt2 := fun d os => cell_regrown t2 d os
      have rg3 := fun d os => cell_regrown g3 d os
      have rt3 := fun d os => cell_regrown t3 d os
      have rg4 := fun d os => cell_regrown g4 d os
      have rt4 := fun d os => cell_regrown t4 d os
      have rg5 := fun d os => cell_regrown g5 d os
      have rt5 := fun d os => cell_regrown t5 d os
      have rg6 := fun d os => cell_regrown g6 d os
      have rt6 := fun d os => cell_regrown t6 d os
      have rg7 := fun d os => cell_regrown g7 d os
      have rt7 := fun d os => cell_regrown t7 d os
      have rg8 := fun d os => cell_regrown g8 d os
      have rt8 := fun d os => cell_regrown t8 d os
      cases rk
      · have HF := Lib.hid (show r = false by cases hh : r with | false => rfl | true => (have h2 := (HS.out.1 hh).1; cases h2))
        go_wp2_with fail
        refine wp_region_quiet_below (by kernel_rfl) (by kernel_rfl) ?_
        (repeat (quiet_step (exact Calls.regrown_of (HC.out _ _))))
        refine wpQuiet_nil ?_
        rintro _ ⟨⟨d, os⟩, rfl⟩
        go_wp2; go_ret
        exact ⟨by rw [HF.out]; rfl, hbel.trans ((below_regrown _ d os).mono hbel.size)⟩
      · go_wp2_with fail
        refine wp_region_quiet_below (by kernel_rfl) (by kernel_rfl) ?_
        (repeat (quiet_step (exact Calls.regrown_of (HC.out _ _))))
        refine wpQuiet_nil ?_
        rintro _ ⟨⟨d, os⟩, rfl⟩
        have hBX := Lib.hid (HBX.out.step (below_regrown _ d os))
        have hBY := Lib.hid (HBY.out.step (below_regrown _ d os))
        go_wp2
        go_roundw
        case rel => exact ⟨i + 1, by omega, by go_num, hBX.out, hBY.out, Lib.hid (by have := HS.out; simpa using this)⟩
        case measure => simp [intOf]; omega
    · have HE := Lib.hid (show r = true by rw [hrel.out, List.drop_eq_nil_of_le (by have := HK.out; omega), List.drop_eq_nil_of_le (by have := HL.out; omega)])
      go_wp2
      go_ret
      exact ⟨by rw [HE.out]; rfl, hbel⟩
end Fm
end Go.Proofs.YtkjbfomokdjbnaaDoor
