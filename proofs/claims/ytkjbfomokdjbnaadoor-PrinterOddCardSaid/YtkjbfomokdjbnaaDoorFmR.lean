/-
  The reference's room, kids, isTerm, Is.
-/
import Derived.Test.YtkjbfomokdjbnaaDoorFmJ
namespace Go.Proofs.YtkjbfomokdjbnaaDoor
open Go.RowKit
set_option linter.unusedSimpArgs false
set_option linter.unusedVariables false
namespace Fm

theorem ret_int {k : IntKind} {a b : Int} (h : a = b) : Ending.returned (.int k a) = .returned (.int k b) := by rw [h]
theorem ret_bool {a b : Bool} (h : a = b) : Ending.returned (.bool a) = .returned (.bool b) := by rw [h]
abbrev TT : TypeId := 29

mutual
def roomF : Tr → Int → Int → Int
  | .mk _ ks, n, d => if d = 0 then -1 else roomL ks (n - 1) (d - 1)
def roomL : List Tr → Int → Int → Int
  | [], n, _ => n
  | k :: ks, n, d => if n < 0 then -1 else roomL ks (roomF k n d) d
end
mutual
theorem roomF_le : ∀ (t : Tr) (n d : Int), 0 ≤ n → -1 ≤ roomF t n d ∧ roomF t n d ≤ n
  | .mk _ ks, n, d, h => by
    unfold roomF
    split
    · omega
    · have := roomL_le ks (n - 1) (d - 1) (by omega)
      omega
theorem roomL_le : ∀ (l : List Tr) (n d : Int), -1 ≤ n → -1 ≤ roomL l n d ∧ roomL l n d ≤ n
  | [], n, d, h => by unfold roomL; omega
  | k :: ks, n, d, h => by
    unfold roomL
    split
    · omega
    · have h1 := roomF_le k n d (by omega)
      have := roomL_le ks (roomF k n d) d h1.1
      omega
end

theorem roomL_neg (l : List Tr) (n d : Int) (hl : l ≠ []) (h : n < 0) : roomL l n d = -1 := by
  cases l with
  | nil => exact absurd rfl hl
  | cons k ks => unfold roomL; rw [if_pos h]
theorem roomL_cons (k : Tr) (ks : List Tr) (n d : Int) (h : 0 ≤ n) : roomL (k :: ks) n d = roomL ks (roomF k n d) d := by
  conv => lhs; unfold roomL
  rw [if_neg (by omega)]
theorem drop_at {α : Type} {l : List α} {i : Nat} {x : α} (h : l[i]? = some x) : l.drop i = x :: l.drop (i + 1) := by
  obtain ⟨hi, rfl⟩ := List.getElem?_eq_some_iff.1 h
  exact List.drop_eq_getElem_cons hi
theorem mem_at {α : Type} {l : List α} {i : Nat} {x : α} (h : l[i]? = some x) : x ∈ l := by
  obtain ⟨hi, rfl⟩ := List.getElem?_eq_some_iff.1 h
  exact List.getElem_mem hi

set_option maxRecDepth 100000 in
set_option maxHeartbeats 4000000 in
theorem room_any : ∀ (t : Tr) (cs : List Value) (S : Nat → Prop) (n d : Int) (w : World), (∀ b, S b → b < w.heap.size) → TreeAt w S t cs → 0 ≤ n → n ≤ 1000000 → 0 ≤ d → d ≤ 1000000 →
    Calls Tryd.prog 44 #[.agg cs.toArray, .int .i64 n, .int .i64 d] w fun e w' => e = .returned (.int .i64 (roomF t n d)) ∧ Below w.heap.size w w' := by
  refine Tr.ind fun h ks ih => ?_
  intro cs S n d w hS hT hn0 hn1 hd0 hd1
  obtain ⟨A1, n1, c1, A2, K, c2, xs, rfl, hK, hKc, hK64, hn1', hnm, hab, hks, htr⟩ := hT.mkN
  have IH := Lib.hid ih
  have HK := Lib.hid hK
  have HKS := Lib.hid hks
  have HTR := Lib.hid htr
  clear ih hK hks htr hT hab hnm hn1'
  obtain ⟨R, hR⟩ : ∃ R, R = roomF (.mk h ks) n d := ⟨_, rfl⟩
  rw [← hR]
  have HR := Lib.hid hR
  clear hR
  have hx0 := Box.new w (hdC h (.slice A1 n1 c1) (.slice A2 K c2)).toArray TT
  have HX0 := Lib.hid hx0
  clear hx0
  by_cases hd : d = 0
  · subst hd
    have HF := Lib.hid (show R = -1 by rw [HR.out]; unfold roomF; rw [if_pos rfl])
    unfold hdC
    go_enter Tryd.func44, Tryd.ntmps44
    go_wp2
    go_ret
    exact ⟨by rw [HF.out]; rfl, HX0.out.below⟩
  · have HF := Lib.hid (show R = roomL ks (n - 1) (d - 1) by rw [HR.out]; unfold roomF; rw [if_neg hd])
    have hd' : (d == 0) = false := by simpa using hd
    unfold hdC
    go_enter Tryd.func44, Tryd.ntmps44
    go_wp2
    go_loopw [1, 15] (fun n_ a_ wr => ∃ (i : Nat) (m : Int), i ≤ K ∧ a_ = .int .i64 i ∧ n_ = .int .i64 m ∧ -1 ≤ m ∧ m ≤ n ∧ Box w wr w.heap.size (hdC h (.slice A1 n1 c1) (.slice A2 K c2)).toArray TT ∧ Hid (roomL (ks.drop i) m (d - 1) = R)) (fun _ a_ _ => K - (intOf a_).toNat)
    case atStart => exact ⟨0, n - 1, Nat.zero_le _, rfl, rfl, by omega, by omega, HX0.out, Lib.hid (by rw [HF.out, List.drop_zero])⟩
    case round =>
      obtain ⟨i, m, hi, rfl, rfl, hm0, hm1, hbox, hrel⟩ := hrel
      have b8 : wr.cell? ⟨w.heap.size, 8, none⟩ = some (.slice A2 K c2) := hbox.cell 8
      have HB := Lib.hid hbox
      have hbel := hbox.below
      clear hbox
      by_cases hlt : i < K
      · by_cases hm : m < 0
        · have HM := Lib.hid (show R = -1 by rw [← hrel.out]; exact roomL_neg _ _ _ (by intro e; have := congrArg List.length e; rw [List.length_drop, List.length_nil] at this; have := HK.out; omega) hm)
          go_wp2
          go_ret
          exact ⟨by rw [HM.out]; rfl, hbel⟩
        · obtain ⟨kd, b, o, B1, m1, e1, B2, m2, e2, hkd, rfl, hb, hT, g0, g1, g2, g3, g4, g5, g6, g7, g8⟩ := kid_cells (HKS.out.below hS hbel) (HTR.out.below hS hbel) HK.out i hlt
          have hC := IH.out kd (mem_at hkd) _ S m (d - 1) wr (fun b hb => Nat.lt_of_lt_of_le (hS b hb) hbel.size) hT (by omega) (by omega) (by omega) (by omega)
          have HC := Lib.hid hC
          have HS := Lib.hid (show roomL (ks.drop (i + 1)) (roomF kd m (d - 1)) (d - 1) = R by rw [← hrel.out, drop_at hkd, roomL_cons _ _ _ _ (by omega)])
          have hle := roomF_le kd m (d - 1) (by omega)
          obtain ⟨Rk, hRk⟩ : ∃ Rk, Rk = roomF kd m (d - 1) := ⟨_, rfl⟩
          rw [← hRk] at HS HC hle
          clear hC hkd hb hT hRk
          have hw1 : IntKind.i64.wrap (d - 1) = d - 1 := IntWalk.i64_in _ (by omega)
          go_wp2_with (go_at_call 44; refine HC.out.mono ?_; rintro e w2 ⟨rfl, hb2⟩; have hb2' := Lib.hid (HB.out.step hb2))
          go_roundw
          case rel => exact ⟨i + 1, Rk, by omega, by go_num, rfl, by omega, by omega, hb2'.out, HS⟩
          case measure => simp [intOf]; omega
      · have HE := Lib.hid (show R = m by rw [← hrel.out, List.drop_eq_nil_of_le (by have := HK.out; omega)]; unfold roomL; rfl)
        go_wp2
        go_ret
        exact ⟨ret_int HE.out.symm, hbel⟩

/-! ### kids, isTerm, Is -/
def kidsN (k : Int) : Int × Bool :=
  if k = 1 ∨ k = 2 ∨ k = 8 then (0, true) else if k = 6 ∨ k = 7 then (1, true) else if k = 3 ∨ k = 4 ∨ k = 5 ∨ k = 9 then (2, true)
  else if k = 10 ∨ k = 15 then (1, false) else if k = 11 ∨ k = 12 ∨ k = 13 ∨ k = 14 then (2, false) else (-1, false)
set_option maxHeartbeats 4000000 in
theorem kids_any (k : Int) (w : World) :
    Calls Tryd.prog 45 #[.int .i64 k] w fun e w' => e = .returned (.tuple #[.int .i64 (kidsN k).1, .bool (kidsN k).2]) ∧ w' = w := by
  obtain ⟨a, b, hab⟩ : ∃ a b, kidsN k = (a, b) := ⟨_, _, rfl⟩
  rw [hab]
  have H := Lib.hid hab
  clear hab
  by_cases hk : 1 ≤ k ∧ k ≤ 15
  · have hc : k = 1 ∨ k = 2 ∨ k = 3 ∨ k = 4 ∨ k = 5 ∨ k = 6 ∨ k = 7 ∨ k = 8 ∨ k = 9 ∨ k = 10 ∨ k = 11 ∨ k = 12 ∨ k = 13 ∨ k = 14 ∨ k = 15 := by omega
    clear hk
    rcases hc with rfl | rfl | rfl | rfl | rfl | rfl | rfl | rfl | rfl | rfl | rfl | rfl | rfl | rfl | rfl
    all_goals
      have h2 := H.out
      simp [kidsN] at h2
      obtain ⟨rfl, rfl⟩ := h2
      clear H
      go_enter Tryd.func45, Tryd.ntmps45
      go_wp2
      go_ret2
      exact ⟨rfl, rfl⟩
  · have h2 : kidsN k = (-1, false) := by
      unfold kidsN
      rw [if_neg (by omega), if_neg (by omega), if_neg (by omega), if_neg (by omega), if_neg (by omega)]
    have h3 := H.out
    rw [h2] at h3
    injection h3 with e1 e2
    subst e1; subst e2
    have f1 : (k == 1) = false := by simp; omega
    have f2 : (k == 2) = false := by simp; omega
    have f3 : (k == 3) = false := by simp; omega
    have f4 : (k == 4) = false := by simp; omega
    have f5 : (k == 5) = false := by simp; omega
    have f6 : (k == 6) = false := by simp; omega
    have f7 : (k == 7) = false := by simp; omega
    have f8 : (k == 8) = false := by simp; omega
    have f9 : (k == 9) = false := by simp; omega
    have f10 : (k == 10) = false := by simp; omega
    have f11 : (k == 11) = false := by simp; omega
    have f12 : (k == 12) = false := by simp; omega
    have f13 : (k == 13) = false := by simp; omega
    have f14 : (k == 14) = false := by simp; omega
    have f15 : (k == 15) = false := by simp; omega
    clear H hk h2
    go_enter Tryd.func45, Tryd.ntmps45
    go_wp2
    go_ret2
    exact ⟨rfl, rfl⟩

theorem isTerm_any (k : Int) (w : World) (r : Bool) (hr : r = (decide (1 ≤ k) && decide (k ≤ 7))) :
    Calls Tryd.prog 46 #[.int .i64 k] w fun e w' => e = .returned (.bool r) ∧ w' = w := by
  have H := Lib.hid hr
  clear hr
  by_cases h1 : 1 ≤ k
  · by_cases h2 : k ≤ 7
    · have HF := Lib.hid (show r = true by rw [H.out]; simp; omega)
      go_enter Tryd.func46, Tryd.ntmps46
      go_wp2
      go_ret
      exact ⟨by rw [HF.out]; rfl, rfl⟩
    · have HF := Lib.hid (show r = false by rw [H.out]; simp; omega)
      go_enter Tryd.func46, Tryd.ntmps46
      go_wp2
      go_ret
      exact ⟨by rw [HF.out]; rfl, rfl⟩
  · have HF := Lib.hid (show r = false by rw [H.out]; simp; omega)
    go_enter Tryd.func46, Tryd.ntmps46
    go_wp2
    go_ret
    exact ⟨by rw [HF.out]; rfl, rfl⟩
end Fm
end Go.Proofs.YtkjbfomokdjbnaaDoor
