/-
  Lists of tokens that came in; Same on equal lists; IsToken; Join of the reference and of the lexer.
-/
import Derived.Test.YtnfbmclaenodaaaLxPlainJ
import Derived.Test.YtnfbmclaenodaaaLxV
import Derived.Test.YtnfbmclaenodaaaBld
import Derived.Lib.QuietBelow
import Derived.BigQuiet
namespace Go.Proofs.Ytnfbmclaenodaaa
open Go.RowKit Lx
set_option linter.unusedSimpArgs false
set_option linter.unusedVariables false

def itokC (t : ITok) : List Value := [.int .i64 t.kind, .string (bs t.text), .int .i64 t.pos]
def itokCells (l : List ITok) : List Value := l.flatMap itokC
def toI (t : Tok) : ITok := ⟨t.kind, t.text, t.pos⟩
theorem itok_of (l : List Tok) : tokCells l = itokCells (l.map toI) := by
  simp only [tokCells, itokCells, List.flatMap_map]
  rfl
theorem keyI_toI (l : List Tok) : (l.map toI).map keyI = l.map keyT := by simp [keyI, toI, keyT]
theorem itokCells_get (l : List ITok) (i : Nat) (hi : i < l.length) : (itokCells l)[i * 3]? = some (.int .i64 l[i].kind) ∧ (itokCells l)[i * 3 + 1]? = some (.string (bs l[i].text)) ∧ (itokCells l)[i * 3 + 2]? = some (.int .i64 l[i].pos) := by
  induction l generalizing i with
  | nil => simp at hi
  | cons t l ih =>
    have e : itokCells (t :: l) = itokC t ++ itokCells l := by simp [itokCells]
    rw [e]
    match i with
    | 0 => simp [itokC]
    | i + 1 =>
      have := ih i (by simpa using hi)
      have h3 : (itokC t).length = 3 := rfl
      have e1 : (i + 1) * 3 = 3 + i * 3 := by omega
      rw [List.getElem?_append_right (by omega), List.getElem?_append_right (by omega), List.getElem?_append_right (by omega), h3]
      have e2 : (i + 1) * 3 - 3 = i * 3 := by omega
      have e3 : (i + 1) * 3 + 1 - 3 = i * 3 + 1 := by omega
      have e4 : (i + 1) * 3 + 2 - 3 = i * 3 + 2 := by omega
      rw [e2, e3, e4]
      simpa using this
theorem Sl.itok {w : World} {B : Nat} {A : Option Addr} {n c : Nat} {l : List ITok} (h : Sl w B 3 (.slice A n c) n (itokCells l)) (hn : n = l.length) (i : Nat) (hi : i < n) :
    ∃ b o, A = some ⟨b, o, none⟩ ∧ b < B ∧ w.cell? ⟨b, o + i * 3, none⟩ = some (.int .i64 (l[i]'(by omega)).kind) ∧ w.cell? ⟨b, o + i * 3 + 1, none⟩ = some (.string (bs (l[i]'(by omega)).text)) ∧ w.cell? ⟨b, o + i * 3 + 2, none⟩ = some (.int .i64 (l[i]'(by omega)).pos) := by
  obtain ⟨b, o, rfl, hb, hc⟩ := h.at_ (by omega)
  obtain ⟨h0, h1, h2⟩ := itokCells_get l i (by omega)
  refine ⟨b, o, rfl, hb, hc _ _ h0, ?_, ?_⟩
  · rw [Nat.add_assoc]; exact hc _ _ h1
  · rw [Nat.add_assoc]; exact hc _ _ h2

theorem key_at {a b : List ITok} (h : a.map keyI = b.map keyI) (i : Nat) (ha : i < a.length) (hb : i < b.length) : a[i].kind = b[i].kind ∧ a[i].text = b[i].text := by
  have h1 := congrArg (fun l : List (Int × Bytes) => l[i]?) h
  simp only [List.getElem?_map, List.getElem?_eq_getElem ha, List.getElem?_eq_getElem hb, Option.map_some, Option.some.injEq, keyI, Prod.mk.injEq] at h1
  exact h1

set_option maxHeartbeats 2000000 in
theorem rsameI_eq (a b : List ITok) (va vb : Value) (B : Nat) (w : World) (n : Nat) (hna : n = a.length) (hnb : n = b.length) (ha : Sl w B 3 va n (itokCells a)) (hb : Sl w B 3 vb n (itokCells b)) (hk : a.map keyI = b.map keyI) (hn : n ≤ 140737488351232) :
    Calls Try.prog 15 #[va, vb, .bool false] w fun e w' => e = .returned (.bool true) ∧ ∃ k, w' = w.drewN k := by
  obtain ⟨A1, c1, rfl⟩ := ha.form
  obtain ⟨A2, c2, rfl⟩ := hb.form
  have HNA := Lib.hid hna
  have HNB := Lib.hid hnb
  have HA := Lib.hid ha
  have HB := Lib.hid hb
  have HK := Lib.hid hk
  clear hna hnb ha hb hk
  have hlen : ((n : Int) != n) = false := by simp
  go_enter Try.func15, Try.ntmps15
  go_wp2
  go_loopw [15] (fun a_ wr => ∃ i : Nat, i ≤ n ∧ a_ = .int .i64 i ∧ (∃ k, wr = w.drewN k)) (fun a_ _ => n - (intOf a_).toNat)
  case atStart => exact ⟨0, Nat.zero_le _, rfl, ⟨0, rfl⟩⟩
  case round =>
    obtain ⟨i, hi, rfl, ⟨k, rfl⟩⟩ := hrel
    by_cases hlt : i < n
    · have hia : i < a.length := by rw [← HNA.out]; exact hlt
      have hib : i < b.length := by rw [← HNB.out]; exact hlt
      obtain ⟨b1, o1, rfl, _, h0, h1, h2⟩ := HA.out.itok HNA.out i hlt
      obtain ⟨b2, o2, rfl, _, g0, g1, g2⟩ := HB.out.itok HNB.out i hlt
      obtain ⟨q1, q2⟩ := key_at HK.out i hia hib
      rw [← q1] at g0
      rw [← q2] at g1
      obtain ⟨kx, hkx⟩ : ∃ k, k = a[i].kind := ⟨_, rfl⟩
      obtain ⟨sx, hsx⟩ : ∃ s, s = bs a[i].text := ⟨_, rfl⟩
      rw [← hkx] at h0 g0
      rw [← hsx] at h1 g1
      clear q1 q2 hkx hsx h2 g2
      have hd : decide ((i : Int) < n) = true := by simp; omega
      have hk' : (kx != kx) = false := by simp
      have ht' : (sx.toList != sx.toList) = false := by simp
      go_wp2_with fail
      go_quiet (fail)
      go_wp2
      go_roundw
      case rel => exact ⟨i + 1, by omega, by go_num, ⟨_, rfl⟩⟩
      case measure => simp [intOf]; omega
    · go_wp2
      go_ret
      exact ⟨rfl, ⟨_, by first | exact World.drewN_drewN _ _ _ | rfl⟩⟩

/-! ### IsToken -/
theorem kind_is (K : Nat) (s : ByteArray) (hK : kindR s.data.toList = K) (hs : s.size ≤ 140737488351232) (w : World) :
    Calls Try.prog 29 #[.string s] w fun e w' => e = .returned (.int .i64 (K : Int)) ∧ Below w.heap.size w w' := by
  subst hK; exact kind_any s w hs
theorem wrong_is (K : Nat) (s : ByteArray) (hK : wrongR s.data.toList = K) (hs : s.size ≤ 140737488351232) (w : World) :
    Calls Try.prog 28 #[.string s] w fun e w' => e = .returned (.int .i64 (K : Int)) ∧ Below w.heap.size w w' := by
  subst hK; exact wrong_any s w hs

set_option maxHeartbeats 4000000 in
theorem isToken_any (k p : Int) (s : ByteArray) (r : Bool) (hr : r = isTokB ⟨k, s.data.toList, p⟩) (hs : s.size ≤ 140737488351232) (w : World) :
    Calls Try.prog 36 #[.agg #[.int .i64 k, .string s, .int .i64 p]] w fun e w' => e = .returned (.bool r) ∧ Below w.heap.size w w' := by
  obtain ⟨K, hK⟩ : ∃ K, kindR s.data.toList = K := ⟨_, rfl⟩
  obtain ⟨W, hW⟩ : ∃ W, wrongR s.data.toList = W := ⟨_, rfl⟩
  have hr' : r = (decide (K ≠ 0) && (((K : Nat) : Int) == k && W == 0)) := by rw [hr, ← hK, ← hW]; rfl
  clear hr
  have HK := Lib.hid hK
  have HW := Lib.hid hW
  have HR := Lib.hid hr'
  clear hK hW hr'
  have c0 : ∀ d os, (Go.Sort.grow (redrawn (w.alloc (.cells #[.int .i64 k, .string s, .int .i64 p] 30)) d) os).cell? ⟨w.heap.size, 0, none⟩ = some (.int .i64 k) := fun d os => cell_regrown (cell_new _ _ _ _) d os
  have c1 : ∀ d os, (Go.Sort.grow (redrawn (w.alloc (.cells #[.int .i64 k, .string s, .int .i64 p] 30)) d) os).cell? ⟨w.heap.size, 1, none⟩ = some (.string s) := fun d os => cell_regrown (cell_new _ _ _ _) d os
  have cb : Below w.heap.size w (w.alloc (.cells #[.int .i64 k, .string s, .int .i64 p] 30)) := (Below.refl _ w).alloc (Nat.le_refl _) _
  have cs : w.heap.size ≤ (w.alloc (.cells #[.int .i64 k, .string s, .int .i64 p] 30)).heap.size := by simp
  have fin : ∀ d os, Below w.heap.size w (Go.Sort.grow (redrawn (w.alloc (.cells #[.int .i64 k, .string s, .int .i64 p] 30)) d) os) := fun d os => cb.trans ((below_regrown _ d os).mono cs)
  have HKc := Lib.hid (fun w => kind_is K s HK.out hs w)
  have HWc := Lib.hid (fun w => wrong_is W s HW.out hs w)
  have Fin := Lib.hid fin
  clear cb cs fin
  rcases (show (K = 0) ∨ (K ≠ 0 ∧ (K : Int) ≠ k) ∨ (K ≠ 0 ∧ (K : Int) = k ∧ W = 0) ∨ (K ≠ 0 ∧ (K : Int) = k ∧ W ≠ 0) by omega) with h1 | ⟨h1, h2⟩ | ⟨h1, h2, h3⟩ | ⟨h1, h2, h3⟩
  · have g1 : ((K : Int) != 0) = false := by simp; omega
    have HF := Lib.hid (show r = false by rw [HR.out]; simp [h1])
    clear h1
    go_enter Try.func36, Try.ntmps36
    go_wp2_with fail
    refine wp_region_quiet_below (by kernel_rfl) (by kernel_rfl) ?_
    repeat (quiet_step (exact Calls.regrown_of (HKc.out _)))
    refine wpQuiet_nil ?_
    rintro _ ⟨⟨d, os⟩, rfl⟩
    go_wp2; go_ret; exact ⟨ret_bool HF.out.symm, Fin.out _ _⟩
  · have g1 : ((K : Int) != 0) = true := by simp; omega
    have g2 : ((K : Int) == k) = false := by simpa using h2
    have HF := Lib.hid (show r = false by rw [HR.out, g2]; simp)
    clear h1 h2
    go_enter Try.func36, Try.ntmps36
    go_wp2_with fail
    refine wp_region_quiet_below (by kernel_rfl) (by kernel_rfl) ?_
    repeat (quiet_step (exact Calls.regrown_of (HKc.out _)))
    refine wpQuiet_nil ?_
    rintro _ ⟨⟨d, os⟩, rfl⟩
    go_wp2; go_ret; exact ⟨ret_bool HF.out.symm, Fin.out _ _⟩
  · have g1 : ((K : Int) != 0) = true := by simp; omega
    have g2 : ((K : Int) == k) = true := by simpa using h2
    have g3 : ((W : Int) == 0) = true := by simp; omega
    have HF := Lib.hid (show r = true by rw [HR.out, g2]; simp [h1, h3])
    clear h1 h2 h3
    go_enter Try.func36, Try.ntmps36
    go_wp2_with fail
    refine wp_region_quiet_below (by kernel_rfl) (by kernel_rfl) ?_
    repeat (quiet_step (first | exact Calls.regrown_of (HKc.out _) | exact Calls.regrown_of (HWc.out _)))
    refine wpQuiet_nil ?_
    rintro _ ⟨⟨d, os⟩, rfl⟩
    go_wp2; go_ret; exact ⟨ret_bool HF.out.symm, Fin.out _ _⟩
  · have g1 : ((K : Int) != 0) = true := by simp; omega
    have g2 : ((K : Int) == k) = true := by simpa using h2
    have g3 : ((W : Int) == 0) = false := by simp; omega
    have HF := Lib.hid (show r = false by rw [HR.out, g2]; simp [h1, h3])
    clear h1 h2 h3
    go_enter Try.func36, Try.ntmps36
    go_wp2_with fail
    refine wp_region_quiet_below (by kernel_rfl) (by kernel_rfl) ?_
    repeat (quiet_step (first | exact Calls.regrown_of (HKc.out _) | exact Calls.regrown_of (HWc.out _)))
    refine wpQuiet_nil ?_
    rintro _ ⟨⟨d, os⟩, rfl⟩
    go_wp2; go_ret; exact ⟨ret_bool HF.out.symm, Fin.out _ _⟩
end Go.Proofs.Ytnfbmclaenodaaa
