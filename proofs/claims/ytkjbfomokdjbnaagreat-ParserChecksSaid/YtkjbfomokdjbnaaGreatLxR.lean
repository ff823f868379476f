/-
  Walks of the lexer's reference: digit, letter, Blank, number, name, words, signs, Has, IsWord, kind.
-/
import Derived.Test.YtkjbfomokdjbnaaGreatLxC
import Derived.Test.YtkjbfomokdjbnaaGreatLxPlain
import Derived.Deep.QuietTactic
import Derived.BigQuiet
namespace Go.Proofs.YtkjbfomokdjbnaaGreat
open Go.RowKit Lx
set_option linter.unusedSimpArgs false
set_option linter.unusedVariables false

theorem numB_pos (s : ByteArray) (h0 : 0 < s.size) (h : ∀ j (h : j < s.size), dig s[j] = true) : numB s.data.toList = true := by
  have hne : s.data.toList.isEmpty = false := by
    have e := drop_cons s 0 h0
    rw [List.drop_zero] at e
    rw [e]; rfl
  unfold numB
  rw [hne]
  simp only [Bool.not_false, Bool.true_and, List.all_eq_true]
  intro c hc
  obtain ⟨j, hj, rfl⟩ := List.getElem_of_mem hc
  exact h j hj
theorem numB_neg (s : ByteArray) (j : Nat) (hj : j < s.size) (h : dig s[j] = false) : numB s.data.toList = false := by
  unfold numB
  have : s.data.toList.all dig = false := by
    rw [List.all_eq_false]
    exact ⟨s.data.toList[j]'hj, List.getElem_mem _, by rw [get_list s j hj, h]; decide⟩
  rw [this, Bool.and_false]
theorem numB_nil (s : ByteArray) (h0 : s.size = 0) : numB s.data.toList = false := by
  have : s.data.toList = [] := List.eq_nil_of_length_eq_zero (by rw [size_len]; exact h0)
  rw [this]; rfl

theorem nameB_neg0 (s : ByteArray) (hj : 0 < s.size) (h : ltr s[0] = false) : nameB s.data.toList = false := by
  have e := drop_cons s 0 hj
  rw [List.drop_zero] at e
  rw [e]
  simp [nameB, h]
theorem nameB_neg (s : ByteArray) (j : Nat) (hj : j < s.size) (h : aln s[j] = false) : nameB s.data.toList = false := by
  have e := drop_cons s 0 (by omega)
  rw [List.drop_zero] at e
  by_cases hj0 : j = 0
  · subst hj0
    refine nameB_neg0 s hj ?_
    unfold aln at h
    simp at h
    exact h.1
  · have hm : s[j] ∈ s.data.toList.drop 1 := by
      rw [List.mem_iff_getElem]
      refine ⟨j - 1, by rw [List.length_drop, size_len]; omega, ?_⟩
      rw [List.getElem_drop]
      have e1 : 1 + (j - 1) = j := by omega
      simp only [e1]
      rfl
    have : (s.data.toList.drop 1).all aln = false := by
      rw [List.all_eq_false]
      exact ⟨_, hm, by rw [h]; decide⟩
    rw [e]
    show (ltr s[0] && (s.data.toList.drop 1).all aln) = false
    rw [this, Bool.and_false]
theorem nameB_nil (s : ByteArray) (h0 : s.size = 0) : nameB s.data.toList = false := by
  have : s.data.toList = [] := List.eq_nil_of_length_eq_zero (by rw [size_len]; exact h0)
  rw [this]; rfl
theorem nameB_pos (s : ByteArray) (h0 : 0 < s.size) (h : ∀ j (h : j < s.size), aln s[j] = true ∧ (j = 0 → ltr s[j] = true)) : nameB s.data.toList = true := by
  have e := drop_cons s 0 h0
  rw [List.drop_zero] at e
  rw [e]
  show (ltr s[0] && (s.data.toList.drop 1).all aln) = true
  rw [(h 0 h0).2 rfl, Bool.true_and, List.all_eq_true]
  intro c hc
  obtain ⟨j, hj, rfl⟩ := List.getElem_of_mem (List.mem_of_mem_drop hc)
  exact (h j hj).1

/-! ### lists of strings -/
def hasB (strs : List Bytes) (l : Bytes) : Bool := strs.contains l
def strV (l : Bytes) : Value := .string (bs l)

theorem contains_at (strs : List Bytes) (l : Bytes) (i : Nat) (hi : i < strs.length) (h : strs[i] = l) : hasB strs l = true := by
  unfold hasB
  rw [List.contains_iff_mem, ← h]; exact List.getElem_mem _
theorem contains_not (strs : List Bytes) (l : Bytes) (h : ∀ j (h : j < strs.length), strs[j] ≠ l) : hasB strs l = false := by
  unfold hasB
  rw [Bool.eq_false_iff]
  intro hc
  rw [List.contains_iff_mem] at hc
  obtain ⟨j, hj, e⟩ := List.getElem_of_mem hc
  exact h j hj e

end Go.Proofs.YtkjbfomokdjbnaaGreat

/-
  Walks of the lexer's reference: IsWord, kind, longest, wrong, Before, Lex, Same.
-/
namespace Go.Proofs.YtkjbfomokdjbnaaGreat
open Go.RowKit Lx
set_option linter.unusedSimpArgs false
set_option linter.unusedVariables false

theorem size_own {a w : World} (h : Below a.heap.size a w) : a.heap.size ≤ w.heap.size := h.size

theorem kindR_1 {l : Bytes} (h : numB l = true) : kindR l = 1 := by unfold kindR; rw [if_pos h]
theorem kindR_3 {l : Bytes} (h : numB l = false) (h2 : nameB l = true) (h3 : isWord l = true) : kindR l = 3 := by unfold kindR; rw [h, h2, h3]; rfl
theorem kindR_2 {l : Bytes} (h : numB l = false) (h2 : nameB l = true) (h3 : isWord l = false) : kindR l = 2 := by unfold kindR; rw [h, h2, h3]; rfl
theorem kindR_4 {l : Bytes} (h : numB l = false) (h2 : nameB l = false) (h3 : isSign l = true) : kindR l = 4 := by unfold kindR; rw [h, h2, h3]; rfl
theorem kindR_0 {l : Bytes} (h : numB l = false) (h2 : nameB l = false) (h3 : isSign l = false) : kindR l = 0 := by unfold kindR; rw [h, h2, h3]; rfl

theorem bs_extract0 (s : ByteArray) (n : Nat) : (s.extract 0 n).data.toList = s.data.toList.take n := by rw [extract_drop, List.drop_zero, Nat.sub_zero]

theorem wrongR_6 {l : Bytes} (h : kindR l = 1) (h1 : 1 < l.length) (h2 : (l.headD 0).toNat = 48) : wrongR l = 6 := by unfold wrongR; rw [if_pos ⟨h, h1, h2⟩]
theorem wrongR_8 {l : Bytes} (h : ¬ (kindR l = 1 ∧ 1 < l.length ∧ (l.headD 0).toNat = 48)) (h2 : (kindR l = 1 ∧ 40 < l.length) ∨ ((kindR l = 2 ∨ kindR l = 3) ∧ 16 < l.length)) : wrongR l = 8 := by unfold wrongR; rw [if_neg h, if_pos h2]
theorem wrongR_0 {l : Bytes} (h : ¬ (kindR l = 1 ∧ 1 < l.length ∧ (l.headD 0).toNat = 48)) (h2 : ¬ ((kindR l = 1 ∧ 40 < l.length) ∨ ((kindR l = 2 ∨ kindR l = 3) ∧ 16 < l.length))) : wrongR l = 0 := by unfold wrongR; rw [if_neg h, if_neg h2]

theorem head_at (s : ByteArray) (h : 0 < s.size) : s.data.toList.headD 0 = s[0] := by
  have e := drop_cons s 0 h
  rw [List.drop_zero] at e
  rw [e]; rfl

end Go.Proofs.YtkjbfomokdjbnaaGreat
