/-
  Chapter 37's laws: right; the reference's Canon; ranges of numbers and lengths of texts.
-/
import Derived.Test.YteneobpacobpdaaGreatDoorPl
import Derived.Test.YteneobpacobpdaaGreatDoorFmOpn
import Derived.Test.YteneobpacobpdaaGreatDoorPrG
import Derived.Test.YteneobpacobpdaaGreatDoorFmZ
import Derived.Test.YteneobpacobpdaaGreatDoorFmG
namespace Go.Proofs.YteneobpacobpdaaGreatDoor
open Go.RowKit
set_option linter.unusedSimpArgs false
set_option linter.unusedVariables false
namespace Pr
open Fm Dc Pl
attribute [local go_sem] run_store

/-! ### numbers replaced, on trees and on terms -/
/-! ### ranges and lengths -/
def bdT : Tm → Prop
  | .num _ l => l.length ≤ 20 ∧ ∀ x ∈ l, x < 4294967296
  | .name s => s.size ≤ 40
  | .add l r => bdT l ∧ bdT r
  | .sub l r => bdT l ∧ bdT r
  | .mul l r => bdT l ∧ bdT r
  | .neg t => bdT t
  | .pow t e => bdT t ∧ e ≤ 9223372036854775807
  | .odd => True
def bdF : Fo → Prop
  | .atom l _ r => bdT l ∧ bdT r
  | .not f => bdF f
  | .and l r => bdF l ∧ bdF r
  | .or l r => bdF l ∧ bdF r
  | .implies l r => bdF l ∧ bdF r
  | .iff l r => bdF l ∧ bdF r
  | .quant _ n f => n.size ≤ 40 ∧ bdF f
  | _ => True
theorem fmt_len (neg : Bool) (N k : Nat) (hk : 1 ≤ k) (h : (revd N).length ≤ k) : (fmtS neg N).data.toList.length ≤ k + 1 := by
  show (fmtL neg N).length ≤ k + 1
  unfold fmtL
  split
  · simp
  · rw [List.length_append, List.length_map, List.length_reverse]
    split <;> simp <;> omega
theorem par_le (b : Bool) (s : List UInt8) : (par b s).length ≤ s.length + 2 := by
  unfold par; split <;> simp
theorem txt_len : ∀ t : Tm, bdT t → (txtT t).length ≤ 300 * tn t
  | .odd, _ => Nat.zero_le _
  | .num n l, h => by
    have := fmt_len n (valN l) 200 (by decide) (by have := revd_len_val l h.2; have := h.1; omega)
    show (fmtS n (valN l)).data.toList.length ≤ 300 * 1
    omega
  | .name s, h => by
    have : s.data.toList.length = s.size := rfl
    have h' : s.size ≤ 40 := h
    show s.data.toList.length ≤ 300 * 1
    omega
  | .add l r, h => by
    have h1 := txt_len l h.1
    have h2 := txt_len r h.2
    have h3 := par_le (decide (strT l < 1)) (txtT l)
    have h4 := par_le (decide (strT r < 2)) (txtT r)
    unfold txtT tn
    simp only [List.length_append, List.length_cons, List.length_nil]
    omega
  | .sub l r, h => by
    have h1 := txt_len l h.1
    have h2 := txt_len r h.2
    have h3 := par_le (decide (strT l < 1)) (txtT l)
    have h4 := par_le (decide (strT r < 2)) (txtT r)
    unfold txtT tn
    simp only [List.length_append, List.length_cons, List.length_nil]
    omega
  | .mul l r, h => by
    have h1 := txt_len l h.1
    have h2 := txt_len r h.2
    have h3 := par_le (decide (strT l < 2)) (txtT l)
    have h4 := par_le (decide (strT r < 3)) (txtT r)
    unfold txtT tn
    simp only [List.length_append, List.length_cons, List.length_nil]
    omega
  | .neg t, h => by
    have h1 := txt_len t h
    have h3 := par_le (decide (strT t < 3)) (txtT t)
    unfold txtT tn
    simp only [List.length_cons]
    omega
  | .pow t e, h => by
    have h1 := txt_len t h.1
    have h3 := par_le (decide (strT t < 5)) (txtT t)
    have h5 := fmt_len false e.toNat 40 (by decide) (revd_len 40 _ (Nat.lt_of_le_of_lt (m := 9223372036854775807) (by have := h.2; omega) (by decide)))
    unfold txtT tn
    simp only [List.length_append, List.length_cons]
    omega
theorem relS_len (e : Int) : (relS e).length ≤ 2 := by
  unfold relS
  split; decide
  split; decide
  split; decide
  split; decide
  split <;> decide
theorem txtF_len : ∀ f : Fo, bdF f → (txtF f).length ≤ 300 * fnn f
  | .odd, _ => Nat.zero_le _
  | .truth b, _ => by cases b <;> decide
  | .atom l e r, h => by
    have h1 := txt_len l h.1
    have h2 := txt_len r h.2
    have h3 := par_le (decide (strT l < 1)) (txtT l)
    have h4 := par_le (decide (strT r < 1)) (txtT r)
    have h5 := relS_len e
    unfold txtF fnn inT
    simp only [List.length_append, List.length_cons, List.length_nil]
    omega
  | .not f, h => by
    have h1 := txtF_len f h
    have h3 := par_le (decide (strF f < 5)) (txtF f)
    unfold txtF fnn
    simp only [List.length_append, List.length_cons, List.length_nil]
    omega
  | .and l r, h => by
    have h1 := txtF_len l h.1
    have h2 := txtF_len r h.2
    have h3 := par_le (decide (strF l < 4)) (txtF l)
    have h4 := par_le (decide (strF r < 5)) (txtF r)
    unfold txtF fnn
    simp only [List.length_append, List.length_cons, List.length_nil]
    omega
  | .or l r, h => by
    have h1 := txtF_len l h.1
    have h2 := txtF_len r h.2
    have h3 := par_le (decide (strF l < 3)) (txtF l)
    have h4 := par_le (decide (strF r < 4)) (txtF r)
    unfold txtF fnn
    simp only [List.length_append, List.length_cons, List.length_nil]
    omega
  | .implies l r, h => by
    have h1 := txtF_len l h.1
    have h2 := txtF_len r h.2
    have h3 := par_le (decide (strF l < 3)) (txtF l)
    have h4 := par_le (decide (strF r < 2)) (txtF r)
    unfold txtF fnn
    simp only [List.length_append, List.length_cons, List.length_nil]
    omega
  | .iff l r, h => by
    have h1 := txtF_len l h.1
    have h2 := txtF_len r h.2
    have h3 := par_le (decide (strF l < 1)) (txtF l)
    have h4 := par_le (decide (strF r < 2)) (txtF r)
    unfold txtF fnn
    simp only [List.length_append, List.length_cons, List.length_nil]
    omega
  | .quant a n f, h => by
    have h1 := txtF_len f h.2
    have h3 := par_le (decide (strF f < 0)) (txtF f)
    have h5 : n.data.toList.length = n.size := rfl
    have h6 := h.1
    unfold txtF fnn
    cases a <;> simp only [List.length_append, List.length_cons, List.length_nil, if_true, Bool.false_eq_true, if_false] <;> omega
theorem exp_pr : ∀ t : Tm, bdT t → ∀ e ∈ expT (prT t), 0 ≤ e ∧ e ≤ 9223372036854775807
  | .odd, _, e, he => absurd he List.not_mem_nil
  | .num n l, _, e, he => by
    have : expT (posTm (.num (normB n l) (trimN l))) = [] := by cases normB n l <;> rfl
    have he' : e ∈ expT (posTm (.num (normB n l) (trimN l))) := he
    rw [this] at he'
    exact absurd he' List.not_mem_nil
  | .name s, _, e, he => absurd he List.not_mem_nil
  | .add l r, h, e, he => by rcases List.mem_append.1 he with he | he; exact exp_pr l h.1 e he; exact exp_pr r h.2 e he
  | .sub l r, h, e, he => by rcases List.mem_append.1 he with he | he; exact exp_pr l h.1 e he; exact exp_pr r h.2 e he
  | .mul l r, h, e, he => by rcases List.mem_append.1 he with he | he; exact exp_pr l h.1 e he; exact exp_pr r h.2 e he
  | .neg t, h, e, he => exp_pr t h e he
  | .pow t x, h, e, he => by
    rcases List.mem_cons.1 he with he | he
    · subst he; have := h.2; omega
    · exact exp_pr t h.1 e he
theorem expF_pr : ∀ f : Fo, bdF f → ∀ e ∈ expF (prF f), 0 ≤ e ∧ e ≤ 9223372036854775807
  | .odd, _, e, he => absurd he List.not_mem_nil
  | .truth b, _, e, he => absurd he List.not_mem_nil
  | .atom l x r, h, e, he => by rcases List.mem_append.1 he with he | he; exact exp_pr l h.1 e he; exact exp_pr r h.2 e he
  | .not f, h, e, he => expF_pr f h e he
  | .and l r, h, e, he => by rcases List.mem_append.1 he with he | he; exact expF_pr l h.1 e he; exact expF_pr r h.2 e he
  | .or l r, h, e, he => by rcases List.mem_append.1 he with he | he; exact expF_pr l h.1 e he; exact expF_pr r h.2 e he
  | .implies l r, h, e, he => by rcases List.mem_append.1 he with he | he; exact expF_pr l h.1 e he; exact expF_pr r h.2 e he
  | .iff l r, h, e, he => by rcases List.mem_append.1 he with he | he; exact expF_pr l h.1 e he; exact expF_pr r h.2 e he
  | .quant a n f, h, e, he => expF_pr f h.2 e he
end Pr
end Go.Proofs.YteneobpacobpdaaGreatDoor
