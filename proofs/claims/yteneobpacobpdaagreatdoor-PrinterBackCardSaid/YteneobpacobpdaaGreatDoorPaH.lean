/-
  Chains of connectives without parentheses: what the relation gives, in plain Lean.
-/
import Derived.Test.YteneobpacobpdaaGreatDoorPaP
import Derived.Test.YteneobpacobpdaaGreatDoorLxPlain
set_option linter.unusedSimpArgs false
set_option linter.unusedVariables false
namespace Go.Proofs.YteneobpacobpdaaGreatDoor
open Go.RowKit
namespace Pa
open Lx Fm Dc
def opW (k : Nat) : Bytes := if k = 0 then wAnd else if k = 1 then wOr else if k = 2 then wImplies else wIff
def kt (t : Tok) : Nat × Bytes := (t.kind, t.text)
def tl (ops : List Nat) : List (Nat × Bytes) := ops.flatMap fun k => [(3, opW k), (3, wTrue)]
section
variable {T : List Tok} {s : PS}
end
end Pa
end Go.Proofs.YteneobpacobpdaaGreatDoor
namespace Go.Proofs.YteneobpacobpdaaGreatDoor
open Go.RowKit
namespace Pa
open Lx Fm Dc
theorem run_all (p : UInt8 → Bool) (w rest : Bytes) (hw : w.all p = true) (hr : run p rest = 0) : run p (w ++ rest) = w.length := by
 induction w with
 | nil => exact hr
 | cons c w ih =>
  simp only [List.all_cons, Bool.and_eq_true] at hw
  rw [List.cons_append, run_cons, if_pos hw.1, ih hw.2]; rfl
structure Wd (w : Bytes) : Prop where
 wd : isWord w = true
 all : w.all aln = true
 len : w.length ≤ 16
 hd : ∃ c r, w = c :: r ∧ dig c = false ∧ ltr c = true ∧ bl c = false
theorem next_wd (w rest : Bytes) (h : Wd w) (hr : run aln rest = 0) : next (w ++ rest) = (3, w.length, 0) := by
 obtain ⟨c, r, rfl, h1, h2, h3⟩ := h.hd
 have e := run_all aln (c :: r) rest h.all hr
 have hl := h.len
 have hw := h.wd
 rw [List.cons_append] at e ⊢
 unfold next
 dsimp only
 rw [if_neg (by rw [h1]; simp), if_pos h2, e, if_neg (by omega)]
 have ht : (c :: (r ++ rest)).take (c :: r).length = c :: r := by rw [← List.cons_append]; exact List.take_left
 rw [ht, if_pos hw]
theorem bl_wd (w rest : Bytes) (h : Wd w) (hr : run aln rest = 0) (p : Nat) : lexBl p (w ++ rest) = (⟨3, w, p⟩ :: (lexBl (p + w.length) rest).1, (lexBl (p + w.length) rest).2) := by
 have hn := next_wd w rest h hr
 obtain ⟨c, r, rfl, h1, h2, h3⟩ := h.hd
 rw [List.cons_append] at hn ⊢
 rw [lexBl_non _ _ _ h3, lexA_ok' _ _ (by simp) (by rw [hn]), hn]
 dsimp only
 have ht : (c :: (r ++ rest)).take (c :: r).length = c :: r := by rw [← List.cons_append]; exact List.take_left
 have hdr : (c :: (r ++ rest)).drop (c :: r).length = rest := by rw [← List.cons_append]; exact List.drop_left
 rw [ht, hdr]
theorem wd_true : Wd wTrue := ⟨by decide, by decide, by decide, _, _, rfl, by decide, by decide, by decide⟩
theorem wd_op (k : Nat) : Wd (opW k) := by
 unfold opW
 split
 ·exact ⟨by decide, by decide, by decide, _, _, rfl, by decide, by decide, by decide⟩
 ·split
  ·exact ⟨by decide, by decide, by decide, _, _, rfl, by decide, by decide, by decide⟩
  ·split
   ·exact ⟨by decide, by decide, by decide, _, _, rfl, by decide, by decide, by decide⟩
   ·exact ⟨by decide, by decide, by decide, _, _, rfl, by decide, by decide, by decide⟩
end Pa
end Go.Proofs.YteneobpacobpdaaGreatDoor
