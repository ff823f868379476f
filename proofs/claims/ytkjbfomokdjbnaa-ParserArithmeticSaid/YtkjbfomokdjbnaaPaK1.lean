/-
  The text of a chain: its tokens.
-/
import Derived.Test.YtkjbfomokdjbnaaPaH
namespace Go.Proofs.Ytkjbfomokdjbnaa
open Go.RowKit
set_option linter.unusedSimpArgs false
set_option linter.unusedVariables false
namespace Pa
open Lx Fm Dc
theorem run_all (p : UInt8 → Bool) (w rest : Bytes) (hw : w.all p = true) (hr : run p rest = 0) : run p (w ++ rest) = w.length := by
  induction w with
  | nil => exact hr
  | cons c w ih =>
    simp only [List.all_cons, Bool.and_eq_true] at hw
    rw [List.cons_append, run_cons, if_pos hw.1, ih hw.2]; rfl
/-- a word, behind which no letter stands -/
structure Wd (w : Bytes) : Prop where
  wd : isWord w = true
  all : w.all aln = true
  len : w.length ≤ 16
  hd : ∃ c r, w = c :: r ∧ dig c = false ∧ ltr c = true ∧ bl c = false
theorem next_wd (w rest : Bytes) (h : Wd w) (hr : run aln rest = 0) : next (w ++ rest) = (3, w.length, 0) := by
  obtain ⟨c, r, rfl, h1, h2, h3⟩ := h.hd
  have e := run_all aln (c :: r) rest h.all hr
  have hl := h.len
  have hw := h.wd
  rw [List.cons_append] at e ⊢
  unfold next
  dsimp only
  rw [if_neg (by rw [h1]; simp), if_pos h2, e, if_neg (by omega)]
  have ht : (c :: (r ++ rest)).take (c :: r).length = c :: r := by rw [← List.cons_append]; exact List.take_left
  rw [ht, if_pos hw]
theorem bl_wd (w rest : Bytes) (h : Wd w) (hr : run aln rest = 0) (p : Nat) : lexBl p (w ++ rest) = (⟨3, w, p⟩ :: (lexBl (p + w.length) rest).1, (lexBl (p + w.length) rest).2) := by
  have hn := next_wd w rest h hr
  obtain ⟨c, r, rfl, h1, h2, h3⟩ := h.hd
  rw [List.cons_append] at hn ⊢
  rw [lexBl_non _ _ _ h3, lexA_ok' _ _ (by simp) (by rw [hn]), hn]
  dsimp only
  have ht : (c :: (r ++ rest)).take (c :: r).length = c :: r := by rw [← List.cons_append]; exact List.take_left
  have hdr : (c :: (r ++ rest)).drop (c :: r).length = rest := by rw [← List.cons_append]; exact List.drop_left
  rw [ht, hdr]
theorem wd_true : Wd wTrue := ⟨by decide, by decide, by decide, _, _, rfl, by decide, by decide, by decide⟩
theorem wd_op (k : Nat) : Wd (opW k) := by
  unfold opW
  split
  · exact ⟨by decide, by decide, by decide, _, _, rfl, by decide, by decide, by decide⟩
  · split
    · exact ⟨by decide, by decide, by decide, _, _, rfl, by decide, by decide, by decide⟩
    · split
      · exact ⟨by decide, by decide, by decide, _, _, rfl, by decide, by decide, by decide⟩
      · exact ⟨by decide, by decide, by decide, _, _, rfl, by decide, by decide, by decide⟩
/-- the text behind the first true -/
def tlS (ops : List Nat) : Bytes := ops.flatMap fun k => 32 :: (opW k ++ 32 :: wTrue)
theorem tlS_cons (k : Nat) (r : List Nat) : tlS (k :: r) = 32 :: (opW k ++ 32 :: (wTrue ++ tlS r)) := by simp [tlS]
theorem run_tlS (ops : List Nat) : run aln (tlS ops) = 0 := by
  match ops with
  | [] => rfl
  | k :: r => rw [tlS_cons, run_cons, if_neg (by decide)]
theorem bl_tl : ∀ (ops : List Nat) (p : Nat), (lexBl p (tlS ops)).2 = (0, 0) ∧ (lexBl p (tlS ops)).1.map kt = tl ops := by
  intro ops
  induction ops with
  | nil => intro p; exact ⟨rfl, rfl⟩
  | cons k r ih =>
    intro p
    rw [tlS_cons, lexBl_blank _ _ _ (by decide), bl_wd _ _ (wd_op k) (by rw [run_cons, if_neg (by decide)]), lexBl_blank _ _ _ (by decide), bl_wd _ _ wd_true (run_tlS r)]
    obtain ⟨h1, h2⟩ := ih (p + 1 + (opW k).length + 1 + wTrue.length)
    refine ⟨h1, ?_⟩
    rw [List.map_cons, List.map_cons, h2, tl_cons]
    rfl
def chS (ops : List Nat) : Bytes := wTrue ++ tlS ops
theorem chS_len (ops : List Nat) : (chS ops).length ≤ 4 + 13 * ops.length := by
  unfold chS
  rw [List.length_append]
  show 4 + _ ≤ _
  have : (tlS ops).length ≤ 13 * ops.length := by
    induction ops with
    | nil => exact Nat.le_refl _
    | cons k r ih =>
      rw [tlS_cons]
      have : (opW k).length ≤ 7 := by unfold opW; split; decide; split; decide; split <;> decide
      simp only [List.length_cons, List.length_append]
      have e : wTrue.length = 4 := rfl
      omega
  omega
theorem lex_chS (ops : List Nat) (hl : ops.length ≤ 15) : ∃ T, lex (chS ops) = (T, 0, 0) ∧ T.map kt = (3, wTrue) :: tl ops := by
  have hlen := chS_len ops
  rw [lex_small _ (by omega)]
  unfold chS
  rw [bl_wd _ _ wd_true (run_tlS ops)]
  obtain ⟨h1, h2⟩ := bl_tl ops (0 + wTrue.length)
  rw [h1, if_pos rfl]
  exact ⟨_, rfl, by rw [List.map_cons, h2]; rfl⟩
end Pa
end Go.Proofs.Ytkjbfomokdjbnaa
