/-
  Plain laws: where tokens stand.
-/
import Derived.Test.YtkjbfomokdjbnaaLxPlainB
namespace Go.Proofs.Ytkjbfomokdjbnaa
namespace Lx
set_option linter.unusedSimpArgs false
set_option linter.unusedVariables false

/-- The tokens stand at their offsets behind p, and only blanks stand between, before and after them. -/
def Placed (s : Bytes) : Nat → List Tok → Prop
  | p, [] => p ≤ s.length ∧ ∀ k (h : k < s.length), p ≤ k → bl s[k] = true
  | p, t :: ts => p ≤ t.pos ∧ 1 ≤ t.text.length ∧ t.pos + t.text.length ≤ s.length ∧ (∀ k (h : k < s.length), p ≤ k → k < t.pos → bl s[k] = true) ∧ t.text = (s.drop t.pos).take t.text.length ∧ Placed s (t.pos + t.text.length) ts

theorem placed_back (s : Bytes) (p : Nat) (h : p < s.length) (hb : bl s[p] = true) : ∀ L, Placed s (p + 1) L → Placed s p L := by
  intro L
  match L with
  | [] =>
    intro ⟨h1, h2⟩
    refine ⟨by omega, fun k hk hp => ?_⟩
    rcases Nat.lt_or_eq_of_le hp with g | g
    · exact h2 k hk g
    · subst g; exact hb
  | t :: ts =>
    intro ⟨h1, h2, h3, h4, h5, h6⟩
    refine ⟨by omega, h2, h3, fun k hk hp hl => ?_, h5, h6⟩
    rcases Nat.lt_or_eq_of_le hp with g | g
    · exact h4 k hk g hl
    · subst g; exact hb

theorem drop_get (s : Bytes) (p : Nat) (c : UInt8) (r : Bytes) (h : s.drop p = c :: r) : ∃ hp : p < s.length, s[p] = c ∧ s.drop (p + 1) = r := by
  have hp : p < s.length := by
    rcases Nat.lt_or_ge p s.length with g | g
    · exact g
    · rw [List.drop_eq_nil_of_le g] at h; cases h
  refine ⟨hp, ?_⟩
  rw [List.drop_eq_getElem_cons hp] at h
  injection h with h1 h2
  exact ⟨h1, h2⟩

theorem placed_of (s : Bytes) : ∀ (p : Nat) (r : Bytes), s.drop p = r → p ≤ s.length → (lexBl p r).2.2 = 0 → Placed s p (lexBl p r).1 := by
  refine lexBl_ind (P := fun p r => s.drop p = r → p ≤ s.length → (lexBl p r).2.2 = 0 → Placed s p (lexBl p r).1) ?_ ?_ ?_ ?_
  · intro p h hp _
    refine ⟨hp, fun k hk hpk => ?_⟩
    have := List.drop_eq_nil_iff.1 h
    omega
  · intro p c r hb ih h hp he
    obtain ⟨hp', h1, h2⟩ := drop_get s p c r h
    rw [lexBl_blank _ _ _ hb] at he ⊢
    exact placed_back s p hp' (by rw [h1]; exact hb) _ (ih h2 hp' he)
  · intro p c r hb hn h hp he
    rw [lexBl_non _ _ _ hb, lexA_err _ _ (by simp) hn] at he
    exact absurd he hn
  · intro p c r hb hn ih h hp he
    obtain ⟨h1, h2, _⟩ := next_ok _ hn
    rw [lexBl_non _ _ _ hb, lexA_ok' _ _ (by simp) hn] at he ⊢
    have hl : (c :: r).length = s.length - p := by rw [← h, List.length_drop]
    generalize hk : (next (c :: r)).2.1 = n at *
    have htl : ((c :: r).take n).length = n := by rw [List.length_take]; omega
    refine ⟨Nat.le_refl _, ?_, ?_, fun k _ h3 h4 => ?_, ?_, ?_⟩
    · show 1 ≤ ((c :: r).take n).length
      omega
    · show p + ((c :: r).take n).length ≤ s.length
      omega
    · have h4' : k < p := h4
      omega
    · show (c :: r).take n = (s.drop p).take ((c :: r).take n).length
      rw [h, htl]
    · show Placed s (p + ((c :: r).take n).length) _
      rw [htl]
      exact ih (by rw [← List.drop_drop, h]) (by omega) he

theorem placed_lex (s : Bytes) (h : (lex s).2.2 = 0) : Placed s 0 (lex s).1 := by
  unfold lex at h ⊢
  split at h
  · simp at h
  · rename_i h0
    rw [if_neg h0]
    split at h
    · rename_i h1
      rw [if_pos h1]
      rw [before_bl] at h1 ⊢
      exact placed_of s 0 s (List.drop_zero) (Nat.zero_le _) h1
    · rename_i h1; exact absurd h h1
end Lx
end Go.Proofs.Ytkjbfomokdjbnaa
