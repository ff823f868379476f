/-
  Plain laws: a text that is one token.
-/
import Derived.Test.YtnfbmclaenodaaaLxPlainE
namespace Go.Proofs.Ytnfbmclaenodaaa
namespace Lx
set_option linter.unusedSimpArgs false
set_option linter.unusedVariables false

/-- the tokens of a text are one token, the text itself, exactly if the head's token is the text -/
theorem lex_one (s : Bytes) (h : s.length ≤ 4000) (t : Tok) (hl : (lex s).1 = [t]) (ht : t.text = s) : next s = (t.kind, s.length, 0) ∧ s ≠ [] := by
  have hok : (lexBl 0 s).2.2 = 0 := by
    by_cases hz : (lexBl 0 s).2.2 = 0
    · exact hz
    · rw [lex_small s h, if_neg hz] at hl; simp at hl
  rw [lex_small s h, if_pos hok] at hl
  have hl' : (lexBl 0 s).1 = [t] := hl
  match s with
  | [] => rw [lexBl_nil] at hl'; simp at hl'
  | c :: r =>
    refine ⟨?_, by simp⟩
    have hpl := placed_of (c :: r) 0 (c :: r) (List.drop_zero) (Nat.zero_le _) hok
    rw [hl'] at hpl
    obtain ⟨g1, g2, g3, g4, g5, g6⟩ := hpl
    have hp0 : t.pos = 0 := by rw [ht] at g3; omega
    by_cases hb : bl c = true
    · rw [lexBl_blank _ _ _ hb] at hl'
      have := lexBl_pos (0 + 1) r t (by rw [hl']; simp)
      omega
    · have hb' : bl c = false := by simpa using hb
      rw [lexBl_non _ _ _ hb'] at hl' hok
      by_cases hn : (next (c :: r)).2.2 = 0
      · rw [lexA_ok' _ _ (by simp) hn] at hl'
        have hl2 : (⟨(next (c :: r)).1, (c :: r).take (next (c :: r)).2.1, 0⟩ : Tok) :: (lexBl (0 + (next (c :: r)).2.1) ((c :: r).drop (next (c :: r)).2.1)).1 = [t] := hl'
        injection hl2 with h1 h2
        obtain ⟨q1, q2, _⟩ := next_ok _ hn
        rw [← h1] at ht
        have ht' : (c :: r).take (next (c :: r)).2.1 = c :: r := ht
        have hlen : (next (c :: r)).2.1 = (c :: r).length := by
          have := congrArg List.length ht'
          rw [List.length_take] at this
          omega
        rw [← h1, ← hlen]
        show next (c :: r) = ((next (c :: r)).1, (next (c :: r)).2.1, 0)
        rw [← hn]
      · rw [lexA_err _ _ (by simp) hn] at hok
        exact absurd hok hn

theorem lex_one_of (s : Bytes) (h : s.length ≤ 4000) (h0 : s ≠ []) (k : Nat) (hn : next s = (k, s.length, 0)) : lex s = ([⟨k, s, 0⟩], 0, 0) := by
  match s, h0 with
  | c :: r, _ =>
    have hb := next_head c r (by rw [hn])
    have e : lexBl 0 (c :: r) = ([⟨k, c :: r, 0⟩], 0, 0) := by
      rw [lexBl_non _ _ _ hb, lexA_ok' _ _ (by simp) (by rw [hn]), hn]
      dsimp only
      rw [List.take_of_length_le (Nat.le_refl _), List.drop_eq_nil_of_le (Nat.le_refl _), lexBl_nil]
    rw [lex_small _ h, e]
    rfl

theorem words_next : ∀ w ∈ words, next w = (3, w.length, 0) := by
  intro w hw
  unfold words at hw
  simp only [List.mem_cons, List.not_mem_nil, or_false] at hw
  rcases hw with rfl | rfl | rfl | rfl | rfl | rfl | rfl | rfl | rfl <;> rfl
theorem next_word (s : Bytes) (h : isWord s = true) : next s = (3, s.length, 0) ∧ s ≠ [] := by
  unfold isWord at h
  rw [List.contains_iff_mem] at h
  refine ⟨words_next s h, ?_⟩
  rintro rfl
  unfold words at h
  simp at h

theorem kind3_word (s : Bytes) (hn : next s = (3, s.length, 0)) (h0 : s ≠ []) : isWord s = true := by
  match s, h0 with
  | c :: r, _ =>
    unfold next at hn
    dsimp only at hn
    split at hn
    · split at hn
      · injection hn with h1 h2; injection h1
      · split at hn
        · injection hn with h1 h2; injection h1
        · injection hn with h1 h2; injection h1 with h1; injection h1
    · split at hn
      · split at hn
        · injection hn with h1 h2; injection h1
        · injection hn with h1 h2
          injection h2 with h2 h3
          rw [h2, List.take_of_length_le (Nat.le_refl _)] at h1
          by_cases hw : isWord (c :: r) = true
          · exact hw
          · rw [if_neg hw] at h1; simp at h1
      · split at hn
        · injection hn with h1 h2; simp at h1
        · injection hn with h1 h2; simp at h1
end Lx
end Go.Proofs.Ytnfbmclaenodaaa
