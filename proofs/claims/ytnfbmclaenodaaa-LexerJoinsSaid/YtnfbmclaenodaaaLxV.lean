/-
  Small laws for the walks of the lexer's laws: what Lex leaves, opened for a caller; bounds on offsets.
-/
import Derived.Test.YtnfbmclaenodaaaLxU
import Derived.Test.YtnfbmclaenodaaaLxPlainE
namespace Go.Proofs.Ytnfbmclaenodaaa
open Go.RowKit Lx
set_option linter.unusedSimpArgs false
set_option linter.unusedVariables false

theorem placed_mem (s : Bytes) : ∀ (L : List Tok) (p : Nat), Placed s p L → ∀ t ∈ L, t.pos + t.text.length ≤ s.length ∧ 1 ≤ t.text.length := by
  intro L
  induction L with
  | nil => intro p _ t ht; simp at ht
  | cons u L ih =>
    intro p ⟨h1, h2, h3, h4, h5, h6⟩ t ht
    rcases List.mem_cons.1 ht with rfl | ht
    · exact ⟨h3, h2⟩
    · exact ih _ h6 t ht

theorem lex_err_nil (s : Bytes) (h : (lex s).2.2 ≠ 0) : (lex s).1 = [] := by
  unfold lex at h ⊢
  split at h
  · rename_i h0; rw [if_pos h0]
  · rename_i h0
    rw [if_neg h0]
    split at h
    · exact absurd rfl h
    · rename_i h1; rw [if_neg h1]
theorem lex_mem (s : Bytes) (t : Tok) (ht : t ∈ (lex s).1) : t.pos + t.text.length ≤ s.length ∧ 1 ≤ t.text.length := by
  by_cases h : (lex s).2.2 = 0
  · exact placed_mem s _ 0 (placed_lex s h) t ht
  · rw [lex_err_nil s h] at ht; simp at ht
theorem lex_kind_le : ∀ (p : Nat) (r : Bytes), ∀ t ∈ (lexBl p r).1, t.kind ≤ 4 := by
  refine lexBl_ind (P := fun p r => ∀ t ∈ (lexBl p r).1, t.kind ≤ 4) ?_ ?_ ?_ ?_
  · intro p t ht; rw [lexBl_nil] at ht; simp at ht
  · intro p c r hb ih t ht
    rw [lexBl_blank _ _ _ hb] at ht
    exact ih t ht
  · intro p c r hb hn t ht
    rw [lexBl_non _ _ _ hb, lexA_err _ _ (by simp) hn] at ht; simp at ht
  · intro p c r hb hn ih t ht
    rw [lexBl_non _ _ _ hb, lexA_ok' _ _ (by simp) hn] at ht
    rcases List.mem_cons.1 ht with rfl | ht
    · show (next (c :: r)).1 ≤ 4
      unfold next
      dsimp only
      split
      · split
        · simp
        · split <;> simp
      · split
        · split
          · simp
          · dsimp only; split <;> omega
        · split <;> simp
    · exact ih t ht

/-- what Lex leaves, for a caller: the slice reads as the tokens, the error, and the world -/
theorem lex_calls (s : ByteArray) (w : World) (hs : s.size ≤ 140737488351232) :
    Calls Try.prog 13 #[.string s] w fun e w' => ∃ A c, e = .returned (.tuple #[.slice A (lex s.data.toList).1.length c, .int .i64 (((lex s.data.toList).2.1 : Nat) : Int), .int .i64 (((lex s.data.toList).2.2 : Nat) : Int)]) ∧
      Sl w' w'.heap.size 3 (.slice A (lex s.data.toList).1.length c) (lex s.data.toList).1.length (tokCells (lex s.data.toList).1) ∧ Below w.heap.size w w' := by
  refine (lex_any s w hs).mono ?_
  rintro e w' ⟨v, toks, p, er, rfl, hlex, hown, hbel⟩
  rw [hlex]
  have hS := Sl.of_own hown
  obtain ⟨A, c, rfl⟩ := hS.form
  exact ⟨A, c, rfl, hS, hbel⟩

/-- the same with the answer under names -/
theorem lex_is (s : ByteArray) (hs : s.size ≤ 140737488351232) (toks : List Tok) (p er : Nat) (h : lex s.data.toList = (toks, p, er)) (n : Nat) (hn : n = toks.length) (w : World) :
    Calls Try.prog 13 #[.string s] w fun e w' => ∃ A c, e = .returned (.tuple #[.slice A n c, .int .i64 (p : Int), .int .i64 (er : Int)]) ∧
      Sl w' w'.heap.size 3 (.slice A n c) n (tokCells toks) ∧ Below w.heap.size w w' := by
  subst hn
  have := lex_calls s w hs
  rw [h] at this
  exact this
end Go.Proofs.Ytnfbmclaenodaaa
