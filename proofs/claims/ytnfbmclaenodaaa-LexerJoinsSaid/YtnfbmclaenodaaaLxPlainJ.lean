/-
  Plain laws: lists of tokens joined by blanks.
-/
import Derived.Test.YtnfbmclaenodaaaLxPlainF
import Derived.Test.YtnfbmclaenodaaaLxPlainC
namespace Go.Proofs.Ytnfbmclaenodaaa
namespace Lx
set_option linter.unusedSimpArgs false
set_option linter.unusedVariables false

/-- a token as data that came in: any kind, any offset -/
structure ITok where
  kind : Int
  text : Bytes
  pos : Int

def isTokB (t : ITok) : Bool := decide (kindR t.text ≠ 0) && (((kindR t.text : Nat) : Int) == t.kind && wrongR t.text == 0)
/-- the lexer's own test -/
def oneOf (L : List Tok) (er : Nat) (t : ITok) : Bool :=
  er == 0 && (match L with | [x] => ((x.kind : Int) == t.kind && x.text == t.text) | _ => false)
def oneB (t : ITok) : Bool := oneOf (lex t.text).1 (lex t.text).2.2 t

theorem tokLen_all (s : Bytes) (h0 : s ≠ []) : kindR s ≠ 0 ↔ tokLen s = s.length := by
  have h1 : 1 ≤ s.length := by cases s with | nil => exact absurd rfl h0 | cons _ _ => simp
  have h := kindR_take s s.length h1 (Nat.le_refl _)
  rw [List.take_of_length_le (Nat.le_refl _)] at h
  rw [h]
  have := tokLen_le s
  omega
theorem kindR_nil : kindR [] = 0 := by decide
theorem next_of_kind (s : Bytes) (h : kindR s ≠ 0) (hw : wrongR s = 0) : next s = (kindR s, s.length, 0) ∧ s ≠ [] := by
  match s with
  | [] => exact absurd kindR_nil h
  | c :: x =>
    refine ⟨?_, by simp⟩
    have ht := (tokLen_all (c :: x) (by simp)).1 h
    rw [next_ref, ht, List.take_of_length_le (Nat.le_refl _), if_neg (by simp), if_neg (by simp [hw])]
theorem kind_of_next (s : Bytes) (k : Nat) (h0 : s ≠ []) (h : next s = (k, s.length, 0)) : kindR s = k ∧ wrongR s = 0 ∧ kindR s ≠ 0 := by
  match s with
  | [] => exact absurd rfl h0
  | c :: x =>
    rw [next_ref] at h
    by_cases h1 : tokLen (c :: x) = 0
    · rw [if_pos h1] at h; simp at h
    · rw [if_neg h1] at h
      by_cases h2 : wrongR ((c :: x).take (tokLen (c :: x))) ≠ 0
      · rw [if_pos h2] at h; simp at h
      · rw [if_neg h2] at h
        simp only [Prod.mk.injEq] at h
        obtain ⟨e1, e2, _⟩ := h
        have hk := (tokLen_all (c :: x) (by simp)).2 e2
        rw [e2, List.take_of_length_le (Nat.le_refl _)] at e1 h2
        exact ⟨e1, by omega, hk⟩

theorem oneB_is (t : ITok) (h : t.text.length ≤ 4000) : oneB t = isTokB t := by
  by_cases hk : kindR t.text ≠ 0 ∧ wrongR t.text = 0
  · obtain ⟨hn, h0⟩ := next_of_kind t.text hk.1 hk.2
    have hl := lex_one_of t.text h h0 _ hn
    unfold oneB isTokB
    rw [hl]
    unfold oneOf
    rw [decide_eq_true hk.1, hk.2]
    simp
  · have hf : isTokB t = false := by
      unfold isTokB
      by_cases h1 : kindR t.text = 0
      · simp [h1]
      · have : wrongR t.text ≠ 0 := fun e => hk ⟨h1, e⟩
        simp [this]
    rw [hf]
    unfold oneB oneOf
    by_cases he : (lex t.text).2.2 = 0
    · rw [he]
      match hL : (lex t.text).1 with
      | [] => simp
      | [x] =>
        by_cases hx : x.text = t.text
        · exfalso
          obtain ⟨hn, h0⟩ := lex_one t.text h x hL hx
          obtain ⟨_, h2, h3⟩ := kind_of_next t.text x.kind h0 hn
          exact hk ⟨h3, h2⟩
        · have : (x.text == t.text) = false := by simpa using hx
          simp [this]
      | x :: y :: r => simp
    · simp [he]

/-! ### the text of a list -/
def jt : List ITok → Bytes
  | [] => []
  | t :: r => t.text ++ r.flatMap (fun t => 32 :: t.text)
theorem jt_nil : jt [] = [] := rfl
theorem jt_one (t : ITok) : jt [t] = t.text := by simp [jt]
theorem jt_snoc (l : List ITok) (t : ITok) (h : l ≠ []) : jt (l ++ [t]) = jt l ++ 32 :: t.text := by
  cases l with
  | nil => exact absurd rfl h
  | cons a r => simp [jt, List.flatMap_append]
theorem jt_le (l : List ITok) (t : ITok) : (jt l).length ≤ (jt (l ++ [t])).length := by
  cases l with
  | nil => simp [jt]
  | cons a r => rw [jt_snoc _ _ (by simp)]; simp
theorem jt_take_le (l : List ITok) (k : Nat) : (jt (l.take k)).length ≤ (jt l).length := by
  have h : ∀ d (l : List ITok) (k : Nat), l.length - k = d → (jt (l.take k)).length ≤ (jt l).length := by
    intro d
    induction d with
    | zero => intro l k h; rw [List.take_of_length_le (by omega)]; exact Nat.le_refl _
    | succ d ih =>
      intro l k h
      have := ih l (k + 1) (by omega)
      refine Nat.le_trans ?_ this
      have hk : k < l.length := by omega
      rw [List.take_succ_eq_append_getElem hk]
      exact jt_le _ _
  exact h _ l k rfl

theorem jt_bound (l : List ITok) (b : Nat) (h : ∀ t ∈ l, t.text.length ≤ b) : (jt l).length ≤ l.length * (b + 1) := by
  have hf : ∀ r : List ITok, (∀ t ∈ r, t.text.length ≤ b) → (r.flatMap (fun t => (32 : UInt8) :: t.text)).length ≤ r.length * (b + 1) := by
    intro r
    induction r with
    | nil => intro _; simp
    | cons t r ih =>
      intro h
      have h1 := h t (by simp)
      have h2 := ih (fun t ht => h t (by simp [ht]))
      rw [List.flatMap_cons, List.length_append, List.length_cons, List.length_cons, Nat.add_mul, Nat.one_mul]
      omega
  cases l with
  | nil => simp [jt]
  | cons t r =>
    have h1 := h t (by simp)
    have h2 := hf r (fun t ht => h t (by simp [ht]))
    unfold jt
    rw [List.length_append, List.length_cons, Nat.add_mul, Nat.one_mul]
    omega

def keyI (t : ITok) : Int × Bytes := (t.kind, t.text)
def keyT (t : Tok) : Int × Bytes := ((t.kind : Int), t.text)

theorem lexBl_one (p : Nat) (s : Bytes) (h0 : s ≠ []) (k : Nat) (hn : next s = (k, s.length, 0)) : lexBl p s = ([⟨k, s, p⟩], 0, 0) := by
  match s, h0 with
  | c :: r, _ =>
    have hb := next_head c r (by rw [hn])
    rw [lexBl_non _ _ _ hb, lexA_ok' _ _ (by simp) (by rw [hn]), hn]
    dsimp only
    rw [List.take_of_length_le (Nat.le_refl _), List.drop_eq_nil_of_le (Nat.le_refl _), lexBl_nil]

theorem isTok_next (t : ITok) (h : isTokB t = true) : ∃ k : Nat, (k : Int) = t.kind ∧ next t.text = (k, t.text.length, 0) ∧ t.text ≠ [] := by
  unfold isTokB at h
  simp only [Bool.and_eq_true, decide_eq_true_eq, beq_iff_eq] at h
  obtain ⟨h1, h2, h3⟩ := h
  obtain ⟨hn, h0⟩ := next_of_kind t.text h1 h3
  exact ⟨_, h2, hn, h0⟩

theorem lex_jt (l : List ITok) (h : ∀ t ∈ l, isTokB t = true) : (lexBl 0 (jt l)).2.2 = 0 ∧ (lexBl 0 (jt l)).1.map keyT = l.map keyI := by
  have key : ∀ n (l : List ITok), l.length = n → (∀ t ∈ l, isTokB t = true) → (lexBl 0 (jt l)).2.2 = 0 ∧ (lexBl 0 (jt l)).1.map keyT = l.map keyI := by
    intro n
    induction n with
    | zero => intro l hl _; have : l = [] := List.eq_nil_of_length_eq_zero hl
              subst this; exact ⟨rfl, rfl⟩
    | succ n ih =>
      intro l hl h
      rcases List.eq_nil_or_concat l with rfl | ⟨l, t, rfl⟩
      · simp at hl
      rw [List.concat_eq_append] at hl h ⊢
      rw [List.length_append, List.length_cons, List.length_nil] at hl
      obtain ⟨k, hk, hn, h0⟩ := isTok_next t (h t (by simp))
      by_cases hnil : l = []
      · subst hnil
        rw [List.nil_append, jt_one, lexBl_one 0 t.text h0 k hn]
        exact ⟨rfl, by simp [keyT, keyI, hk]⟩
      · obtain ⟨i1, i2⟩ := ih l (by omega) (fun t ht => h t (by simp [ht]))
        rw [jt_snoc l t hnil, lexBl_two 32 (by decide), if_pos i1, lexBl_one _ t.text h0 k hn]
        refine ⟨rfl, ?_⟩
        rw [List.map_append, List.map_append, i2]
        simp [keyT, keyI, hk]
  exact key _ l rfl h

theorem lex_join (l : List ITok) (h : ∀ t ∈ l, isTokB t = true) (hl : (jt l).length ≤ 4000) : ∃ toks, lex (jt l) = (toks, 0, 0) ∧ toks.map keyT = l.map keyI := by
  obtain ⟨h1, h2⟩ := lex_jt l h
  refine ⟨_, ?_, h2⟩
  rw [lex_small _ hl, if_pos h1]

/-- what Join gives -/
def joinOk (l : List ITok) : Bool := l.all isTokB && decide ((jt l).length ≤ 4000)
end Lx
end Go.Proofs.Ytnfbmclaenodaaa
