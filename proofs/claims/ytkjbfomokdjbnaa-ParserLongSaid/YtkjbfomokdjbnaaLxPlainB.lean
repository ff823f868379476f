/-
  Plain laws on what the lexer computes: locality of the head's token; blanks put in; two texts with a blank between; a beginning of a text.
-/
import Derived.Test.YtkjbfomokdjbnaaLxPlain
namespace Go.Proofs.Ytkjbfomokdjbnaa
namespace Lx
set_option linter.unusedSimpArgs false
set_option linter.unusedVariables false

/-- lexing from a place that may be blank -/
def lexBl (p : Nat) (r : Bytes) : List Tok × Nat × Nat := lexA (p + run bl r) (r.drop (run bl r))

theorem lexBl_nil (p : Nat) : lexBl p [] = ([], 0, 0) := rfl
theorem before_bl (s : Bytes) : before s = lexBl 0 s := by rw [before_eq]; unfold lexBl; rw [Nat.zero_add]
theorem lexA_ok' (p : Nat) (r : Bytes) (hr : r ≠ []) (h : (next r).2.2 = 0) :
    lexA p r = (⟨(next r).1, r.take (next r).2.1, p⟩ :: (lexBl (p + (next r).2.1) (r.drop (next r).2.1)).1, (lexBl (p + (next r).2.1) (r.drop (next r).2.1)).2) := lexA_ok p r hr h
theorem lexBl_blank (p : Nat) (c : UInt8) (r : Bytes) (h : bl c = true) : lexBl p (c :: r) = lexBl (p + 1) r := by
  unfold lexBl
  rw [run_cons, if_pos h, List.drop_succ_cons]
  congr 1
  omega
theorem lexBl_non (p : Nat) (c : UInt8) (r : Bytes) (h : bl c = false) : lexBl p (c :: r) = lexA p (c :: r) := by
  unfold lexBl
  rw [run_cons, h]
  rfl

/-- induction over lexing from places that may be blank -/
theorem lexBl_ind {P : Nat → Bytes → Prop} (h0 : ∀ p, P p []) (hb : ∀ p c r, bl c = true → P (p + 1) r → P p (c :: r))
    (h1 : ∀ p c r, bl c = false → (next (c :: r)).2.2 ≠ 0 → P p (c :: r))
    (h2 : ∀ p c r, bl c = false → (next (c :: r)).2.2 = 0 → P (p + (next (c :: r)).2.1) ((c :: r).drop (next (c :: r)).2.1) → P p (c :: r)) : ∀ p r, P p r := by
  intro p r
  generalize hn : r.length = n
  induction n using Nat.strongRecOn generalizing p r with
  | _ n ih =>
    match r with
    | [] => exact h0 p
    | c :: r =>
      by_cases hc : bl c = true
      · exact hb p c r hc (ih _ (by simp only [List.length_cons] at hn; omega) _ _ rfl)
      · have hc' : bl c = false := by simpa using hc
        by_cases h : (next (c :: r)).2.2 = 0
        · obtain ⟨g1, g2, _⟩ := next_ok _ h
          exact h2 p c r hc' h (ih _ (by simp only [List.length_drop]; omega) _ _ rfl)
        · exact h1 p c r hc' h

/-! ### what the head's token hangs on -/
theorem bl_dig (c : UInt8) (h : bl c = true) : dig c = false := by
  unfold bl at h; unfold dig; simp at h ⊢; omega
theorem bl_ltr (c : UInt8) (h : bl c = true) : ltr c = false := by
  unfold bl at h; unfold ltr; simp at h ⊢; omega
theorem bl_aln (c : UInt8) (h : bl c = true) : aln c = false := by unfold aln; rw [bl_dig c h, bl_ltr c h]; rfl
theorem bl_sg2 (d c : UInt8) (h : bl c = true) : sg2 d c = false := by
  unfold bl at h; unfold sg2; simp at h ⊢; omega

theorem signLen_app (r : Bytes) (c : UInt8) (x : Bytes) (hr : r ≠ []) (h : bl c = true) : signLen (r ++ c :: x) = signLen r := by
  match r, hr with
  | [d], _ => simp [signLen, bl_sg2 d c h]
  | d :: e :: y, _ => simp [signLen]

/-- a blank ends whatever token stands before it -/
theorem next_app (r : Bytes) (c : UInt8) (x : Bytes) (hr : r ≠ []) (h : bl c = true) : next (r ++ c :: x) = next r := by
  have e1 := run_app dig r c x (bl_dig c h)
  have e2 := run_app aln r c x (bl_aln c h)
  have e3 := signLen_app r c x hr h
  match r, hr with
  | d :: y, _ =>
    have e4 : ((d :: y) ++ c :: x).take (run aln (d :: y)) = (d :: y).take (run aln (d :: y)) := List.take_append_of_le_length (run_le _ _)
    rw [List.cons_append] at e1 e2 e3 e4 ⊢
    unfold next
    dsimp only
    rw [e1, e2, e3, e4]

theorem run_local (p : UInt8 → Bool) (a x y : Bytes) (h : run p (a ++ y) < a.length) : run p (a ++ x) = run p (a ++ y) := by
  induction a with
  | nil => simp at h
  | cons c a ih =>
    rw [List.cons_append, List.cons_append, run_cons, run_cons]
    by_cases hc : p c = true
    · rw [if_pos hc, if_pos hc, ih]
      rw [List.cons_append, run_cons, if_pos hc] at h
      simpa using h
    · rw [if_neg hc, if_neg hc]
theorem run_take (p : UInt8 → Bool) (r : Bytes) (m : Nat) : run p (r.take m) = min m (run p r) := by
  induction r generalizing m with
  | nil => simp [run_nil]
  | cons c r ih =>
    match m with
    | 0 => simp [run_nil]
    | m + 1 =>
      rw [List.take_succ_cons, run_cons, run_cons, ih]
      by_cases hc : p c = true
      · rw [if_pos hc, if_pos hc]; omega
      · rw [if_neg hc, if_neg hc]; omega

theorem signLen_local (a x y : Bytes) (h : 2 ≤ a.length) : signLen (a ++ x) = signLen (a ++ y) := by
  match a with
  | [] => simp at h
  | [c] => simp at h
  | c :: d :: z => simp [signLen]

/-- the head's token hangs on one byte behind it at most -/
theorem next_local (a x y : Bytes) (h : (next (a ++ y)).2.2 = 0) (hk : (next (a ++ y)).2.1 < a.length) : next (a ++ x) = next (a ++ y) := by
  have hok := next_ok _ h
  match a with
  | [] => simp at hk
  | c :: a =>
    simp only [List.cons_append] at *
    unfold next at h hk hok ⊢
    dsimp only at *
    by_cases h1 : dig c = true
    · simp only [h1, if_true] at *
      have e : run dig (c :: (a ++ x)) = run dig (c :: (a ++ y)) := by
        refine run_local dig (c :: a) x y ?_
        show run dig (c :: (a ++ y)) < _
        by_cases h2 : c.toNat = 48 ∧ 1 < run dig (c :: (a ++ y))
        · rw [if_pos h2] at h; simp at h
        · rw [if_neg h2] at h hk
          by_cases h3 : 40 < run dig (c :: (a ++ y))
          · rw [if_pos h3] at h; simp at h
          · rw [if_neg h3] at hk; exact hk
      rw [e]
    · simp only [h1, Bool.false_eq_true, if_false] at *
      by_cases h2 : ltr c = true
      · simp only [h2, if_true] at *
        by_cases h3 : 16 < run aln (c :: (a ++ y))
        · rw [if_pos h3] at h; simp at h
        · rw [if_neg h3] at hk
          have e : run aln (c :: (a ++ x)) = run aln (c :: (a ++ y)) := run_local aln (c :: a) x y hk
          have e2 : (c :: (a ++ x)).take (run aln (c :: (a ++ y))) = (c :: (a ++ y)).take (run aln (c :: (a ++ y))) := by
            have hk' : run aln (c :: (a ++ y)) ≤ (c :: a).length := Nat.le_of_lt hk
            show ((c :: a) ++ x).take _ = ((c :: a) ++ y).take _
            rw [List.take_append_of_le_length hk', List.take_append_of_le_length hk']
          rw [e, e2]
      · simp only [h2, Bool.false_eq_true, if_false] at *
        by_cases h3 : 0 < signLen (c :: (a ++ y))
        · rw [if_pos h3] at hk
          have e : signLen (c :: (a ++ x)) = signLen (c :: (a ++ y)) := signLen_local (c :: a) x y (by have := hk; dsimp only at this; omega)
          rw [e]
        · rw [if_neg h3] at h; simp at h

theorem signLen_take (r : Bytes) (h : signLen r ≠ 0) : signLen (r.take (signLen r)) = signLen r := by
  match r with
  | [] => simp [signLen] at h
  | [c] =>
    simp only [signLen] at h ⊢
    split at h
    · rename_i hc; rw [if_pos hc]; simp [signLen, hc]
    · exact absurd rfl h
  | c :: d :: x =>
    by_cases h2 : sg2 c d = true
    · simp [signLen, h2]
    · by_cases h1 : sg1 c = true
      · simp [signLen, h2, h1]
      · simp [signLen, h2, h1] at h

/-- a token alone is that token -/
theorem next_take (r : Bytes) (h : (next r).2.2 = 0) : next (r.take (next r).2.1) = next r := by
  have hok := next_ok _ h
  match r with
  | [] => simp [next] at h
  | c :: x =>
    have hlen : ∃ m, (next (c :: x)).2.1 = m + 1 := ⟨(next (c :: x)).2.1 - 1, by omega⟩
    obtain ⟨m, hm⟩ := hlen
    rw [hm, List.take_succ_cons]
    unfold next at h hm hok ⊢
    dsimp only at *
    by_cases h1 : dig c = true
    · simp only [h1, if_true] at *
      by_cases h2 : c.toNat = 48 ∧ 1 < run dig (c :: x)
      · rw [if_pos h2] at h; simp at h
      · rw [if_neg h2] at h hm hok ⊢
        by_cases h3 : 40 < run dig (c :: x)
        · rw [if_pos h3] at h; simp at h
        · rw [if_neg h3] at hm ⊢
          have hm' : run dig (c :: x) = m + 1 := hm
          have e : run dig (c :: x.take m) = run dig (c :: x) := by
            have := run_take dig (c :: x) (m + 1)
            rw [List.take_succ_cons] at this
            rw [this]; omega
          rw [e, if_neg h2, if_neg h3]
    · simp only [h1, Bool.false_eq_true, if_false] at *
      by_cases h2 : ltr c = true
      · simp only [h2, if_true] at *
        by_cases h3 : 16 < run aln (c :: x)
        · rw [if_pos h3] at h; simp at h
        · rw [if_neg h3] at hm ⊢
          have hm' : run aln (c :: x) = m + 1 := hm
          have e : run aln (c :: x.take m) = run aln (c :: x) := by
            have := run_take aln (c :: x) (m + 1)
            rw [List.take_succ_cons] at this
            rw [this]; omega
          rw [e, if_neg h3, hm', List.take_succ_cons, List.take_succ_cons, List.take_take, Nat.min_self]
      · simp only [h2, Bool.false_eq_true, if_false] at *
        by_cases h3 : 0 < signLen (c :: x)
        · rw [if_pos h3] at hm ⊢
          have hm' : signLen (c :: x) = m + 1 := hm
          have e : signLen (c :: x.take m) = signLen (c :: x) := by
            have := signLen_take (c :: x) (by omega)
            rw [hm', List.take_succ_cons] at this
            rw [this, hm']
          rw [e, if_pos h3]
        · rw [if_neg h3] at h; simp at h

theorem next_head (c : UInt8) (x : Bytes) (h : (next (c :: x)).2.2 = 0) : bl c = false := by
  by_cases hb : bl c = true
  · unfold next at h
    simp only [bl_dig c hb, bl_ltr c hb, Bool.false_eq_true, if_false] at h
    have : signLen (c :: x) = 0 := by
      have h1 : sg1 c = false := by unfold bl at hb; unfold sg1; simp at hb ⊢; omega
      have h2 : ∀ d, sg2 c d = false := by intro d; unfold bl at hb; unfold sg2; simp at hb ⊢; omega
      match x with
      | [] => simp [signLen, h1]
      | d :: y => simp [signLen, h1, h2]
    simp [this] at h
  · simpa using hb

/-- a token that is cut: still a token, of the length that is left -/
theorem next_cut (r : Bytes) (h : (next r).2.2 = 0) (m : Nat) (h0 : 0 < m) (hm : m ≤ (next r).2.1) :
    (next (r.take m)).2.2 = 0 ∧ (next (r.take m)).2.1 = m := by
  rcases Nat.lt_or_eq_of_le hm with hm | hm
  rotate_left
  · subst hm; rw [next_take r h]; exact ⟨h, rfl⟩
  have hok := next_ok _ h
  match r with
  | [] => simp [next] at h
  | c :: x =>
    obtain ⟨j, rfl⟩ : ∃ j, m = j + 1 := ⟨m - 1, by omega⟩
    rw [List.take_succ_cons]
    have ed := run_take dig (c :: x) (j + 1)
    have ea := run_take aln (c :: x) (j + 1)
    rw [List.take_succ_cons] at ed ea
    unfold next at h hm hok ⊢
    dsimp only at *
    by_cases h1 : dig c = true
    · simp only [h1, if_true] at *
      by_cases h2 : c.toNat = 48 ∧ 1 < run dig (c :: x)
      · rw [if_pos h2] at h; simp at h
      · rw [if_neg h2] at h hm
        by_cases h3 : 40 < run dig (c :: x)
        · rw [if_pos h3] at h; simp at h
        · rw [if_neg h3] at hm
          have hm' : j + 1 < run dig (c :: x) := hm
          have e : run dig (c :: x.take j) = j + 1 := by rw [ed]; omega
          rw [e, if_neg (by omega), if_neg (by omega)]
          exact ⟨rfl, rfl⟩
    · simp only [h1, Bool.false_eq_true, if_false] at *
      by_cases h2 : ltr c = true
      · simp only [h2, if_true] at *
        by_cases h3 : 16 < run aln (c :: x)
        · rw [if_pos h3] at h; simp at h
        · rw [if_neg h3] at hm
          have hm' : j + 1 < run aln (c :: x) := hm
          have e : run aln (c :: x.take j) = j + 1 := by rw [ea]; omega
          rw [e, if_neg (by omega)]
          exact ⟨rfl, rfl⟩
      · simp only [h2, Bool.false_eq_true, if_false] at *
        by_cases h3 : 0 < signLen (c :: x)
        · rw [if_pos h3] at hm
          have hm' : j + 1 < signLen (c :: x) := hm
          -- then it is a double sign, cut behind its first
          match x with
          | [] => simp [signLen] at hm'; split at hm' <;> omega
          | d :: y =>
            by_cases g2 : sg2 c d = true
            · have : signLen (c :: d :: y) = 2 := by simp [signLen, g2]
              have hj : j = 0 := by omega
              subst hj
              have g1 : sg1 c = true := by unfold sg2 at g2; unfold sg1; simp at g2 ⊢; omega
              simp [signLen, g1]
            · have : signLen (c :: d :: y) ≤ 1 := by simp [signLen, g2]; split <;> omega
              omega
        · rw [if_neg h3] at h; simp at h

end Lx
end Go.Proofs.Ytkjbfomokdjbnaa
