/-
  Plain definitions and laws on lists of bytes: what the lexer computes. No program in sight.
-/


namespace Go.Proofs.YtkjbfomokdjbnaaGreat
namespace Lx

abbrev Bytes := List UInt8

def dig (c : UInt8) : Bool := decide (48 ≤ c.toNat) && decide (c.toNat ≤ 57)
def ltr (c : UInt8) : Bool := (decide (97 ≤ c.toNat) && decide (c.toNat ≤ 122)) || (decide (65 ≤ c.toNat) && decide (c.toNat ≤ 90)) || (c.toNat == 95)
def aln (c : UInt8) : Bool := ltr c || dig c
def bl (c : UInt8) : Bool := c.toNat == 9 || c.toNat == 10 || c.toNat == 13 || c.toNat == 32

def words : List Bytes := [[116, 114, 117, 101], [102, 97, 108, 115, 101], [97, 110, 100], [111, 114], [110, 111, 116], [105, 109, 112, 108, 105, 101, 115], [105, 102, 102], [102, 111, 114, 97, 108, 108], [101, 120, 105, 115, 116, 115]]
def isWord (l : Bytes) : Bool := words.contains l

/-- single signs -/
def sg1 (c : UInt8) : Bool := c.toNat == 43 || c.toNat == 45 || c.toNat == 42 || c.toNat == 94 || c.toNat == 40 || c.toNat == 41 || c.toNat == 61 || c.toNat == 60 || c.toNat == 62 || c.toNat == 44 || c.toNat == 46
/-- double signs -/
def sg2 (c d : UInt8) : Bool := (c.toNat == 60 && d.toNat == 62) || (c.toNat == 60 && d.toNat == 61) || (c.toNat == 62 && d.toNat == 61)

def signLen : Bytes → Nat
  | [] => 0
  | [c] => if sg1 c then 1 else 0
  | c :: d :: _ => if sg2 c d then 2 else if sg1 c then 1 else 0

def run (p : UInt8 → Bool) (r : Bytes) : Nat := (r.takeWhile p).length

structure Tok where
  kind : Nat
  text : Bytes
  pos : Nat

/-- kind, length, error of the token at the head of a rest; kind and length are 0 where there is an error -/
def next (r : Bytes) : Nat × Nat × Nat :=
  match r with
  | [] => (0, 0, 6)
  | c :: _ =>
    if dig c then
      (if c.toNat = 48 ∧ 1 < run dig r then (0, 0, 6) else if 40 < run dig r then (0, 0, 8) else (1, run dig r, 0))
    else if ltr c then
      (if 16 < run aln r then (0, 0, 8) else ((if isWord (r.take (run aln r)) then 3 else 2), run aln r, 0))
    else if 0 < signLen r then (4, signLen r, 0) else (0, 0, 6)

/-- The tokens of a rest that begins with no blank, at offset `at_`: those before the first error, its offset, the error. -/
def lexR : Nat → Nat → Bytes → List Tok × Nat × Nat
  | 0, _, _ => ([], 0, 0)
  | f + 1, p, r =>
    match r with
    | [] => ([], 0, 0)
    | _ :: _ =>
      if (next r).2.2 = 0 then
        let n := (next r).2.1
        let b := run bl (r.drop n)
        let q := lexR f (p + n + b) ((r.drop n).drop b)
        (⟨(next r).1, r.take n, p⟩ :: q.1, q.2)
      else ([], p, (next r).2.2)

/-- tokens before the first error, its offset, the error (0 for none) -/
def before (s : Bytes) : List Tok × Nat × Nat := lexR (s.length + 1) (run bl s) (s.drop (run bl s))

def lex (s : Bytes) : List Tok × Nat × Nat :=
  if 4000 < s.length then ([], 4000, 8) else
  if (before s).2.2 = 0 then ((before s).1, 0, 0) else ([], (before s).2.1, (before s).2.2)

/-! ### runs -/
theorem run_le (p : UInt8 → Bool) (r : Bytes) : run p r ≤ r.length := by
  unfold run; exact List.IsPrefix.length_le (List.takeWhile_prefix p)
theorem run_nil (p : UInt8 → Bool) : run p [] = 0 := rfl
theorem run_cons (p : UInt8 → Bool) (c : UInt8) (r : Bytes) : run p (c :: r) = if p c then run p r + 1 else 0 := by
  unfold run; rw [List.takeWhile_cons]; split <;> simp
theorem run_app (p : UInt8 → Bool) (r : Bytes) (c : UInt8) (x : Bytes) (hc : p c = false) : run p (r ++ c :: x) = run p r := by
  induction r with
  | nil => simp [run_cons, hc, run_nil]
  | cons d r ih => rw [List.cons_append, run_cons, run_cons, ih]
/-- the byte behind a run is not in it -/
theorem run_stop (p : UInt8 → Bool) (r : Bytes) (h : run p r < r.length) : p (r[run p r]'h) = false := by
  induction r with
  | nil => simp at h
  | cons c r ih =>
    by_cases hc : p c
    · have e : run p (c :: r) = run p r + 1 := by rw [run_cons, if_pos hc]
      have h' : run p r < r.length := by rw [e] at h; simpa using h
      have := ih h'
      simpa [e] using this
    · have e : run p (c :: r) = 0 := by rw [run_cons, if_neg hc]
      simp [e]; simpa using hc
theorem run_in (p : UInt8 → Bool) (r : Bytes) (i : Nat) (h : i < run p r) : p (r[i]'(Nat.lt_of_lt_of_le h (run_le p r))) = true := by
  induction r generalizing i with
  | nil => simp [run_nil] at h
  | cons c r ih =>
    by_cases hc : p c
    · cases i with
      | zero => simpa using hc
      | succ i => simp; exact ih i (by rw [run_cons, if_pos hc] at h; omega)
    · rw [run_cons, if_neg hc] at h; omega
/-- what a loop that counts up finds -/
theorem run_of (p : UInt8 → Bool) (r : Bytes) (n : Nat) (hn : n ≤ r.length) (h1 : ∀ i (h : i < n), p (r[i]'(by omega)) = true) (h2 : ∀ h : n < r.length, p (r[n]'h) = false) : run p r = n := by
  rcases Nat.lt_trichotomy (run p r) n with h | h | h
  · have := run_stop p r (by omega)
    rw [h1 _ h] at this; cases this
  · exact h
  · have hlt : n < r.length := by have := run_le p r; omega
    have := run_in p r n h
    rw [h2 hlt] at this; cases this
theorem run_pos (p : UInt8 → Bool) (c : UInt8) (r : Bytes) (h : p c = true) : 0 < run p (c :: r) := by
  rw [run_cons, if_pos h]; omega

/-! ### signs -/
theorem signLen_le (r : Bytes) : signLen r ≤ r.length := by
  match r with
  | [] => simp [signLen]
  | [c] => simp only [signLen]; split <;> simp
  | c :: d :: x => simp only [signLen]; split <;> (try split) <;> simp <;> omega
theorem next_ok (r : Bytes) (h : (next r).2.2 = 0) : 1 ≤ (next r).2.1 ∧ (next r).2.1 ≤ r.length ∧ 1 ≤ (next r).1 := by
  match r with
  | [] => simp [next] at h
  | c :: x =>
    have hd := run_le dig (c :: x)
    have ha := run_le aln (c :: x)
    have hs := signLen_le (c :: x)
    unfold next at h ⊢
    by_cases h1 : dig c = true
    · have hp := run_pos dig c x h1
      simp only [h1, if_true] at h ⊢
      by_cases h2 : c.toNat = 48 ∧ 1 < run dig (c :: x)
      · rw [if_pos h2] at h; simp at h
      · rw [if_neg h2] at h ⊢
        by_cases h3 : 40 < run dig (c :: x)
        · rw [if_pos h3] at h; simp at h
        · rw [if_neg h3]; exact ⟨hp, hd, by simp⟩
    · simp only [h1, Bool.false_eq_true, if_false] at h ⊢
      by_cases h2 : ltr c = true
      · have hp := run_pos aln c x (by simp [aln, h2])
        simp only [h2, if_true] at h ⊢
        by_cases h3 : 16 < run aln (c :: x)
        · rw [if_pos h3] at h; simp at h
        · rw [if_neg h3]; refine ⟨hp, ha, ?_⟩; dsimp only; split <;> omega
      · simp only [h2, Bool.false_eq_true, if_false] at h ⊢
        by_cases h3 : 0 < signLen (c :: x)
        · rw [if_pos h3]; exact ⟨h3, hs, by simp⟩
        · rw [if_neg h3] at h; simp at h

/-! ### fuel -/
theorem lexR_fuel : ∀ (f g p : Nat) (r : Bytes), r.length < f → r.length < g → lexR f p r = lexR g p r
  | 0, _, _, _, h, _ => by omega
  | _ + 1, 0, _, _, _, h => by omega
  | f + 1, g + 1, p, r, hf, hg => by
    unfold lexR
    match r with
    | [] => rfl
    | c :: x =>
      dsimp only
      by_cases h : (next (c :: x)).2.2 = 0
      · rw [if_pos h, if_pos h]
        obtain ⟨h1, h2, _⟩ := next_ok _ h
        have hl : (((c :: x).drop (next (c :: x)).2.1).drop (run bl ((c :: x).drop (next (c :: x)).2.1))).length < f := by
          simp only [List.length_drop] at *; omega
        have hl' : (((c :: x).drop (next (c :: x)).2.1).drop (run bl ((c :: x).drop (next (c :: x)).2.1))).length < g := by
          simp only [List.length_drop] at *; omega
        rw [lexR_fuel f g _ _ hl hl']
      · rw [if_neg h, if_neg h]

/-- the tokens of a rest, with fuel enough -/
def lexA (p : Nat) (r : Bytes) : List Tok × Nat × Nat := lexR (r.length + 1) p r
theorem lexR_eq (f p : Nat) (r : Bytes) (h : r.length < f) : lexR f p r = lexA p r := lexR_fuel _ _ _ _ h (by omega)
theorem before_eq (s : Bytes) : before s = lexA (run bl s) (s.drop (run bl s)) := by
  unfold before; exact lexR_eq _ _ _ (by simp only [List.length_drop]; omega)
theorem lexA_nil (p : Nat) : lexA p [] = ([], 0, 0) := rfl
theorem lexA_err (p : Nat) (r : Bytes) (hr : r ≠ []) (h : (next r).2.2 ≠ 0) : lexA p r = ([], p, (next r).2.2) := by
  match r, hr with
  | c :: x, _ => simp only [lexA, lexR, if_neg h]
theorem lexA_ok (p : Nat) (r : Bytes) (hr : r ≠ []) (h : (next r).2.2 = 0) :
    lexA p r = (⟨(next r).1, r.take (next r).2.1, p⟩ :: (lexA (p + (next r).2.1 + run bl (r.drop (next r).2.1)) ((r.drop (next r).2.1).drop (run bl (r.drop (next r).2.1)))).1,
      (lexA (p + (next r).2.1 + run bl (r.drop (next r).2.1)) ((r.drop (next r).2.1).drop (run bl (r.drop (next r).2.1)))).2) := by
  obtain ⟨h1, h2, _⟩ := next_ok _ h
  have e := lexR_eq r.length (p + (next r).2.1 + run bl (r.drop (next r).2.1)) ((r.drop (next r).2.1).drop (run bl (r.drop (next r).2.1))) (by simp only [List.length_drop]; omega)
  rw [← e]
  match r, hr with
  | c :: x, _ =>
    conv => lhs; unfold lexA
    rw [lexR.eq_def]
    simp only [if_pos h]

/-- by cases on the head: the induction that all laws use -/
theorem lexA_ind {P : Nat → Bytes → Prop} (h0 : ∀ p, P p []) (h1 : ∀ p r, r ≠ [] → (next r).2.2 ≠ 0 → P p r)
    (h2 : ∀ p r, r ≠ [] → (next r).2.2 = 0 → P (p + (next r).2.1 + run bl (r.drop (next r).2.1)) ((r.drop (next r).2.1).drop (run bl (r.drop (next r).2.1))) → P p r) : ∀ p r, P p r := by
  intro p r
  generalize hn : r.length = n
  induction n using Nat.strongRecOn generalizing p r with
  | _ n ih =>
    by_cases hr : r = []
    · subst hr; exact h0 p
    · by_cases h : (next r).2.2 = 0
      · obtain ⟨g1, g2, _⟩ := next_ok _ h
        exact h2 p r hr h (ih _ (by simp only [List.length_drop]; omega) _ _ rfl)
      · exact h1 p r hr h

end Lx
end Go.Proofs.YtkjbfomokdjbnaaGreat

/-
  Plain laws on what the lexer computes: locality of the head's token; blanks put in; two texts with a blank between; a beginning of a text.
-/
namespace Go.Proofs.YtkjbfomokdjbnaaGreat
namespace Lx
set_option linter.unusedSimpArgs false
set_option linter.unusedVariables false

/-- lexing from a place that may be blank -/
def lexBl (p : Nat) (r : Bytes) : List Tok × Nat × Nat := lexA (p + run bl r) (r.drop (run bl r))

theorem lexBl_nil (p : Nat) : lexBl p [] = ([], 0, 0) := rfl
theorem before_bl (s : Bytes) : before s = lexBl 0 s := by rw [before_eq]; unfold lexBl; rw [Nat.zero_add]
theorem lexA_ok' (p : Nat) (r : Bytes) (hr : r ≠ []) (h : (next r).2.2 = 0) :
    lexA p r = (⟨(next r).1, r.take (next r).2.1, p⟩ :: (lexBl (p + (next r).2.1) (r.drop (next r).2.1)).1, (lexBl (p + (next r).2.1) (r.drop (next r).2.1)).2) := lexA_ok p r hr h
theorem lexBl_blank (p : Nat) (c : UInt8) (r : Bytes) (h : bl c = true) : lexBl p (c :: r) = lexBl (p + 1) r := by
  unfold lexBl
  rw [run_cons, if_pos h, List.drop_succ_cons]
  congr 1
  omega
theorem lexBl_non (p : Nat) (c : UInt8) (r : Bytes) (h : bl c = false) : lexBl p (c :: r) = lexA p (c :: r) := by
  unfold lexBl
  rw [run_cons, h]
  rfl

/-- induction over lexing from places that may be blank -/
theorem lexBl_ind {P : Nat → Bytes → Prop} (h0 : ∀ p, P p []) (hb : ∀ p c r, bl c = true → P (p + 1) r → P p (c :: r))
    (h1 : ∀ p c r, bl c = false → (next (c :: r)).2.2 ≠ 0 → P p (c :: r))
    (h2 : ∀ p c r, bl c = false → (next (c :: r)).2.2 = 0 → P (p + (next (c :: r)).2.1) ((c :: r).drop (next (c :: r)).2.1) → P p (c :: r)) : ∀ p r, P p r := by
  intro p r
  generalize hn : r.length = n
  induction n using Nat.strongRecOn generalizing p r with
  | _ n ih =>
    match r with
    | [] => exact h0 p
    | c :: r =>
      by_cases hc : bl c = true
      · exact hb p c r hc (ih _ (by simp only [List.length_cons] at hn; omega) _ _ rfl)
      · have hc' : bl c = false := by simpa using hc
        by_cases h : (next (c :: r)).2.2 = 0
        · obtain ⟨g1, g2, _⟩ := next_ok _ h
          exact h2 p c r hc' h (ih _ (by simp only [List.length_drop]; omega) _ _ rfl)
        · exact h1 p c r hc' h

/-! ### what the head's token hangs on -/
theorem bl_dig (c : UInt8) (h : bl c = true) : dig c = false := by
  unfold bl at h; unfold dig; simp at h ⊢; omega
theorem bl_ltr (c : UInt8) (h : bl c = true) : ltr c = false := by
  unfold bl at h; unfold ltr; simp at h ⊢; omega
theorem bl_aln (c : UInt8) (h : bl c = true) : aln c = false := by unfold aln; rw [bl_dig c h, bl_ltr c h]; rfl
theorem bl_sg2 (d c : UInt8) (h : bl c = true) : sg2 d c = false := by
  unfold bl at h; unfold sg2; simp at h ⊢; omega

theorem signLen_app (r : Bytes) (c : UInt8) (x : Bytes) (hr : r ≠ []) (h : bl c = true) : signLen (r ++ c :: x) = signLen r := by
  match r, hr with
  | [d], _ => simp [signLen, bl_sg2 d c h]
  | d :: e :: y, _ => simp [signLen]

/-- a blank ends whatever token stands before it -/
theorem next_app (r : Bytes) (c : UInt8) (x : Bytes) (hr : r ≠ []) (h : bl c = true) : next (r ++ c :: x) = next r := by
  have e1 := run_app dig r c x (bl_dig c h)
  have e2 := run_app aln r c x (bl_aln c h)
  have e3 := signLen_app r c x hr h
  match r, hr with
  | d :: y, _ =>
    have e4 : ((d :: y) ++ c :: x).take (run aln (d :: y)) = (d :: y).take (run aln (d :: y)) := List.take_append_of_le_length (run_le _ _)
    rw [List.cons_append] at e1 e2 e3 e4 ⊢
    unfold next
    dsimp only
    rw [e1, e2, e3, e4]

theorem run_local (p : UInt8 → Bool) (a x y : Bytes) (h : run p (a ++ y) < a.length) : run p (a ++ x) = run p (a ++ y) := by
  induction a with
  | nil => simp at h
  | cons c a ih =>
    rw [List.cons_append, List.cons_append, run_cons, run_cons]
    by_cases hc : p c = true
    · rw [if_pos hc, if_pos hc, ih]
      rw [List.cons_append, run_cons, if_pos hc] at h
      simpa using h
    · rw [if_neg hc, if_neg hc]
theorem run_take (p : UInt8 → Bool) (r : Bytes) (m : Nat) : run p (r.take m) = min m (run p r) := by
  induction r generalizing m with
  | nil => simp [run_nil]
  | cons c r ih =>
    match m with
    | 0 => simp [run_nil]
    | m + 1 =>
      rw [List.take_succ_cons, run_cons, run_cons, ih]
      by_cases hc : p c = true
      · rw [if_pos hc, if_pos hc]; omega
      · rw [if_neg hc, if_neg hc]; omega

theorem signLen_local (a x y : Bytes) (h : 2 ≤ a.length) : signLen (a ++ x) = signLen (a ++ y) := by
  match a with
  | [] => simp at h
  | [c] => simp at h
  | c :: d :: z => simp [signLen]

/-- the head's token hangs on one byte behind it at most -/
theorem next_local (a x y : Bytes) (h : (next (a ++ y)).2.2 = 0) (hk : (next (a ++ y)).2.1 < a.length) : next (a ++ x) = next (a ++ y) := by
  have hok := next_ok _ h
  match a with
  | [] => simp at hk
  | c :: a =>
    simp only [List.cons_append] at *
    unfold next at h hk hok ⊢
    dsimp only at *
    by_cases h1 : dig c = true
    · simp only [h1, if_true] at *
      have e : run dig (c :: (a ++ x)) = run dig (c :: (a ++ y)) := by
        refine run_local dig (c :: a) x y ?_
        show run dig (c :: (a ++ y)) < _
        by_cases h2 : c.toNat = 48 ∧ 1 < run dig (c :: (a ++ y))
        · rw [if_pos h2] at h; simp at h
        · rw [if_neg h2] at h hk
          by_cases h3 : 40 < run dig (c :: (a ++ y))
          · rw [if_pos h3] at h; simp at h
          · rw [if_neg h3] at hk; exact hk
      rw [e]
    · simp only [h1, Bool.false_eq_true, if_false] at *
      by_cases h2 : ltr c = true
      · simp only [h2, if_true] at *
        by_cases h3 : 16 < run aln (c :: (a ++ y))
        · rw [if_pos h3] at h; simp at h
        · rw [if_neg h3] at hk
          have e : run aln (c :: (a ++ x)) = run aln (c :: (a ++ y)) := run_local aln (c :: a) x y hk
          have e2 : (c :: (a ++ x)).take (run aln (c :: (a ++ y))) = (c :: (a ++ y)).take (run aln (c :: (a ++ y))) := by
            have hk' : run aln (c :: (a ++ y)) ≤ (c :: a).length := Nat.le_of_lt hk
            show ((c :: a) ++ x).take _ = ((c :: a) ++ y).take _
            rw [List.take_append_of_le_length hk', List.take_append_of_le_length hk']
          rw [e, e2]
      · simp only [h2, Bool.false_eq_true, if_false] at *
        by_cases h3 : 0 < signLen (c :: (a ++ y))
        · rw [if_pos h3] at hk
          have e : signLen (c :: (a ++ x)) = signLen (c :: (a ++ y)) := signLen_local (c :: a) x y (by have := hk; dsimp only at this; omega)
          rw [e]
        · rw [if_neg h3] at h; simp at h

theorem signLen_take (r : Bytes) (h : signLen r ≠ 0) : signLen (r.take (signLen r)) = signLen r := by
  match r with
  | [] => simp [signLen] at h
  | [c] =>
    simp only [signLen] at h ⊢
    split at h
    · rename_i hc; rw [if_pos hc]; simp [signLen, hc]
    · exact absurd rfl h
  | c :: d :: x =>
    by_cases h2 : sg2 c d = true
    · simp [signLen, h2]
    · by_cases h1 : sg1 c = true
      · simp [signLen, h2, h1]
      · simp [signLen, h2, h1] at h

/-- a token alone is that token -/
theorem next_take (r : Bytes) (h : (next r).2.2 = 0) : next (r.take (next r).2.1) = next r := by
  have hok := next_ok _ h
  match r with
  | [] => simp [next] at h
  | c :: x =>
    have hlen : ∃ m, (next (c :: x)).2.1 = m + 1 := ⟨(next (c :: x)).2.1 - 1, by omega⟩
    obtain ⟨m, hm⟩ := hlen
    rw [hm, List.take_succ_cons]
    unfold next at h hm hok ⊢
    dsimp only at *
    by_cases h1 : dig c = true
    · simp only [h1, if_true] at *
      by_cases h2 : c.toNat = 48 ∧ 1 < run dig (c :: x)
      · rw [if_pos h2] at h; simp at h
      · rw [if_neg h2] at h hm hok ⊢
        by_cases h3 : 40 < run dig (c :: x)
        · rw [if_pos h3] at h; simp at h
        · rw [if_neg h3] at hm ⊢
          have hm' : run dig (c :: x) = m + 1 := hm
          have e : run dig (c :: x.take m) = run dig (c :: x) := by
            have := run_take dig (c :: x) (m + 1)
            rw [List.take_succ_cons] at this
            rw [this]; omega
          rw [e, if_neg h2, if_neg h3]
    · simp only [h1, Bool.false_eq_true, if_false] at *
      by_cases h2 : ltr c = true
      · simp only [h2, if_true] at *
        by_cases h3 : 16 < run aln (c :: x)
        · rw [if_pos h3] at h; simp at h
        · rw [if_neg h3] at hm ⊢
          have hm' : run aln (c :: x) = m + 1 := hm
          have e : run aln (c :: x.take m) = run aln (c :: x) := by
            have := run_take aln (c :: x) (m + 1)
            rw [List.take_succ_cons] at this
            rw [this]; omega
          rw [e, if_neg h3, hm', List.take_succ_cons, List.take_succ_cons, List.take_take, Nat.min_self]
      · simp only [h2, Bool.false_eq_true, if_false] at *
        by_cases h3 : 0 < signLen (c :: x)
        · rw [if_pos h3] at hm ⊢
          have hm' : signLen (c :: x) = m + 1 := hm
          have e : signLen (c :: x.take m) = signLen (c :: x) := by
            have := signLen_take (c :: x) (by omega)
            rw [hm', List.take_succ_cons] at this
            rw [this, hm']
          rw [e, if_pos h3]
        · rw [if_neg h3] at h; simp at h

theorem next_head (c : UInt8) (x : Bytes) (h : (next (c :: x)).2.2 = 0) : bl c = false := by
  by_cases hb : bl c = true
  · unfold next at h
    simp only [bl_dig c hb, bl_ltr c hb, Bool.false_eq_true, if_false] at h
    have : signLen (c :: x) = 0 := by
      have h1 : sg1 c = false := by unfold bl at hb; unfold sg1; simp at hb ⊢; omega
      have h2 : ∀ d, sg2 c d = false := by intro d; unfold bl at hb; unfold sg2; simp at hb ⊢; omega
      match x with
      | [] => simp [signLen, h1]
      | d :: y => simp [signLen, h1, h2]
    simp [this] at h
  · simpa using hb

/-- a token that is cut: still a token, of the length that is left -/
theorem next_cut (r : Bytes) (h : (next r).2.2 = 0) (m : Nat) (h0 : 0 < m) (hm : m ≤ (next r).2.1) :
    (next (r.take m)).2.2 = 0 ∧ (next (r.take m)).2.1 = m := by
  rcases Nat.lt_or_eq_of_le hm with hm | hm
  rotate_left
  · subst hm; rw [next_take r h]; exact ⟨h, rfl⟩
  have hok := next_ok _ h
  match r with
  | [] => simp [next] at h
  | c :: x =>
    obtain ⟨j, rfl⟩ : ∃ j, m = j + 1 := ⟨m - 1, by omega⟩
    rw [List.take_succ_cons]
    have ed := run_take dig (c :: x) (j + 1)
    have ea := run_take aln (c :: x) (j + 1)
    rw [List.take_succ_cons] at ed ea
    unfold next at h hm hok ⊢
    dsimp only at *
    by_cases h1 : dig c = true
    · simp only [h1, if_true] at *
      by_cases h2 : c.toNat = 48 ∧ 1 < run dig (c :: x)
      · rw [if_pos h2] at h; simp at h
      · rw [if_neg h2] at h hm
        by_cases h3 : 40 < run dig (c :: x)
        · rw [if_pos h3] at h; simp at h
        · rw [if_neg h3] at hm
          have hm' : j + 1 < run dig (c :: x) := hm
          have e : run dig (c :: x.take j) = j + 1 := by rw [ed]; omega
          rw [e, if_neg (by omega), if_neg (by omega)]
          exact ⟨rfl, rfl⟩
    · simp only [h1, Bool.false_eq_true, if_false] at *
      by_cases h2 : ltr c = true
      · simp only [h2, if_true] at *
        by_cases h3 : 16 < run aln (c :: x)
        · rw [if_pos h3] at h; simp at h
        · rw [if_neg h3] at hm
          have hm' : j + 1 < run aln (c :: x) := hm
          have e : run aln (c :: x.take j) = j + 1 := by rw [ea]; omega
          rw [e, if_neg (by omega)]
          exact ⟨rfl, rfl⟩
      · simp only [h2, Bool.false_eq_true, if_false] at *
        by_cases h3 : 0 < signLen (c :: x)
        · rw [if_pos h3] at hm
          have hm' : j + 1 < signLen (c :: x) := hm
          -- then it is a double sign, cut behind its first
          match x with
          | [] => simp [signLen] at hm'; split at hm' <;> omega
          | d :: y =>
            by_cases g2 : sg2 c d = true
            · have : signLen (c :: d :: y) = 2 := by simp [signLen, g2]
              have hj : j = 0 := by omega
              subst hj
              have g1 : sg1 c = true := by unfold sg2 at g2; unfold sg1; simp at g2 ⊢; omega
              simp [signLen, g1]
            · have : signLen (c :: d :: y) ≤ 1 := by simp [signLen, g2]; split <;> omega
              omega
        · rw [if_neg h3] at h; simp at h

end Lx
end Go.Proofs.YtkjbfomokdjbnaaGreat

/-
  Plain laws: what the reference of the lexer computes, and that it is what the lexer computes.
-/
namespace Go.Proofs.YtkjbfomokdjbnaaGreat
namespace Lx
set_option linter.unusedSimpArgs false
set_option linter.unusedVariables false

def numB (l : Bytes) : Bool := !l.isEmpty && l.all dig
def nameB : Bytes → Bool
  | [] => false
  | c :: x => ltr c && x.all aln
def signs : List Bytes := [[43], [45], [42], [94], [40], [41], [61], [60, 62], [60], [60, 61], [62], [62, 61], [44], [46]]
def isSign (l : Bytes) : Bool := signs.contains l
def kindR (l : Bytes) : Nat := if numB l then 1 else if nameB l then (if isWord l then 3 else 2) else if isSign l then 4 else 0
def wrongR (l : Bytes) : Nat :=
  if kindR l = 1 ∧ 1 < l.length ∧ (l.headD 0).toNat = 48 then 6
  else if (kindR l = 1 ∧ 40 < l.length) ∨ ((kindR l = 2 ∨ kindR l = 3) ∧ 16 < l.length) then 8 else 0
def tokLen (r : Bytes) : Nat :=
  match r with
  | [] => 0
  | c :: _ => if dig c then run dig r else if ltr c then run aln r else signLen r

theorem tokLen_le (r : Bytes) : tokLen r ≤ r.length := by
  match r with
  | [] => simp [tokLen]
  | c :: x =>
    unfold tokLen
    dsimp only
    split
    · exact run_le _ _
    · split
      · exact run_le _ _
      · exact signLen_le _

theorem all_take (p : UInt8 → Bool) (r : Bytes) (n : Nat) (hn : n ≤ r.length) : (r.take n).all p = true ↔ n ≤ run p r := by
  induction r generalizing n with
  | nil => simp only [List.length_nil] at hn; have : n = 0 := by omega
           subst this; simp
  | cons c r ih =>
    match n with
    | 0 => simp
    | n + 1 =>
      rw [List.take_succ_cons, List.all_cons, Bool.and_eq_true, run_cons, ih n (by simpa using hn)]
      by_cases hc : p c = true
      · rw [if_pos hc]; simp [hc]
      · rw [if_neg hc]; simp [hc]

theorem dig_ltr (c : UInt8) (h : dig c = true) : ltr c = false := by
  unfold dig at h; unfold ltr; simp at h ⊢; omega
theorem sign1 (c : UInt8) : isSign [c] = sg1 c := by
  unfold isSign signs sg1
  rw [Bool.eq_iff_iff]
  simp [← UInt8.toNat_inj]
  omega
theorem sign2 (c d : UInt8) : isSign [c, d] = sg2 c d := by
  unfold isSign signs sg2
  rw [Bool.eq_iff_iff]
  simp [← UInt8.toNat_inj]
  omega
theorem sign3 (c d e : UInt8) (x : Bytes) : isSign (c :: d :: e :: x) = false := by
  unfold isSign signs
  simp
theorem sg_dig (c : UInt8) (h : dig c = true) : sg1 c = false ∧ ∀ d, sg2 c d = false := by
  unfold dig at h
  refine ⟨?_, fun d => ?_⟩
  · unfold sg1; simp at h ⊢; omega
  · unfold sg2; simp at h ⊢; omega
theorem sg_ltr (c : UInt8) (h : ltr c = true) : sg1 c = false ∧ ∀ d, sg2 c d = false := by
  unfold ltr at h
  refine ⟨?_, fun d => ?_⟩
  · unfold sg1; simp at h ⊢; omega
  · unfold sg2; simp at h ⊢; omega
theorem sg2_sg1 (c d : UInt8) (h : sg2 c d = true) : sg1 c = true := by
  unfold sg2 at h; unfold sg1; simp at h ⊢; omega
theorem isSign_head (c : UInt8) (x : Bytes) (h1 : sg1 c = false) (h2 : ∀ d, sg2 c d = false) : isSign (c :: x) = false := by
  match x with
  | [] => rw [sign1, h1]
  | [d] => rw [sign2, h2]
  | d :: e :: y => rw [sign3]

/-- a beginning of a rest is a token exactly if it is no longer than the longest one -/
theorem kindR_take (r : Bytes) (n : Nat) (h1 : 1 ≤ n) (hn : n ≤ r.length) : kindR (r.take n) ≠ 0 ↔ n ≤ tokLen r := by
  match r with
  | [] => simp at hn; omega
  | c :: x =>
    obtain ⟨m, rfl⟩ : ∃ m, n = m + 1 := ⟨n - 1, by omega⟩
    have hm : m ≤ x.length := by simpa using hn
    rw [List.take_succ_cons]
    unfold kindR tokLen
    dsimp only
    by_cases hd : dig c = true
    · have hnum : numB (c :: x.take m) = true ↔ m + 1 ≤ run dig (c :: x) := by
        unfold numB
        have := all_take dig (c :: x) (m + 1) hn
        rw [List.take_succ_cons] at this
        simpa using this
      rw [if_pos hd]
      by_cases hk : m + 1 ≤ run dig (c :: x)
      · rw [if_pos (hnum.2 hk)]; simp [hk]
      · rw [if_neg (fun h => hk (hnum.1 h))]
        have hname : nameB (c :: x.take m) = false := by simp [nameB, dig_ltr c hd]
        have hs := isSign_head c (x.take m) (sg_dig c hd).1 (sg_dig c hd).2
        simp [hname, hs, hk]
    · have hnum : numB (c :: x.take m) = false := by simp [numB, hd]
      rw [if_neg hd]
      simp only [hnum, Bool.false_eq_true, if_false]
      by_cases hl : ltr c = true
      · rw [if_pos hl]
        have hname : nameB (c :: x.take m) = true ↔ m + 1 ≤ run aln (c :: x) := by
          unfold nameB
          rw [run_cons, if_pos (by simp [aln, hl]), Bool.and_eq_true, all_take aln x m hm]
          simp [hl]
        by_cases hk : m + 1 ≤ run aln (c :: x)
        · rw [if_pos (hname.2 hk)]
          split <;> simp [hk]
        · rw [if_neg (fun h => hk (hname.1 h))]
          have hs := isSign_head c (x.take m) (sg_ltr c hl).1 (sg_ltr c hl).2
          simp [hs, hk]
      · rw [if_neg hl]
        have hname : nameB (c :: x.take m) = false := by simp [nameB, hl]
        simp only [hname, Bool.false_eq_true, if_false]
        have key : isSign (c :: x.take m) = true ↔ m + 1 ≤ signLen (c :: x) := by
          match m, x, hm with
          | 0, [], _ => rw [List.take_zero, sign1]; simp only [signLen]; split <;> simp_all
          | 0, d :: y, _ =>
            rw [List.take_zero, sign1]
            simp only [signLen]
            by_cases g2 : sg2 c d = true
            · simp [g2, sg2_sg1 c d g2]
            · by_cases g1 : sg1 c = true
              · simp [g1, g2]
              · simp [g1, g2]
          | 1, d :: y, _ =>
            rw [List.take_succ_cons, List.take_zero, sign2]
            simp only [signLen]
            by_cases g2 : sg2 c d = true
            · simp [g2]
            · by_cases g1 : sg1 c = true
              · simp [g1, g2]
              · simp [g1, g2]
          | k + 2, d :: e :: y, _ =>
            rw [List.take_succ_cons, List.take_succ_cons, sign3]
            have : signLen (c :: d :: e :: y) ≤ 2 := by simp only [signLen]; split <;> (try split) <;> omega
            simp
            omega
        by_cases hs : isSign (c :: x.take m) = true
        · rw [if_pos hs]; simp [key.1 hs]
        · rw [if_neg hs]
          have : ¬ m + 1 ≤ signLen (c :: x) := fun h => hs (key.2 h)
          simp [this]

/-- the head's token by the reference's way -/
theorem next_ref (c : UInt8) (x : Bytes) :
    next (c :: x) = if tokLen (c :: x) = 0 then (0, 0, 6) else if wrongR ((c :: x).take (tokLen (c :: x))) ≠ 0 then (0, 0, wrongR ((c :: x).take (tokLen (c :: x)))) else (kindR ((c :: x).take (tokLen (c :: x))), tokLen (c :: x), 0) := by
  unfold next
  dsimp only
  by_cases hd : dig c = true
  · rw [if_pos hd]
    have ht : tokLen (c :: x) = run dig (c :: x) := by simp [tokLen, hd]
    rw [ht]
    have hp := run_pos dig c x hd
    have hle := run_le dig (c :: x)
    generalize hn : run dig (c :: x) = n at *
    obtain ⟨m, rfl⟩ : ∃ m, n = m + 1 := ⟨n - 1, by omega⟩
    have hnum : numB ((c :: x).take (m + 1)) = true := by
      have := (all_take dig (c :: x) (m + 1) hle).2 (by omega)
      unfold numB
      rw [this]
      simp
    have hk : kindR ((c :: x).take (m + 1)) = 1 := by unfold kindR; rw [if_pos hnum]
    have hlen : ((c :: x).take (m + 1)).length = m + 1 := by rw [List.length_take]; omega
    have hh : ((c :: x).take (m + 1)).headD 0 = c := by rw [List.take_succ_cons]; rfl
    generalize (c :: x).take (m + 1) = t at *
    rw [if_neg (Nat.succ_ne_zero m)]
    by_cases h1 : c.toNat = 48 ∧ 1 < m + 1
    · have hw : wrongR t = 6 := by unfold wrongR; rw [if_pos ⟨hk, by rw [hlen]; exact h1.2, by rw [hh]; exact h1.1⟩]
      rw [if_pos h1, hw]; rfl
    · have h1' : ¬ (kindR t = 1 ∧ 1 < t.length ∧ (t.headD 0).toNat = 48) := fun h => h1 ⟨by rw [← hh]; exact h.2.2, by rw [← hlen]; exact h.2.1⟩
      rw [if_neg h1]
      by_cases h2 : 40 < m + 1
      · have hw : wrongR t = 8 := by unfold wrongR; rw [if_neg h1', if_pos (Or.inl ⟨hk, by rw [hlen]; exact h2⟩)]
        rw [if_pos h2, hw]; rfl
      · have hw : wrongR t = 0 := by unfold wrongR; rw [if_neg h1', if_neg (by rw [hk, hlen]; omega)]
        rw [if_neg h2, hw, hk]; rfl
  · rw [if_neg hd]
    by_cases hl : ltr c = true
    · rw [if_pos hl]
      have ht : tokLen (c :: x) = run aln (c :: x) := by simp [tokLen, hd, hl]
      rw [ht]
      have hp := run_pos aln c x (by simp [aln, hl])
      have hle := run_le aln (c :: x)
      generalize hn : run aln (c :: x) = n at *
      obtain ⟨m, rfl⟩ : ∃ m, n = m + 1 := ⟨n - 1, by omega⟩
      have hnum : numB ((c :: x).take (m + 1)) = false := by rw [List.take_succ_cons]; simp [numB, hd]
      have hname : nameB ((c :: x).take (m + 1)) = true := by
        rw [List.take_succ_cons]
        unfold nameB
        rw [run_cons, if_pos (by simp [aln, hl])] at hn
        have := (all_take aln x m (by simpa using hle)).2 (by omega)
        show (ltr c && (x.take m).all aln) = true
        rw [this, hl]; rfl
      have hk : kindR ((c :: x).take (m + 1)) = if isWord ((c :: x).take (m + 1)) then 3 else 2 := by unfold kindR; rw [hnum, hname]; rfl
      have hlen : ((c :: x).take (m + 1)).length = m + 1 := by rw [List.length_take]; omega
      have hk2 : kindR ((c :: x).take (m + 1)) = 2 ∨ kindR ((c :: x).take (m + 1)) = 3 := by rw [hk]; split <;> simp
      generalize (c :: x).take (m + 1) = t at *
      rw [if_neg (Nat.succ_ne_zero m)]
      by_cases h2 : 16 < m + 1
      · have hw : wrongR t = 8 := by unfold wrongR; rw [if_neg (by omega), if_pos (Or.inr ⟨hk2, by rw [hlen]; exact h2⟩)]
        rw [if_pos h2, hw]; rfl
      · have hw : wrongR t = 0 := by unfold wrongR; rw [if_neg (by omega), if_neg (by omega)]
        rw [if_neg h2, hw, hk]; rfl
    · rw [if_neg hl]
      have ht : tokLen (c :: x) = signLen (c :: x) := by simp [tokLen, hd, hl]
      have hle := tokLen_le (c :: x)
      have hkt := kindR_take (c :: x) (tokLen (c :: x))
      rw [ht] at hle hkt ⊢
      by_cases h0 : signLen (c :: x) = 0
      · rw [if_neg (by omega), if_pos h0]
      · rw [if_pos (by omega), if_neg h0]
        have hk := (hkt (by omega) hle).2 (Nat.le_refl _)
        have hk4 : kindR ((c :: x).take (signLen (c :: x))) = 4 := by
          generalize signLen (c :: x) = n at *
          obtain ⟨m, rfl⟩ : ∃ m, n = m + 1 := ⟨n - 1, by omega⟩
          rw [List.take_succ_cons] at *
          unfold kindR at *
          have hnum : numB (c :: x.take m) = false := by simp [numB, hd]
          have hname : nameB (c :: x.take m) = false := by simp [nameB, hl]
          simp only [hnum, hname, Bool.false_eq_true, if_false] at *
          split
          · rfl
          · rename_i hh; rw [if_neg hh] at hk; exact absurd rfl hk
        have hw : wrongR ((c :: x).take (signLen (c :: x))) = 0 := by unfold wrongR; rw [hk4, if_neg (by omega), if_neg (by omega)]
        rw [hw, hk4]
        rfl

end Lx
end Go.Proofs.YtkjbfomokdjbnaaGreat

/-
  Plain laws: where tokens stand.
-/
namespace Go.Proofs.YtkjbfomokdjbnaaGreat
namespace Lx
set_option linter.unusedSimpArgs false
set_option linter.unusedVariables false

/-- The tokens stand at their offsets behind p, and only blanks stand between, before and after them. -/
def Placed (s : Bytes) : Nat → List Tok → Prop
  | p, [] => p ≤ s.length ∧ ∀ k (h : k < s.length), p ≤ k → bl s[k] = true
  | p, t :: ts => p ≤ t.pos ∧ 1 ≤ t.text.length ∧ t.pos + t.text.length ≤ s.length ∧ (∀ k (h : k < s.length), p ≤ k → k < t.pos → bl s[k] = true) ∧ t.text = (s.drop t.pos).take t.text.length ∧ Placed s (t.pos + t.text.length) ts

theorem placed_back (s : Bytes) (p : Nat) (h : p < s.length) (hb : bl s[p] = true) : ∀ L, Placed s (p + 1) L → Placed s p L := by
  intro L
  match L with
  | [] =>
    intro ⟨h1, h2⟩
    refine ⟨by omega, fun k hk hp => ?_⟩
    rcases Nat.lt_or_eq_of_le hp with g | g
    · exact h2 k hk g
    · subst g; exact hb
  | t :: ts =>
    intro ⟨h1, h2, h3, h4, h5, h6⟩
    refine ⟨by omega, h2, h3, fun k hk hp hl => ?_, h5, h6⟩
    rcases Nat.lt_or_eq_of_le hp with g | g
    · exact h4 k hk g hl
    · subst g; exact hb

theorem drop_get (s : Bytes) (p : Nat) (c : UInt8) (r : Bytes) (h : s.drop p = c :: r) : ∃ hp : p < s.length, s[p] = c ∧ s.drop (p + 1) = r := by
  have hp : p < s.length := by
    rcases Nat.lt_or_ge p s.length with g | g
    · exact g
    · rw [List.drop_eq_nil_of_le g] at h; cases h
  refine ⟨hp, ?_⟩
  rw [List.drop_eq_getElem_cons hp] at h
  injection h with h1 h2
  exact ⟨h1, h2⟩

theorem placed_of (s : Bytes) : ∀ (p : Nat) (r : Bytes), s.drop p = r → p ≤ s.length → (lexBl p r).2.2 = 0 → Placed s p (lexBl p r).1 := by
  refine lexBl_ind (P := fun p r => s.drop p = r → p ≤ s.length → (lexBl p r).2.2 = 0 → Placed s p (lexBl p r).1) ?_ ?_ ?_ ?_
  · intro p h hp _
    refine ⟨hp, fun k hk hpk => ?_⟩
    have := List.drop_eq_nil_iff.1 h
    omega
  · intro p c r hb ih h hp he
    obtain ⟨hp', h1, h2⟩ := drop_get s p c r h
    rw [lexBl_blank _ _ _ hb] at he ⊢
    exact placed_back s p hp' (by rw [h1]; exact hb) _ (ih h2 hp' he)
  · intro p c r hb hn h hp he
    rw [lexBl_non _ _ _ hb, lexA_err _ _ (by simp) hn] at he
    exact absurd he hn
  · intro p c r hb hn ih h hp he
    obtain ⟨h1, h2, _⟩ := next_ok _ hn
    rw [lexBl_non _ _ _ hb, lexA_ok' _ _ (by simp) hn] at he ⊢
    have hl : (c :: r).length = s.length - p := by rw [← h, List.length_drop]
    generalize hk : (next (c :: r)).2.1 = n at *
    have htl : ((c :: r).take n).length = n := by rw [List.length_take]; omega
    refine ⟨Nat.le_refl _, ?_, ?_, fun k _ h3 h4 => ?_, ?_, ?_⟩
    · show 1 ≤ ((c :: r).take n).length
      omega
    · show p + ((c :: r).take n).length ≤ s.length
      omega
    · have h4' : k < p := h4
      omega
    · show (c :: r).take n = (s.drop p).take ((c :: r).take n).length
      rw [h, htl]
    · show Placed s (p + ((c :: r).take n).length) _
      rw [htl]
      exact ih (by rw [← List.drop_drop, h]) (by omega) he

theorem placed_lex (s : Bytes) (h : (lex s).2.2 = 0) : Placed s 0 (lex s).1 := by
  unfold lex at h ⊢
  split at h
  · simp at h
  · rename_i h0
    rw [if_neg h0]
    split at h
    · rename_i h1
      rw [if_pos h1]
      rw [before_bl] at h1 ⊢
      exact placed_of s 0 s (List.drop_zero) (Nat.zero_le _) h1
    · rename_i h1; exact absurd h h1
end Lx
end Go.Proofs.YtkjbfomokdjbnaaGreat

/-
  Plain laws: two texts with a blank between; a blank put in; a beginning of a text.
-/
namespace Go.Proofs.YtkjbfomokdjbnaaGreat
namespace Lx
set_option linter.unusedSimpArgs false
set_option linter.unusedVariables false

def mv (d : Nat) (t : Tok) : Tok := ⟨t.kind, t.text, t.pos + d⟩
theorem mv_zero (t : Tok) : mv 0 t = t := rfl
theorem mv_mv (d e : Nat) (t : Tok) : mv d (mv e t) = mv (e + d) t := by simp [mv, Nat.add_assoc]

/-- lexing elsewhere moves the offsets alone -/
theorem lexBl_move (d : Nat) : ∀ (p : Nat) (r : Bytes), lexBl (p + d) r = ((lexBl p r).1.map (mv d), (if (lexBl p r).2.2 = 0 then 0 else (lexBl p r).2.1 + d), (lexBl p r).2.2) := by
  refine lexBl_ind (P := fun p r => lexBl (p + d) r = ((lexBl p r).1.map (mv d), (if (lexBl p r).2.2 = 0 then 0 else (lexBl p r).2.1 + d), (lexBl p r).2.2)) ?_ ?_ ?_ ?_
  · intro p; rfl
  · intro p c r hb ih
    have e : p + d + 1 = p + 1 + d := by omega
    rw [lexBl_blank _ _ _ hb, lexBl_blank _ _ _ hb, e, ih]
  · intro p c r hb hn
    rw [lexBl_non _ _ _ hb, lexBl_non _ _ _ hb, lexA_err _ _ (by simp) hn, lexA_err _ _ (by simp) hn]
    simp [hn]
  · intro p c r hb hn ih
    have e : p + d + (next (c :: r)).2.1 = p + (next (c :: r)).2.1 + d := by omega
    rw [lexBl_non _ _ _ hb, lexBl_non _ _ _ hb, lexA_ok' _ _ (by simp) hn, lexA_ok' _ _ (by simp) hn, e, ih]
    simp [mv]

/-- where no error is, its offset is 0 -/
theorem lexBl_ok0 : ∀ (p : Nat) (r : Bytes), (lexBl p r).2.2 = 0 → (lexBl p r).2.1 = 0 := by
  refine lexBl_ind (fun _ _ => rfl) (fun p c r hb ih => ?_) (fun p c r hb hn h => ?_) (fun p c r hb hn ih => ?_)
  · rw [lexBl_blank _ _ _ hb]; exact ih
  · rw [lexBl_non _ _ _ hb, lexA_err _ _ (by simp) hn] at h; exact absurd h hn
  · rw [lexBl_non _ _ _ hb, lexA_ok' _ _ (by simp) hn]; exact ih

/-- two texts with a blank between -/
theorem lexBl_two (x : UInt8) (hx : bl x = true) (b : Bytes) : ∀ (p : Nat) (a : Bytes), lexBl p (a ++ x :: b) =
    if (lexBl p a).2.2 = 0 then ((lexBl p a).1 ++ (lexBl (p + a.length + 1) b).1, (lexBl (p + a.length + 1) b).2) else lexBl p a := by
  refine lexBl_ind (P := fun p a => lexBl p (a ++ x :: b) = if (lexBl p a).2.2 = 0 then ((lexBl p a).1 ++ (lexBl (p + a.length + 1) b).1, (lexBl (p + a.length + 1) b).2) else lexBl p a) ?_ ?_ ?_ ?_
  · intro p
    rw [List.nil_append, lexBl_blank _ _ _ hx, lexBl_nil, if_pos rfl]
    rfl
  · intro p c r hb ih
    have e : p + 1 + r.length + 1 = p + (c :: r).length + 1 := by simp only [List.length_cons]; omega
    rw [List.cons_append, lexBl_blank _ _ _ hb, lexBl_blank _ _ _ hb, ih, e]
  · intro p c r hb hn
    have hn' : next (c :: (r ++ x :: b)) = next (c :: r) := next_app (c :: r) x b (by simp) hx
    rw [List.cons_append, lexBl_non _ _ _ hb, lexBl_non _ _ _ hb, lexA_err _ _ (by simp) (by rw [hn']; exact hn), lexA_err _ _ (by simp) hn, hn']
    rw [if_neg hn]
  · intro p c r hb hn ih
    have hn' : next (c :: (r ++ x :: b)) = next (c :: r) := next_app (c :: r) x b (by simp) hx
    obtain ⟨h1, h2, _⟩ := next_ok _ hn
    have hd : (c :: (r ++ x :: b)).drop (next (c :: r)).2.1 = (c :: r).drop (next (c :: r)).2.1 ++ x :: b := by
      show ((c :: r) ++ x :: b).drop _ = _
      rw [List.drop_append_of_le_length h2]
    have ht : (c :: (r ++ x :: b)).take (next (c :: r)).2.1 = (c :: r).take (next (c :: r)).2.1 := by
      show ((c :: r) ++ x :: b).take _ = _
      rw [List.take_append_of_le_length h2]
    have e : p + (next (c :: r)).2.1 + ((c :: r).drop (next (c :: r)).2.1).length + 1 = p + (c :: r).length + 1 := by rw [List.length_drop]; omega
    rw [List.cons_append, lexBl_non _ _ _ hb, lexBl_non _ _ _ hb, lexA_ok' _ _ (by simp) (by rw [hn']; exact hn), lexA_ok' _ _ (by simp) hn, hn', hd, ht, ih, e]
    dsimp only
    split
    · rfl
    · rfl

/-- the laws' form: with the limit on the source -/
theorem lex_small (s : Bytes) (h : s.length ≤ 4000) : lex s = if (lexBl 0 s).2.2 = 0 then ((lexBl 0 s).1, 0, 0) else ([], (lexBl 0 s).2.1, (lexBl 0 s).2.2) := by
  unfold lex
  rw [if_neg (by omega), before_bl]

theorem lex_two (a b : Bytes) (ha : a.length < 2000) (hb : b.length < 2000) :
    lex (a ++ 32 :: b) = if (lex a).2.2 ≠ 0 then lex a else if (lex b).2.2 ≠ 0 then ([], a.length + 1 + (lex b).2.1, (lex b).2.2) else ((lex a).1 ++ (lex b).1.map (mv (a.length + 1)), 0, 0) := by
  have hm := lexBl_move (a.length + 1) 0 b
  have e : 0 + (a.length + 1) = 0 + a.length + 1 := by omega
  rw [e] at hm
  rw [lex_small _ (by simp only [List.length_append, List.length_cons]; omega), lex_small a (by omega), lex_small b (by omega), lexBl_two 32 rfl b 0 a, hm]
  by_cases h1 : (lexBl 0 a).2.2 = 0
  · rw [if_pos h1]
    by_cases h2 : (lexBl 0 b).2.2 = 0
    · simp [h1, h2]
    · simp [h1, h2, Nat.add_comm]
  · rw [if_neg h1]
    simp [h1]

/-! ### a blank put in -/
def ins (o : Nat) (x : UInt8) (r : Bytes) : Bytes := r.take o ++ x :: r.drop o
theorem ins_zero (x : UInt8) (r : Bytes) : ins 0 x r = x :: r := by simp [ins]
theorem ins_succ (o : Nat) (x c : UInt8) (r : Bytes) : ins (o + 1) x (c :: r) = c :: ins o x r := by simp [ins]
theorem drop_ins (k o : Nat) (x : UInt8) (r : Bytes) (hk : k ≤ o) (ho : o ≤ r.length) : (ins o x r).drop k = ins (o - k) x (r.drop k) := by
  unfold ins
  rw [List.drop_append_of_le_length (by rw [List.length_take]; omega), List.drop_take, List.drop_drop]
  have e : k + (o - k) = o := by omega
  rw [e]
theorem take_ins (k o : Nat) (x : UInt8) (r : Bytes) (hk : k ≤ o) (ho : o ≤ r.length) : (ins o x r).take k = r.take k := by
  unfold ins
  rw [List.take_append_of_le_length (by rw [List.length_take]; omega), List.take_take]
  congr 1
  omega

/-- the end of the n-th token (n ≥ 1), counted from p -/
def endAt (p : Nat) (L : List Tok) (n : Nat) : Nat := match n with
  | 0 => p
  | n + 1 => match L[n]? with
    | some t => t.pos + t.text.length
    | none => p

theorem endAt_succ (p : Nat) (L : List Tok) (n : Nat) (h : n < L.length) : endAt p L (n + 1) = L[n].pos + L[n].text.length := by
  simp [endAt, List.getElem?_eq_getElem h]

/-- the tokens from the n-th on are moved -/
def shiftFrom (L : List Tok) (n : Nat) : List Tok := L.take n ++ (L.drop n).map (mv 1)

theorem lexBl_pos : ∀ (p : Nat) (r : Bytes), ∀ t ∈ (lexBl p r).1, p ≤ t.pos ∧ 1 ≤ t.text.length := by
  refine lexBl_ind (P := fun p r => ∀ t ∈ (lexBl p r).1, p ≤ t.pos ∧ 1 ≤ t.text.length) ?_ ?_ ?_ ?_
  · intro p t ht; rw [lexBl_nil] at ht; simp at ht
  · intro p c r hb ih t ht
    rw [lexBl_blank _ _ _ hb] at ht
    have := ih t ht
    exact ⟨by omega, this.2⟩
  · intro p c r hb hn t ht
    rw [lexBl_non _ _ _ hb, lexA_err _ _ (by simp) hn] at ht; simp at ht
  · intro p c r hb hn ih t ht
    obtain ⟨h1, h2, _⟩ := next_ok _ hn
    rw [lexBl_non _ _ _ hb, lexA_ok' _ _ (by simp) hn] at ht
    rcases List.mem_cons.1 ht with rfl | ht
    · refine ⟨Nat.le_refl _, ?_⟩
      show 1 ≤ ((c :: r).take _).length
      rw [List.length_take]; omega
    · have := ih t ht
      exact ⟨by omega, this.2⟩

theorem lexBl_ins (x : UInt8) (hx : bl x = true) : ∀ (p : Nat) (r : Bytes) (n : Nat), 1 ≤ n → n ≤ (lexBl p r).1.length → (lexBl p r).2.2 = 0 → endAt p (lexBl p r).1 n ≤ p + r.length →
    lexBl p (ins (endAt p (lexBl p r).1 n - p) x r) = (shiftFrom (lexBl p r).1 n, 0, 0) := by
  refine lexBl_ind (P := fun p r => ∀ n, 1 ≤ n → n ≤ (lexBl p r).1.length → (lexBl p r).2.2 = 0 → endAt p (lexBl p r).1 n ≤ p + r.length → lexBl p (ins (endAt p (lexBl p r).1 n - p) x r) = (shiftFrom (lexBl p r).1 n, 0, 0)) ?_ ?_ ?_ ?_
  · intro p n h1 h2 _ _
    rw [lexBl_nil] at h2
    simp at h2; omega
  · intro p c r hb ih n h1 h2 h3 h4
    rw [lexBl_blank _ _ _ hb] at h2 h3 h4 ⊢
    obtain ⟨m, rfl⟩ : ∃ m, n = m + 1 := ⟨n - 1, by omega⟩
    have hm : m < (lexBl (p + 1) r).1.length := by omega
    have e1 : ∀ q, endAt q (lexBl (p + 1) r).1 (m + 1) = (lexBl (p + 1) r).1[m].pos + (lexBl (p + 1) r).1[m].text.length := by
      intro q; exact endAt_succ q _ m hm
    have hp := lexBl_pos (p + 1) r _ (List.getElem_mem hm)
    have hl : (c :: r).length = r.length + 1 := rfl
    have := ih (m + 1) h1 h2 h3 (by rw [e1] at h4 ⊢; omega)
    rw [e1] at this h4 ⊢
    obtain ⟨o, ho⟩ : ∃ o, (lexBl (p + 1) r).1[m].pos + (lexBl (p + 1) r).1[m].text.length - p = o + 1 := ⟨(lexBl (p + 1) r).1[m].pos + (lexBl (p + 1) r).1[m].text.length - p - 1, by omega⟩
    have ho' : (lexBl (p + 1) r).1[m].pos + (lexBl (p + 1) r).1[m].text.length - (p + 1) = o := by omega
    rw [ho, ins_succ, lexBl_blank _ _ _ hb]
    rw [ho'] at this
    exact this
  · intro p c r hb hn n h1 h2 h3 h4
    rw [lexBl_non _ _ _ hb, lexA_err _ _ (by simp) hn] at h3
    exact absurd h3 hn
  · intro p c r hb hn ih n h1 h2 h3 h4
    obtain ⟨g1, g2, _⟩ := next_ok _ hn
    have eL : lexBl p (c :: r) = lexA p (c :: r) := lexBl_non _ _ _ hb
    rw [eL, lexA_ok' _ _ (by simp) hn] at h2 h3 h4 ⊢
    dsimp only at h2 h3 h4 ⊢
    generalize hk : (next (c :: r)).2.1 = k at *
    have htl : ((c :: r).take k).length = k := by rw [List.length_take]; omega
    obtain ⟨m, rfl⟩ : ∃ m, n = m + 1 := ⟨n - 1, by omega⟩
    match m with
    | 0 =>
      have e0 : endAt p (⟨(next (c :: r)).1, (c :: r).take k, p⟩ :: (lexBl (p + k) ((c :: r).drop k)).1) (0 + 1) = p + k := by
        show p + ((c :: r).take k).length = p + k
        rw [htl]
      rw [e0, Nat.add_sub_cancel_left]
      obtain ⟨j, rfl⟩ : ∃ j, k = j + 1 := ⟨k - 1, by omega⟩
      have hj : ins (j + 1) x (c :: r) = c :: (r.take j ++ x :: r.drop j) := by simp [ins]
      have ht : c :: r.take j = (c :: r).take (j + 1) := by simp
      have hnx : next (c :: (r.take j ++ x :: r.drop j)) = next (c :: r) := by
        have h5 := next_app ((c :: r).take (j + 1)) x (r.drop j) (by simp) hx
        have h6 := next_take (c :: r) hn
        rw [hk] at h6
        rw [h6, ← ht, List.cons_append] at h5
        exact h5
      rw [hj, lexBl_non _ _ _ hb, lexA_ok' _ _ (by simp) (by rw [hnx]; exact hn), hnx, hk]
      have e1 : (c :: (r.take j ++ x :: r.drop j)).take (j + 1) = (c :: r).take (j + 1) := by
        have := take_ins (j + 1) (j + 1) x (c :: r) (Nat.le_refl _) g2
        rwa [hj] at this
      have e2 : (c :: (r.take j ++ x :: r.drop j)).drop (j + 1) = x :: r.drop j := by
        have := drop_ins (j + 1) (j + 1) x (c :: r) (Nat.le_refl _) g2
        rw [hj, Nat.sub_self, ins_zero] at this
        simpa using this
      rw [e1, e2, lexBl_blank _ _ _ hx]
      have e3 : (c :: r).drop (j + 1) = r.drop j := by simp
      rw [e3] at h3 ⊢
      rw [lexBl_move 1 (p + (j + 1)) (r.drop j), h3]
      simp [shiftFrom]
    | m + 1 =>
      have hm : m < (lexBl (p + k) ((c :: r).drop k)).1.length := by simp only [List.length_cons] at h2; omega
      have hp := lexBl_pos (p + k) ((c :: r).drop k) _ (List.getElem_mem hm)
      have e0 : endAt p (⟨(next (c :: r)).1, (c :: r).take k, p⟩ :: (lexBl (p + k) ((c :: r).drop k)).1) (m + 1 + 1) = endAt (p + k) (lexBl (p + k) ((c :: r).drop k)).1 (m + 1) := by
        rw [endAt_succ _ _ _ (by simp only [List.length_cons]; omega), endAt_succ _ _ _ hm]
        rfl
      have e1 : endAt (p + k) (lexBl (p + k) ((c :: r).drop k)).1 (m + 1) = (lexBl (p + k) ((c :: r).drop k)).1[m].pos + (lexBl (p + k) ((c :: r).drop k)).1[m].text.length := by
        exact endAt_succ _ _ m hm
      rw [e0] at h4 ⊢
      have hih := ih (m + 1) (by omega) (by omega) h3 (by rw [List.length_drop]; omega)
      generalize hE : endAt (p + k) (lexBl (p + k) ((c :: r).drop k)).1 (m + 1) = E at *
      have ho : k + 1 ≤ E - p := by omega
      have hol : E - p ≤ (c :: r).length := by omega
      obtain ⟨o, hoo⟩ : ∃ o, E - p = o + 1 := ⟨E - p - 1, by omega⟩
      have hins : ins (E - p) x (c :: r) = c :: ins o x r := by rw [hoo, ins_succ]
      have hnx : next (c :: ins o x r) = next (c :: r) := by
        have h5 := next_local ((c :: r).take (E - p)) (x :: (c :: r).drop (E - p)) ((c :: r).drop (E - p)) (by rw [List.take_append_drop]; exact hn) (by rw [List.take_append_drop, List.length_take, hk]; omega)
        rw [List.take_append_drop] at h5
        rw [← hins]
        exact h5
      rw [hins, lexBl_non _ _ _ hb, lexA_ok' _ _ (by simp) (by rw [hnx]; exact hn), hnx, hk, ← hins, take_ins _ _ _ _ (by omega) hol, drop_ins _ _ _ _ (by omega) hol]
      have e3 : E - p - k = E - (p + k) := by omega
      rw [e3, hih]
      simp [shiftFrom]

/-- the law's form -/
theorem lex_ins (x : UInt8) (hx : bl x = true) (s : Bytes) (h : s.length < 4000) (h0 : (lex s).2.2 = 0) (n : Nat) (hn : n ≤ (lex s).1.length) (he : endAt 0 (lex s).1 n ≤ s.length) :
    lex (ins (endAt 0 (lex s).1 n) x s) = (shiftFrom (lex s).1 n, 0, 0) := by
  rw [lex_small s (by omega)] at h0 hn he ⊢
  have hok : (lexBl 0 s).2.2 = 0 := by
    by_cases hz : (lexBl 0 s).2.2 = 0
    · exact hz
    · rw [if_neg hz] at h0; exact h0
  rw [if_pos hok] at hn he ⊢
  dsimp only at hn he ⊢
  have hlen : (ins (endAt 0 (lexBl 0 s).1 n) x s).length ≤ 4000 := by
    unfold ins
    simp only [List.length_append, List.length_take, List.length_cons, List.length_drop]
    omega
  have key : lexBl 0 (ins (endAt 0 (lexBl 0 s).1 n) x s) = (shiftFrom (lexBl 0 s).1 n, 0, 0) := by
    match n with
    | 0 =>
      show lexBl 0 (ins 0 x s) = _
      rw [ins_zero, lexBl_blank _ _ _ hx, lexBl_move 1 0 s, hok]
      simp [shiftFrom]
    | n + 1 =>
      have := lexBl_ins x hx 0 s (n + 1) (by omega) hn hok (by omega)
      rwa [Nat.sub_zero] at this
  rw [lex_small _ hlen, key]
  rfl

/-! ### a beginning of a text -/
/-- what a beginning of a text has for tokens: those that end within it, and at most one that is cut -/
theorem lexBl_cut : ∀ (p : Nat) (r : Bytes) (m : Nat), (lexBl p r).2.2 = 0 → m ≤ r.length →
    (lexBl p (r.take m)).2.2 = 0 ∧ (lexBl p (r.take m)).1.length ≤ (lexBl p r).1.length ∧
    (∀ (i : Nat) (hi : i < (lexBl p r).1.length), (lexBl p r).1[i].pos + (lexBl p r).1[i].text.length ≤ p + m → ∃ hj : i < (lexBl p (r.take m)).1.length, (lexBl p (r.take m)).1[i] = (lexBl p r).1[i]) ∧
    (∀ (i : Nat) (hi : i < (lexBl p r).1.length), p + m ≤ (lexBl p r).1[i].pos → (lexBl p (r.take m)).1.length ≤ i) := by
  refine lexBl_ind (P := fun p r => ∀ m, (lexBl p r).2.2 = 0 → m ≤ r.length →
    (lexBl p (r.take m)).2.2 = 0 ∧ (lexBl p (r.take m)).1.length ≤ (lexBl p r).1.length ∧
    (∀ (i : Nat) (hi : i < (lexBl p r).1.length), (lexBl p r).1[i].pos + (lexBl p r).1[i].text.length ≤ p + m → ∃ hj : i < (lexBl p (r.take m)).1.length, (lexBl p (r.take m)).1[i] = (lexBl p r).1[i]) ∧
    (∀ (i : Nat) (hi : i < (lexBl p r).1.length), p + m ≤ (lexBl p r).1[i].pos → (lexBl p (r.take m)).1.length ≤ i)) ?_ ?_ ?_ ?_
  · intro p m _ hm
    simp only [List.take_nil, lexBl_nil]
    refine ⟨trivial, Nat.le_refl _, fun i hi => absurd hi (by simp), fun i hi => absurd hi (by simp)⟩
  · intro p c r hb ih m h hm
    match m with
    | 0 =>
      rw [List.take_zero, lexBl_nil]
      refine ⟨rfl, Nat.zero_le _, fun i hi he => ?_, fun i hi he => Nat.zero_le _⟩
      have := lexBl_pos p (c :: r) _ (List.getElem_mem hi)
      omega
    | m + 1 =>
      have hl : (c :: r).length = r.length + 1 := rfl
      have e1 := lexBl_blank p c r hb
      have e2 := lexBl_blank p c (r.take m) hb
      have := ih m (by rw [e1] at h; exact h) (by omega)
      rw [List.take_succ_cons, e1, e2]
      have e3 : p + 1 + m = p + (m + 1) := by omega
      rw [e3] at this
      exact this
  · intro p c r hb hn m h hm
    rw [lexBl_non _ _ _ hb, lexA_err _ _ (by simp) hn] at h
    exact absurd h hn
  · intro p c r hb hn ih m h hm
    obtain ⟨g1, g2, _⟩ := next_ok _ hn
    have hl : (c :: r).length = r.length + 1 := rfl
    have e1 : lexBl p (c :: r) = _ := (lexBl_non p c r hb).trans (lexA_ok' p _ (by simp) hn)
    rw [e1] at h ⊢
    dsimp only at h ⊢
    match m with
    | 0 =>
      rw [List.take_zero, lexBl_nil]
      refine ⟨rfl, Nat.zero_le _, fun i hi he => ?_, fun i hi he => Nat.zero_le _⟩
      have := lexBl_pos p (c :: r) ((lexBl p (c :: r)).1[i]'(by rw [e1]; exact hi)) (List.getElem_mem _)
      simp only [e1] at this
      omega
    | m + 1 =>
      generalize hk : (next (c :: r)).2.1 = k at *
      have htl : ((c :: r).take k).length = k := by rw [List.length_take]; omega
      by_cases hmk : m + 1 < k ∨ m + 1 = k
      · -- cut within the head's token, or just behind it
        obtain ⟨h5, h6⟩ := next_cut (c :: r) hn (m + 1) (by omega) (by omega)
        have hcut : lexBl p ((c :: r).take (m + 1)) = ([⟨(next ((c :: r).take (m + 1))).1, (c :: r).take (m + 1), p⟩], 0, 0) := by
          rw [List.take_succ_cons] at h5 h6 ⊢
          rw [lexBl_non _ _ _ hb, lexA_ok' _ _ (by simp) h5, h6]
          have e4 : (c :: r.take m).length = m + 1 := by simp only [List.length_cons, List.length_take]; omega
          have t1 : (c :: r.take m).take (m + 1) = c :: r.take m := List.take_of_length_le (by omega)
          have t2 : (c :: r.take m).drop (m + 1) = [] := List.drop_eq_nil_of_le (by omega)
          rw [t1, t2, lexBl_nil]
        rw [hcut]
        refine ⟨rfl, ?_, fun i hi he => ?_, fun i hi he => ?_⟩
        · simp
        · match i with
          | 0 =>
            refine ⟨by simp, ?_⟩
            have he' : p + ((c :: r).take k).length ≤ p + (m + 1) := he
            have : m + 1 = k := by omega
            show (⟨(next ((c :: r).take (m + 1))).1, (c :: r).take (m + 1), p⟩ : Tok) = ⟨(next (c :: r)).1, (c :: r).take k, p⟩
            rw [this]
            have h7 := next_take (c :: r) hn
            rw [hk] at h7
            rw [h7]
          | i + 1 =>
            have hi' : i < (lexBl (p + k) ((c :: r).drop k)).1.length := by simpa using hi
            have he' : (lexBl (p + k) ((c :: r).drop k)).1[i].pos + (lexBl (p + k) ((c :: r).drop k)).1[i].text.length ≤ p + (m + 1) := he
            have := lexBl_pos (p + k) ((c :: r).drop k) _ (List.getElem_mem hi')
            omega
        · match i with
          | 0 =>
            have he' : p + (m + 1) ≤ p := he
            omega
          | i + 1 => simp
      · have hkm : k < m + 1 := by omega
        have hnx : next (c :: r.take m) = next (c :: r) := by
          have h5 := next_local ((c :: r).take (m + 1)) [] ((c :: r).drop (m + 1)) (by rw [List.take_append_drop]; exact hn) (by rw [List.take_append_drop, List.length_take, hk]; omega)
          rw [List.take_append_drop, List.append_nil, List.take_succ_cons] at h5
          exact h5
        have e2 : lexBl p (c :: r.take m) = _ := (lexBl_non p c (r.take m) hb).trans (lexA_ok' p _ (by simp) (by rw [hnx]; exact hn))
        rw [hnx, hk] at e2
        have e3 : (c :: r.take m).take k = (c :: r).take k := by
          rw [← List.take_succ_cons, List.take_take]; congr 1; omega
        have e4 : (c :: r.take m).drop k = ((c :: r).drop k).take (m + 1 - k) := by
          rw [← List.take_succ_cons, List.drop_take]
        rw [e3, e4] at e2
        rw [List.take_succ_cons, e2]
        dsimp only
        have hih := ih (m + 1 - k) h (by rw [List.length_drop]; omega)
        have e5 : p + k + (m + 1 - k) = p + (m + 1) := by omega
        rw [e5] at hih
        obtain ⟨i1, i2, i3, i4⟩ := hih
        refine ⟨i1, by simp only [List.length_cons]; omega, fun i hi he => ?_, fun i hi he => ?_⟩
        · match i with
          | 0 => exact ⟨by simp, rfl⟩
          | i + 1 =>
            obtain ⟨hj, e⟩ := i3 i (by simpa using hi) he
            exact ⟨by simpa using hj, e⟩
        · match i with
          | 0 =>
            have he' : p + (m + 1) ≤ p := he
            omega
          | i + 1 =>
            have := i4 i (by simpa using hi) he
            simp only [List.length_cons]
            omega

theorem lex_cut (s : Bytes) (h : s.length ≤ 4000) (h0 : (lex s).2.2 = 0) (m : Nat) (hm : m ≤ s.length) :
    (lex (s.take m)).2.2 = 0 ∧ (lex (s.take m)).1.length ≤ (lex s).1.length ∧
    (∀ (i : Nat) (hi : i < (lex s).1.length), (lex s).1[i].pos + (lex s).1[i].text.length ≤ m → ∃ hj : i < (lex (s.take m)).1.length, (lex (s.take m)).1[i] = (lex s).1[i]) ∧
    (∀ (i : Nat) (hi : i < (lex s).1.length), m ≤ (lex s).1[i].pos → (lex (s.take m)).1.length ≤ i) := by
  have hok : (lexBl 0 s).2.2 = 0 := by
    rw [lex_small s h] at h0
    by_cases hz : (lexBl 0 s).2.2 = 0
    · exact hz
    · rw [if_neg hz] at h0; exact h0
  have := lexBl_cut 0 s m hok hm
  rw [Nat.zero_add] at this
  obtain ⟨i1, i2, i3, i4⟩ := this
  have e1 : lex s = ((lexBl 0 s).1, 0, 0) := by rw [lex_small s h, if_pos hok]
  have e2 : lex (s.take m) = ((lexBl 0 (s.take m)).1, 0, 0) := by rw [lex_small _ (by rw [List.length_take]; omega), if_pos i1]
  rw [e1, e2]
  exact ⟨rfl, i2, i3, i4⟩

end Lx
end Go.Proofs.YtkjbfomokdjbnaaGreat
