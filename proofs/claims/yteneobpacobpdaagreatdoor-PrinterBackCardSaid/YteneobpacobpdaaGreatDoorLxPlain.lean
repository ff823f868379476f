/-
  Plain definitions and laws on lists of bytes: what the lexer computes. No program in sight.
-/
set_option linter.unusedSimpArgs false
set_option linter.unusedVariables false
namespace Go.Proofs.YteneobpacobpdaaGreatDoor
namespace Lx
abbrev Bytes := List UInt8
def dig (c : UInt8) : Bool := decide (48 ≤ c.toNat) && decide (c.toNat ≤ 57)
def ltr (c : UInt8) : Bool := (decide (97 ≤ c.toNat) && decide (c.toNat ≤ 122)) || (decide (65 ≤ c.toNat) && decide (c.toNat ≤ 90)) || (c.toNat == 95)
def aln (c : UInt8) : Bool := ltr c || dig c
def bl (c : UInt8) : Bool := c.toNat == 9 || c.toNat == 10 || c.toNat == 13 || c.toNat == 32
def words : List Bytes := [[116, 114, 117, 101], [102, 97, 108, 115, 101], [97, 110, 100], [111, 114], [110, 111, 116], [105, 109, 112, 108, 105, 101, 115], [105, 102, 102], [102, 111, 114, 97, 108, 108], [101, 120, 105, 115, 116, 115]]
def isWord (l : Bytes) : Bool := words.contains l
def sg1 (c : UInt8) : Bool := c.toNat == 43 || c.toNat == 45 || c.toNat == 42 || c.toNat == 94 || c.toNat == 40 || c.toNat == 41 || c.toNat == 61 || c.toNat == 60 || c.toNat == 62 || c.toNat == 44 || c.toNat == 46
def sg2 (c d : UInt8) : Bool := (c.toNat == 60 && d.toNat == 62) || (c.toNat == 60 && d.toNat == 61) || (c.toNat == 62 && d.toNat == 61)
def signLen : Bytes → Nat
 | [] => 0
 | [c] => if sg1 c then 1 else 0
 | c :: d :: _ => if sg2 c d then 2 else if sg1 c then 1 else 0
def run (p : UInt8 → Bool) (r : Bytes) : Nat := (r.takeWhile p).length
structure Tok where
 kind : Nat
 text : Bytes
 pos : Nat
def next (r : Bytes) : Nat × Nat × Nat :=
 match r with
 | [] => (0, 0, 6)
 | c :: _ =>
  if dig c then
   (if c.toNat = 48 ∧ 1 < run dig r then (0, 0, 6) else if 40 < run dig r then (0, 0, 8) else (1, run dig r, 0))
  else if ltr c then
   (if 16 < run aln r then (0, 0, 8) else ((if isWord (r.take (run aln r)) then 3 else 2), run aln r, 0))
  else if 0 < signLen r then (4, signLen r, 0) else (0, 0, 6)
def lexR : Nat → Nat → Bytes → List Tok × Nat × Nat
 | 0, _, _ => ([], 0, 0)
 | f + 1, p, r =>
  match r with
  | [] => ([], 0, 0)
  | _ :: _ =>
   if (next r).2.2 = 0 then
    let n := (next r).2.1
    let b := run bl (r.drop n)
    let q := lexR f (p + n + b) ((r.drop n).drop b)
    (⟨(next r).1, r.take n, p⟩ :: q.1, q.2)
   else ([], p, (next r).2.2)
def before (s : Bytes) : List Tok × Nat × Nat := lexR (s.length + 1) (run bl s) (s.drop (run bl s))
def lex (s : Bytes) : List Tok × Nat × Nat :=
 if 4000 < s.length then ([], 4000, 8) else
 if (before s).2.2 = 0 then ((before s).1, 0, 0) else ([], (before s).2.1, (before s).2.2)
theorem run_le (p : UInt8 → Bool) (r : Bytes) : run p r ≤ r.length := by
 unfold run; exact List.IsPrefix.length_le (List.takeWhile_prefix p)
theorem run_nil (p : UInt8 → Bool) : run p [] = 0 := rfl
theorem run_cons (p : UInt8 → Bool) (c : UInt8) (r : Bytes) : run p (c :: r) = if p c then run p r + 1 else 0 := by
 unfold run; rw [List.takeWhile_cons]; split <;> simp
theorem run_app (p : UInt8 → Bool) (r : Bytes) (c : UInt8) (x : Bytes) (hc : p c = false) : run p (r ++ c :: x) = run p r := by
 induction r with
 | nil => simp [run_cons, hc, run_nil]
 | cons d r ih => rw [List.cons_append, run_cons, run_cons, ih]
theorem run_stop (p : UInt8 → Bool) (r : Bytes) (h : run p r < r.length) : p (r[run p r]'h) = false := by
 induction r with
 | nil => simp at h
 | cons c r ih =>
  by_cases hc : p c
  ·have e : run p (c :: r) = run p r + 1 := by rw [run_cons, if_pos hc]
   have h' : run p r < r.length := by rw [e] at h; simpa using h
   have := ih h'
   simpa [e] using this
  ·have e : run p (c :: r) = 0 := by rw [run_cons, if_neg hc]
   simp [e]; simpa using hc
theorem run_in (p : UInt8 → Bool) (r : Bytes) (i : Nat) (h : i < run p r) : p (r[i]'(Nat.lt_of_lt_of_le h (run_le p r))) = true := by
 induction r generalizing i with
 | nil => simp [run_nil] at h
 | cons c r ih =>
  by_cases hc : p c
  ·cases i with
   | zero => simpa using hc
   | succ i => simp; exact ih i (by rw [run_cons, if_pos hc] at h; omega)
  ·rw [run_cons, if_neg hc] at h; omega
theorem run_of (p : UInt8 → Bool) (r : Bytes) (n : Nat) (hn : n ≤ r.length) (h1 : ∀ i (h : i < n), p (r[i]'(by omega)) = true) (h2 : ∀ h : n < r.length, p (r[n]'h) = false) : run p r = n := by
 rcases Nat.lt_trichotomy (run p r) n with h | h | h
 ·have := run_stop p r (by omega)
  rw [h1 _ h] at this; cases this
 ·exact h
 ·have hlt : n < r.length := by have := run_le p r; omega
  have := run_in p r n h
  rw [h2 hlt] at this; cases this
theorem run_pos (p : UInt8 → Bool) (c : UInt8) (r : Bytes) (h : p c = true) : 0 < run p (c :: r) := by
 rw [run_cons, if_pos h]; omega
theorem signLen_le (r : Bytes) : signLen r ≤ r.length := by
 match r with
 | [] => simp [signLen]
 | [c] => simp only [signLen]; split <;> simp
 | c :: d :: x => simp only [signLen]; split <;> (try split) <;> simp <;> omega
theorem next_ok (r : Bytes) (h : (next r).2.2 = 0) : 1 ≤ (next r).2.1 ∧ (next r).2.1 ≤ r.length ∧ 1 ≤ (next r).1 := by
 match r with
 | [] => simp [next] at h
 | c :: x =>
  have hd := run_le dig (c :: x)
  have ha := run_le aln (c :: x)
  have hs := signLen_le (c :: x)
  unfold next at h ⊢
  by_cases h1 : dig c = true
  ·have hp := run_pos dig c x h1
   simp only [h1, if_true] at h ⊢
   by_cases h2 : c.toNat = 48 ∧ 1 < run dig (c :: x)
   ·rw [if_pos h2] at h; simp at h
   ·rw [if_neg h2] at h ⊢
    by_cases h3 : 40 < run dig (c :: x)
    ·rw [if_pos h3] at h; simp at h
    ·rw [if_neg h3]; exact ⟨hp, hd, by simp⟩
  ·simp only [h1, Bool.false_eq_true, if_false] at h ⊢
   by_cases h2 : ltr c = true
   ·have hp := run_pos aln c x (by simp [aln, h2])
    simp only [h2, if_true] at h ⊢
    by_cases h3 : 16 < run aln (c :: x)
    ·rw [if_pos h3] at h; simp at h
    ·rw [if_neg h3]; refine ⟨hp, ha, ?_⟩; dsimp only; split <;> omega
   ·simp only [h2, Bool.false_eq_true, if_false] at h ⊢
    by_cases h3 : 0 < signLen (c :: x)
    ·rw [if_pos h3]; exact ⟨h3, hs, by simp⟩
    ·rw [if_neg h3] at h; simp at h
theorem lexR_fuel : ∀ (f g p : Nat) (r : Bytes), r.length < f → r.length < g → lexR f p r = lexR g p r
 | 0, _, _, _, h, _ => by omega
 | _ + 1, 0, _, _, _, h => by omega
 | f + 1, g + 1, p, r, hf, hg => by
  unfold lexR
  match r with
  | [] => rfl
  | c :: x =>
   dsimp only
   by_cases h : (next (c :: x)).2.2 = 0
   ·rw [if_pos h, if_pos h]
    obtain ⟨h1, h2, _⟩ := next_ok _ h
    have hl : (((c :: x).drop (next (c :: x)).2.1).drop (run bl ((c :: x).drop (next (c :: x)).2.1))).length < f := by
     simp only [List.length_drop] at *; omega
    have hl' : (((c :: x).drop (next (c :: x)).2.1).drop (run bl ((c :: x).drop (next (c :: x)).2.1))).length < g := by
     simp only [List.length_drop] at *; omega
    rw [lexR_fuel f g _ _ hl hl']
   ·rw [if_neg h, if_neg h]
def lexA (p : Nat) (r : Bytes) : List Tok × Nat × Nat := lexR (r.length + 1) p r
theorem lexR_eq (f p : Nat) (r : Bytes) (h : r.length < f) : lexR f p r = lexA p r := lexR_fuel _ _ _ _ h (by omega)
theorem before_eq (s : Bytes) : before s = lexA (run bl s) (s.drop (run bl s)) := by
 unfold before; exact lexR_eq _ _ _ (by simp only [List.length_drop]; omega)
theorem lexA_nil (p : Nat) : lexA p [] = ([], 0, 0) := rfl
theorem lexA_err (p : Nat) (r : Bytes) (hr : r ≠ []) (h : (next r).2.2 ≠ 0) : lexA p r = ([], p, (next r).2.2) := by
 match r, hr with
 | c :: x, _ => simp only [lexA, lexR, if_neg h]
theorem lexA_ok (p : Nat) (r : Bytes) (hr : r ≠ []) (h : (next r).2.2 = 0) :
  lexA p r = (⟨(next r).1, r.take (next r).2.1, p⟩ :: (lexA (p + (next r).2.1 + run bl (r.drop (next r).2.1)) ((r.drop (next r).2.1).drop (run bl (r.drop (next r).2.1)))).1,
   (lexA (p + (next r).2.1 + run bl (r.drop (next r).2.1)) ((r.drop (next r).2.1).drop (run bl (r.drop (next r).2.1)))).2) := by
 obtain ⟨h1, h2, _⟩ := next_ok _ h
 have e := lexR_eq r.length (p + (next r).2.1 + run bl (r.drop (next r).2.1)) ((r.drop (next r).2.1).drop (run bl (r.drop (next r).2.1))) (by simp only [List.length_drop]; omega)
 rw [← e]
 match r, hr with
 | c :: x, _ =>
  conv => lhs; unfold lexA
  rw [lexR.eq_def]
  simp only [if_pos h]
end Lx
end Go.Proofs.YteneobpacobpdaaGreatDoor
namespace Go.Proofs.YteneobpacobpdaaGreatDoor
namespace Lx
def lexBl (p : Nat) (r : Bytes) : List Tok × Nat × Nat := lexA (p + run bl r) (r.drop (run bl r))
theorem lexBl_nil (p : Nat) : lexBl p [] = ([], 0, 0) := rfl
theorem before_bl (s : Bytes) : before s = lexBl 0 s := by rw [before_eq]; unfold lexBl; rw [Nat.zero_add]
theorem lexA_ok' (p : Nat) (r : Bytes) (hr : r ≠ []) (h : (next r).2.2 = 0) :
  lexA p r = (⟨(next r).1, r.take (next r).2.1, p⟩ :: (lexBl (p + (next r).2.1) (r.drop (next r).2.1)).1, (lexBl (p + (next r).2.1) (r.drop (next r).2.1)).2) := lexA_ok p r hr h
theorem lexBl_blank (p : Nat) (c : UInt8) (r : Bytes) (h : bl c = true) : lexBl p (c :: r) = lexBl (p + 1) r := by
 unfold lexBl
 rw [run_cons, if_pos h, List.drop_succ_cons]
 congr 1
 omega
theorem lexBl_non (p : Nat) (c : UInt8) (r : Bytes) (h : bl c = false) : lexBl p (c :: r) = lexA p (c :: r) := by
 unfold lexBl
 rw [run_cons, h]
 rfl
theorem lexBl_ind {P : Nat → Bytes → Prop} (h0 : ∀ p, P p []) (hb : ∀ p c r, bl c = true → P (p + 1) r → P p (c :: r))
  (h1 : ∀ p c r, bl c = false → (next (c :: r)).2.2 ≠ 0 → P p (c :: r))
  (h2 : ∀ p c r, bl c = false → (next (c :: r)).2.2 = 0 → P (p + (next (c :: r)).2.1) ((c :: r).drop (next (c :: r)).2.1) → P p (c :: r)) : ∀ p r, P p r := by
 intro p r
 generalize hn : r.length = n
 induction n using Nat.strongRecOn generalizing p r with
 | _ n ih =>
  match r with
  | [] => exact h0 p
  | c :: r =>
   by_cases hc : bl c = true
   ·exact hb p c r hc (ih _ (by simp only [List.length_cons] at hn; omega) _ _ rfl)
   ·have hc' : bl c = false := by simpa using hc
    by_cases h : (next (c :: r)).2.2 = 0
    ·obtain ⟨g1, g2, _⟩ := next_ok _ h
     exact h2 p c r hc' h (ih _ (by simp only [List.length_drop]; omega) _ _ rfl)
    ·exact h1 p c r hc' h
theorem bl_ltr (c : UInt8) (h : bl c = true) : ltr c = false := by
 unfold bl at h; unfold ltr; simp at h ⊢; omega
end Lx
end Go.Proofs.YteneobpacobpdaaGreatDoor
namespace Go.Proofs.YteneobpacobpdaaGreatDoor
namespace Lx
def nameB : Bytes → Bool
 | [] => false
 | c :: x => ltr c && x.all aln
def signs : List Bytes := [[43], [45], [42], [94], [40], [41], [61], [60, 62], [60], [60, 61], [62], [62, 61], [44], [46]]
theorem dig_ltr (c : UInt8) (h : dig c = true) : ltr c = false := by
 unfold dig at h; unfold ltr; simp at h ⊢; omega
end Lx
end Go.Proofs.YteneobpacobpdaaGreatDoor
namespace Go.Proofs.YteneobpacobpdaaGreatDoor
namespace Lx
end Lx
end Go.Proofs.YteneobpacobpdaaGreatDoor
namespace Go.Proofs.YteneobpacobpdaaGreatDoor
namespace Lx
def mv (d : Nat) (t : Tok) : Tok := ⟨t.kind, t.text, t.pos + d⟩
theorem lexBl_move (d : Nat) : ∀ (p : Nat) (r : Bytes), lexBl (p + d) r = ((lexBl p r).1.map (mv d), (if (lexBl p r).2.2 = 0 then 0 else (lexBl p r).2.1 + d), (lexBl p r).2.2) := by
 refine lexBl_ind (P := fun p r => lexBl (p + d) r = ((lexBl p r).1.map (mv d), (if (lexBl p r).2.2 = 0 then 0 else (lexBl p r).2.1 + d), (lexBl p r).2.2)) ?_ ?_ ?_ ?_
 ·intro p; rfl
 ·intro p c r hb ih
  have e : p + d + 1 = p + 1 + d := by omega
  rw [lexBl_blank _ _ _ hb, lexBl_blank _ _ _ hb, e, ih]
 ·intro p c r hb hn
  rw [lexBl_non _ _ _ hb, lexBl_non _ _ _ hb, lexA_err _ _ (by simp) hn, lexA_err _ _ (by simp) hn]
  simp [hn]
 ·intro p c r hb hn ih
  have e : p + d + (next (c :: r)).2.1 = p + (next (c :: r)).2.1 + d := by omega
  rw [lexBl_non _ _ _ hb, lexBl_non _ _ _ hb, lexA_ok' _ _ (by simp) hn, lexA_ok' _ _ (by simp) hn, e, ih]
  simp [mv]
theorem lex_small (s : Bytes) (h : s.length ≤ 4000) : lex s = if (lexBl 0 s).2.2 = 0 then ((lexBl 0 s).1, 0, 0) else ([], (lexBl 0 s).2.1, (lexBl 0 s).2.2) := by
 unfold lex
 rw [if_neg (by omega), before_bl]
end Lx
end Go.Proofs.YteneobpacobpdaaGreatDoor
