/-
  Plain definitions and laws on lists of bytes: what the lexer computes. No program in sight.
-/


namespace Go.Proofs.YtkjbfomokdjbnaaDoor
namespace Lx

abbrev Bytes := List UInt8

def dig (c : UInt8) : Bool := decide (48 ≤ c.toNat) && decide (c.toNat ≤ 57)
def ltr (c : UInt8) : Bool := (decide (97 ≤ c.toNat) && decide (c.toNat ≤ 122)) || (decide (65 ≤ c.toNat) && decide (c.toNat ≤ 90)) || (c.toNat == 95)
def aln (c : UInt8) : Bool := ltr c || dig c
def bl (c : UInt8) : Bool := c.toNat == 9 || c.toNat == 10 || c.toNat == 13 || c.toNat == 32

def words : List Bytes := [[116, 114, 117, 101], [102, 97, 108, 115, 101], [97, 110, 100], [111, 114], [110, 111, 116], [105, 109, 112, 108, 105, 101, 115], [105, 102, 102], [102, 111, 114, 97, 108, 108], [101, 120, 105, 115, 116, 115]]
def isWord (l : Bytes) : Bool := words.contains l

/-- single signs -/
def sg1 (c : UInt8) : Bool := c.toNat == 43 || c.toNat == 45 || c.toNat == 42 || c.toNat == 94 || c.toNat == 40 || c.toNat == 41 || c.toNat == 61 || c.toNat == 60 || c.toNat == 62 || c.toNat == 44 || c.toNat == 46
/-- double signs -/
def sg2 (c d : UInt8) : Bool := (c.toNat == 60 && d.toNat == 62) || (c.toNat == 60 && d.toNat == 61) || (c.toNat == 62 && d.toNat == 61)

def signLen : Bytes → Nat
  | [] => 0
  | [c] => if sg1 c then 1 else 0
  | c :: d :: _ => if sg2 c d then 2 else if sg1 c then 1 else 0

def run (p : UInt8 → Bool) (r : Bytes) : Nat := (r.takeWhile p).length

structure Tok where
  kind : Nat
  text : Bytes
  pos : Nat

/-- kind, length, error of the token at the head of a rest; kind and length are 0 where there is an error -/
def next (r : Bytes) : Nat × Nat × Nat :=
  match r with
  | [] => (0, 0, 6)
  | c :: _ =>
    if dig c then
      (if c.toNat = 48 ∧ 1 < run dig r then (0, 0, 6) else if 40 < run dig r then (0, 0, 8) else (1, run dig r, 0))
    else if ltr c then
      (if 16 < run aln r then (0, 0, 8) else ((if isWord (r.take (run aln r)) then 3 else 2), run aln r, 0))
    else if 0 < signLen r then (4, signLen r, 0) else (0, 0, 6)

/-- The tokens of a rest that begins with no blank, at offset `at_`: those before the first error, its offset, the error. -/
def lexR : Nat → Nat → Bytes → List Tok × Nat × Nat
  | 0, _, _ => ([], 0, 0)
  | f + 1, p, r =>
    match r with
    | [] => ([], 0, 0)
    | _ :: _ =>
      if (next r).2.2 = 0 then
        let n := (next r).2.1
        let b := run bl (r.drop n)
        let q := lexR f (p + n + b) ((r.drop n).drop b)
        (⟨(next r).1, r.take n, p⟩ :: q.1, q.2)
      else ([], p, (next r).2.2)

/-- tokens before the first error, its offset, the error (0 for none) -/
def before (s : Bytes) : List Tok × Nat × Nat := lexR (s.length + 1) (run bl s) (s.drop (run bl s))

/-! ### runs -/
theorem run_cons (p : UInt8 → Bool) (c : UInt8) (r : Bytes) : run p (c :: r) = if p c then run p r + 1 else 0 := by
  unfold run; rw [List.takeWhile_cons]; split <;> simp
/-! ### signs -/
/-! ### fuel -/
end Lx
end Go.Proofs.YtkjbfomokdjbnaaDoor

/-
  Plain laws on what the lexer computes: locality of the head's token; blanks put in; two texts with a blank between; a beginning of a text.
-/
namespace Go.Proofs.YtkjbfomokdjbnaaDoor
namespace Lx
set_option linter.unusedSimpArgs false
set_option linter.unusedVariables false

/-! ### what the head's token hangs on -/
end Lx
end Go.Proofs.YtkjbfomokdjbnaaDoor

/-
  Plain laws: what the reference of the lexer computes, and that it is what the lexer computes.
-/
namespace Go.Proofs.YtkjbfomokdjbnaaDoor
namespace Lx
set_option linter.unusedSimpArgs false
set_option linter.unusedVariables false

def nameB : Bytes → Bool
  | [] => false
  | c :: x => ltr c && x.all aln
def signs : List Bytes := [[43], [45], [42], [94], [40], [41], [61], [60, 62], [60], [60, 61], [62], [62, 61], [44], [46]]
theorem all_take (p : UInt8 → Bool) (r : Bytes) (n : Nat) (hn : n ≤ r.length) : (r.take n).all p = true ↔ n ≤ run p r := by
  induction r generalizing n with
  | nil =>
      simp only [List.length_nil] at hn; have : n = 0 := by omega
      subst this; simp
  | cons c r ih =>
    match n with
    | 0 => simp
    | n + 1 =>
      rw [List.take_succ_cons, List.all_cons, Bool.and_eq_true, run_cons, ih n (by simpa using hn)]
      by_cases hc : p c = true
      · rw [if_pos hc]; simp [hc]
      · rw [if_neg hc]; simp [hc]

end Lx
end Go.Proofs.YtkjbfomokdjbnaaDoor

/-
  Plain laws: where tokens stand.
-/
namespace Go.Proofs.YtkjbfomokdjbnaaDoor
namespace Lx
set_option linter.unusedSimpArgs false
set_option linter.unusedVariables false

end Lx
end Go.Proofs.YtkjbfomokdjbnaaDoor

/-
  Plain laws: two texts with a blank between; a blank put in; a beginning of a text.
-/
namespace Go.Proofs.YtkjbfomokdjbnaaDoor
namespace Lx
set_option linter.unusedSimpArgs false
set_option linter.unusedVariables false

/-! ### a blank put in -/
/-! ### a beginning of a text -/
end Lx
end Go.Proofs.YtkjbfomokdjbnaaDoor
