/-
  Chains of connectives without parentheses: what the relation gives, in plain Lean.
-/
import Derived.Test.YtkjbfomokdjbnaaGreatDoorPaP
import Derived.Test.YtkjbfomokdjbnaaGreatDoorLxPlain
namespace Go.Proofs.YtkjbfomokdjbnaaGreatDoor
open Go.RowKit
set_option linter.unusedSimpArgs false
set_option linter.unusedVariables false
namespace Pa
open Lx Fm Dc
def opW (k : Nat) : Bytes := if k = 0 then wAnd else if k = 1 then wOr else if k = 2 then wImplies else wIff
def kt (t : Tok) : Nat × Bytes := (t.kind, t.text)
def tl (ops : List Nat) : List (Nat × Bytes) := ops.flatMap fun k => [(3, opW k), (3, wTrue)]
def mkC (k : Nat) (l r : Fo) : Fo := if k = 0 then .and l r else if k = 1 then .or l r else if k = 2 then .implies l r else .iff l r
def lv : Fo → Nat
  | .odd => 1
  | .truth _ => 1
  | .atom _ _ _ => 0
  | .not f => lv f
  | .and l r => lv l + lv r
  | .or l r => lv l + lv r
  | .implies l r => lv l + lv r
  | .iff l r => lv l + lv r
  | .quant _ _ f => lv f
theorem lv_mkC (k : Nat) (l r : Fo) : lv (mkC k l r) = lv l + lv r := by unfold mkC; split; rfl; split; rfl; split <;> rfl
/-- the weakest connective of a chain and its place -/
def stepW (p : Nat × Nat × Nat) (k : Nat) : Nat × Nat × Nat := if p.1 = 0 ∨ p.2.1 < k ∨ (k = p.2.1 ∧ k ≠ 2) then (p.1 + 1, k, p.1) else (p.1 + 1, p.2.1, p.2.2)
def Wf (l : List Nat) : Nat × Nat × Nat := l.foldl stepW (0, 0, 0)
theorem Wf_fst (l : List Nat) (p : Nat × Nat × Nat) : (l.foldl stepW p).1 = p.1 + l.length := by
  induction l generalizing p with
  | nil => rfl
  | cons k l ih =>
    rw [List.foldl_cons, ih]
    have : (stepW p k).1 = p.1 + 1 := by unfold stepW; split <;> rfl
    rw [this, List.length_cons]; omega
theorem Wf_le (l : List Nat) (m : Nat) (h : ∀ k ∈ l, k ≤ m) (p : Nat × Nat × Nat) (hp : p.2.1 ≤ m) : (l.foldl stepW p).2.1 ≤ m := by
  induction l generalizing p with
  | nil => exact hp
  | cons k l ih =>
    rw [List.foldl_cons]
    refine ih (fun x hx => h x (List.mem_cons_of_mem _ hx)) _ ?_
    unfold stepW
    split
    · exact h k (List.mem_cons_self ..)
    · exact hp
theorem Wf_stay (d : List Nat) (k a i : Nat) (hi : i ≠ 0) (h : ∀ y ∈ d, y < k ∨ (y = k ∧ k = 2)) : d.foldl stepW (i, k, a) = (i + d.length, k, a) := by
  induction d generalizing i with
  | nil => rfl
  | cons y d ih =>
    rw [List.foldl_cons]
    have e : stepW (i, k, a) y = (i + 1, k, a) := by
      unfold stepW
      rw [if_neg]
      have := h y (List.mem_cons_self ..)
      rintro (e | e | e)
      · exact hi e
      · have e : k < y := e; omega
      · have e1 : y = k := e.1; have e2 := e.2; omega
    rw [e, ih _ (by omega) (fun x hx => h x (List.mem_cons_of_mem _ hx)), List.length_cons]
    congr 1; omega
theorem Wf_join (c d : List Nat) (k : Nat) (hc : ∀ x ∈ c, x ≤ k ∧ (k = 2 → x < 2)) (hd : ∀ y ∈ d, y < k ∨ (y = k ∧ k = 2)) : Wf (c ++ k :: d) = (c.length + 1 + d.length, k, c.length) := by
  unfold Wf
  rw [List.foldl_append, List.foldl_cons]
  have h1 := Wf_fst c (0, 0, 0)
  have h2 := Wf_le c k (fun x hx => (hc x hx).1) (0, 0, 0) (Nat.zero_le _)
  have h3 : k = 2 → (c.foldl stepW (0, 0, 0)).2.1 ≤ 1 := fun e => Wf_le c 1 (fun x hx => Nat.le_of_lt_succ ((hc x hx).2 e)) (0, 0, 0) (Nat.zero_le _)
  generalize c.foldl stepW (0, 0, 0) = P at h1 h2 h3
  have e : stepW P k = (c.length + 1, k, c.length) := by
    unfold stepW
    rw [if_pos]
    · rw [h1]; simp
    · by_cases hk : k = 2
      · right; left; have := h3 hk; omega
      · right
        rcases Nat.lt_or_eq_of_le h2 with h | h
        · exact .inl h
        · exact .inr ⟨h.symm, hk⟩
  rw [e, Wf_stay d k c.length (c.length + 1) (by omega) hd]
def Top (x : Fo) (c : List Nat) : Prop := lv x = c.length + 1 ∧ (c = [] ∨ ∃ k l r, x = mkC k l r ∧ (Wf c).2.1 = k ∧ lv l = (Wf c).2.2 + 1 ∧ lv r = c.length - (Wf c).2.2)
theorem Top.join {x y : Fo} {c d : List Nat} {k : Nat} (hx : Top x c) (hy : Top y d) (hc : ∀ x ∈ c, x ≤ k ∧ (k = 2 → x < 2)) (hd : ∀ y ∈ d, y < k ∨ (y = k ∧ k = 2)) : Top (mkC k x y) (c ++ k :: d) := by
  refine ⟨by rw [lv_mkC, hx.1, hy.1, List.length_append, List.length_cons]; omega, .inr ⟨k, x, y, rfl, ?_⟩⟩
  rw [Wf_join c d k hc hd]
  refine ⟨rfl, hx.1, ?_⟩
  rw [hy.1, List.length_append, List.length_cons]
  show _ = c.length + (d.length + 1) - c.length
  omega
/-! ### the tokens -/
section
variable {T : List Tok} {s : PS}
end
/-! ### and -/
/-! ### or -/
/-! ### imp -/
/-! ### iff -/
end Pa
end Go.Proofs.YtkjbfomokdjbnaaGreatDoor

/-
  The text of a chain: its tokens.
-/
namespace Go.Proofs.YtkjbfomokdjbnaaGreatDoor
open Go.RowKit
set_option linter.unusedSimpArgs false
set_option linter.unusedVariables false
namespace Pa
open Lx Fm Dc
theorem run_all (p : UInt8 → Bool) (w rest : Bytes) (hw : w.all p = true) (hr : run p rest = 0) : run p (w ++ rest) = w.length := by
  induction w with
  | nil => exact hr
  | cons c w ih =>
    simp only [List.all_cons, Bool.and_eq_true] at hw
    rw [List.cons_append, run_cons, if_pos hw.1, ih hw.2]; rfl
/-- a word, behind which no letter stands -/
structure Wd (w : Bytes) : Prop where
  wd : isWord w = true
  all : w.all aln = true
  len : w.length ≤ 16
  hd : ∃ c r, w = c :: r ∧ dig c = false ∧ ltr c = true ∧ bl c = false
theorem next_wd (w rest : Bytes) (h : Wd w) (hr : run aln rest = 0) : next (w ++ rest) = (3, w.length, 0) := by
  obtain ⟨c, r, rfl, h1, h2, h3⟩ := h.hd
  have e := run_all aln (c :: r) rest h.all hr
  have hl := h.len
  have hw := h.wd
  rw [List.cons_append] at e ⊢
  unfold next
  dsimp only
  rw [if_neg (by rw [h1]; simp), if_pos h2, e, if_neg (by omega)]
  have ht : (c :: (r ++ rest)).take (c :: r).length = c :: r := by rw [← List.cons_append]; exact List.take_left
  rw [ht, if_pos hw]
theorem bl_wd (w rest : Bytes) (h : Wd w) (hr : run aln rest = 0) (p : Nat) : lexBl p (w ++ rest) = (⟨3, w, p⟩ :: (lexBl (p + w.length) rest).1, (lexBl (p + w.length) rest).2) := by
  have hn := next_wd w rest h hr
  obtain ⟨c, r, rfl, h1, h2, h3⟩ := h.hd
  rw [List.cons_append] at hn ⊢
  rw [lexBl_non _ _ _ h3, lexA_ok' _ _ (by simp) (by rw [hn]), hn]
  dsimp only
  have ht : (c :: (r ++ rest)).take (c :: r).length = c :: r := by rw [← List.cons_append]; exact List.take_left
  have hdr : (c :: (r ++ rest)).drop (c :: r).length = rest := by rw [← List.cons_append]; exact List.drop_left
  rw [ht, hdr]
end Pa
end Go.Proofs.YtkjbfomokdjbnaaGreatDoor
