/-
  Maps from names that a call made: to counts, to true.
-/
import Derived.Test.YtkjbfomokdjbnaaDoorFmI
import Derived.Maps.OwnSet
namespace Go.Proofs.YtkjbfomokdjbnaaDoor
open Go.RowKit Go.Maps Go.WideMaps
set_option linter.unusedSimpArgs false
set_option linter.unusedVariables false
namespace Fm

theorem bytes_inj {a b : ByteArray} (h : a.data.toList = b.data.toList) : a = b := by
  cases a; cases b
  simp at h
  simp [h]
instance bytesDec : DecidableEq ByteArray := fun a b => if h : a.data.toList = b.data.toList then isTrue (bytes_inj h) else isFalse (fun e => h (by rw [e]))
instance memDec (s : ByteArray) : (L : List ByteArray) → Decidable (s ∈ L)
  | [] => isFalse (by simp)
  | a :: l =>
    if h : s = a then isTrue (by simp [h])
    else match memDec s l with
      | isTrue k => isTrue (by simp [k])
      | isFalse k => isFalse (by simp [h, k])

abbrev tStr : TypeId := 9
abbrev tI : TypeId := 3
abbrev tB : TypeId := 4
abbrev tMI : TypeId := 102
abbrev tMB : TypeId := 103
abbrev kl (s : ByteArray) : Lit := .string s.data.toList
theorem kl_inj {s t : ByteArray} (h : kl s = kl t) : s = t := by
  unfold kl at h
  injection h with h
  cases s; cases t
  simp at h
  simp [h]
/-- block b is a map of at most n names that has the count f s at s -/
def MapI (w : World) (b n : Nat) (f : ByteArray → Int) : Prop :=
  ∃ D : DataW Unit, w.ownsMap Tryd.prog tStr (plainElem Tryd.prog tI) b n D ∧ ∀ s, D.atKey (kl s) (.lit (.int .i64 0)) = .lit (.int .i64 (f s))
/-- block b is a map of at most n names in which just the names of the list L stand, each with true -/
def MapB (w : World) (b n : Nat) (L : List ByteArray) : Prop :=
  ∃ D : DataW Unit, w.ownsMap Tryd.prog tStr (plainElem Tryd.prog tB) b n D ∧ (∀ s, D.atKey (kl s) (.lit (.bool false)) = .lit (.bool (decide (s ∈ L)))) ∧ (∀ s, Maps.has D (kl s) = decide (s ∈ L)) ∧ Maps.size D = L.length
theorem MapI.lt {w : World} {b n : Nat} {f : ByteArray → Int} (h : MapI w b n f) : b < w.heap.size := by obtain ⟨D, h, _⟩ := h; exact h.lt
theorem MapB.lt {w : World} {b n : Nat} {L : List ByteArray} (h : MapB w b n L) : b < w.heap.size := by obtain ⟨D, h, _⟩ := h; exact h.lt
theorem ownsMap_block {H : Type} {P : Program} {k : TypeId} {R : Value → Option (DataW H × List MemPlace)} {w w' : World} {b n : Nat} {D : DataW H} (h : w.ownsMap P k R b n D) (hb : w'.heap[b]? = w.heap[b]?) : w'.ownsMap P k R b n D := by
  obtain ⟨es, clock, h1, r⟩ := h
  exact ⟨es, clock, hb.trans h1, r⟩
theorem MapI.keep {w w' : World} {b n : Nat} {f : ByteArray → Int} (h : MapI w b n f) (hb : w'.heap[b]? = w.heap[b]?) : MapI w' b n f := by
  obtain ⟨D, h, r⟩ := h; exact ⟨D, ownsMap_block h hb, r⟩
theorem MapB.keep {w w' : World} {b n : Nat} {L : List ByteArray} (h : MapB w b n L) (hb : w'.heap[b]? = w.heap[b]?) : MapB w' b n L := by
  obtain ⟨D, h, r⟩ := h; exact ⟨D, ownsMap_block h hb, r⟩
theorem MapI.mono {w : World} {b n n' : Nat} {f : ByteArray → Int} (h : MapI w b n f) (hn : n ≤ n') : MapI w b n' f := by
  obtain ⟨D, h, r⟩ := h; exact ⟨D, h.mono hn, r⟩
theorem MapB.mono {w : World} {b n n' : Nat} {L : List ByteArray} (h : MapB w b n L) (hn : n ≤ n') : MapB w b n' L := by
  obtain ⟨D, h, r⟩ := h; exact ⟨D, h.mono hn, r⟩
/-- a list of names without repeats, one more -/
def addN (L : List ByteArray) (s : ByteArray) : List ByteArray := if s ∈ L then L else L ++ [s]
theorem addN_mem (L : List ByteArray) (s t : ByteArray) : t ∈ addN L s ↔ t ∈ L ∨ t = s := by
  unfold addN
  by_cases h : s ∈ L
  · rw [if_pos h]
    exact ⟨.inl, fun e => by rcases e with e | e; exact e; rw [e]; exact h⟩
  · rw [if_neg h]; simp

theorem MapI.put {w w' : World} {b n : Nat} {f : ByteArray → Int} {D : DataW Unit} (h2 : ∀ s, D.atKey (kl s) (.lit (.int .i64 0)) = .lit (.int .i64 (f s))) (hm : IsMap D) (s : ByteArray) (c : Int) (h : w'.ownsMap Tryd.prog tStr (plainElem Tryd.prog tI) b n (D.put (kl s) (.lit (.int .i64 c)))) : MapI w' b n (fun t => if t = s then c else f t) := by
  refine ⟨_, h, fun t => ?_⟩
  by_cases e : t = s
  · subst e; rw [atKey_put_same hm (show WideAt.IsKeyLit (kl t) from trivial)]; simp
  · rw [atKey_put_other (fun h => e (kl_inj h)), h2]; simp [e]
theorem MapB.put {w w' : World} {b n : Nat} {L : List ByteArray} {D : DataW Unit} (h2 : ∀ s, D.atKey (kl s) (.lit (.bool false)) = .lit (.bool (decide (s ∈ L)))) (h3 : ∀ s, Maps.has D (kl s) = decide (s ∈ L)) (h4 : Maps.size D = L.length) (hm : IsMap D) (ht : Tidy D) (s : ByteArray) (h : w'.ownsMap Tryd.prog tStr (plainElem Tryd.prog tB) b n (D.put (kl s) (.lit (.bool true)))) : MapB w' b n (addN L s) := by
  refine ⟨_, h, fun t => ?_, fun t => ?_, ?_⟩
  · by_cases e : t = s
    · subst e; rw [atKey_put_same hm (show WideAt.IsKeyLit (kl t) from trivial)]; simp [addN_mem]
    · rw [atKey_put_other (fun h => e (kl_inj h)), h2]; simp [addN_mem, e]
  · by_cases e : t = s
    · subst e; rw [has_put_same hm (show WideAt.IsKeyLit (kl t) from trivial)]; simp [addN_mem]
    · rw [has_put_other (fun h => e (kl_inj h)), h3]; simp [addN_mem, e]
  · rw [size_put ht, h3, h4]
    unfold addN
    by_cases e : s ∈ L <;> simp [e]

section
variable {ops : Array Oper} {rest : List Oper} {o : Oper} {a : Act} {Q : Exit → Act → World → Prop}
end
end Fm
end Go.Proofs.YtkjbfomokdjbnaaDoor
