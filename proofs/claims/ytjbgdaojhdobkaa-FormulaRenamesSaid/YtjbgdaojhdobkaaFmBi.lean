/-
  The plain law of a quantifier: it removes its name from the free ones.
-/
import Derived.Test.YtjbgdaojhdobkaaFmNa
import Derived.Test.YtjbgdaojhdobkaaFmH
namespace Go.Proofs.Ytjbgdaojhdobkaa
open Go.RowKit
set_option linter.unusedSimpArgs false
set_option linter.unusedVariables false
namespace Fm

def noN (name : ByteArray) (l : List ByteArray) : List ByteArray := l.filter fun x => decide (x ≠ name)
theorem noN_mem {name x : ByteArray} {l : List ByteArray} : x ∈ noN name l ↔ x ∈ l ∧ x ≠ name := by unfold noN; rw [List.mem_filter]; simp
theorem noN_append (name : ByteArray) (a b : List ByteArray) : noN name (a ++ b) = noN name a ++ noN name b := by unfold noN; rw [List.filter_append]
theorem step_noN {name nm : ByteArray} {g g' : ByteArray → Int} (h1 : ∀ x, x ≠ name → g' x = g x) (h2 : 0 < g' name) (out : List ByteArray) : freeStep (noN name out) g' nm = noN name (freeStep out g nm) := by
  unfold freeStep
  by_cases e : nm = name
  · subst e
    rw [if_neg (fun h => by have := h.1; omega)]
    split
    · rw [noN_append]; simp [noN]
    · rfl
  · by_cases hc : g nm = 0 ∧ nm ∉ out
    · rw [if_pos hc, if_pos ⟨by rw [h1 nm e]; exact hc.1, fun h => hc.2 (noN_mem.1 h).1⟩, noN_append]
      congr 1
      simp [noN, e]
    · rw [if_neg hc, if_neg (fun h => hc ⟨by rw [← h1 nm e]; exact h.1, fun hh => h.2 (noN_mem.2 ⟨hh, e⟩)⟩)]
theorem fold_noN {name : ByteArray} {g g' : ByteArray → Int} (h1 : ∀ x, x ≠ name → g' x = g x) (h2 : 0 < g' name) (l : List ByteArray) : ∀ out : List ByteArray, l.foldl (fun s nm => freeStep s g' nm) (noN name out) = noN name (l.foldl (fun s nm => freeStep s g nm) out) := by
  induction l with
  | nil => intro out; rfl
  | cons a l ih => intro out; rw [List.foldl_cons, List.foldl_cons, step_noN h1 h2, ih]
theorem walk_noN {name : ByteArray} (f : Fo) : ∀ (g g' : ByteArray → Int) (out : List ByteArray), (∀ x, x ≠ name → g' x = g x) → 0 < g' name → walkS freeStep f g' (noN name out) = noN name (walkS freeStep f g out) := by
  induction f with
  | odd => intro g g' out h1 h2; rfl
  | truth b => intro g g' out h1 h2; rfl
  | atom l e r => intro g g' out h1 h2; unfold walkS; rw [fold_noN h1 h2, fold_noN h1 h2]
  | not f ih => intro g g' out h1 h2; exact ih g g' out h1 h2
  | and l r il ir => intro g g' out h1 h2; unfold walkS; rw [il g g' out h1 h2, ir g g' _ h1 h2]
  | or l r il ir => intro g g' out h1 h2; unfold walkS; rw [il g g' out h1 h2, ir g g' _ h1 h2]
  | implies l r il ir => intro g g' out h1 h2; unfold walkS; rw [il g g' out h1 h2, ir g g' _ h1 h2]
  | iff l r il ir => intro g g' out h1 h2; unfold walkS; rw [il g g' out h1 h2, ir g g' _ h1 h2]
  | quant a n f ih =>
    intro g g' out h1 h2
    unfold walkS
    refine ih (incG g n) (incG g' n) out (fun x hx => ?_) ?_
    · unfold incG
      by_cases e : x = n
      · rw [if_pos e, if_pos e, ← e, h1 x hx]
      · rw [if_neg e, if_neg e, h1 x hx]
    · unfold incG
      by_cases e : name = n
      · rw [if_pos e, ← e]; omega
      · rw [if_neg e]; exact h2
theorem free_quant (all : Bool) (name : ByteArray) (f : Fo) : freeN (.quant all name f) = noN name (freeN f) := by
  have h := walk_noN (name := name) f (fun _ => 0) (incG (fun _ => 0) name) [] (fun x hx => by unfold incG; rw [if_neg hx]) (by unfold incG; rw [if_pos rfl]; show (0 : Int) < 0 + 1; decide)
  exact h
theorem noN_at {name x : ByteArray} {l : List ByteArray} {i : Nat} (hx : l[i]? = some x) (hne : x ≠ name) : (noN name l)[(noN name (l.take i)).length]? = some x := by
  obtain ⟨hi, rfl⟩ := List.getElem?_eq_some_iff.1 hx
  have e : l = l.take i ++ (l[i] :: l.drop (i + 1)) := by
    rw [← List.drop_eq_getElem_cons hi, List.take_append_drop]
  conv => lhs; arg 1; rw [e, noN_append]
  rw [List.getElem?_append_right (Nat.le_refl _), Nat.sub_self]
  unfold noN
  rw [List.filter_cons, if_pos (by simpa using hne)]
  rfl
theorem noN_take {name x : ByteArray} {l : List ByteArray} {i : Nat} (hx : l[i]? = some x) : noN name (l.take (i + 1)) = noN name (l.take i) ++ (if x = name then [] else [x]) := by
  obtain ⟨hi, rfl⟩ := List.getElem?_eq_some_iff.1 hx
  rw [List.take_succ_eq_append_getElem hi, noN_append]
  congr 1
  unfold noN
  by_cases e : l[i] = name <;> simp [e]
theorem noN_len (name : ByteArray) (l : List ByteArray) (i : Nat) : (noN name (l.take i)).length ≤ (noN name l).length := by
  conv => rhs; rw [← List.take_append_drop i l, noN_append, List.length_append]
  omega
theorem noN_le (name : ByteArray) (l : List ByteArray) : (noN name l).length ≤ l.length := by unfold noN; exact List.length_filter_le _ _
theorem tnn_le {t : Tr} {tm : Tm} (h : RT t tm) : tn tm ≤ nn t := by
  induction h with
  | num h hk => unfold nn nnL; simp [tn]
  | name h hk => unfold nn nnL; simp [tn]
  | add h a b p q hk ha hb ia ib => unfold nn nnL nnL nnL tn; omega
  | sub h a b p q hk ha hb ia ib => unfold nn nnL nnL nnL tn; omega
  | mul h a b p q hk ha hb ia ib => unfold nn nnL nnL nnL tn; omega
  | neg h a p hk ha ia => unfold nn nnL nnL tn; omega
  | pow h a p hk he ha ia => unfold nn nnL nnL tn; omega
theorem fnn_le {t : Tr} {f : Fo} (h : RF t f) : fnn f ≤ nn t := by
  induction h with
  | truth h hk => unfold nn nnL; simp [fnn]
  | atom h a b p q hk hr ha hb => unfold nn nnL nnL nnL fnn; have := tnn_le ha; have := tnn_le hb; omega
  | not h a p hk ha ia => unfold nn nnL nnL fnn; omega
  | and h a b p q hk ha hb ia ib => unfold nn nnL nnL nnL fnn; omega
  | or h a b p q hk ha hb ia ib => unfold nn nnL nnL nnL fnn; omega
  | implies h a b p q hk ha hb ia ib => unfold nn nnL nnL nnL fnn; omega
  | iff h a b p q hk ha hb ia ib => unfold nn nnL nnL nnL fnn; omega
  | quant h a p hk ha ia => unfold nn nnL nnL fnn; omega
end Fm
end Go.Proofs.Ytjbgdaojhdobkaa
