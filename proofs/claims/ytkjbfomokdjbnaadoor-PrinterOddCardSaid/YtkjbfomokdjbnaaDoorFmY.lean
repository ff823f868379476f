/-
  right, texts, formula.Bound.
-/
import Derived.Test.YtkjbfomokdjbnaaDoorFmX
import Derived.Test.YtkjbfomokdjbnaaDoorFmE
import Derived.Test.YtkjbfomokdjbnaaDoorFmS
import Derived.Deep.QuietTactic
import Derived.BigQuiet
import Derived.Lib.SlicesS
namespace Go.Proofs.YtkjbfomokdjbnaaDoor
open Go.RowKit
set_option linter.unusedSimpArgs false
set_option linter.unusedVariables false
namespace Fm
attribute [local go_sem] run_store taQuant_yes taQuant_no taQuant_nil

def rightB (t : Tr) : Bool := fewB t 300 && isF t false
/-- a slice of texts that reads as these -/
def StrsAt (w : World) (S : Nat → Prop) (v : Value) (l : List ByteArray) : Prop := SS w S 1 v l.length (l.map Value.string) ∧ l.length ≤ 1000000
theorem StrsAt.keep {w w' : World} {S : Nat → Prop} {v : Value} {l : List ByteArray} (h : StrsAt w S v l) (hk : ∀ p : Addr, S p.block → w'.cell? p = w.cell? p) : StrsAt w' S v l := ⟨h.1.keep hk, h.2⟩
theorem StrsAt.more {w : World} {S S' : Nat → Prop} {v : Value} {l : List ByteArray} (h : StrsAt w S v l) (hS : ∀ b, S b → S' b) : StrsAt w S' v l := ⟨h.1.more hS, h.2⟩
theorem StrsAt.below {w w' : World} {S : Nat → Prop} {B : Nat} {v : Value} {l : List ByteArray} (h : StrsAt w S v l) (hS : ∀ b, S b → b < B) (hb : Below B w w') : StrsAt w' S v l := h.keep (fun _ hp => hb.cell (hS _ hp))
theorem StrsAt.of_own {w : World} {base : Nat} {v : Value} {l : List ByteArray} (h : w.ownsRow base tStr 1 v l.length (l.map Value.string)) (hl : l.length ≤ 1000000) : StrsAt w (fun b => base ≤ b ∧ b < w.heap.size) v l := ⟨SS.of_own h, hl⟩
theorem StrsAt.form {w : World} {S : Nat → Prop} {v : Value} {l : List ByteArray} (h : StrsAt w S v l) : ∃ A c, v = .slice A l.length c := h.1.form
theorem StrsAt.at_ {w : World} {S : Nat → Prop} {A : Option Addr} {n c : Nat} {l : List ByteArray} (h : StrsAt w S (.slice A n c) l) (hn : n = l.length) (h0 : 0 < n) :
    ∃ b o, A = some ⟨b, o, none⟩ ∧ S b ∧ ∀ i x, l[i]? = some x → w.cell? ⟨b, o + i, none⟩ = some (.string x) := by
  subst hn
  obtain ⟨b, o, rfl, hb, hc⟩ := h.1.at_ h0
  exact ⟨b, o, rfl, hb, fun i x hx => hc i _ (by rw [List.getElem?_map, hx]; rfl)⟩
theorem drop_sameB {ks js : List ByteArray} {i : Nat} {a b : ByteArray} (h1 : ks[i]? = some a) (h2 : js[i]? = some b) : (ks.drop i = js.drop i) ↔ (a = b ∧ ks.drop (i + 1) = js.drop (i + 1)) := by
  rw [drop_at h1, drop_at h2]; simp

/-! ### the quantifiers' names -/
def boundN : Fo → List ByteArray
  | .not f => boundN f
  | .and l r => boundN l ++ boundN r
  | .or l r => boundN l ++ boundN r
  | .implies l r => boundN l ++ boundN r
  | .iff l r => boundN l ++ boundN r
  | .quant _ nm f => nm :: boundN f
  | _ => []
theorem boundN_sub (f : Fo) (h : ∀ a n b, f ≠ .quant a n b) : boundN f = (subF f).flatMap boundN := by
  cases f <;> first | (exact absurd rfl (h _ _ _)) | simp [boundN, subF]
/-- no quantified formula -/
def NQ (v : Value) : Prop := v = .nilIface ∨ ∃ u x, v = .iface u x ∧ u ≠ 98
theorem nq_of {w : World} {S : Nat → Prop} {f : Fo} {v : Value} (hT : FoAt w S f v) (ha : ∀ a n b, f ≠ .quant a n b) : NQ v := by
  cases f with
  | odd =>
    rcases hT with rfl | ⟨u, a, rfl, hu⟩
    · exact .inl rfl
    · exact .inr ⟨u, _, rfl, fun e => hu (by rw [e]; decide)⟩
  | truth b => cases hT; exact .inr ⟨_, _, rfl, by decide⟩
  | atom l e r => obtain ⟨vl, vr, rfl, _⟩ := hT; exact .inr ⟨_, _, rfl, by decide⟩
  | quant a n b => exact absurd rfl (ha _ _ _)
  | not f => obtain ⟨vt, rfl, _⟩ := hT; exact .inr ⟨_, _, rfl, by decide⟩
  | and l r => obtain ⟨vl, vr, rfl, _⟩ := hT; exact .inr ⟨_, _, rfl, by decide⟩
  | or l r => obtain ⟨vl, vr, rfl, _⟩ := hT; exact .inr ⟨_, _, rfl, by decide⟩
  | implies l r => obtain ⟨vl, vr, rfl, _⟩ := hT; exact .inr ⟨_, _, rfl, by decide⟩
  | iff l r => obtain ⟨vl, vr, rfl, _⟩ := hT; exact .inr ⟨_, _, rfl, by decide⟩
theorem nq_quant {v : Value} (h : NQ v) (w : World) : (Instr.typeAssert v 33 98 true).run Tryd.prog w = .ok (.tuple #[.agg #[.bool false, .string ⟨#[]⟩, .nilIface], .bool false]) w := by
  rcases h with rfl | ⟨u, x, rfl, hu⟩
  · exact taQuant_nil w
  · exact taQuant_no u x w hu
/-- a row of names that a call may have made longer -/
def RowPost (B : Nat) (v : Value) (L : List ByteArray) (w : World) (e : Ending) (w' : World) : Prop :=
  ∃ v', e = .returned v' ∧ w'.ownsRow B tStr 1 v' L.length (L.map Value.string) ∧ Owns w w' (fun b => v.ownBlock = some b) (fun b => v'.ownBlock = some b)
theorem row_slice {w : World} {B n : Nat} {v : Value} {xs : List Value} (h : w.ownsRow B tStr 1 v n xs) : ∃ A c, v = .slice A n c := by
  rcases h.2 with ⟨rfl, h0⟩ | ⟨g, cap, cur, rfl, _⟩
  · have : n = 0 := by have h1 := h.1; rw [h0] at h1; simp at h1; omega
    subst this; exact ⟨_, _, rfl⟩
  · exact ⟨_, _, rfl⟩
theorem boundN_le (f : Fo) : (boundN f).length ≤ fsz f := by
  induction f <;> simp [boundN, fsz] <;> omega
theorem owns_append {W w3 : World} {o : Obj} {v : Value} {g3 : Nat} {x3 : Value} (hx : x3.ownBlock = some g3) (hg : (W.alloc o).grownBy w3 v.ownBlock) (hat : v.ownBlock = some g3 ∨ g3 = (W.alloc o).heap.size) : Owns W w3 (fun b => v.ownBlock = some b) (fun b => x3.ownBlock = some b) := by
  have hz : (W.alloc o).heap.size = W.heap.size + 1 := by simp
  have hs := hg.size
  rw [hz] at hat hs
  refine ⟨hg.os, hg.tape, hg.output, by omega, fun b hb hF => (hg.block b (by omega) (fun e => hF e.symm)).trans (Below.heap_alloc _ _ _ hb), fun b hb => ?_⟩
  rw [hx] at hb
  injection hb with hb
  subst hb
  rcases hat with h | h
  · exact .inl h
  · right; omega
theorem flat_bound_le (l : List Fo) : (l.flatMap boundN).length ≤ fszL l := by
  induction l with
  | nil => simp
  | cons a l ih => rw [List.flatMap_cons, List.length_append]; unfold fszL; have := boundN_le a; omega
/-- the loop's relation -/
def QRel (B : Nat) (x : Value) (L : List ByteArray) (w wr : World) (s_ : Value) : Prop :=
  wr.ownsRow B tStr 1 s_ L.length (L.map Value.string) ∧ Owns w wr (fun b => x.ownBlock = some b) (fun b => s_.ownBlock = some b)
end Fm
end Go.Proofs.YtkjbfomokdjbnaaDoor
