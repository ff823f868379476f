/-
  Small laws for the statements of chapter 34.
-/
import Derived.Test.YteneobpacobpdaaGreatDoorFmW
import Derived.Test.YteneobpacobpdaaGreatDoorFmL
import Derived.Test.YteneobpacobpdaaGreatDoorFmT
import Derived.Test.YteneobpacobpdaaGreatDoorFmG
import Derived.Deep.AppendLies
import Derived.Deep.QuietTactic
import Derived.BigQuiet
import Derived.Lib.SlicesS
import Derived.Test.YteneobpacobpdaaGreatDoorMem
import Derived.Deep.RegionLaw
namespace Go.Proofs.YteneobpacobpdaaGreatDoor
open Go.RowKit
set_option linter.unusedSimpArgs false
set_option linter.unusedVariables false
namespace Fm
theorem TreePost.cells {T : Tr} {w w' : World} {e : Ending} (h : TreePost T w e w') : ∃ A1 n1 c1 A2 n2 c2 k neg nm ex rl tr al, e = .returned (.agg #[.int .i64 k, .bool neg, .slice A1 n1 c1, .string nm, .int .i64 ex, .int .i64 rl, .bool tr, .bool al, .slice A2 n2 c2]) ∧ TreeAt w' (Fr w w') T [.int .i64 k, .bool neg, .slice A1 n1 c1, .string nm, .int .i64 ex, .int .i64 rl, .bool tr, .bool al, .slice A2 n2 c2] ∧ Below w.heap.size w w' := by
  obtain ⟨A1, n1, c1, A2, n2, c2, rfl, h1, h2⟩ := h
  exact ⟨A1, n1, c1, A2, n2, c2, _, _, _, _, _, _, _, rfl, h1, h2⟩
end Fm
end Go.Proofs.YteneobpacobpdaaGreatDoor

/-
  formula.Free: the names that occur free.
-/
namespace Go.Proofs.YteneobpacobpdaaGreatDoor
open Go.RowKit
set_option linter.unusedSimpArgs false
set_option linter.unusedVariables false
namespace Fm
attribute [local go_sem] run_store

abbrev tStrs : TypeId := 79
/-- what the closure of Free holds: the blocks from B on -/
def FreeJ (B : Nat) (L : List ByteArray) (F : Nat → Prop) (W : World) : Prop :=
  ∃ v, W.heap[B + 3]? = some (.cells #[.map (some (B + 1))] tMI (0, 0)) ∧ W.heap[B + 4]? = some (.cells #[.map (some (B + 2))] tMB (0, 0)) ∧ W.heap[B]? = some (.cells #[v] tStrs (0, 0)) ∧
    W.ownsRow (B + 5) tStr 1 v L.length (L.map Value.string) ∧ MapB W (B + 2) L.length L ∧ F = fun b => b = B ∨ b = B + 2 ∨ b = B + 3 ∨ b = B + 4 ∨ v.ownBlock = some b
theorem blk_lt {w : World} {b : Nat} {o : Obj} (h : w.heap[b]? = some o) : b < w.heap.size := (Array.getElem?_eq_some_iff.1 h).1
theorem ownsRow_keep {w w' : World} {base size n : Nat} {e : TypeId} {v : Value} {xs : List Value} (h : w.ownsRow base e size v n xs) (hb : ∀ b, v.ownBlock = some b → w'.heap[b]? = w.heap[b]?) : w'.ownsRow base e size v n xs := by
  refine ⟨h.1, ?_⟩
  rcases h.2 with h0 | ⟨g, cap, cur, hv, hb1, hg, r⟩
  · exact .inl h0
  · exact .inr ⟨g, cap, cur, hv, hb1, (hb g (by rw [hv]; rfl)).trans hg, r⟩
theorem FreeJ.lt {B : Nat} {L : List ByteArray} {F : Nat → Prop} {W : World} (h : FreeJ B L F W) : ∀ b, F b → b < W.heap.size := by
  obtain ⟨v, h1, h2, h3, h4, h5, rfl⟩ := h
  intro b hb
  rcases hb with rfl | rfl | rfl | rfl | hb
  · exact blk_lt h3
  · exact h5.lt
  · exact blk_lt h1
  · exact blk_lt h2
  · exact (h4.lt b hb).2
theorem FreeJ.keep {B : Nat} {L : List ByteArray} {F : Nat → Prop} {W W' : World} (h : FreeJ B L F W) (hk : ∀ b, F b → W'.heap[b]? = W.heap[b]?) : FreeJ B L F W' := by
  obtain ⟨v, h1, h2, h3, h4, h5, rfl⟩ := h
  exact ⟨v, (hk _ (.inr (.inr (.inl rfl)))).trans h1, (hk _ (.inr (.inr (.inr (.inl rfl))))).trans h2, (hk _ (.inl rfl)).trans h3, ownsRow_keep h4 (fun b hb => hk b (.inr (.inr (.inr (.inr hb))))), h5.keep (hk _ (.inr (.inl rfl))), rfl⟩
end Fm
end Go.Proofs.YteneobpacobpdaaGreatDoor

/-
  right, texts, formula.Bound.
-/
namespace Go.Proofs.YteneobpacobpdaaGreatDoor
open Go.RowKit
set_option linter.unusedSimpArgs false
set_option linter.unusedVariables false
namespace Fm
attribute [local go_sem] run_store taQuant_yes taQuant_no taQuant_nil

/-- a slice of texts that reads as these -/
def StrsAt (w : World) (S : Nat → Prop) (v : Value) (l : List ByteArray) : Prop := SS w S 1 v l.length (l.map Value.string) ∧ l.length ≤ 1000000
theorem StrsAt.keep {w w' : World} {S : Nat → Prop} {v : Value} {l : List ByteArray} (h : StrsAt w S v l) (hk : ∀ p : Addr, S p.block → w'.cell? p = w.cell? p) : StrsAt w' S v l := ⟨h.1.keep hk, h.2⟩
theorem StrsAt.more {w : World} {S S' : Nat → Prop} {v : Value} {l : List ByteArray} (h : StrsAt w S v l) (hS : ∀ b, S b → S' b) : StrsAt w S' v l := ⟨h.1.more hS, h.2⟩
theorem StrsAt.below {w w' : World} {S : Nat → Prop} {B : Nat} {v : Value} {l : List ByteArray} (h : StrsAt w S v l) (hS : ∀ b, S b → b < B) (hb : Below B w w') : StrsAt w' S v l := h.keep (fun _ hp => hb.cell (hS _ hp))
theorem StrsAt.of_own {w : World} {base : Nat} {v : Value} {l : List ByteArray} (h : w.ownsRow base tStr 1 v l.length (l.map Value.string)) (hl : l.length ≤ 1000000) : StrsAt w (fun b => base ≤ b ∧ b < w.heap.size) v l := ⟨SS.of_own h, hl⟩
theorem StrsAt.form {w : World} {S : Nat → Prop} {v : Value} {l : List ByteArray} (h : StrsAt w S v l) : ∃ A c, v = .slice A l.length c := h.1.form
theorem StrsAt.at_ {w : World} {S : Nat → Prop} {A : Option Addr} {n c : Nat} {l : List ByteArray} (h : StrsAt w S (.slice A n c) l) (hn : n = l.length) (h0 : 0 < n) :
    ∃ b o, A = some ⟨b, o, none⟩ ∧ S b ∧ ∀ i x, l[i]? = some x → w.cell? ⟨b, o + i, none⟩ = some (.string x) := by
  subst hn
  obtain ⟨b, o, rfl, hb, hc⟩ := h.1.at_ h0
  exact ⟨b, o, rfl, hb, fun i x hx => hc i _ (by rw [List.getElem?_map, hx]; rfl)⟩
/-! ### the quantifiers' names -/
end Fm
end Go.Proofs.YteneobpacobpdaaGreatDoor

/-
  The reference's Has, Free.
-/
namespace Go.Proofs.YteneobpacobpdaaGreatDoor
open Go.RowKit
set_option linter.unusedSimpArgs false
set_option linter.unusedVariables false
namespace Fm
attribute [local go_sem] run_store


/-! fr_marker -/

end Fm
end Go.Proofs.YteneobpacobpdaaGreatDoor

/-
  The reference's Parts and Bound.
-/
namespace Go.Proofs.YteneobpacobpdaaGreatDoor
open Go.RowKit
set_option linter.unusedSimpArgs false
set_option linter.unusedVariables false
namespace Fm
attribute [local go_sem] run_store

end Fm
end Go.Proofs.YteneobpacobpdaaGreatDoor
