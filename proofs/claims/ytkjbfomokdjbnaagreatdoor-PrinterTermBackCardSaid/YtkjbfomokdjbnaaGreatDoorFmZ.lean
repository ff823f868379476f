/-
  Small laws for the statements of chapter 34.
-/
import Derived.Test.YtkjbfomokdjbnaaGreatDoorFmW
import Derived.Test.YtkjbfomokdjbnaaGreatDoorFmL
import Derived.Test.YtkjbfomokdjbnaaGreatDoorFmT
import Derived.Test.YtkjbfomokdjbnaaGreatDoorFmG
import Derived.Deep.AppendLies
import Derived.Deep.QuietTactic
import Derived.BigQuiet
import Derived.Lib.SlicesS
import Derived.Test.YtkjbfomokdjbnaaGreatDoorMem
import Derived.Deep.RegionLaw
namespace Go.Proofs.YtkjbfomokdjbnaaGreatDoor
open Go.RowKit
set_option linter.unusedSimpArgs false
set_option linter.unusedVariables false
namespace Fm
theorem sm_of_flat : ∀ (t : Tr) (d : Int), (∀ p ∈ flatF t d, shortT p.1 = true) → Sm t := by
  refine Tr.ind fun h ks ih => ?_
  intro d hp
  have h0 := hp (.mk h ks, d) (by unfold flatF; simp)
  have hL : ∀ (l : List Tr), (∀ k ∈ l, k ∈ ks) → (∀ p ∈ flatL l (d + 1), shortT p.1 = true) → SmL l := by
    intro l
    induction l with
    | nil => intro _ _; unfold SmL; trivial
    | cons a l il =>
      intro hm hq
      unfold flatL at hq
      unfold SmL
      exact ⟨ih a (hm a (by simp)) (d + 1) (fun p hp => hq p (List.mem_append.2 (.inl hp))), il (fun k hk => hm k (by simp [hk])) (fun p hp => hq p (List.mem_append.2 (.inr hp)))⟩
  unfold Sm
  unfold shortT at h0
  simp only [Bool.and_eq_true, decide_eq_true_eq] at h0
  exact ⟨h0.1, h0.2, hL ks (fun _ h => h) (fun p hp' => hp p (by unfold flatF; simp [hp']))⟩
theorem fewB_sm {t : Tr} {n : Int} (h : fewB t n = true) : Sm t := by
  unfold fewB at h
  simp only [Bool.and_eq_true, List.all_eq_true] at h
  exact sm_of_flat t 0 h.2
theorem TreePost.cells {T : Tr} {w w' : World} {e : Ending} (h : TreePost T w e w') : ∃ A1 n1 c1 A2 n2 c2 k neg nm ex rl tr al, e = .returned (.agg #[.int .i64 k, .bool neg, .slice A1 n1 c1, .string nm, .int .i64 ex, .int .i64 rl, .bool tr, .bool al, .slice A2 n2 c2]) ∧ TreeAt w' (Fr w w') T [.int .i64 k, .bool neg, .slice A1 n1 c1, .string nm, .int .i64 ex, .int .i64 rl, .bool tr, .bool al, .slice A2 n2 c2] ∧ Below w.heap.size w w' := by
  obtain ⟨A1, n1, c1, A2, n2, c2, rfl, h1, h2⟩ := h
  exact ⟨A1, n1, c1, A2, n2, c2, _, _, _, _, _, _, _, rfl, h1, h2⟩
theorem TreeAt.nine {w : World} {S : Nat → Prop} {T : Tr} {cs : List Value} (h : TreeAt w S T cs) : ∃ A1 n1 c1 A2 n2 c2 k neg nm ex rl tr al, cs = [.int .i64 k, .bool neg, .slice A1 n1 c1, .string nm, .int .i64 ex, .int .i64 rl, .bool tr, .bool al, .slice A2 n2 c2] := by
  obtain ⟨A1, n1, c1, A2, n, c, xs, rfl, _⟩ := h.named
  exact ⟨A1, n1, c1, A2, n, c, _, _, _, _, _, _, _, rfl⟩
end Fm
end Go.Proofs.YtkjbfomokdjbnaaGreatDoor

/-
  formula.Free: the names that occur free.
-/
namespace Go.Proofs.YtkjbfomokdjbnaaGreatDoor
open Go.RowKit
set_option linter.unusedSimpArgs false
set_option linter.unusedVariables false
namespace Fm
attribute [local go_sem] run_store

end Fm
end Go.Proofs.YtkjbfomokdjbnaaGreatDoor

/-
  right, texts, formula.Bound.
-/
namespace Go.Proofs.YtkjbfomokdjbnaaGreatDoor
open Go.RowKit
set_option linter.unusedSimpArgs false
set_option linter.unusedVariables false
namespace Fm
attribute [local go_sem] run_store taQuant_yes taQuant_no taQuant_nil

/-- a slice of texts that reads as these -/
def StrsAt (w : World) (S : Nat → Prop) (v : Value) (l : List ByteArray) : Prop := SS w S 1 v l.length (l.map Value.string) ∧ l.length ≤ 1000000
theorem StrsAt.keep {w w' : World} {S : Nat → Prop} {v : Value} {l : List ByteArray} (h : StrsAt w S v l) (hk : ∀ p : Addr, S p.block → w'.cell? p = w.cell? p) : StrsAt w' S v l := ⟨h.1.keep hk, h.2⟩
theorem StrsAt.more {w : World} {S S' : Nat → Prop} {v : Value} {l : List ByteArray} (h : StrsAt w S v l) (hS : ∀ b, S b → S' b) : StrsAt w S' v l := ⟨h.1.more hS, h.2⟩
theorem StrsAt.below {w w' : World} {S : Nat → Prop} {B : Nat} {v : Value} {l : List ByteArray} (h : StrsAt w S v l) (hS : ∀ b, S b → b < B) (hb : Below B w w') : StrsAt w' S v l := h.keep (fun _ hp => hb.cell (hS _ hp))
theorem StrsAt.of_own {w : World} {base : Nat} {v : Value} {l : List ByteArray} (h : w.ownsRow base tStr 1 v l.length (l.map Value.string)) (hl : l.length ≤ 1000000) : StrsAt w (fun b => base ≤ b ∧ b < w.heap.size) v l := ⟨SS.of_own h, hl⟩
theorem StrsAt.form {w : World} {S : Nat → Prop} {v : Value} {l : List ByteArray} (h : StrsAt w S v l) : ∃ A c, v = .slice A l.length c := h.1.form
theorem StrsAt.at_ {w : World} {S : Nat → Prop} {A : Option Addr} {n c : Nat} {l : List ByteArray} (h : StrsAt w S (.slice A n c) l) (hn : n = l.length) (h0 : 0 < n) :
    ∃ b o, A = some ⟨b, o, none⟩ ∧ S b ∧ ∀ i x, l[i]? = some x → w.cell? ⟨b, o + i, none⟩ = some (.string x) := by
  subst hn
  obtain ⟨b, o, rfl, hb, hc⟩ := h.1.at_ h0
  exact ⟨b, o, rfl, hb, fun i x hx => hc i _ (by rw [List.getElem?_map, hx]; rfl)⟩
/-! ### the quantifiers' names -/
end Fm
end Go.Proofs.YtkjbfomokdjbnaaGreatDoor

/-
  The reference's Has, Free.
-/
namespace Go.Proofs.YtkjbfomokdjbnaaGreatDoor
open Go.RowKit
set_option linter.unusedSimpArgs false
set_option linter.unusedVariables false
namespace Fm
attribute [local go_sem] run_store


/-! fr_marker -/

end Fm
end Go.Proofs.YtkjbfomokdjbnaaGreatDoor

/-
  The reference's Parts and Bound.
-/
namespace Go.Proofs.YtkjbfomokdjbnaaGreatDoor
open Go.RowKit
set_option linter.unusedSimpArgs false
set_option linter.unusedVariables false
namespace Fm
attribute [local go_sem] run_store

end Fm
end Go.Proofs.YtkjbfomokdjbnaaGreatDoor
