/-
  Small laws for the statements of chapter 34.
-/
import Derived.Test.YtkjbfomokdjbnaaDoorFmW
import Derived.Test.YtkjbfomokdjbnaaDoorFmL
import Derived.Test.YtkjbfomokdjbnaaDoorFmT
namespace Go.Proofs.YtkjbfomokdjbnaaDoor
open Go.RowKit
set_option linter.unusedSimpArgs false
set_option linter.unusedVariables false
namespace Fm
theorem sm_of_flat : ∀ (t : Tr) (d : Int), (∀ p ∈ flatF t d, shortT p.1 = true) → Sm t := by
  refine Tr.ind fun h ks ih => ?_
  intro d hp
  have h0 := hp (.mk h ks, d) (by unfold flatF; simp)
  have hL : ∀ (l : List Tr), (∀ k ∈ l, k ∈ ks) → (∀ p ∈ flatL l (d + 1), shortT p.1 = true) → SmL l := by
    intro l
    induction l with
    | nil => intro _ _; unfold SmL; trivial
    | cons a l il =>
      intro hm hq
      unfold flatL at hq
      unfold SmL
      exact ⟨ih a (hm a (by simp)) (d + 1) (fun p hp => hq p (List.mem_append.2 (.inl hp))), il (fun k hk => hm k (by simp [hk])) (fun p hp => hq p (List.mem_append.2 (.inr hp)))⟩
  unfold Sm
  unfold shortT at h0
  simp only [Bool.and_eq_true, decide_eq_true_eq] at h0
  exact ⟨h0.1, h0.2, hL ks (fun _ h => h) (fun p hp' => hp p (by unfold flatF; simp [hp']))⟩
theorem fewB_sm {t : Tr} {n : Int} (h : fewB t n = true) : Sm t := by
  unfold fewB at h
  simp only [Bool.and_eq_true, List.all_eq_true] at h
  exact sm_of_flat t 0 h.2
theorem TreePost.cells {T : Tr} {w w' : World} {e : Ending} (h : TreePost T w e w') : ∃ A1 n1 c1 A2 n2 c2 k neg nm ex rl tr al, e = .returned (.agg #[.int .i64 k, .bool neg, .slice A1 n1 c1, .string nm, .int .i64 ex, .int .i64 rl, .bool tr, .bool al, .slice A2 n2 c2]) ∧ TreeAt w' (Fr w w') T [.int .i64 k, .bool neg, .slice A1 n1 c1, .string nm, .int .i64 ex, .int .i64 rl, .bool tr, .bool al, .slice A2 n2 c2] ∧ Below w.heap.size w w' := by
  obtain ⟨A1, n1, c1, A2, n2, c2, rfl, h1, h2⟩ := h
  exact ⟨A1, n1, c1, A2, n2, c2, _, _, _, _, _, _, _, rfl, h1, h2⟩
theorem TreeAt.nine {w : World} {S : Nat → Prop} {T : Tr} {cs : List Value} (h : TreeAt w S T cs) : ∃ A1 n1 c1 A2 n2 c2 k neg nm ex rl tr al, cs = [.int .i64 k, .bool neg, .slice A1 n1 c1, .string nm, .int .i64 ex, .int .i64 rl, .bool tr, .bool al, .slice A2 n2 c2] := by
  obtain ⟨A1, n1, c1, A2, n, c, xs, rfl, _⟩ := h.named
  exact ⟨A1, n1, c1, A2, n, c, _, _, _, _, _, _, _, rfl⟩
end Fm
end Go.Proofs.YtkjbfomokdjbnaaDoor
