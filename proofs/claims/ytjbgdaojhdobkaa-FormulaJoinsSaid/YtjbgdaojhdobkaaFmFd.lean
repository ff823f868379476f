/-
  The reference's Fold: the joined tree, and what Plain of the joined formula is.
-/
import Derived.Test.YtjbgdaojhdobkaaFmJn
import Derived.Test.YtjbgdaojhdobkaaFmC
namespace Go.Proofs.Ytjbgdaojhdobkaa
open Go.RowKit
set_option linter.unusedSimpArgs false
set_option linter.unusedVariables false
namespace Fm

def foldStep (b : Bool) (acc u : Tr) : Tr := .mk (hd0 (if b then 11 else 12)) [acc, canonT u]
def foldT (b : Bool) : List Tr → Tr
  | [] => .mk { hd0 8 with truth := b } []
  | t :: ts => ts.foldl (foldStep b) (canonT t)
theorem plain_join_go (b : Bool) : ∀ (ts : List Tr) (fs : List Fo) (a : Fo) (T : Tr), Fromt ts fs → plainF a = T → plainF (fs.foldl (joinStep b) a) = ts.foldl (foldStep b) T
  | [], [], a, T, _, ha => ha
  | [], f :: fs, a, T, h, _ => by have := h.1; simp at this
  | t :: ts, [], a, T, h, _ => by have := h.1; simp at this
  | t :: ts, f :: fs, a, T, h, ha => by
    obtain ⟨t', e, hrf, hsm⟩ := h.2 0 f rfl
    injection e with e
    subst e
    refine plain_join_go b ts fs _ _ ⟨by have := h.1; simpa using this, fun i g hg => h.2 (i + 1) g hg⟩ ?_
    unfold joinStep foldStep
    cases b
    · show plainF (.or a f) = _
      unfold plainF; rw [ha, (plainF_of hrf hsm).1]; rfl
    · show plainF (.and a f) = _
      unfold plainF; rw [ha, (plainF_of hrf hsm).1]; rfl
theorem plain_join (b : Bool) (ts : List Tr) (fs : List Fo) (h : Fromt ts fs) : plainF (joinF b fs) = foldT b ts := by
  match ts, fs, h with
  | [], [], _ => rfl
  | [], f :: fs, h => have := h.1; simp at this
  | t :: ts, [], h => have := h.1; simp at this
  | t :: ts, f :: fs, h =>
    obtain ⟨t', e, hrf, hsm⟩ := h.2 0 f rfl
    injection e with e
    subst e
    exact plain_join_go b ts fs f (canonT t) ⟨by have := h.1; simpa using this, fun i g hg => h.2 (i + 1) g hg⟩ (plainF_of hrf hsm).1
end Fm
end Go.Proofs.Ytjbgdaojhdobkaa
