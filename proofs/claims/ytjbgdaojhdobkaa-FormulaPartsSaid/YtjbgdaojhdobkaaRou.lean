/-
  A region that draws its order, in a round of a range over a function, at the wide fence: it goes by what is shown of it outside a round.
-/
import Derived.RangeFuncNested
import Derived.RangeFuncBound
import Derived.RangeFuncCalls
import Derived.RangeFuncLeaves
import Derived.Deep.RegionHeld3
import Derived.Lib.QuietBelow
import Derived.Test.YtjbgdaojhdobkaaApp
namespace Go.Proofs.Ytjbgdaojhdobkaa
open Go.RowKit
set_option linter.unusedSimpArgs false
set_option linter.unusedVariables false
section
variable {P : Program} {ops : Array Oper} {Q : Exit → Act → World → Prop} {n l : Nat}
theorem callsWide {f : FuncId} {args : Array Value} {w : World} {R : Ending → World → Prop} (h : Calls P f args w R) : CallsIn (Fence.wide.inRound l) n P f args w R := CallsIn.inRound l (callsIn_wide.2 h)
theorem opRound {o : Oper} (hd : ∀ c, o.op ≠ .defer c) {a : Act} {w : World} {K K' : Act → World → Prop} (hK : ∀ a w, K a w → K' a w) (h : o.wp P a w K Q) : o.wpIn (Fence.wide.inRound l) n P a w K' Q := by
  refine ⟨fun _ _ => trivial, ?_⟩
  rw [Fence.inRound_round, Oper.semAt_some l _ _ hd]
  unfold Oper.wp at h
  generalize (execOp a.eval o).run P w = r at h ⊢
  cases r with
  | ok x w' =>
    cases x with
    | value v => exact hK _ _ h
    | skip => exact hK _ _ h
    | defer d => exact hK _ _ h
    | enter f args =>
      refine ⟨fun e => (by cases e), callsWide (Calls.mono h fun e w' h => ?_)⟩
      cases e with
      | returned v => exact hK _ _ h
      | panicked c => exact h
      | outgrown => exact h
    | row r args =>
      refine ⟨fun e => (by cases e), fun c cs _ => ?_⟩
      obtain ⟨v, w'', hr, hs⟩ := h c cs
      exact ⟨v, w'', hK _ _ hr, stepsIn_wide.2 hs⟩
    | _ => exact h.elim
  | halt x w' =>
    cases x with
    | panic v => exact h
    | _ => exact h.elim
theorem opsRound (hd : ∀ (i : Nat) (o : Oper), ops[i]? = some o → ∀ c, o.op ≠ .defer c) (hno : ¬ LetsOut Q) : ∀ (is : List Nat) (a : Act) (w : World), wpOps P ops Q is a w → wpOpsIn (Fence.wide.inRound l) n P ops Q is a w
  | [], a, w, h => h
  | i :: rest, a, w, h => by
    unfold wpOps at h
    unfold wpOpsIn
    cases ho : ops[i]? with
    | none => rw [ho] at h; exact opsRound hd hno rest a w h
    | some o =>
      rw [ho] at h
      by_cases hw : Region.wanted o (yielded ops a.tmps) = true
      · simp only [hw, if_true] at h ⊢
        rcases h with h | ⟨_, h⟩
        · exact opRound (hd i o ho) (fun a w h => opsRound hd hno rest a w h) h
        · exact (hno h).elim
      · simp only [hw, if_false, Bool.false_eq_true] at h ⊢
        exact ⟨fun _ _ => trivial, opsRound hd hno rest _ w h⟩
def noDefer (ops : Array Oper) : Bool := ops.all fun o => match o.op with | .defer _ => false | _ => true
theorem noDefer_spec (h : noDefer ops = true) (i : Nat) (o : Oper) (ho : ops[i]? = some o) (c : _) : o.op ≠ .defer c := by
  intro e
  obtain ⟨hi, rfl⟩ := Array.getElem?_eq_some_iff.1 ho
  have := (Array.all_eq_true.1 h) i hi
  rw [e] at this
  cases this
/-- a region that draws, in a round: what holds of every order outside -/
theorem wpIn_round_any {id : Nat} {a : Act} {w : World} (hm : P.follows .mixedOrders = true) (hd : noDefer ops = true) (hno : ¬ LetsOut Q)
    (h : wpAny P .any ops Q ops.size (Array.replicate ops.size false) a w.drew) : (Code.region id ops true).wpIn (Fence.wide.inRound l) n P Q a w :=
  wpIn_region_draw fun t => by
    simp only [Region.schedule, hm, Bool.true_or, if_true]
    exact opsRound (noDefer_spec hd) hno _ _ _ (wpAny_sound ops.size t _ a _ h)
theorem wpIn_round_held {S : World → Prop} {id : Nat} {a : Act} {w : World} (hm : P.follows .mixedOrders = true) (hd : noDefer ops = true) (hno : ¬ LetsOut Q) (hS : S w.drew)
    (h : S w.drew → wpAnyH P .any ops Q S ops.size (Array.replicate ops.size false) a w.drew) : (Code.region id ops true).wpIn (Fence.wide.inRound l) n P Q a w :=
  wpIn_round_any hm hd hno (wpAny_of_held _ _ _ _ (h hS))
end
end Go.Proofs.Ytjbgdaojhdobkaa
