/-
  The reference's Digits: the decimal digits of a number, by dividing it by ten again and again.
-/
import Derived.Test.YtkjbfomokdjbnaaGreatDcG
import Derived.Test.YtkjbfomokdjbnaaGreatFmI
import Derived.Test.YtkjbfomokdjbnaaGreatFmT2
import Derived.Lib.QuietBelow
import Derived.BigQuiet
import Derived.Deep.QuietTactic
namespace Go.Proofs.YtkjbfomokdjbnaaGreat
open Go.RowKit
set_option linter.unusedSimpArgs false
set_option linter.unusedVariables false
namespace Dc
open Fm
theorem field_abs (x0 x1 : Value) (w : World) : (Instr.field 41 (.agg #[x0, x1]) 1).run Tryz.prog w = .ok x1 w := by kernel_rfl
attribute [local go_sem] run_store field_abs

/-- the row's first digits -/
def DRel (g m : Nat) (cur : List Nat) (wr : World) : Prop :=
  ∃ cs : Array Value, wr.heap[g]? = some (.cells cs 37 (0, 0)) ∧ m = cur.length ∧ m ≤ cs.size ∧ ∀ (j x : Nat), cur[j]? = some x → cs[j]? = some (u32V x)
/-- while it is divided: the digits from k on are the quotient's -/
def IRel (g m : Nat) (cur : List Nat) (k : Nat) (wr : World) : Prop :=
  ∃ cs : Array Value, wr.heap[g]? = some (.cells cs 37 (0, 0)) ∧ m = cur.length ∧ m ≤ cs.size ∧ (∀ (j x : Nat), j < k → cur[j]? = some x → cs[j]? = some (u32V x)) ∧ ∀ (j x : Nat), k ≤ j → (divL 10 cur)[j]? = some x → cs[j]? = some (u32V x)
theorem DRel.start {g m : Nat} {cur : List Nat} {wr : World} (h : DRel g m cur wr) : IRel g m cur m wr := by
  obtain ⟨cs, h1, h2, h3, h4⟩ := h
  exact ⟨cs, h1, h2, h3, fun j x _ hx => h4 j x hx, fun j x hj hx => by
    have := (List.getElem?_eq_some_iff.1 hx).1
    rw [divL_len] at this; omega⟩
theorem IRel.done {g m : Nat} {cur : List Nat} {wr : World} (h : IRel g m cur 0 wr) : DRel g m (divL 10 cur) wr := by
  obtain ⟨cs, h1, h2, h3, _, h4⟩ := h
  exact ⟨cs, h1, by rw [divL_len]; exact h2, h3, fun j x hx => h4 j x (Nat.zero_le _) hx⟩
theorem DRel.take {g m k : Nat} {t : List Nat} {wr : World} (h : DRel g m t wr) (hk : k ≤ m) : DRel g k (t.take k) wr := by
  obtain ⟨cs, h1, h2, h3, h4⟩ := h
  refine ⟨cs, h1, by rw [List.length_take]; omega, by omega, fun j x hx => h4 j x ?_⟩
  rw [List.getElem?_take] at hx
  split at hx
  · exact hx
  · cases hx
theorem DRel.at_ {g m : Nat} {t : List Nat} {wr : World} (h : DRel g m t wr) (j x : Nat) (hx : t[j]? = some x) : wr.cell? ⟨g, j, none⟩ = some (.int .u32 (x : Int)) := by
  obtain ⟨cs, h1, h2, h3, h4⟩ := h
  have := h4 j x hx
  simp [World.cell?, h1, this, u32V]
theorem IRel.at_ {g m k : Nat} {t : List Nat} {wr : World} (h : IRel g m t k wr) (j x : Nat) (hj : j < k) (hx : t[j]? = some x) : wr.cell? ⟨g, j, none⟩ = some (.int .u32 (x : Int)) ∧ wr.frozen? ⟨g, j, none⟩ = false := by
  obtain ⟨cs, h1, h2, h3, h4, _⟩ := h
  have := h4 j x hj hx
  exact ⟨by simp [World.cell?, h1, this, u32V], by simp [World.frozen?, h1]⟩
theorem IRel.step {g m k x : Nat} {t : List Nat} {wr : World} (h : IRel g m t (k + 1) wr) (hx : t[k]? = some x) (u : Value) (hu : u = u32V (qd 10 x (t.drop (k + 1)))) : IRel g m t k (wr.setCell ⟨g, k, none⟩ u) := by
  obtain ⟨cs, h1, h2, h3, h4, h5⟩ := h
  have hkm : k < m := by rw [h2]; exact (List.getElem?_eq_some_iff.1 hx).1
  refine ⟨cs.setIfInBounds k u, setCell_cells _ _ _ _ _ _ h1, h2, by simpa using h3, fun j y hj hy => ?_, fun j y hj hy => ?_⟩
  · rw [Array.getElem?_setIfInBounds_ne (by omega)]
    exact h4 j y (by omega) hy
  · by_cases e : j = k
    · subst e
      rw [divL_at 10 hx] at hy
      injection hy with hy
      subst hy
      rw [hu]
      have hjc : j < cs.size := by omega
      simp [hjc]
    · rw [Array.getElem?_setIfInBounds_ne (by omega)]
      exact h5 j y (by omega) hy

section
variable {P : Program} (w : World)
theorem run_append_zero (t u ty e e' : TypeId) (i : TypeInfo) (ht : P.underlying t = some (.slice e)) (hu : P.underlying u = some (.slice e')) (hi : P.info? e = some i) (g : Addr) (c c2 : Nat) (A : Option Addr) :
    (Builtin.append_ #[t, u] ty #[.slice (some g) 0 c, .slice A 0 c2]).run P w = .ok (.slice (some g) 0 c) w := by
  have hf : (Builtin.firstCells i.size 0 (.slice A 0 c2)).run P w = .ok #[] w := by
    cases A with
    | none => rfl
    | some a => exact run_firstCells_some (P := P) w i.size 0 a 0 c2 [] (by simp) (fun j u h => by simp at h)
  have hst : (storeCells (g.add (0 * i.size)) ([] : List Value)).run P w = .ok () w := rfl
  simp only [Nat.zero_mul] at hst
  simp [Builtin.append_, run_underlying ht, run_underlying hu, sizeOf, typeInfo, hi, Builtin.lenOf, hf, hst]
theorem wpList_append_zero {ops : Array Oper} {rest : List Oper} {o : Oper} {a : Act} {Q : Exit → Act → World → Prop} (hgd : o.guard = none) (s x : Operand) (t u : TypeId)
    (ho : o.op = .call { callee := .builtin .append, args := #[s, x], argTypes := #[t, u] }) (e e' : TypeId) (i : TypeInfo) (ht : P.underlying t = some (.slice e)) (hu : P.underlying u = some (.slice e')) (hi : P.info? e = some i)
    (g : Addr) (c c2 : Nat) (A : Option Addr) (hs : a.eval s = .slice (some g) 0 c) (hx : a.eval x = .slice A 0 c2)
    (h : wpList P ops Q rest (a.put o.dst (.slice (some g) 0 c)) w) : wpList P ops Q (o :: rest) a w :=
  wpList_plain hgd fun _ hK => by
    have hr := run_append_zero (P := P) w t u o.type e e' i ht hu hi g c c2 A
    unfold Oper.wp execOp
    simp only [ho, resolve, invoke, builtin, Sem.run_bind, Sem.run_pure, Result.andThen_ok, List.map_toArray, List.map_cons, List.map_nil, hs, hx, hr]
    exact hK _ _ h
end

end Dc
end Go.Proofs.YtkjbfomokdjbnaaGreat

/-
  The reference's capped, Degree, Weight.
-/
namespace Go.Proofs.YtkjbfomokdjbnaaGreat
open Go.RowKit Go.Sort
set_option linter.unusedSimpArgs false
set_option linter.unusedVariables false
namespace Dc
open Fm
attribute [local go_sem] run_store

/-- a call that answers in whatever world of a region -/
def QuietCall (f : FuncId) (args : Array Value) (n : Nat) (W : World) : Prop := ∀ d os, Calls Tryz.prog f args (grow (redrawn W d) os) fun e w' => e = .returned (.int .i64 (n : Int)) ∧ Below (grow (redrawn W d) os).heap.size (grow (redrawn W d) os) w'
theorem capN_capN (n : Nat) : capN (capN n) = capN n := by unfold capN; omega
theorem prodN_deg (a b : Nat) (hb : b ≤ 2147483647) : capN (capN a * b) = prodN a b := by
  unfold prodN
  rw [show capN b = b by unfold capN; omega]
theorem rec_deg_sm {h : Hd} {ks : List Tr} {i : Nat} {k : Tr} (hs : Sm (.mk h ks)) (hk : ks[i]? = some k) : Sm k := by
  unfold Sm at hs; exact hs.2.2.at_ hk

end Dc
end Go.Proofs.YtkjbfomokdjbnaaGreat
