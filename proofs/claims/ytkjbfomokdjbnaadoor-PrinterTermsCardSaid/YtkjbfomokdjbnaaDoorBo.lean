/-
  strings.Builder's methods at this program's own numbers: a builder that the call made itself: copyCheck, Len, WriteByte, WriteString, String.
-/
import Derived.Test.YtkjbfomokdjbnaaDoorChecked
import Derived.RegionTactic
import Derived.Lib.Strings
import Derived.Lib.Slices
import Derived.Lib.Walk
import Derived.Lib.Builder
import Derived.Lib.AppendStr
import Derived.Lib.UnsafeStr
import Derived.Lib.MakeNoZero
import Derived.WalkKit
import Derived.Laws.Externs
import Derived.Laws.IdiomCopy
import Derived.Laws.BitsLemmas
import Derived.Lib.FrozenHead2
import Derived.Lib.OthersKept
import Derived.Test.YtkjbfomokdjbnaaDoorFmU
import Derived.Defers
namespace Go.Proofs.YtkjbfomokdjbnaaDoor
open Go.RowKit
set_option linter.unusedVariables false
set_option linter.unusedSimpArgs false

theorem sizeBuilder : (Tryd.prog.info? 75).map (·.size) = some 2 := by kernel_rfl
theorem liesBuilder : liesAt Tryd.prog Tryd.prog.depth 75 (2 / Tryd.prog.cellsOf 75) 0 75 1 = true := by kernel_rfl
theorem infoByte : (Tryd.prog.info? 5).map (fun i => (i.zero, i.size, i.bytes)) = some (some (.int .u8 0), 1, 1) := by kernel_rfl
theorem cellsByte : Tryd.prog.cellsOf 5 = 1 := by kernel_rfl
set_option maxHeartbeats 1000000 in
set_option maxRecDepth 100000 in
theorem Builder_copyCheck_used (b : Nat) (w : World) (h0 : w.cell? ⟨b, 0, none⟩ = some (.pointer (some ⟨b, 0, none⟩))) :
    Calls Tryd.prog 69 #[.pointer (some ⟨b, 0, none⟩)] w fun e w' => e = .returned (.tuple #[]) ∧ w' = w := by
  obtain ⟨j, hj, _⟩ := Option.map_eq_some_iff.1 sizeBuilder
  go_enter Tryd.func69, Tryd.ntmps69
  go_wp2
  rw [Lib.run_neq_ptr_same w _ Tryd.underlying72 hj]
  go_wp2
  go_end0
  exact ⟨rfl, rfl⟩

set_option maxHeartbeats 1000000 in
set_option maxRecDepth 100000 in
theorem Builder_copyCheck_fresh (b : Nat) (w : World) (h0 : w.cell? ⟨b, 0, none⟩ = some (.pointer none)) (hsh : w.shape? b = some (75, 2)) (hfz : w.frozen? ⟨b, 0, none⟩ = false) :
    Calls Tryd.prog 69 #[.pointer (some ⟨b, 0, none⟩)] w fun e w' => e = .returned (.tuple #[]) ∧ w' = w.setCell ⟨b, 0, none⟩ (.pointer (some ⟨b, 0, none⟩)) := by
  obtain ⟨j, hj, hjs⟩ := Option.map_eq_some_iff.1 sizeBuilder
  go_enter Tryd.func69, Tryd.ntmps69
  go_wp2
  rw [Lib.run_to_unsafe w ⟨b, 0, none⟩ Tryd.underlying72 Tryd.underlying141 hj (by rw [hjs]; decide) hsh (Nat.zero_lt_succ 1)]
  simp only [Result.andThen]
  rw [Oper.upon_value]
  go_wp2
  rw [run_callFunc_extern Tryd.func79 (by kernel_rfl) (by kernel_rfl) (by kernel_rfl) (e := Extern.AbiNoEscape.same) (by kernel_rfl)]
  rw [Lib.run_noEscape]
  simp only [Result.andThen]
  rw [Oper.upon_value]
  go_wp2
  rw [Lib.run_from_unsafe w ⟨b, 0, none⟩ Tryd.underlying141 Tryd.underlying72 hj hsh liesBuilder]
  simp only [Result.andThen]
  rw [Oper.upon_value]
  go_wp2
  go_end0
  exact ⟨rfl, rfl⟩

theorem unsafeString_none (W : World) (q : Option Addr) : (Builtin.unsafeString_ #[118, 3] 9 #[.pointer q, .int .i64 0]).run Tryd.prog W = .ok (.string .empty) W :=
  Lib.run_unsafeString_none W _ _ _ q

end Go.Proofs.YtkjbfomokdjbnaaDoor

/-
  strings.Builder's methods at this program's own numbers, with the frame that reaches above the builder: WriteByte, WriteString, String, Len.
-/
namespace Go.Proofs.YtkjbfomokdjbnaaDoor
open Go.RowKit
set_option linter.unusedVariables false
set_option linter.unusedSimpArgs false

set_option maxHeartbeats 1000000 in
set_option maxRecDepth 100000 in
theorem Builder_String_k (B b : Nat) (l : List UInt8) (w : World) (h : Lib.IsBuilderF 75 5 B b (Lib.byteCells l) w) (h0 : l ≠ []) :
    Calls Tryd.prog 28 #[.pointer (some ⟨b, 0, none⟩)] w fun e w' => e = .returned (.string ⟨l.toArray⟩) ∧ (Lib.IsBuilderF 75 5 B b (Lib.byteCells l) w' ∧ Below B w w' ∧ Lib.OthersKept 5 (some b) w w') := by
  obtain ⟨p, hp, hAt⟩ : ∃ p, (p = .pointer none ∨ p = .pointer (some ⟨b, 0, none⟩)) ∧ Lib.BuilderAtF 75 5 B b p (Lib.byteCells l) w := by
    rcases h with h | h
    · exact ⟨_, .inl rfl, h⟩
    · exact ⟨_, .inr rfl, h⟩
  obtain ⟨hB, v, hbk, hown, hne⟩ := hAt
  have hl0 : l.length ≠ 0 := by simpa using h0
  rw [Lib.byteCells_length] at hown
  obtain ⟨g, cap, cur, fz, rfl, hbg, hg, hfz, hnc, hcm, hcs, htake⟩ : ∃ g cap cur fz, v = .slice (some ⟨g, 0, none⟩) l.length cap ∧ B ≤ g ∧ w.heap[g]? = some (.cells cur 5 fz) ∧ fz.2 ≤ l.length * 1 ∧ l.length ≤ cap ∧ cap ≤ maxLen ∧ cur.size = cap * 1 ∧ cur.toList.take (l.length * 1) = Lib.byteCells l := by
    rcases hown.2 with ⟨_, hz⟩ | ⟨g, cap, cur, fz, hv, r⟩
    · exact absurd hz hl0
    · exact ⟨g, cap, cur, fz, hv, r⟩
  have c1 : w.drew.cell? ⟨b, 1, none⟩ = some (.slice (some ⟨g, 0, none⟩) l.length cap) := by
    have : w.drew.heap[b]? = some (.cells #[p, .slice (some ⟨g, 0, none⟩) l.length cap] 75 (0, 0)) := hbk
    rw [Lib.cell_of_heap this]; rfl
  have hSD : (Builtin.unsafeSliceData_ #[73] 118 #[.slice (some ⟨g, 0, none⟩) l.length cap]).run Tryd.prog w.drew = .ok (.pointer (some ⟨g, 0, none⟩)) w.drew :=
    Lib.run_unsafeSliceData_row _ _ _ _ _ _ (by omega)
  have hUS : (Builtin.unsafeString_ #[118, 3] 9 #[.pointer (some ⟨g, 0, none⟩), .int .i64 l.length]).run Tryd.prog w.drew = .ok (.string ⟨l.toArray⟩) (w.drew.freeze ⟨g, 0, none⟩ l.length) := by
    refine Lib.run_unsafeString_row w.drew 118 3 9 5 Tryd.underlying118 cellsByte g cur.size (by have hg' : w.drew.heap[g]? = some (.cells cur 5 fz) := hg; simp [World.shape?, hg']) l h0 (by omega) (by unfold maxLen at hcm; omega) ?_
    intro j x hx
    have := hown.cells (g := g) rfl j (.int .u8 x.toNat) (by simp [Lib.byteCells, hx])
    exact this
  have hkeep : Lib.IsBuilderF 75 5 B b (Lib.byteCells l) (w.drew.freeze ⟨g, 0, none⟩ l.length) := by
    have hA : Lib.BuilderAtF 75 5 B b p (Lib.byteCells l) w.drew := ⟨hB, _, hbk, by rw [Lib.byteCells_length]; exact hown, hne⟩
    have hF := hA.froze (g := g) (cap := cap) (by rw [Lib.byteCells_length]; exact c1)
    rw [Lib.byteCells_length] at hF
    rcases hp with rfl | rfl
    · exact .inl hF
    · exact .inr hF
  go_enter Tryd.func28, Tryd.ntmps28
  go_wp2
  go_region
  all_goals (go_wp2; go_ret; exact ⟨rfl, hkeep, Lib.below_freeze (Below.drew (Below.refl B w)) (p := ⟨g, 0, none⟩) hbg _, ((Lib.OthersKept.refl _ _ w).drew).freeze ⟨g, 0, none⟩ _ ⟨cur, fz, hg⟩⟩)

set_option maxHeartbeats 2000000 in
set_option maxRecDepth 100000 in
theorem Builder_String_nil_k (B b : Nat) (p : Value) (w : World) (hbk : w.heap[b]? = some (.cells #[p, .slice none 0 0] 75 (0, 0))) (hA : Lib.BuilderAtF 75 5 B b p [] w) :
    Calls Tryd.prog 28 #[.pointer (some ⟨b, 0, none⟩)] w fun e w' => e = .returned (.string ⟨#[]⟩) ∧ (Lib.BuilderAtF 75 5 B b p [] w' ∧ Below B w w' ∧ Lib.OthersKept 5 (some b) w w') := by
  have hUS := unsafeString_none
  have c1 : w.drew.cell? ⟨b, 1, none⟩ = some (.slice none 0 0) := by
    have : w.drew.heap[b]? = some (.cells #[p, .slice none 0 0] 75 (0, 0)) := hbk
    rw [Lib.cell_of_heap this]; rfl
  have hSD : (Builtin.unsafeSliceData_ #[73] 118 #[.slice none 0 0]).run Tryd.prog w.drew = .ok (.pointer none) w.drew := rfl
  go_enter Tryd.func28, Tryd.ntmps28
  go_wp2
  go_region
  all_goals (go_wp2; go_ret; exact ⟨rfl, hA.drew, Below.drew (Below.refl B w), (Lib.OthersKept.refl _ _ w).drew⟩)

set_option maxHeartbeats 2000000 in
set_option maxRecDepth 100000 in
theorem Builder_String_noroom_k (B b g : Nat) (p : Value) (cur : Array Value) (w : World) (hBw : B ≤ w.heap.size) (hbk : w.heap[b]? = some (.cells #[p, .slice (some ⟨g, 0, none⟩) 0 0] 75 (0, 0))) (fz : Nat × Nat) (hg : w.heap[g]? = some (.cells cur 5 fz)) (hA : Lib.BuilderAtF 75 5 B b p [] w) :
    Calls Tryd.prog 28 #[.pointer (some ⟨b, 0, none⟩)] w fun e w' => e = .returned (.string ⟨#[]⟩) ∧ (Lib.BuilderAtF 75 5 B b p [] w' ∧ Below B w w' ∧ Lib.OthersKept 5 (some b) w w') := by
  have hUS := unsafeString_none
  have hlt : b < w.heap.size := by
    rcases Nat.lt_or_ge b w.heap.size with h' | h'
    · exact h'
    · simp [Array.getElem?_eq_none h'] at hbk
  have c1 : w.drew.cell? ⟨b, 1, none⟩ = some (.slice (some ⟨g, 0, none⟩) 0 0) := by
    have : w.drew.heap[b]? = some (.cells #[p, .slice (some ⟨g, 0, none⟩) 0 0] 75 (0, 0)) := hbk
    rw [Lib.cell_of_heap this]; rfl
  have hSD : (Builtin.unsafeSliceData_ #[73] 118 #[.slice (some ⟨g, 0, none⟩) 0 0]).run Tryd.prog w.drew = .ok (.pointer (some ⟨w.drew.heap.size, 0, none⟩)) (w.drew.alloc (.view ⟨g, 0, none⟩ 5)) :=
    Lib.run_unsafeSliceData_zero w.drew _ _ 5 Tryd.underlying118 ⟨g, 0, none⟩ 0 (5, cur.size) (by have hg' : w.drew.heap[g]? = some (.cells cur 5 fz) := hg; simp [World.shape?, hg'])
  have c2 : (w.drew.alloc (.view ⟨g, 0, none⟩ 5)).cell? ⟨b, 1, none⟩ = some (.slice (some ⟨g, 0, none⟩) 0 0) := by
    have : (w.drew.alloc (.view ⟨g, 0, none⟩ 5)).heap[b]? = _ := (Lib.alloc_old w.drew _ b hlt).trans hbk
    rw [Lib.cell_of_heap this]; rfl
  have c3 : (w.alloc (.view ⟨g, 0, none⟩ 5)).drew.cell? ⟨b, 1, none⟩ = some (.slice (some ⟨g, 0, none⟩) 0 0) := c2
  have c0 : w.cell? ⟨b, 1, none⟩ = some (.slice (some ⟨g, 0, none⟩) 0 0) := c1
  go_enter Tryd.func28, Tryd.ntmps28
  go_wp2
  go_region
  all_goals (go_wp2; go_ret; exact ⟨rfl, hA.drew.alloc _, (Below.drew (Below.refl B w)).alloc hBw _, ((Lib.OthersKept.refl _ _ w).drew).alloc _⟩)

set_option maxHeartbeats 2000000 in
set_option maxRecDepth 100000 in
theorem Builder_String_room_k (B b g cap : Nat) (p : Value) (w : World) (hc0 : cap ≠ 0) (hbk : w.heap[b]? = some (.cells #[p, .slice (some ⟨g, 0, none⟩) 0 cap] 75 (0, 0))) (hA : Lib.BuilderAtF 75 5 B b p [] w) :
    Calls Tryd.prog 28 #[.pointer (some ⟨b, 0, none⟩)] w fun e w' => e = .returned (.string ⟨#[]⟩) ∧ (Lib.BuilderAtF 75 5 B b p [] w' ∧ Below B w w' ∧ Lib.OthersKept 5 (some b) w w') := by
  have hUS := unsafeString_none
  have c1 : w.drew.cell? ⟨b, 1, none⟩ = some (.slice (some ⟨g, 0, none⟩) 0 cap) := by
    have : w.drew.heap[b]? = some (.cells #[p, .slice (some ⟨g, 0, none⟩) 0 cap] 75 (0, 0)) := hbk
    rw [Lib.cell_of_heap this]; rfl
  have hSD : (Builtin.unsafeSliceData_ #[73] 118 #[.slice (some ⟨g, 0, none⟩) 0 cap]).run Tryd.prog w.drew = .ok (.pointer (some ⟨g, 0, none⟩)) w.drew :=
    Lib.run_unsafeSliceData_row _ _ _ _ _ _ hc0
  clear hc0
  go_enter Tryd.func28, Tryd.ntmps28
  go_wp2
  go_region
  all_goals (go_wp2; go_ret; exact ⟨rfl, hA.drew, Below.drew (Below.refl B w), (Lib.OthersKept.refl _ _ w).drew⟩)

theorem Builder_String_empty_k (B b : Nat) (w : World) (h : Lib.IsBuilderF 75 5 B b [] w) (hBw : B ≤ w.heap.size) :
    Calls Tryd.prog 28 #[.pointer (some ⟨b, 0, none⟩)] w fun e w' => e = .returned (.string ⟨#[]⟩) ∧ (Lib.IsBuilderF 75 5 B b [] w' ∧ Below B w w' ∧ Lib.OthersKept 5 (some b) w w') := by
  obtain ⟨p, hp, hA⟩ : ∃ p, (p = .pointer none ∨ p = .pointer (some ⟨b, 0, none⟩)) ∧ Lib.BuilderAtF 75 5 B b p [] w := by
    rcases h with h | h
    · exact ⟨_, .inl rfl, h⟩
    · exact ⟨_, .inr rfl, h⟩
  have fin : ∀ (e : Ending) (w' : World), (e = .returned (.string ⟨#[]⟩) ∧ (Lib.BuilderAtF 75 5 B b p [] w' ∧ Below B w w' ∧ Lib.OthersKept 5 (some b) w w')) → e = .returned (.string ⟨#[]⟩) ∧ (Lib.IsBuilderF 75 5 B b [] w' ∧ Below B w w' ∧ Lib.OthersKept 5 (some b) w w') := by
    rintro e w' ⟨he, hk, hb, ho⟩
    rcases hp with rfl | rfl
    · exact ⟨he, .inl hk, hb, ho⟩
    · exact ⟨he, .inr hk, hb, ho⟩
  have hA' := hA
  obtain ⟨hB, v, hbk, hown, hne⟩ := hA
  rcases hown.2 with ⟨rfl, _⟩ | ⟨g, cap, cur, fz, rfl, hbg, hg, _, _, _, _, _⟩
  · exact (Builder_String_nil_k B b p w hbk hA').mono fin
  · by_cases hc0 : cap = 0
    · subst hc0
      exact (Builder_String_noroom_k B b g p cur w hBw hbk fz hg hA').mono fin
    · exact (Builder_String_room_k B b g cap p w hc0 hbk hA').mono fin

theorem Builder_String_any_k (B b : Nat) (l : List UInt8) (w : World) (h : Lib.IsBuilderF 75 5 B b (Lib.byteCells l) w) (hBw : B ≤ w.heap.size) :
    Calls Tryd.prog 28 #[.pointer (some ⟨b, 0, none⟩)] w fun e w' => e = .returned (.string ⟨l.toArray⟩) ∧ (Lib.IsBuilderF 75 5 B b (Lib.byteCells l) w' ∧ Below B w w' ∧ Lib.OthersKept 5 (some b) w w') := by
  cases l with
  | nil => exact Builder_String_empty_k B b w h hBw
  | cons x r => exact Builder_String_k B b (x :: r) w h (by simp)

end Go.Proofs.YtkjbfomokdjbnaaDoor

/-
  strings.Builder's writers where what is read later lies behind the builder's box: the box at b, its row from c on; what lies between is as it was.
-/
namespace Go.Proofs.YtkjbfomokdjbnaaDoor
open Go.RowKit
set_option linter.unusedVariables false
set_option linter.unusedSimpArgs false
namespace Fm
abbrev TBld : TypeId := 75
abbrev Fb (b c : Nat) : Nat → Prop := fun k => k = b ∨ c ≤ k
/-- the builder's box at b, its row from c on, the bytes so far -/
def Bo (b c : Nat) (l : List UInt8) (w : World) : Prop :=
  b < c ∧ c ≤ w.heap.size ∧ ∃ p v, (p = .pointer none ∨ p = .pointer (some ⟨b, 0, none⟩)) ∧ w.heap[b]? = some (.cells #[p, v] TBld (0, 0)) ∧ w.ownsRowF c 5 1 v (Lib.byteCells l).length (Lib.byteCells l)
theorem rowF_base {w : World} {B B' : Nat} {e : TypeId} {size n : Nat} {v : Value} {xs : List Value} (h : w.ownsRowF B e size v n xs) (hB : B' ≤ B) : w.ownsRowF B' e size v n xs := by
  refine ⟨h.1, ?_⟩
  rcases h.2 with h0 | ⟨g, cap, cur, fz, hv, hb, r⟩
  · exact .inl h0
  · exact .inr ⟨g, cap, cur, fz, hv, Nat.le_trans hB hb, r⟩
theorem Bo.at_ {b c : Nat} {p v : Value} {l : List Value} {w : World} (hbc : b < c) (hb : w.heap[b]? = some (.cells #[p, v] TBld (0, 0))) (ho : w.ownsRowF c 5 1 v l.length l) : Lib.BuilderAtF TBld 5 b b p l w :=
  ⟨Nat.le_refl _, v, hb, rowF_base ho (Nat.le_of_lt hbc), fun e => by have := (ho.lt b e).1; omega⟩
theorem Bo.is {b c : Nat} {l : List UInt8} {w : World} (h : Bo b c l w) : Lib.IsBuilderF TBld 5 b b (Lib.byteCells l) w := by
  obtain ⟨h1, h2, p, v, hp, hb, ho⟩ := h
  rcases hp with rfl | rfl
  · exact .inl (Bo.at_ h1 hb ho)
  · exact .inr (Bo.at_ h1 hb ho)
theorem Bo.below {b c : Nat} {l : List UInt8} {w w' : World} (h : Bo b c l w) (hk : Below w.heap.size w w') : Bo b c l w' := by
  obtain ⟨h1, h2, p, v, hp, hb, ho⟩ := h
  refine ⟨h1, Nat.le_trans h2 hk.size, p, v, hp, (hk.block b (by omega)).trans hb, ho.1, ?_⟩
  rcases ho.2 with h0 | ⟨g, cap, cur, fz, hv, hB, hg, r⟩
  · exact .inl h0
  · exact .inr ⟨g, cap, cur, fz, hv, hB, (hk.block g (Array.getElem?_eq_some_iff.1 hg).1).trans hg, r⟩
theorem owns_setb {b c : Nat} (w : World) (j : Nat) (v : Value) : Owns w (w.setCell ⟨b, j, none⟩ v) (Fb b c) (Fb b c) :=
  ⟨rfl, rfl, rfl, by simp [World.setCell], fun k _ hF => Below.heap_setCell _ _ _ _ (fun e => hF (.inl e)), fun _ h => .inl h⟩
theorem owns_grown {b c : Nat} {w w' : World} {row : Option Nat} (hg : w.grownBy w' row) (hr : ∀ k, row = some k → c ≤ k) : Owns w w' (Fb b c) (Fb b c) :=
  ⟨hg.os, hg.tape, hg.output, hg.size, fun k hk hF => hg.block k hk (fun e => hF (.inr (hr k e.symm))), fun _ h => .inl h⟩

theorem copyCheck_o (b c : Nat) (l : List UInt8) (w : World) (h : Bo b c l w) :
    Calls Tryd.prog 69 #[.pointer (some ⟨b, 0, none⟩)] w fun e w' => e = .returned (.tuple #[]) ∧ b < c ∧ c ≤ w'.heap.size ∧ (∃ v, w'.heap[b]? = some (.cells #[.pointer (some ⟨b, 0, none⟩), v] TBld (0, 0)) ∧ w'.ownsRowF c 5 1 v (Lib.byteCells l).length (Lib.byteCells l)) ∧ Owns w w' (Fb b c) (Fb b c) ∧ Lib.OthersKept 5 (some b) w w' := by
  obtain ⟨h1, h2, p, v, hp, hb, ho⟩ := h
  have hA := Bo.at_ h1 hb ho
  rcases hp with rfl | rfl
  · refine (Builder_copyCheck_fresh b w hA.cell0 hA.shape hA.frozen0).mono ?_
    rintro e w' ⟨rfl, rfl⟩
    refine ⟨rfl, h1, by simpa [World.setCell] using h2, ⟨v, ?_, ?_⟩, owns_setb _ _ _, (Lib.OthersKept.refl _ _ w).setCell ⟨b, 0, none⟩ rfl _⟩
    · simp [World.setCell, Array.getElem?_modify, hb]
    · exact ho.kept (row := some b) ⟨rfl, rfl, rfl, by simp [World.setCell], fun k _ hk => Below.heap_setCell _ _ _ _ (fun e => hk (by simp [e]))⟩ (Or.inr (fun e => by have := (ho.lt b e).1; omega))
  · refine (Builder_copyCheck_used b w hA.cell0).mono ?_
    rintro e w' ⟨rfl, rfl⟩
    exact ⟨rfl, h1, h2, ⟨v, hb, ho⟩, Owns.refl _ _, Lib.OthersKept.refl _ _ _⟩

theorem Bo.put {b c : Nat} {v v' : Value} {l : List UInt8} {w : World} (hbc : b < c) (hc : c ≤ w.heap.size) (hb : w.heap[b]? = some (.cells #[.pointer (some ⟨b, 0, none⟩), v] TBld (0, 0))) (hown : w.ownsRowF c 5 1 v' (Lib.byteCells l).length (Lib.byteCells l)) : Bo b c l (w.setCell ⟨b, 1, none⟩ v') := by
  refine ⟨hbc, by simpa [World.setCell] using hc, _, v', .inr rfl, ?_, ?_⟩
  · simp [World.setCell, Array.getElem?_modify, hb]
  · exact hown.kept (row := some b) ⟨rfl, rfl, rfl, by simp [World.setCell], fun k _ hk => Below.heap_setCell _ _ _ _ (fun e => hk (by simp [e]))⟩ (Or.inr (fun e => by have := (hown.lt b e).1; omega))

set_option maxHeartbeats 2000000 in
set_option maxRecDepth 100000 in
theorem WriteByte_o (b c : Nat) (l : List UInt8) (x : UInt8) (w : World) (h : Bo b c l w) (hlen : l.length + 1 ≤ 140737488355328) :
    Calls Tryd.prog 49 #[.pointer (some ⟨b, 0, none⟩), .int .u8 (x.toNat : Int)] w fun e w' => e = .returned (.nilIface) ∧ Bo b c (l ++ [x]) w' ∧ Owns w w' (Fb b c) (Fb b c) ∧ Lib.OthersKept 5 (some b) w w' := by
  obtain ⟨i0, hi, hz0, hz1, hz2⟩ := info_parts infoByte
  go_enter Tryd.func49, Tryd.ntmps49
  go_wp2_with (go_at_call 69; refine (copyCheck_o b c l _ h).mono ?_)
  rintro e w1 ⟨rfl, hbc, hcw, ⟨v, hbk, hown⟩, hk1, hq1⟩
  have hne : v.ownBlock ≠ some b := fun e => by have := (hown.lt b e).1; omega
  have c0 : w1.cell? ⟨b, 0, none⟩ = some (.pointer (some ⟨b, 0, none⟩)) := by rw [Lib.cell_of_heap hbk]; rfl
  have c1 : w1.cell? ⟨b, 1, none⟩ = some v := by rw [Lib.cell_of_heap hbk]; rfl
  go_wp2_with (at_builtin; refine wpList_append_ownF _ rfl _ _ 73 rfl c 5 i0 (.int .u8 0) 1 1 Tryd.underlying73 hi hz0 hz1 hz2 rfl (by decide) _ _ _ rfl (hown.alloc _) ⟨w1.heap.size, 0, none⟩ 1 1 [.int .u8 (x.toNat : Int)] rfl rfl ?c1 ?c2 ?c3 ?c4 ?c5 ?_)
  case c1 =>
    intro j u hj
    match j, hj with
    | 0, hj => simp at hj; subst hj; simp [Addr.add]
  case c2 => intro u hu; simp at hu; subst hu; rfl
  case c3 => rw [Lib.byteCells_length]; unfold maxLen; omega
  case c4 => rw [Lib.byteCells_length]; omega
  case c5 => simp; omega
  intro v' w2 hown' hgrow _
  have hlt : b < w1.heap.size := by
    rcases Nat.lt_or_ge b w1.heap.size with h' | h'
    · exact h'
    · simp [Array.getElem?_eq_none h'] at hbk
  have hb2 : w2.heap[b]? = some (.cells #[.pointer (some ⟨b, 0, none⟩), v] 75 (0, 0)) := by
    rw [hgrow.block b (by simp; omega) (fun e => hne e.symm), Lib.alloc_old w1 _ b hlt]
    exact hbk
  have d0 : w2.cell? ⟨b, 0, none⟩ = some (.pointer (some ⟨b, 0, none⟩)) := by rw [Lib.cell_of_heap hb2]; rfl
  have d1 : w2.cell? ⟨b, 1, none⟩ = some v := by rw [Lib.cell_of_heap hb2]; rfl
  have f1 : w2.frozen? ⟨b, 1, none⟩ = false := Lib.frozen_of_heap hb2 1
  obtain ⟨g, cap, rfl⟩ : ∃ g cap, v' = .slice (some ⟨g, 0, none⟩) ((Lib.byteCells l).length + 1) cap := by
    rcases hown'.2 with ⟨_, h0⟩ | ⟨g, cap, cur, fz, hv, _⟩
    · omega
    · exact ⟨g, cap, hv⟩
  go_wp2
  go_ret
  refine ⟨rfl, ?_, (((hk1.trans (Owns.of_below ((Below.refl _ _).alloc (Nat.le_refl _) _) _)).trans (owns_grown hgrow (fun k hk => (hown.lt k hk).1))).trans (owns_setb _ _ _)), ((hq1.alloc _).grown hgrow (Lib.ownsRowF_kind (hown.alloc _))).setCell ⟨b, 1, none⟩ rfl _⟩
  refine Bo.put hbc (Nat.le_trans hcw (Nat.le_trans (by simp) hgrow.size)) hb2 ?_
  rw [Lib.byteCells_append, List.length_append]
  exact hown'

set_option maxHeartbeats 2000000 in
set_option maxRecDepth 100000 in
theorem WriteByte_od (b c : Nat) (l : List UInt8) (x : UInt8) (u : FrameMode) (w : World) (h : Bo b c l w) (hlen : l.length + 1 ≤ 140737488355328) :
    CallsD Tryd.prog 49 #[.pointer (some ⟨b, 0, none⟩), .int .u8 (x.toNat : Int)] u w fun e u' w' => u' = u ∧ (e = .returned (.nilIface) ∧ Bo b c (l ++ [x]) w' ∧ Owns w w' (Fb b c) (Fb b c) ∧ Lib.OthersKept 5 (some b) w w') := by
  obtain ⟨i0, hi, hz0, hz1, hz2⟩ := info_parts infoByte
  go_enter_d Tryd.func49, Tryd.ntmps49
  go_wp2_with (go_at_call 69; refine (copyCheck_o b c l _ h).mono ?_)
  rintro e w1 ⟨rfl, hbc, hcw, ⟨v, hbk, hown⟩, hk1, hq1⟩
  have hne : v.ownBlock ≠ some b := fun e => by have := (hown.lt b e).1; omega
  have c0 : w1.cell? ⟨b, 0, none⟩ = some (.pointer (some ⟨b, 0, none⟩)) := by rw [Lib.cell_of_heap hbk]; rfl
  have c1 : w1.cell? ⟨b, 1, none⟩ = some v := by rw [Lib.cell_of_heap hbk]; rfl
  go_wp2_with (at_builtin; refine wpList_append_ownF _ rfl _ _ 73 rfl c 5 i0 (.int .u8 0) 1 1 Tryd.underlying73 hi hz0 hz1 hz2 rfl (by decide) _ _ _ rfl (hown.alloc _) ⟨w1.heap.size, 0, none⟩ 1 1 [.int .u8 (x.toNat : Int)] rfl rfl ?c1 ?c2 ?c3 ?c4 ?c5 ?_)
  case c1 =>
    intro j u hj
    match j, hj with
    | 0, hj => simp at hj; subst hj; simp [Addr.add]
  case c2 => intro u hu; simp at hu; subst hu; rfl
  case c3 => rw [Lib.byteCells_length]; unfold maxLen; omega
  case c4 => rw [Lib.byteCells_length]; omega
  case c5 => simp; omega
  intro v' w2 hown' hgrow _
  have hlt : b < w1.heap.size := by
    rcases Nat.lt_or_ge b w1.heap.size with h' | h'
    · exact h'
    · simp [Array.getElem?_eq_none h'] at hbk
  have hb2 : w2.heap[b]? = some (.cells #[.pointer (some ⟨b, 0, none⟩), v] 75 (0, 0)) := by
    rw [hgrow.block b (by simp; omega) (fun e => hne e.symm), Lib.alloc_old w1 _ b hlt]
    exact hbk
  have d0 : w2.cell? ⟨b, 0, none⟩ = some (.pointer (some ⟨b, 0, none⟩)) := by rw [Lib.cell_of_heap hb2]; rfl
  have d1 : w2.cell? ⟨b, 1, none⟩ = some v := by rw [Lib.cell_of_heap hb2]; rfl
  have f1 : w2.frozen? ⟨b, 1, none⟩ = false := Lib.frozen_of_heap hb2 1
  obtain ⟨g, cap, rfl⟩ : ∃ g cap, v' = .slice (some ⟨g, 0, none⟩) ((Lib.byteCells l).length + 1) cap := by
    rcases hown'.2 with ⟨_, h0⟩ | ⟨g, cap, cur, fz, hv, _⟩
    · omega
    · exact ⟨g, cap, hv⟩
  go_wp2
  go_ret
  refine ⟨rfl, ?_, (((hk1.trans (Owns.of_below ((Below.refl _ _).alloc (Nat.le_refl _) _) _)).trans (owns_grown hgrow (fun k hk => (hown.lt k hk).1))).trans (owns_setb _ _ _)), ((hq1.alloc _).grown hgrow (Lib.ownsRowF_kind (hown.alloc _))).setCell ⟨b, 1, none⟩ rfl _⟩
  refine Bo.put hbc (Nat.le_trans hcw (Nat.le_trans (by simp) hgrow.size)) hb2 ?_
  rw [Lib.byteCells_append, List.length_append]
  exact hown'

set_option maxHeartbeats 2000000 in
set_option maxRecDepth 100000 in
theorem WriteString_o (b c : Nat) (l : List UInt8) (s : ByteArray) (w : World) (h : Bo b c l w) (hlen : l.length + s.size ≤ 140737488355328) :
    Calls Tryd.prog 50 #[.pointer (some ⟨b, 0, none⟩), .string s] w fun e w' => e = .returned (.tuple #[.int .i64 s.size, .nilIface]) ∧ Bo b c (l ++ s.data.toList) w' ∧ Owns w w' (Fb b c) (Fb b c) ∧ Lib.OthersKept 5 (some b) w w' := by
  obtain ⟨i0, hi, hz0, hz1, hz2⟩ := info_parts infoByte
  go_enter Tryd.func50, Tryd.ntmps50
  go_wp2_with (go_at_call 69; refine (copyCheck_o b c l _ h).mono ?_)
  rintro e w1 ⟨rfl, hbc, hcw, ⟨v, hbk, hown⟩, hk1, hq1⟩
  have hne : v.ownBlock ≠ some b := fun e => by have := (hown.lt b e).1; omega
  have c0 : w1.cell? ⟨b, 0, none⟩ = some (.pointer (some ⟨b, 0, none⟩)) := by rw [Lib.cell_of_heap hbk]; rfl
  have c1 : w1.cell? ⟨b, 1, none⟩ = some v := by rw [Lib.cell_of_heap hbk]; rfl
  go_wp2_with (at_builtin; refine Lib.wpList_append_own_stringF _ rfl _ _ 73 9 rfl c 5 i0 Tryd.underlying73 Tryd.underlying9 hi hz0 hz1 hz2 _ _ _ rfl hown s rfl ?c3 ?c4 ?c5 ?_)
  case c3 => rw [Lib.byteCells_length]; unfold maxLen; omega
  case c4 => rw [Lib.byteCells_length]; omega
  case c5 => exact hcw
  intro v' w2 hown' hgrow _
  have hlt : b < w1.heap.size := by
    rcases Nat.lt_or_ge b w1.heap.size with h' | h'
    · exact h'
    · simp [Array.getElem?_eq_none h'] at hbk
  have hb2 : w2.heap[b]? = some (.cells #[.pointer (some ⟨b, 0, none⟩), v] 75 (0, 0)) := by
    rw [hgrow.block b hlt (fun e => hne e.symm)]
    exact hbk
  have d0 : w2.cell? ⟨b, 0, none⟩ = some (.pointer (some ⟨b, 0, none⟩)) := by rw [Lib.cell_of_heap hb2]; rfl
  have d1 : w2.cell? ⟨b, 1, none⟩ = some v := by rw [Lib.cell_of_heap hb2]; rfl
  have f1 : w2.frozen? ⟨b, 1, none⟩ = false := Lib.frozen_of_heap hb2 1
  obtain ⟨ao, n', cap, rfl⟩ : ∃ ao n' cap, v' = .slice ao n' cap := by
    rcases hown'.2 with ⟨hv, _⟩ | ⟨g, cap, cur, fz, hv, _⟩
    · exact ⟨_, _, _, hv⟩
    · exact ⟨_, _, _, hv⟩
  go_wp2
  go_ret2
  refine ⟨rfl, ?_, ((hk1.trans (owns_grown hgrow (fun k hk => (hown.lt k hk).1))).trans (owns_setb _ _ _)), (hq1.grown hgrow (Lib.ownsRowF_kind hown)).setCell ⟨b, 1, none⟩ rfl _⟩
  refine Bo.put hbc (Nat.le_trans hcw hgrow.size) hb2 ?_
  have e : Lib.strCells s = Lib.byteCells s.data.toList := rfl
  rw [← Lib.strCells_length, e] at hown'
  rw [Lib.byteCells_append, List.length_append]
  exact hown'
end Fm
end Go.Proofs.YtkjbfomokdjbnaaDoor
