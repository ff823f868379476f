/-
  strings.Builder's writers where what is read later lies behind the builder's box: the box at b, its row from c on; what lies between is as it was.
-/
import Derived.Test.YtkjbfomokdjbnaaDoorBldK
import Derived.Test.YtkjbfomokdjbnaaDoorFmU
import Derived.Defers
namespace Go.Proofs.YtkjbfomokdjbnaaDoor
open Go.RowKit
set_option linter.unusedVariables false
set_option linter.unusedSimpArgs false
namespace Fm
abbrev TBld : TypeId := 75
abbrev Fb (b c : Nat) : Nat → Prop := fun k => k = b ∨ c ≤ k
/-- the builder's box at b, its row from c on, the bytes so far -/
def Bo (b c : Nat) (l : List UInt8) (w : World) : Prop :=
  b < c ∧ c ≤ w.heap.size ∧ ∃ p v, (p = .pointer none ∨ p = .pointer (some ⟨b, 0, none⟩)) ∧ w.heap[b]? = some (.cells #[p, v] TBld (0, 0)) ∧ w.ownsRowF c 5 1 v (Lib.byteCells l).length (Lib.byteCells l)
theorem rowF_base {w : World} {B B' : Nat} {e : TypeId} {size n : Nat} {v : Value} {xs : List Value} (h : w.ownsRowF B e size v n xs) (hB : B' ≤ B) : w.ownsRowF B' e size v n xs := by
  refine ⟨h.1, ?_⟩
  rcases h.2 with h0 | ⟨g, cap, cur, fz, hv, hb, r⟩
  · exact .inl h0
  · exact .inr ⟨g, cap, cur, fz, hv, Nat.le_trans hB hb, r⟩
theorem Bo.at_ {b c : Nat} {p v : Value} {l : List Value} {w : World} (hbc : b < c) (hb : w.heap[b]? = some (.cells #[p, v] TBld (0, 0))) (ho : w.ownsRowF c 5 1 v l.length l) : Lib.BuilderAtF TBld 5 b b p l w :=
  ⟨Nat.le_refl _, v, hb, rowF_base ho (Nat.le_of_lt hbc), fun e => by have := (ho.lt b e).1; omega⟩
theorem Bo.is {b c : Nat} {l : List UInt8} {w : World} (h : Bo b c l w) : Lib.IsBuilderF TBld 5 b b (Lib.byteCells l) w := by
  obtain ⟨h1, h2, p, v, hp, hb, ho⟩ := h
  rcases hp with rfl | rfl
  · exact .inl (Bo.at_ h1 hb ho)
  · exact .inr (Bo.at_ h1 hb ho)
theorem Bo.below {b c : Nat} {l : List UInt8} {w w' : World} (h : Bo b c l w) (hk : Below w.heap.size w w') : Bo b c l w' := by
  obtain ⟨h1, h2, p, v, hp, hb, ho⟩ := h
  refine ⟨h1, Nat.le_trans h2 hk.size, p, v, hp, (hk.block b (by omega)).trans hb, ho.1, ?_⟩
  rcases ho.2 with h0 | ⟨g, cap, cur, fz, hv, hB, hg, r⟩
  · exact .inl h0
  · exact .inr ⟨g, cap, cur, fz, hv, hB, (hk.block g (Array.getElem?_eq_some_iff.1 hg).1).trans hg, r⟩
theorem owns_setb {b c : Nat} (w : World) (j : Nat) (v : Value) : Owns w (w.setCell ⟨b, j, none⟩ v) (Fb b c) (Fb b c) :=
  ⟨rfl, rfl, rfl, by simp [World.setCell], fun k _ hF => Below.heap_setCell _ _ _ _ (fun e => hF (.inl e)), fun _ h => .inl h⟩
theorem owns_grown {b c : Nat} {w w' : World} {row : Option Nat} (hg : w.grownBy w' row) (hr : ∀ k, row = some k → c ≤ k) : Owns w w' (Fb b c) (Fb b c) :=
  ⟨hg.os, hg.tape, hg.output, hg.size, fun k hk hF => hg.block k hk (fun e => hF (.inr (hr k e.symm))), fun _ h => .inl h⟩

theorem copyCheck_o (b c : Nat) (l : List UInt8) (w : World) (h : Bo b c l w) :
    Calls Tryd.prog 69 #[.pointer (some ⟨b, 0, none⟩)] w fun e w' => e = .returned (.tuple #[]) ∧ b < c ∧ c ≤ w'.heap.size ∧ (∃ v, w'.heap[b]? = some (.cells #[.pointer (some ⟨b, 0, none⟩), v] TBld (0, 0)) ∧ w'.ownsRowF c 5 1 v (Lib.byteCells l).length (Lib.byteCells l)) ∧ Owns w w' (Fb b c) (Fb b c) ∧ Lib.OthersKept 5 (some b) w w' := by
  obtain ⟨h1, h2, p, v, hp, hb, ho⟩ := h
  have hA := Bo.at_ h1 hb ho
  rcases hp with rfl | rfl
  · refine (Builder_copyCheck_fresh b w hA.cell0 hA.shape hA.frozen0).mono ?_
    rintro e w' ⟨rfl, rfl⟩
    refine ⟨rfl, h1, by simpa [World.setCell] using h2, ⟨v, ?_, ?_⟩, owns_setb _ _ _, (Lib.OthersKept.refl _ _ w).setCell ⟨b, 0, none⟩ rfl _⟩
    · simp [World.setCell, Array.getElem?_modify, hb]
    · exact ho.kept (row := some b) ⟨rfl, rfl, rfl, by simp [World.setCell], fun k _ hk => Below.heap_setCell _ _ _ _ (fun e => hk (by simp [e]))⟩ (Or.inr (fun e => by have := (ho.lt b e).1; omega))
  · refine (Builder_copyCheck_used b w hA.cell0).mono ?_
    rintro e w' ⟨rfl, rfl⟩
    exact ⟨rfl, h1, h2, ⟨v, hb, ho⟩, Owns.refl _ _, Lib.OthersKept.refl _ _ _⟩

theorem Bo.put {b c : Nat} {v v' : Value} {l : List UInt8} {w : World} (hbc : b < c) (hc : c ≤ w.heap.size) (hb : w.heap[b]? = some (.cells #[.pointer (some ⟨b, 0, none⟩), v] TBld (0, 0))) (hown : w.ownsRowF c 5 1 v' (Lib.byteCells l).length (Lib.byteCells l)) : Bo b c l (w.setCell ⟨b, 1, none⟩ v') := by
  refine ⟨hbc, by simpa [World.setCell] using hc, _, v', .inr rfl, ?_, ?_⟩
  · simp [World.setCell, Array.getElem?_modify, hb]
  · exact hown.kept (row := some b) ⟨rfl, rfl, rfl, by simp [World.setCell], fun k _ hk => Below.heap_setCell _ _ _ _ (fun e => hk (by simp [e]))⟩ (Or.inr (fun e => by have := (hown.lt b e).1; omega))

set_option maxHeartbeats 2000000 in
set_option maxRecDepth 100000 in
theorem WriteByte_o (b c : Nat) (l : List UInt8) (x : UInt8) (w : World) (h : Bo b c l w) (hlen : l.length + 1 ≤ 140737488355328) :
    Calls Tryd.prog 49 #[.pointer (some ⟨b, 0, none⟩), .int .u8 (x.toNat : Int)] w fun e w' => e = .returned (.nilIface) ∧ Bo b c (l ++ [x]) w' ∧ Owns w w' (Fb b c) (Fb b c) ∧ Lib.OthersKept 5 (some b) w w' := by
  obtain ⟨i0, hi, hz0, hz1, hz2⟩ := info_parts infoByte
  go_enter Tryd.func49, Tryd.ntmps49
  go_wp2_with (go_at_call 69; refine (copyCheck_o b c l _ h).mono ?_)
  rintro e w1 ⟨rfl, hbc, hcw, ⟨v, hbk, hown⟩, hk1, hq1⟩
  have hne : v.ownBlock ≠ some b := fun e => by have := (hown.lt b e).1; omega
  have c0 : w1.cell? ⟨b, 0, none⟩ = some (.pointer (some ⟨b, 0, none⟩)) := by rw [Lib.cell_of_heap hbk]; rfl
  have c1 : w1.cell? ⟨b, 1, none⟩ = some v := by rw [Lib.cell_of_heap hbk]; rfl
  go_wp2_with (at_builtin; refine wpList_append_ownF _ rfl _ _ 73 rfl c 5 i0 (.int .u8 0) 1 1 Tryd.underlying73 hi hz0 hz1 hz2 rfl (by decide) _ _ _ rfl (hown.alloc _) ⟨w1.heap.size, 0, none⟩ 1 1 [.int .u8 (x.toNat : Int)] rfl rfl ?c1 ?c2 ?c3 ?c4 ?c5 ?_)
  case c1 =>
    intro j u hj
    match j, hj with
    | 0, hj => simp at hj; subst hj; simp [Addr.add]
  case c2 => intro u hu; simp at hu; subst hu; rfl
  case c3 => rw [Lib.byteCells_length]; unfold maxLen; omega
  case c4 => rw [Lib.byteCells_length]; omega
  case c5 => simp; omega
  intro v' w2 hown' hgrow _
  have hlt : b < w1.heap.size := by
    rcases Nat.lt_or_ge b w1.heap.size with h' | h'
    · exact h'
    · simp [Array.getElem?_eq_none h'] at hbk
  have hb2 : w2.heap[b]? = some (.cells #[.pointer (some ⟨b, 0, none⟩), v] 75 (0, 0)) := by
    rw [hgrow.block b (by simp; omega) (fun e => hne e.symm), Lib.alloc_old w1 _ b hlt]
    exact hbk
  have d0 : w2.cell? ⟨b, 0, none⟩ = some (.pointer (some ⟨b, 0, none⟩)) := by rw [Lib.cell_of_heap hb2]; rfl
  have d1 : w2.cell? ⟨b, 1, none⟩ = some v := by rw [Lib.cell_of_heap hb2]; rfl
  have f1 : w2.frozen? ⟨b, 1, none⟩ = false := Lib.frozen_of_heap hb2 1
  obtain ⟨g, cap, rfl⟩ : ∃ g cap, v' = .slice (some ⟨g, 0, none⟩) ((Lib.byteCells l).length + 1) cap := by
    rcases hown'.2 with ⟨_, h0⟩ | ⟨g, cap, cur, fz, hv, _⟩
    · omega
    · exact ⟨g, cap, hv⟩
  go_wp2
  go_ret
  refine ⟨rfl, ?_, (((hk1.trans (Owns.of_below ((Below.refl _ _).alloc (Nat.le_refl _) _) _)).trans (owns_grown hgrow (fun k hk => (hown.lt k hk).1))).trans (owns_setb _ _ _)), ((hq1.alloc _).grown hgrow (Lib.ownsRowF_kind (hown.alloc _))).setCell ⟨b, 1, none⟩ rfl _⟩
  refine Bo.put hbc (Nat.le_trans hcw (Nat.le_trans (by simp) hgrow.size)) hb2 ?_
  rw [Lib.byteCells_append, List.length_append]
  exact hown'

set_option maxHeartbeats 2000000 in
set_option maxRecDepth 100000 in
theorem WriteByte_od (b c : Nat) (l : List UInt8) (x : UInt8) (u : FrameMode) (w : World) (h : Bo b c l w) (hlen : l.length + 1 ≤ 140737488355328) :
    CallsD Tryd.prog 49 #[.pointer (some ⟨b, 0, none⟩), .int .u8 (x.toNat : Int)] u w fun e u' w' => u' = u ∧ (e = .returned (.nilIface) ∧ Bo b c (l ++ [x]) w' ∧ Owns w w' (Fb b c) (Fb b c) ∧ Lib.OthersKept 5 (some b) w w') := by
  obtain ⟨i0, hi, hz0, hz1, hz2⟩ := info_parts infoByte
  go_enter_d Tryd.func49, Tryd.ntmps49
  go_wp2_with (go_at_call 69; refine (copyCheck_o b c l _ h).mono ?_)
  rintro e w1 ⟨rfl, hbc, hcw, ⟨v, hbk, hown⟩, hk1, hq1⟩
  have hne : v.ownBlock ≠ some b := fun e => by have := (hown.lt b e).1; omega
  have c0 : w1.cell? ⟨b, 0, none⟩ = some (.pointer (some ⟨b, 0, none⟩)) := by rw [Lib.cell_of_heap hbk]; rfl
  have c1 : w1.cell? ⟨b, 1, none⟩ = some v := by rw [Lib.cell_of_heap hbk]; rfl
  go_wp2_with (at_builtin; refine wpList_append_ownF _ rfl _ _ 73 rfl c 5 i0 (.int .u8 0) 1 1 Tryd.underlying73 hi hz0 hz1 hz2 rfl (by decide) _ _ _ rfl (hown.alloc _) ⟨w1.heap.size, 0, none⟩ 1 1 [.int .u8 (x.toNat : Int)] rfl rfl ?c1 ?c2 ?c3 ?c4 ?c5 ?_)
  case c1 =>
    intro j u hj
    match j, hj with
    | 0, hj => simp at hj; subst hj; simp [Addr.add]
  case c2 => intro u hu; simp at hu; subst hu; rfl
  case c3 => rw [Lib.byteCells_length]; unfold maxLen; omega
  case c4 => rw [Lib.byteCells_length]; omega
  case c5 => simp; omega
  intro v' w2 hown' hgrow _
  have hlt : b < w1.heap.size := by
    rcases Nat.lt_or_ge b w1.heap.size with h' | h'
    · exact h'
    · simp [Array.getElem?_eq_none h'] at hbk
  have hb2 : w2.heap[b]? = some (.cells #[.pointer (some ⟨b, 0, none⟩), v] 75 (0, 0)) := by
    rw [hgrow.block b (by simp; omega) (fun e => hne e.symm), Lib.alloc_old w1 _ b hlt]
    exact hbk
  have d0 : w2.cell? ⟨b, 0, none⟩ = some (.pointer (some ⟨b, 0, none⟩)) := by rw [Lib.cell_of_heap hb2]; rfl
  have d1 : w2.cell? ⟨b, 1, none⟩ = some v := by rw [Lib.cell_of_heap hb2]; rfl
  have f1 : w2.frozen? ⟨b, 1, none⟩ = false := Lib.frozen_of_heap hb2 1
  obtain ⟨g, cap, rfl⟩ : ∃ g cap, v' = .slice (some ⟨g, 0, none⟩) ((Lib.byteCells l).length + 1) cap := by
    rcases hown'.2 with ⟨_, h0⟩ | ⟨g, cap, cur, fz, hv, _⟩
    · omega
    · exact ⟨g, cap, hv⟩
  go_wp2
  go_ret
  refine ⟨rfl, ?_, (((hk1.trans (Owns.of_below ((Below.refl _ _).alloc (Nat.le_refl _) _) _)).trans (owns_grown hgrow (fun k hk => (hown.lt k hk).1))).trans (owns_setb _ _ _)), ((hq1.alloc _).grown hgrow (Lib.ownsRowF_kind (hown.alloc _))).setCell ⟨b, 1, none⟩ rfl _⟩
  refine Bo.put hbc (Nat.le_trans hcw (Nat.le_trans (by simp) hgrow.size)) hb2 ?_
  rw [Lib.byteCells_append, List.length_append]
  exact hown'

set_option maxHeartbeats 2000000 in
set_option maxRecDepth 100000 in
theorem WriteString_o (b c : Nat) (l : List UInt8) (s : ByteArray) (w : World) (h : Bo b c l w) (hlen : l.length + s.size ≤ 140737488355328) :
    Calls Tryd.prog 50 #[.pointer (some ⟨b, 0, none⟩), .string s] w fun e w' => e = .returned (.tuple #[.int .i64 s.size, .nilIface]) ∧ Bo b c (l ++ s.data.toList) w' ∧ Owns w w' (Fb b c) (Fb b c) ∧ Lib.OthersKept 5 (some b) w w' := by
  obtain ⟨i0, hi, hz0, hz1, hz2⟩ := info_parts infoByte
  go_enter Tryd.func50, Tryd.ntmps50
  go_wp2_with (go_at_call 69; refine (copyCheck_o b c l _ h).mono ?_)
  rintro e w1 ⟨rfl, hbc, hcw, ⟨v, hbk, hown⟩, hk1, hq1⟩
  have hne : v.ownBlock ≠ some b := fun e => by have := (hown.lt b e).1; omega
  have c0 : w1.cell? ⟨b, 0, none⟩ = some (.pointer (some ⟨b, 0, none⟩)) := by rw [Lib.cell_of_heap hbk]; rfl
  have c1 : w1.cell? ⟨b, 1, none⟩ = some v := by rw [Lib.cell_of_heap hbk]; rfl
  go_wp2_with (at_builtin; refine Lib.wpList_append_own_stringF _ rfl _ _ 73 9 rfl c 5 i0 Tryd.underlying73 Tryd.underlying9 hi hz0 hz1 hz2 _ _ _ rfl hown s rfl ?c3 ?c4 ?c5 ?_)
  case c3 => rw [Lib.byteCells_length]; unfold maxLen; omega
  case c4 => rw [Lib.byteCells_length]; omega
  case c5 => exact hcw
  intro v' w2 hown' hgrow _
  have hlt : b < w1.heap.size := by
    rcases Nat.lt_or_ge b w1.heap.size with h' | h'
    · exact h'
    · simp [Array.getElem?_eq_none h'] at hbk
  have hb2 : w2.heap[b]? = some (.cells #[.pointer (some ⟨b, 0, none⟩), v] 75 (0, 0)) := by
    rw [hgrow.block b hlt (fun e => hne e.symm)]
    exact hbk
  have d0 : w2.cell? ⟨b, 0, none⟩ = some (.pointer (some ⟨b, 0, none⟩)) := by rw [Lib.cell_of_heap hb2]; rfl
  have d1 : w2.cell? ⟨b, 1, none⟩ = some v := by rw [Lib.cell_of_heap hb2]; rfl
  have f1 : w2.frozen? ⟨b, 1, none⟩ = false := Lib.frozen_of_heap hb2 1
  obtain ⟨ao, n', cap, rfl⟩ : ∃ ao n' cap, v' = .slice ao n' cap := by
    rcases hown'.2 with ⟨hv, _⟩ | ⟨g, cap, cur, fz, hv, _⟩
    · exact ⟨_, _, _, hv⟩
    · exact ⟨_, _, _, hv⟩
  go_wp2
  go_ret2
  refine ⟨rfl, ?_, ((hk1.trans (owns_grown hgrow (fun k hk => (hown.lt k hk).1))).trans (owns_setb _ _ _)), (hq1.grown hgrow (Lib.ownsRowF_kind hown)).setCell ⟨b, 1, none⟩ rfl _⟩
  refine Bo.put hbc (Nat.le_trans hcw hgrow.size) hb2 ?_
  have e : Lib.strCells s = Lib.byteCells s.data.toList := rfl
  rw [← Lib.strCells_length, e] at hown'
  rw [Lib.byteCells_append, List.length_append]
  exact hown'
end Fm
end Go.Proofs.YtkjbfomokdjbnaaDoor
