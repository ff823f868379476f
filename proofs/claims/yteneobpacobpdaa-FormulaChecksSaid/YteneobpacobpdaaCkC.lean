/-
  formula.Check: its closure note.
-/
import Derived.Test.YteneobpacobpdaaCkB
import Derived.Test.YteneobpacobpdaaVa
import Derived.Test.YteneobpacobpdaaFmE
import Derived.Test.YteneobpacobpdaaFmY
namespace Go.Proofs.Yteneobpacobpdaa
open Go.RowKit
set_option linter.unusedSimpArgs false
set_option linter.unusedVariables false
namespace Dc
open Fm Va
attribute [local go_sem] run_store

/-- how many calls, which names, whether all are valid -/
abbrev CkS := Nat × List ByteArray × Bool
def ckStep (s : CkS) (nm : ByteArray) : CkS := (s.1 + 1, addN s.2.1 nm, s.2.2 && validB nm.data.toList)
abbrev ckF (B : Nat) : Nat → Prop := fun b => b = B ∨ b = B + 1 ∨ b = B + 2
/-- what note holds: the map at B, two boxes -/
def CkJ (B : Nat) (s : CkS) (F : Nat → Prop) (W : World) : Prop :=
  W.heap[B + 1]? = some (.cells #[.map (some B)] tMB (0, 0)) ∧ W.heap[B + 2]? = some (.cells #[.bool s.2.2] tB (0, 0)) ∧ MapB W B s.1 s.2.1 ∧ F = ckF B
abbrev ckCaps (B : Nat) : Array Value := #[.pointer (some ⟨B + 1, 0, none⟩), .pointer (some ⟨B + 2, 0, none⟩)]
theorem CkJ.lt {B : Nat} {s : CkS} {F : Nat → Prop} {W : World} (h : CkJ B s F W) : ∀ b, F b → b < W.heap.size := by
  obtain ⟨h1, h2, h3, rfl⟩ := h
  intro b hb
  rcases hb with rfl | rfl | rfl
  · exact h3.lt
  · exact blk_lt h1
  · exact blk_lt h2
theorem CkJ.keep {B : Nat} {s : CkS} {F : Nat → Prop} {W W' : World} (h : CkJ B s F W) (hk : ∀ b, F b → W'.heap[b]? = W.heap[b]?) : CkJ B s F W' := by
  obtain ⟨h1, h2, h3, rfl⟩ := h
  exact ⟨(hk _ (.inr (.inl rfl))).trans h1, (hk _ (.inr (.inr rfl))).trans h2, h3.keep (hk _ (.inl rfl)), rfl⟩
theorem CkJ.setV {B : Nat} {s : CkS} {F : Nat → Prop} {W : World} (h : CkJ B s F W) (v : Bool) : CkJ B (s.1, s.2.1, v) F (W.setCell ⟨B + 2, 0, none⟩ (.bool v)) := by
  obtain ⟨h1, h2, h3, rfl⟩ := h
  refine ⟨(Below.heap_setCell _ _ _ _ (by show B + 1 ≠ B + 2; omega)).trans h1, ?_, h3.keep (Below.heap_setCell _ _ _ _ (by show B ≠ B + 2; omega)), rfl⟩
  rw [setCell_block _ _ _ _ _ _ h2]; rfl
theorem ck1_end {B n : Nat} {L L' : List ByteArray} {v v' : Bool} {F : Nat → Prop} {W W2 : World} (h : CkJ B (n, L, v) F W) (hm : MapB W2 B (n + 1) L') (hg : W.grownBy W2 (some B)) : CkJ B (n + 1, L', v') F (W2.setCell ⟨B + 2, 0, none⟩ (.bool v')) ∧ Owns W (W2.setCell ⟨B + 2, 0, none⟩ (.bool v')) F F := by
  have hlt := h.lt
  obtain ⟨h1, h2, h3, rfl⟩ := h
  have l1 := blk_lt h1
  have l2 := blk_lt h2
  have k : ∀ b, b < W.heap.size → b ≠ B → W2.heap[b]? = W.heap[b]? := fun b hb hne => hg.block b hb (fun e => hne (by injection e))
  have hJ : CkJ B (n + 1, L', v) (ckF B) W2 := ⟨(k _ l1 (by omega)).trans h1, (k _ l2 (by omega)).trans h2, hm, rfl⟩
  refine ⟨hJ.setV v', ?_⟩
  refine ⟨hg.os, hg.tape, hg.output, by simpa [World.setCell] using hg.size, fun b hb hF => ?_, fun b hb => .inl hb⟩
  have hF1 : b ≠ B := fun e => hF (.inl e)
  have hF2 : b ≠ B + 2 := fun e => hF (.inr (.inr e))
  exact (Below.heap_setCell _ _ _ _ hF2).trans (k b hb hF1)

set_option maxRecDepth 100000 in
set_option maxHeartbeats 2000000 in
theorem ck1_any (B n : Nat) (L : List ByteArray) (v : Bool) (F : Nat → Prop) (W : World) (nm : ByteArray) (hnm : nm.size ≤ 9223372036854775807) (hn : n < 900000) (hJ : CkJ B (n, L, v) F W) :
    Calls Try.prog 20 (#[.string nm] ++ ckCaps B) W fun e W' => e = .returned (.tuple #[]) ∧ CkJ B (ckStep (n, L, v) nm) F W' ∧ Owns W W' F F := by
  have HJ := Lib.hid hJ
  obtain ⟨h1, h2, h3, hF⟩ := hJ
  dsimp only at h2 h3
  have c1 : W.cell? ⟨B + 1, 0, none⟩ = some (.map (some B)) := cell_of_blk h1 rfl
  have c2 : W.cell? ⟨B + 2, 0, none⟩ = some (.bool v) := cell_of_blk h2 rfl
  have l2 := blk_lt h2
  have H2 := Lib.hid h2
  have H3 := Lib.hid h3
  obtain ⟨r, hr⟩ : ∃ r, r = validB nm.data.toList := ⟨_, rfl⟩
  have HV := Lib.hid (show ∀ w, Calls Try.prog 21 #[.string nm] w fun e w' => e = .returned (.bool r) ∧ w = w' from fun w => by rw [hr]; exact valid_any nm w hnm)
  have HR := Lib.hid hr
  show Calls Try.prog 20 #[.string nm, .pointer (some ⟨B + 1, 0, none⟩), .pointer (some ⟨B + 2, 0, none⟩)] W _
  clear h1 h2 h3 hF hr
  cases v
  · go_enter Try.func20, Try.ntmps20
    go_wp2_with (first
      | (at_mapUpdate; refine wpList_storeB _ rfl _ _ _ rfl B n L rfl H3.out (by omega) nm rfl hnm rfl ?_; intro w2 hm2 hg2; (have b2 : w2.heap[B + 2]? = some (.cells #[.bool false] tB (0, 0)) := (hg2.block (B + 2) l2 (fun e => by injection e with e; omega)).trans H2.out); (have d2 : w2.cell? ⟨B + 2, 0, none⟩ = some (.bool false) := cell_of_blk b2 rfl); (have f2 : w2.frozen? ⟨B + 2, 0, none⟩ = false := fz_of_blk b2); have HM2 := Lib.hid hm2; have HG2 := Lib.hid hg2; clear hm2 hg2 b2 c1 c2))
    go_end0
    exact ⟨rfl, ck1_end HJ.out HM2.out HG2.out⟩
  · have HST := Lib.hid (show ckStep (n, L, true) nm = (n + 1, addN L nm, r) from by unfold ckStep; rw [HR.out]; rfl)
    go_enter Try.func20, Try.ntmps20
    go_wp2_with (first
      | (at_mapUpdate; refine wpList_storeB _ rfl _ _ _ rfl B n L rfl H3.out (by omega) nm rfl hnm rfl ?_; intro w2 hm2 hg2; (have b2 : w2.heap[B + 2]? = some (.cells #[.bool true] tB (0, 0)) := (hg2.block (B + 2) l2 (fun e => by injection e with e; omega)).trans H2.out); (have d2 : w2.cell? ⟨B + 2, 0, none⟩ = some (.bool true) := cell_of_blk b2 rfl); (have f2 : w2.frozen? ⟨B + 2, 0, none⟩ = false := fz_of_blk b2); have HM2 := Lib.hid hm2; have HG2 := Lib.hid hg2; clear hm2 hg2 b2 c1 c2)
      | (go_at_call 21; refine (HV.out _).mono ?_; rintro e w3 ⟨rfl, rfl⟩))
    go_end0
    exact ⟨rfl, by rw [HST.out]; exact ck1_end HJ.out HM2.out HG2.out⟩

theorem cf_ck1 (args : Array Value) (w : World) : (callFunc 20 args).run Try.prog w = .ok (.enter 20 args) w := by kernel_rfl
theorem ck_use (B M : Nat) : WUse 20 (ckCaps B) (CkJ B) M (fun s _ nm => ckStep s nm) (fun s => s.1) where
  le := fun s g nm => Nat.le_refl _
  lt := fun h => h.lt
  keep := fun h _ hk => h.keep hk
  cf := cf_ck1
  call := fun s g k F W nm hn hc hJ hM hF => (ck1_any B s.1 s.2.1 s.2.2 F W nm hn hc hJ).mono (by rintro e W' ⟨h1, h2, h3⟩; exact ⟨h1, F, h2, h3⟩)
/-- the names in the terms of a formula -/
def namesF : Fo → List ByteArray
  | .atom l _ r => namesT l ++ namesT r
  | .not f => namesF f
  | .and l r => namesF l ++ namesF r
  | .or l r => namesF l ++ namesF r
  | .implies l r => namesF l ++ namesF r
  | .iff l r => namesF l ++ namesF r
  | .quant _ _ f => namesF f
  | _ => []
theorem walkS_ck (f : Fo) : ∀ (g : ByteArray → Int) (s : CkS), walkS (fun s _ nm => ckStep s nm) f g s = (namesF f).foldl ckStep s := by
  induction f with
  | odd => intro g s; rfl
  | truth b => intro g s; rfl
  | atom l e r => intro g s; show _ = (namesT l ++ namesT r).foldl ckStep s; rw [List.foldl_append]; rfl
  | not f ih => intro g s; exact ih g s
  | and l r il ir => intro g s; show walkS _ r g (walkS _ l g s) = (namesF l ++ namesF r).foldl ckStep s; rw [il, ir, List.foldl_append]
  | or l r il ir => intro g s; show walkS _ r g (walkS _ l g s) = (namesF l ++ namesF r).foldl ckStep s; rw [il, ir, List.foldl_append]
  | implies l r il ir => intro g s; show walkS _ r g (walkS _ l g s) = (namesF l ++ namesF r).foldl ckStep s; rw [il, ir, List.foldl_append]
  | iff l r il ir => intro g s; show walkS _ r g (walkS _ l g s) = (namesF l ++ namesF r).foldl ckStep s; rw [il, ir, List.foldl_append]
  | quant a n f ih => intro g s; exact ih _ s
end Dc
end Go.Proofs.Yteneobpacobpdaa
