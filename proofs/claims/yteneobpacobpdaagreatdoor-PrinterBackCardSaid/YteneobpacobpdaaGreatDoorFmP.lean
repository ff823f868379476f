/-
  formula.PlainTerm: the tree of a term.
-/
import Derived.Test.YteneobpacobpdaaGreatDoorHy
import Derived.Test.YteneobpacobpdaaGreatDoorFmO
import Derived.Test.YteneobpacobpdaaGreatDoorTa
import Derived.Deep.RegionHeld3
import Derived.Outline
set_option linter.unusedSimpArgs false
set_option linter.unusedVariables false
set_option maxRecDepth 100000
set_option maxHeartbeats 16000000
namespace Go.Proofs.YteneobpacobpdaaGreatDoor
open Go.RowKit
namespace Fm
attribute [local go_sem] run_store taNum_yes taNum_no taNum_nil taName_yes taName_no taName_nil taAdd_yes taAdd_no taAdd_nil taSub_yes taSub_no taSub_nil taMul_yes taMul_no taMul_nil taNeg_yes taNeg_no taNeg_nil taPow_yes taPow_no taPow_nil
def hd0 (k : Int) : Hd := ⟨k, false, [], ⟨#[]⟩, 0, 0, false, false⟩
def plainT : Tm → Tr
 | .odd => .mk (hd0 1) []
 | .num neg abs => .mk { hd0 1 with neg := normB neg abs, abs := trimN abs } []
 | .name s => .mk { hd0 2 with name := s } []
 | .add l r => .mk (hd0 3) [plainT l, plainT r]
 | .sub l r => .mk (hd0 4) [plainT l, plainT r]
 | .mul l r => .mk (hd0 5) [plainT l, plainT r]
 | .neg t => .mk (hd0 6) [plainT t]
 | .pow t e => .mk { hd0 7 with exp := max e 0 } [plainT t]
def SmT : Tm → Prop
 | .odd => True
 | .num _ abs => abs.length ≤ 1000000
 | .name _ => True
 | .add l r => SmT l ∧ SmT r
 | .sub l r => SmT l ∧ SmT r
 | .mul l r => SmT l ∧ SmT r
 | .neg t => SmT t
 | .pow t _ => SmT t
def TreePost (T : Tr) (w : World) (e : Ending) (w' : World) : Prop :=
 ∃ A1 n1 c1 A2 n2 c2, e = .returned (.agg #[.int .i64 T.h.k, .bool T.h.neg, .slice A1 n1 c1, .string T.h.name, .int .i64 T.h.exp, .int .i64 T.h.rel, .bool T.h.truth, .bool T.h.all, .slice A2 n2 c2]) ∧ TreeAt w' (Fr w w') T (hdC T.h (.slice A1 n1 c1) (.slice A2 n2 c2)) ∧ Below w.heap.size w w'
abbrev Fd (w : World) (d : Nat) (w' : World) : Nat → Prop := fun b => w.heap.size + d ≤ b ∧ b < w'.heap.size
theorem AbsAt.empty {w : World} {S : Nat → Prop} : AbsAt w S (.slice none 0 0) [] := ⟨SS.nil, (fun x hx => by cases hx), Nat.zero_le _⟩
theorem two_kids {w w2 : World} {d : Nat} {hd : Hd} {va : Value} {T1 T2 : Tr} {c1 c2 : List Value} (hs : w.heap.size + d ≤ w2.heap.size) (ha : AbsAt w2 (Fd w d w2) va hd.abs) (hn : hd.name.size ≤ 9223372036854775807)
  (h1 : TreeAt w2 (Fd w d w2) T1 c1) (h2 : TreeAt w2 (Fd w d w2) T2 c2) (o : Obj) (ho : o = .cells (c1 ++ c2).toArray TT) :
  TreeAt (w2.alloc o) (Fd w d (w2.alloc o)) (.mk hd [T1, T2]) (hdC hd va (.slice (some ⟨w2.heap.size, 0, none⟩) 2 2)) := by
 subst ho
 have hb : Below w2.heap.size w2 (w2.alloc (.cells (c1 ++ c2).toArray TT)) := (Below.refl _ _).alloc (Nat.le_refl _) _
 have hz : (w2.alloc (.cells (c1 ++ c2).toArray TT)).heap.size = w2.heap.size + 1 := by simp
 have hm : ∀ b, Fd w d w2 b → Fd w d (w2.alloc (.cells (c1 ++ c2).toArray TT)) b := fun b hb => ⟨hb.1, by rw [hz]; omega⟩
 have hT : TrsC w2 (Fd w d w2) [T1, T2] (c1 ++ c2) := TrsC.append (TrsC.one h1) (TrsC.one h2)
 refine TreeAt.of (xs := c1 ++ c2) ((ha.below (fun b h => h.2) hb).more hm) hn (by simp) ?_ (TrsC.more hm _ _ (hT.below (fun b h => h.2) hb))
 refine ⟨_, _, rfl, Nat.le_refl _, hT.len, fun _ => ⟨w2.heap.size, 0, rfl, ⟨hs, by rw [hz]; omega⟩, fun j u hj => ?_⟩⟩
 rw [Nat.zero_add, cell_new]
 simpa using hj
theorem one_kid {w w2 : World} {d : Nat} {hd : Hd} {va : Value} {T1 : Tr} {c1 : List Value} (hs : w.heap.size + d ≤ w2.heap.size) (ha : AbsAt w2 (Fd w d w2) va hd.abs) (hn : hd.name.size ≤ 9223372036854775807)
  (h1 : TreeAt w2 (Fd w d w2) T1 c1) (o : Obj) (ho : o = .cells c1.toArray TT) :
  TreeAt (w2.alloc o) (Fd w d (w2.alloc o)) (.mk hd [T1]) (hdC hd va (.slice (some ⟨w2.heap.size, 0, none⟩) 1 1)) := by
 subst ho
 have hb : Below w2.heap.size w2 (w2.alloc (.cells c1.toArray TT)) := (Below.refl _ _).alloc (Nat.le_refl _) _
 have hz : (w2.alloc (.cells c1.toArray TT)).heap.size = w2.heap.size + 1 := by simp
 have hm : ∀ b, Fd w d w2 b → Fd w d (w2.alloc (.cells c1.toArray TT)) b := fun b hb => ⟨hb.1, by rw [hz]; omega⟩
 have hT : TrsC w2 (Fd w d w2) [T1] c1 := TrsC.one h1
 refine TreeAt.of (xs := c1) ((ha.below (fun b h => h.2) hb).more hm) hn (by simp) ?_ (TrsC.more hm _ _ (hT.below (fun b h => h.2) hb))
 refine ⟨_, _, rfl, Nat.le_refl _, hT.len, fun _ => ⟨w2.heap.size, 0, rfl, ⟨hs, by rw [hz]; omega⟩, fun j u hj => ?_⟩⟩
 rw [Nat.zero_add, cell_new]
 simpa using hj
theorem no_kids {w2 : World} {S : Nat → Prop} {hd : Hd} {va : Value} (ha : AbsAt w2 S va hd.abs) (hn : hd.name.size ≤ 9223372036854775807) : TreeAt w2 S (.mk hd []) (hdC hd va (.slice none 0 0)) :=
 TreeAt.of (xs := []) ha hn (by simp) SS.nil TrsC.nil
abbrev set9 (w : World) (X : Nat) (u0 u1 u2 u3 u4 u5 u6 u7 u8 : Value) : World :=
 ((((((((w.setCell ⟨X, 0, none⟩ u0).setCell ⟨X, 1, none⟩ u1).setCell ⟨X, 2, none⟩ u2).setCell ⟨X, 3, none⟩ u3).setCell ⟨X, 4, none⟩ u4).setCell ⟨X, 5, none⟩ u5).setCell ⟨X, 6, none⟩ u6).setCell ⟨X, 7, none⟩ u7).setCell ⟨X, 8, none⟩ u8
theorem TreeAt.set9 {w : World} {S : Nat → Prop} {t : Tr} {cs : List Value} (h : TreeAt w S t cs) {X : Nat} (hX : ¬ S X) (u0 u1 u2 u3 u4 u5 u6 u7 u8 : Value) : TreeAt (set9 w X u0 u1 u2 u3 u4 u5 u6 u7 u8) S t cs :=
 ((((((((h.setCell u0 hX).setCell u1 hX).setCell u2 hX).setCell u3 hX).setCell u4 hX).setCell u5 hX).setCell u6 hX).setCell u7 hX).setCell u8 hX
theorem below_set9 {B X : Nat} {a w : World} (h : Below B a w) (hX : B ≤ X) (u0 u1 u2 u3 u4 u5 u6 u7 u8 : Value) : Below B a (set9 w X u0 u1 u2 u3 u4 u5 u6 u7 u8) :=
 ((((((((h.setCell (p := ⟨X, 0, none⟩) hX u0).setCell (p := ⟨X, 1, none⟩) hX u1).setCell (p := ⟨X, 2, none⟩) hX u2).setCell (p := ⟨X, 3, none⟩) hX u3).setCell (p := ⟨X, 4, none⟩) hX u4).setCell (p := ⟨X, 5, none⟩) hX u5).setCell (p := ⟨X, 6, none⟩) hX u6).setCell (p := ⟨X, 7, none⟩) hX u7).setCell (p := ⟨X, 8, none⟩) hX u8
theorem size_set9 (w : World) (X : Nat) (u0 u1 u2 u3 u4 u5 u6 u7 u8 : Value) : (set9 w X u0 u1 u2 u3 u4 u5 u6 u7 u8).heap.size = w.heap.size := by simp
theorem plain_add (l r : Tm) (vl vr : Value) (w : World) (hol : vl.oneCell' = true) (hor : vr.oneCell' = true)
  (hl : ∀ w', Below w.heap.size w w' → Calls Tryz.prog 39 #[vl] w' (TreePost (plainT l) w')) (hr : ∀ w', Below w.heap.size w w' → Calls Tryz.prog 39 #[vr] w' (TreePost (plainT r) w')) :
  Calls Tryz.prog 39 #[.iface 137 (.agg #[vl, vr])] w (TreePost (plainT (.add l r)) w) := by
 obtain ⟨W, hW⟩ : ∃ W, (w.alloc (.cells #[.int .i64 0, .bool false, .slice none 0 0, .string ⟨#[]⟩, .int .i64 0, .int .i64 0, .bool false, .bool false, .slice none 0 0] TT)).alloc (.cells #[vl, vr] 137) = W := ⟨_, rfl⟩
 obtain ⟨Tl, hTl⟩ : ∃ T, T = plainT l := ⟨_, rfl⟩
 obtain ⟨Tr', hTr⟩ : ∃ T, T = plainT r := ⟨_, rfl⟩
 have hpl : plainT (.add l r) = .mk (hd0 3) [Tl, Tr'] := by rw [hTl, hTr]; rfl
 rw [hpl]
 rw [← hTl] at hl
 rw [← hTr] at hr
 have hx : Box w W w.heap.size #[.int .i64 0, .bool false, .slice none 0 0, .string ⟨#[]⟩, .int .i64 0, .int .i64 0, .bool false, .bool false, .slice none 0 0] TT := by rw [← hW]; exact (Box.new w _ _).alloc _
 have hy : Box w W (w.heap.size + 1) #[vl, vr] 137 := by rw [← hW]; exact Box.second w _ _ _
 have hWs : W.heap.size = w.heap.size + 2 := by rw [← hW]; simp
 have HX := h_ hx
 have HY := h_ hy
 have HL := h_ hl
 have HR := h_ hr
 have HWS := h_ hWs
 have HD : Below W.heap.size W W.drew := (Below.refl _ W).drew
 obtain ⟨s0, s1⟩ := hy.c2
 have hstep := h_ (show ∀ wc wn, Below W.heap.size W wc → Below wc.heap.size wc wn → Below W.heap.size W wn from fun wc wn h1 h2 => h1.trans (h2.mono h1.size))
 have hcall := h_ (show ∀ wc, Below W.heap.size W wc → Below w.heap.size w wc from fun wc h => hx.below.trans (h.mono (by omega)))
 clear hl hr hx hy hWs hTl hTr hpl
 go_enter Tryz.func39, Tryz.ntmps39
 go_wp2
 clear hW
 go_region_held3 (fun w' => w'.cell? ⟨w.heap.size + 1, 0, none⟩ = some vl ∧ w'.cell? ⟨w.heap.size + 1, 1, none⟩ = some vr) (go_keep)
  (first | (go_at_call_of 39 vl; refine (HL.out _ (hcall.out _ (by first | exact HD | exact hbR))).mono ?_; rintro e wL ⟨a1, a2, a3, a4, a5, a6, rfl, htL, hbl⟩; have hbL := (by first | exact hstep.out _ _ HD hbl | exact hstep.out _ _ hbR hbl); have HTL := h_ htL; have HBL := h_ hbl; clear htL hbl; obtain ⟨p0, p1⟩ := (HY.out.step hbL).c2; have xc := fun o => ((HX.out.step hbL).alloc o).cell; have xf := fun o => ((HX.out.step hbL).alloc o).fz) | (go_at_call_of 39 vr; refine (HR.out _ (hcall.out _ (by first | exact HD | exact hbL))).mono ?_; rintro e wR ⟨c1, c2, c3, c4, c5, c6, rfl, htR, hbr⟩; have hbR := (by first | exact hstep.out _ _ HD hbr | exact hstep.out _ _ hbL hbr); have HTR := h_ htR; have HBR := h_ hbr; clear htR hbr; obtain ⟨q0, q1⟩ := (HY.out.step hbR).c2; have yc := fun o => ((HX.out.step hbR).alloc o).cell; have yf := fun o => ((HX.out.step hbR).alloc o).fz))
 go_wp2
 refine bodyPost_ret (v := .agg #[.int .i64 3, .bool false, .slice none 0 0, .string ⟨#[]⟩, .int .i64 0, .int .i64 0, .bool false, .bool false, .slice (some ⟨wR.heap.size, 0, none⟩) 2 2]) (by simp [results, Tryz.results39, go_sem, yc, yf]) rfl ?_
 have hws := HWS.out
 have sL := HBL.out.size
 have sR := HBR.out.size
 have sLd : W.drew.heap.size = W.heap.size := rfl
 have hTL2 : TreeAt wR (Fd w 2 wR) Tl _ := TreeAt.more (fun b hb => ⟨by omega, by omega⟩) _ _ (HTL.out.below (fun b hb => hb.2) HBR.out)
 have hTR2 : TreeAt wR (Fd w 2 wR) Tr' _ := TreeAt.more (fun b hb => ⟨by omega, by omega⟩) _ _ HTR.out
 refine ⟨none, 0, 0, some ⟨wR.heap.size, 0, none⟩, 2, 2, rfl, ?_, ?_⟩
 ·have h2 := two_kids (w := w) (hd := hd0 3) (va := .slice none 0 0) (by omega) AbsAt.empty (by decide) hTL2 hTR2 _ rfl
  exact TreeAt.more (fun b hb => ⟨by omega, by rw [size_set9]; exact hb.2⟩) _ _ (h2.set9 (X := w.heap.size) (fun h => by have := h.1; omega) _ _ _ _ _ _ _ _ _)
 ·exact below_set9 (((hcall.out _ hbR)).alloc (by omega) _) (Nat.le_refl _) _ _ _ _ _ _ _ _ _
theorem plain_sub (l r : Tm) (vl vr : Value) (w : World) (hol : vl.oneCell' = true) (hor : vr.oneCell' = true)
  (hl : ∀ w', Below w.heap.size w w' → Calls Tryz.prog 39 #[vl] w' (TreePost (plainT l) w')) (hr : ∀ w', Below w.heap.size w w' → Calls Tryz.prog 39 #[vr] w' (TreePost (plainT r) w')) :
  Calls Tryz.prog 39 #[.iface 138 (.agg #[vl, vr])] w (TreePost (plainT (.sub l r)) w) := by
 obtain ⟨W, hW⟩ : ∃ W, (w.alloc (.cells #[.int .i64 0, .bool false, .slice none 0 0, .string ⟨#[]⟩, .int .i64 0, .int .i64 0, .bool false, .bool false, .slice none 0 0] TT)).alloc (.cells #[vl, vr] 138) = W := ⟨_, rfl⟩
 obtain ⟨Tl, hTl⟩ : ∃ T, T = plainT l := ⟨_, rfl⟩
 obtain ⟨Tr', hTr⟩ : ∃ T, T = plainT r := ⟨_, rfl⟩
 have hpl : plainT (.sub l r) = .mk (hd0 4) [Tl, Tr'] := by rw [hTl, hTr]; rfl
 rw [hpl]
 rw [← hTl] at hl
 rw [← hTr] at hr
 have hx : Box w W w.heap.size #[.int .i64 0, .bool false, .slice none 0 0, .string ⟨#[]⟩, .int .i64 0, .int .i64 0, .bool false, .bool false, .slice none 0 0] TT := by rw [← hW]; exact (Box.new w _ _).alloc _
 have hy : Box w W (w.heap.size + 1) #[vl, vr] 138 := by rw [← hW]; exact Box.second w _ _ _
 have hWs : W.heap.size = w.heap.size + 2 := by rw [← hW]; simp
 have HX := h_ hx
 have HY := h_ hy
 have HL := h_ hl
 have HR := h_ hr
 have HWS := h_ hWs
 have HD : Below W.heap.size W W.drew := (Below.refl _ W).drew
 obtain ⟨s0, s1⟩ := hy.c2
 have hstep := h_ (show ∀ wc wn, Below W.heap.size W wc → Below wc.heap.size wc wn → Below W.heap.size W wn from fun wc wn h1 h2 => h1.trans (h2.mono h1.size))
 have hcall := h_ (show ∀ wc, Below W.heap.size W wc → Below w.heap.size w wc from fun wc h => hx.below.trans (h.mono (by omega)))
 clear hl hr hx hy hWs hTl hTr hpl
 go_enter Tryz.func39, Tryz.ntmps39
 go_wp2
 clear hW
 go_region_held3 (fun w' => w'.cell? ⟨w.heap.size + 1, 0, none⟩ = some vl ∧ w'.cell? ⟨w.heap.size + 1, 1, none⟩ = some vr) (go_keep)
  (first | (go_at_call_of 39 vl; refine (HL.out _ (hcall.out _ (by first | exact HD | exact hbR))).mono ?_; rintro e wL ⟨a1, a2, a3, a4, a5, a6, rfl, htL, hbl⟩; have hbL := (by first | exact hstep.out _ _ HD hbl | exact hstep.out _ _ hbR hbl); have HTL := h_ htL; have HBL := h_ hbl; clear htL hbl; obtain ⟨p0, p1⟩ := (HY.out.step hbL).c2; have xc := fun o => ((HX.out.step hbL).alloc o).cell; have xf := fun o => ((HX.out.step hbL).alloc o).fz) | (go_at_call_of 39 vr; refine (HR.out _ (hcall.out _ (by first | exact HD | exact hbL))).mono ?_; rintro e wR ⟨c1, c2, c3, c4, c5, c6, rfl, htR, hbr⟩; have hbR := (by first | exact hstep.out _ _ HD hbr | exact hstep.out _ _ hbL hbr); have HTR := h_ htR; have HBR := h_ hbr; clear htR hbr; obtain ⟨q0, q1⟩ := (HY.out.step hbR).c2; have yc := fun o => ((HX.out.step hbR).alloc o).cell; have yf := fun o => ((HX.out.step hbR).alloc o).fz))
 go_wp2
 refine bodyPost_ret (v := .agg #[.int .i64 4, .bool false, .slice none 0 0, .string ⟨#[]⟩, .int .i64 0, .int .i64 0, .bool false, .bool false, .slice (some ⟨wR.heap.size, 0, none⟩) 2 2]) (by simp [results, Tryz.results39, go_sem, yc, yf]) rfl ?_
 have hws := HWS.out
 have sL := HBL.out.size
 have sR := HBR.out.size
 have sLd : W.drew.heap.size = W.heap.size := rfl
 have hTL2 : TreeAt wR (Fd w 2 wR) Tl _ := TreeAt.more (fun b hb => ⟨by omega, by omega⟩) _ _ (HTL.out.below (fun b hb => hb.2) HBR.out)
 have hTR2 : TreeAt wR (Fd w 2 wR) Tr' _ := TreeAt.more (fun b hb => ⟨by omega, by omega⟩) _ _ HTR.out
 refine ⟨none, 0, 0, some ⟨wR.heap.size, 0, none⟩, 2, 2, rfl, ?_, ?_⟩
 ·have h2 := two_kids (w := w) (hd := hd0 4) (va := .slice none 0 0) (by omega) AbsAt.empty (by decide) hTL2 hTR2 _ rfl
  exact TreeAt.more (fun b hb => ⟨by omega, by rw [size_set9]; exact hb.2⟩) _ _ (h2.set9 (X := w.heap.size) (fun h => by have := h.1; omega) _ _ _ _ _ _ _ _ _)
 ·exact below_set9 (((hcall.out _ hbR)).alloc (by omega) _) (Nat.le_refl _) _ _ _ _ _ _ _ _ _
theorem plain_mul (l r : Tm) (vl vr : Value) (w : World) (hol : vl.oneCell' = true) (hor : vr.oneCell' = true)
  (hl : ∀ w', Below w.heap.size w w' → Calls Tryz.prog 39 #[vl] w' (TreePost (plainT l) w')) (hr : ∀ w', Below w.heap.size w w' → Calls Tryz.prog 39 #[vr] w' (TreePost (plainT r) w')) :
  Calls Tryz.prog 39 #[.iface 139 (.agg #[vl, vr])] w (TreePost (plainT (.mul l r)) w) := by
 obtain ⟨W, hW⟩ : ∃ W, (w.alloc (.cells #[.int .i64 0, .bool false, .slice none 0 0, .string ⟨#[]⟩, .int .i64 0, .int .i64 0, .bool false, .bool false, .slice none 0 0] TT)).alloc (.cells #[vl, vr] 139) = W := ⟨_, rfl⟩
 obtain ⟨Tl, hTl⟩ : ∃ T, T = plainT l := ⟨_, rfl⟩
 obtain ⟨Tr', hTr⟩ : ∃ T, T = plainT r := ⟨_, rfl⟩
 have hpl : plainT (.mul l r) = .mk (hd0 5) [Tl, Tr'] := by rw [hTl, hTr]; rfl
 rw [hpl]
 rw [← hTl] at hl
 rw [← hTr] at hr
 have hx : Box w W w.heap.size #[.int .i64 0, .bool false, .slice none 0 0, .string ⟨#[]⟩, .int .i64 0, .int .i64 0, .bool false, .bool false, .slice none 0 0] TT := by rw [← hW]; exact (Box.new w _ _).alloc _
 have hy : Box w W (w.heap.size + 1) #[vl, vr] 139 := by rw [← hW]; exact Box.second w _ _ _
 have hWs : W.heap.size = w.heap.size + 2 := by rw [← hW]; simp
 have HX := h_ hx
 have HY := h_ hy
 have HL := h_ hl
 have HR := h_ hr
 have HWS := h_ hWs
 have HD : Below W.heap.size W W.drew := (Below.refl _ W).drew
 obtain ⟨s0, s1⟩ := hy.c2
 have hstep := h_ (show ∀ wc wn, Below W.heap.size W wc → Below wc.heap.size wc wn → Below W.heap.size W wn from fun wc wn h1 h2 => h1.trans (h2.mono h1.size))
 have hcall := h_ (show ∀ wc, Below W.heap.size W wc → Below w.heap.size w wc from fun wc h => hx.below.trans (h.mono (by omega)))
 clear hl hr hx hy hWs hTl hTr hpl
 go_enter Tryz.func39, Tryz.ntmps39
 go_wp2
 clear hW
 go_region_held3 (fun w' => w'.cell? ⟨w.heap.size + 1, 0, none⟩ = some vl ∧ w'.cell? ⟨w.heap.size + 1, 1, none⟩ = some vr) (go_keep)
  (first | (go_at_call_of 39 vl; refine (HL.out _ (hcall.out _ (by first | exact HD | exact hbR))).mono ?_; rintro e wL ⟨a1, a2, a3, a4, a5, a6, rfl, htL, hbl⟩; have hbL := (by first | exact hstep.out _ _ HD hbl | exact hstep.out _ _ hbR hbl); have HTL := h_ htL; have HBL := h_ hbl; clear htL hbl; obtain ⟨p0, p1⟩ := (HY.out.step hbL).c2; have xc := fun o => ((HX.out.step hbL).alloc o).cell; have xf := fun o => ((HX.out.step hbL).alloc o).fz) | (go_at_call_of 39 vr; refine (HR.out _ (hcall.out _ (by first | exact HD | exact hbL))).mono ?_; rintro e wR ⟨c1, c2, c3, c4, c5, c6, rfl, htR, hbr⟩; have hbR := (by first | exact hstep.out _ _ HD hbr | exact hstep.out _ _ hbL hbr); have HTR := h_ htR; have HBR := h_ hbr; clear htR hbr; obtain ⟨q0, q1⟩ := (HY.out.step hbR).c2; have yc := fun o => ((HX.out.step hbR).alloc o).cell; have yf := fun o => ((HX.out.step hbR).alloc o).fz))
 go_wp2
 refine bodyPost_ret (v := .agg #[.int .i64 5, .bool false, .slice none 0 0, .string ⟨#[]⟩, .int .i64 0, .int .i64 0, .bool false, .bool false, .slice (some ⟨wR.heap.size, 0, none⟩) 2 2]) (by simp [results, Tryz.results39, go_sem, yc, yf]) rfl ?_
 have hws := HWS.out
 have sL := HBL.out.size
 have sR := HBR.out.size
 have sLd : W.drew.heap.size = W.heap.size := rfl
 have hTL2 : TreeAt wR (Fd w 2 wR) Tl _ := TreeAt.more (fun b hb => ⟨by omega, by omega⟩) _ _ (HTL.out.below (fun b hb => hb.2) HBR.out)
 have hTR2 : TreeAt wR (Fd w 2 wR) Tr' _ := TreeAt.more (fun b hb => ⟨by omega, by omega⟩) _ _ HTR.out
 refine ⟨none, 0, 0, some ⟨wR.heap.size, 0, none⟩, 2, 2, rfl, ?_, ?_⟩
 ·have h2 := two_kids (w := w) (hd := hd0 5) (va := .slice none 0 0) (by omega) AbsAt.empty (by decide) hTL2 hTR2 _ rfl
  exact TreeAt.more (fun b hb => ⟨by omega, by rw [size_set9]; exact hb.2⟩) _ _ (h2.set9 (X := w.heap.size) (fun h => by have := h.1; omega) _ _ _ _ _ _ _ _ _)
 ·exact below_set9 (((hcall.out _ hbR)).alloc (by omega) _) (Nat.le_refl _) _ _ _ _ _ _ _ _ _
theorem plain_neg (l : Tm) (vl : Value) (w : World) (hol : vl.oneCell' = true)
  (hl : ∀ w', Below w.heap.size w w' → Calls Tryz.prog 39 #[vl] w' (TreePost (plainT l) w')) :
  Calls Tryz.prog 39 #[.iface 141 (.agg #[vl])] w (TreePost (plainT (.neg l)) w) := by
 obtain ⟨W, hW⟩ : ∃ W, (w.alloc (.cells #[.int .i64 0, .bool false, .slice none 0 0, .string ⟨#[]⟩, .int .i64 0, .int .i64 0, .bool false, .bool false, .slice none 0 0] TT)).alloc (.cells #[vl] 141) = W := ⟨_, rfl⟩
 obtain ⟨Tl, hTl⟩ : ∃ T, T = plainT l := ⟨_, rfl⟩
 have hpl : plainT (.neg l) = .mk (hd0 6) [Tl] := by rw [hTl]; rfl
 rw [hpl]
 rw [← hTl] at hl
 have hx : Box w W w.heap.size #[.int .i64 0, .bool false, .slice none 0 0, .string ⟨#[]⟩, .int .i64 0, .int .i64 0, .bool false, .bool false, .slice none 0 0] TT := by rw [← hW]; exact (Box.new w _ _).alloc _
 have hy : Box w W (w.heap.size + 1) #[vl] 141 := by rw [← hW]; exact Box.second w _ _ _
 have hWs : W.heap.size = w.heap.size + 2 := by rw [← hW]; simp
 have HX := h_ hx
 have HY := h_ hy
 have HL := h_ hl
 have HWS := h_ hWs
 have HD : Below W.heap.size W W := Below.refl _ W
 have s0 : W.cell? ⟨w.heap.size + 1, 0, none⟩ = some (vl) := hy.cell 0
 have hstep := h_ (show ∀ wc wn, Below W.heap.size W wc → Below wc.heap.size wc wn → Below W.heap.size W wn from fun wc wn h1 h2 => h1.trans (h2.mono h1.size))
 have hcall := h_ (show ∀ wc, Below W.heap.size W wc → Below w.heap.size w wc from fun wc h => hx.below.trans (h.mono (by omega)))
 clear hl hx hy hWs hTl hpl
 go_enter Tryz.func39, Tryz.ntmps39
 go_wp2_with (go_at_call 39; refine (HL.out _ (hcall.out _ HD)).mono ?_; rintro e wL ⟨a1, a2, a3, a4, a5, a6, rfl, htL, hbl⟩; have hbL := hstep.out _ _ HD hbl; have HTL := h_ htL; have HBL := h_ hbl; clear htL hbl; have p0 : wL.cell? ⟨w.heap.size + 1, 0, none⟩ = some (vl) := (HY.out.step hbL).cell 0; have xc := fun o => ((HX.out.step hbL).alloc o).cell; have xf := fun o => ((HX.out.step hbL).alloc o).fz)
 clear hW
 refine bodyPost_ret (v := .agg #[.int .i64 6, .bool false, .slice none 0 0, .string ⟨#[]⟩, .int .i64 0, .int .i64 0, .bool false, .bool false, .slice (some ⟨wL.heap.size, 0, none⟩) 1 1]) (by simp [results, Tryz.results39, go_sem, xc, xf]) rfl ?_
 have hws := HWS.out
 have sL := HBL.out.size
 have sLd : W.heap.size = W.heap.size := rfl
 have hTL2 : TreeAt wL (Fd w 2 wL) Tl _ := TreeAt.more (fun b hb => ⟨by omega, by omega⟩) _ _ HTL.out
 refine ⟨none, 0, 0, some ⟨wL.heap.size, 0, none⟩, 1, 1, rfl, ?_, ?_⟩
 ·have h2 := one_kid (w := w) (hd := hd0 6) (va := .slice none 0 0) (by omega) AbsAt.empty (by decide) hTL2 _ rfl
  exact TreeAt.more (fun b hb => ⟨by omega, by rw [size_set9]; exact hb.2⟩) _ _ (h2.set9 (X := w.heap.size) (fun h => by have := h.1; omega) _ _ _ _ _ _ _ _ _)
 ·exact below_set9 (((hcall.out _ hbL)).alloc (by omega) _) (Nat.le_refl _) _ _ _ _ _ _ _ _ _
theorem plain_pow (e m : Int) (hm : m = max e 0) (l : Tm) (vl : Value) (w : World) (hol : vl.oneCell' = true)
  (hl : ∀ w', Below w.heap.size w w' → Calls Tryz.prog 39 #[vl] w' (TreePost (plainT l) w')) :
  Calls Tryz.prog 39 #[.iface 143 (.agg #[vl, .int .i64 e])] w (TreePost (plainT (.pow l e)) w) := by
 obtain ⟨W, hW⟩ : ∃ W, (w.alloc (.cells #[.int .i64 0, .bool false, .slice none 0 0, .string ⟨#[]⟩, .int .i64 0, .int .i64 0, .bool false, .bool false, .slice none 0 0] TT)).alloc (.cells #[vl, .int .i64 e] 143) = W := ⟨_, rfl⟩
 obtain ⟨Tl, hTl⟩ : ∃ T, T = plainT l := ⟨_, rfl⟩
 have hpl : plainT (.pow l e) = .mk ({ hd0 7 with exp := m }) [Tl] := by rw [hTl]; show Tr.mk { hd0 7 with exp := max e 0 } [plainT l] = _; rw [← hm]
 rw [hpl]
 rw [← hTl] at hl
 have hx : Box w W w.heap.size #[.int .i64 0, .bool false, .slice none 0 0, .string ⟨#[]⟩, .int .i64 0, .int .i64 0, .bool false, .bool false, .slice none 0 0] TT := by rw [← hW]; exact (Box.new w _ _).alloc _
 have hy : Box w W (w.heap.size + 1) #[vl, .int .i64 e] 143 := by rw [← hW]; exact Box.second w _ _ _
 have hWs : W.heap.size = w.heap.size + 2 := by rw [← hW]; simp
 have HX := h_ hx
 have HY := h_ hy
 have HL := h_ hl
 have HWS := h_ hWs
 have HD : Below W.heap.size W W.drew := (Below.refl _ W).drew
 have s0 : W.cell? ⟨w.heap.size + 1, 0, none⟩ = some (vl) := hy.cell 0
 have s1 : W.cell? ⟨w.heap.size + 1, 1, none⟩ = some (.int .i64 e) := hy.cell 1
 have hif : (if e < 0 then (0 : Int) else e) = m := by rw [hm]; split <;> omega
 have hstep := h_ (show ∀ wc wn, Below W.heap.size W wc → Below wc.heap.size wc wn → Below W.heap.size W wn from fun wc wn h1 h2 => h1.trans (h2.mono h1.size))
 have hcall := h_ (show ∀ wc, Below W.heap.size W wc → Below w.heap.size w wc from fun wc h => hx.below.trans (h.mono (by omega)))
 clear hl hx hy hWs hTl hpl hm
 go_enter Tryz.func39, Tryz.ntmps39
 go_wp2
 clear hW
 go_region_held3 (fun w' => w'.cell? ⟨w.heap.size + 1, 0, none⟩ = some (vl) ∧ w'.cell? ⟨w.heap.size + 1, 1, none⟩ = some (.int .i64 e)) (go_keep)
  (first | (go_at_call 39; refine (HL.out _ (hcall.out _ HD)).mono ?_; rintro e wL ⟨a1, a2, a3, a4, a5, a6, rfl, htL, hbl⟩; have hbL := hstep.out _ _ HD hbl; have HTL := h_ htL; have HBL := h_ hbl; clear htL hbl; have p0 : wL.cell? ⟨w.heap.size + 1, 0, none⟩ = some (vl) := (HY.out.step hbL).cell 0; have p1 : wL.cell? ⟨w.heap.size + 1, 1, none⟩ = some (.int .i64 e) := (HY.out.step hbL).cell 1; have xc := fun o => ((HX.out.step hbL).alloc o).cell; have xf := fun o => ((HX.out.step hbL).alloc o).fz))
 go_wp2
 all_goals
  refine bodyPost_ret (v := .agg #[.int .i64 7, .bool false, .slice none 0 0, .string ⟨#[]⟩, .int .i64 m, .int .i64 0, .bool false, .bool false, .slice (some ⟨wL.heap.size, 0, none⟩) 1 1]) (by simp [results, Tryz.results39, go_sem, xc, xf]) rfl ?_
  have hws := HWS.out
  have sL := HBL.out.size
  have sLd : W.drew.heap.size = W.heap.size := rfl
  have hTL2 : TreeAt wL (Fd w 2 wL) Tl _ := TreeAt.more (fun b hb => ⟨by omega, by omega⟩) _ _ HTL.out
  refine ⟨none, 0, 0, some ⟨wL.heap.size, 0, none⟩, 1, 1, rfl, ?_, ?_⟩
  ·have h2 := one_kid (w := w) (hd := { hd0 7 with exp := m }) (va := .slice none 0 0) (by omega) AbsAt.empty (show (⟨#[]⟩ : ByteArray).size ≤ _ from by decide) hTL2 _ rfl
   exact TreeAt.more (fun b hb => ⟨by omega, by rw [size_set9]; exact hb.2⟩) _ _ (h2.set9 (X := w.heap.size) (fun h => by have := h.1; omega) _ _ _ _ _ _ _ _ _)
  ·exact below_set9 (((hcall.out _ hbL)).alloc (by omega) _) (Nat.le_refl _) _ _ _ _ _ _ _ _ _
end Fm
end Go.Proofs.YteneobpacobpdaaGreatDoor
namespace Go.Proofs.YteneobpacobpdaaGreatDoor
open Go.RowKit
namespace Fm
attribute [local go_sem] run_store taNum_yes taNum_no taNum_nil taName_yes taName_no taName_nil taAdd_yes taAdd_no taAdd_nil taSub_yes taSub_no taSub_nil taMul_yes taMul_no taMul_nil taNeg_yes taNeg_no taNeg_nil taPow_yes taPow_no taPow_nil
theorem plain_num (neg : Bool) (abs : List Nat) (A : Option Addr) (n c : Nat) (S : Nat → Prop) (w : World) (hS : ∀ b, S b → b < w.heap.size) (hA : AbsAt w S (.slice A n c) abs) (hl : abs.length ≤ 1000000) :
  Calls Tryz.prog 39 #[.iface 135 (.agg #[.bool neg, .slice A n c])] w (TreePost (plainT (.num neg abs)) w) := by
 obtain ⟨W, hW⟩ : ∃ W, (w.alloc (.cells #[.int .i64 0, .bool false, .slice none 0 0, .string ⟨#[]⟩, .int .i64 0, .int .i64 0, .bool false, .bool false, .slice none 0 0] TT)).alloc (.cells #[.bool neg, .slice A n c] 135) = W := ⟨_, rfl⟩
 obtain ⟨r, hr⟩ : ∃ r, r = normB neg abs := ⟨_, rfl⟩
 have hpl : plainT (.num neg abs) = .mk { hd0 1 with neg := r, abs := trimN abs } [] := by rw [hr]; rfl
 rw [hpl]
 have hx : Box w W w.heap.size #[.int .i64 0, .bool false, .slice none 0 0, .string ⟨#[]⟩, .int .i64 0, .int .i64 0, .bool false, .bool false, .slice none 0 0] TT := by rw [← hW]; exact (Box.new w _ _).alloc _
 obtain ⟨s0, s1⟩ : W.cell? ⟨w.heap.size + 1, 0, none⟩ = some (.bool neg) ∧ W.cell? ⟨w.heap.size + 1, 1, none⟩ = some (.slice A n c) := by (have hy : Box w W (w.heap.size + 1) #[.bool neg, .slice A n c] 135 := (by rw [← hW]; exact Box.second w _ _ _); exact hy.c2)
 have hWs : W.heap.size = w.heap.size + 2 := by rw [← hW]; simp
 have HX := h_ hx
 have HN := h_ (normal_any neg abs (.slice A n c) S W (fun b hb => by have := hS b hb; omega) (hA.below hS hx.below) hl)
 have HR := h_ hr
 have HWS := h_ hWs
 clear hr hpl hx hWs hA
 go_enter Tryz.func39, Tryz.ntmps39
 go_wp2_with (go_at_call 70; refine HN.out.mono ?_; intro e w3 hq; obtain ⟨A', n', c', rfl, hA', hb3⟩ := hq.named r HR.out; clear hq; have HA := h_ hA'; clear hA'; have xc := (HX.out.step hb3).cell; have xf := (HX.out.step hb3).fz)
 clear hW
 refine bodyPost_ret (v := .agg #[.int .i64 1, .bool r, .slice A' n' c', .string ⟨#[]⟩, .int .i64 0, .int .i64 0, .bool false, .bool false, .slice none 0 0]) (by simp [results, Tryz.results39, go_sem, xc, xf]) rfl ?_
 have hws := HWS.out
 have s3 := hb3.size
 refine ⟨A', n', c', none, 0, 0, rfl, ?_, ?_⟩
 ·have h2 : TreeAt w3 (Fd w 2 w3) (.mk { hd0 1 with neg := r, abs := trimN abs } []) (hdC { hd0 1 with neg := r, abs := trimN abs } (.slice A' n' c') (.slice none 0 0)) := no_kids (HA.out.more (fun b hb => ⟨by omega, hb.2⟩)) (show (⟨#[]⟩ : ByteArray).size ≤ _ from by decide)
  exact TreeAt.more (fun b hb => ⟨by omega, by rw [size_set9]; exact hb.2⟩) _ _ (h2.set9 (X := w.heap.size) (fun h => by have := h.1; omega) _ _ _ _ _ _ _ _ _)
 ·exact below_set9 (HX.out.step hb3).below (Nat.le_refl _) _ _ _ _ _ _ _ _ _
theorem plain_name (s : ByteArray) (w : World) (hs : s.size ≤ 9223372036854775807) :
  Calls Tryz.prog 39 #[.iface 47 (.agg #[.string s])] w (TreePost (plainT (.name s)) w) := by
 obtain ⟨W, hW⟩ : ∃ W, (w.alloc (.cells #[.int .i64 0, .bool false, .slice none 0 0, .string ⟨#[]⟩, .int .i64 0, .int .i64 0, .bool false, .bool false, .slice none 0 0] TT)).alloc (.cells #[.string s] 47) = W := ⟨_, rfl⟩
 have hx : Box w W w.heap.size #[.int .i64 0, .bool false, .slice none 0 0, .string ⟨#[]⟩, .int .i64 0, .int .i64 0, .bool false, .bool false, .slice none 0 0] TT := by rw [← hW]; exact (Box.new w _ _).alloc _
 have s0 : W.cell? ⟨w.heap.size + 1, 0, none⟩ = some (.string s) := by (have hy : Box w W (w.heap.size + 1) #[.string s] 47 := (by rw [← hW]; exact Box.second w _ _ _); exact hy.cell 0)
 have hWs : W.heap.size = w.heap.size + 2 := by rw [← hW]; simp
 have HX := h_ hx
 have xc := hx.cell
 have xf := hx.fz
 clear hx hWs
 go_enter Tryz.func39, Tryz.ntmps39
 go_wp2
 clear hW
 refine bodyPost_ret (v := .agg #[.int .i64 2, .bool false, .slice none 0 0, .string s, .int .i64 0, .int .i64 0, .bool false, .bool false, .slice none 0 0]) (by simp [results, Tryz.results39, go_sem, xc, xf]) rfl ?_
 refine ⟨none, 0, 0, none, 0, 0, rfl, ?_, ?_⟩
 ·have h2 : TreeAt W (fun _ => False) (.mk { hd0 2 with name := s } []) (hdC { hd0 2 with name := s } (.slice none 0 0) (.slice none 0 0)) := no_kids AbsAt.empty hs
  exact TreeAt.more (fun b hb => False.elim hb) _ _ (h2.set9 (X := w.heap.size) (fun h => h) _ _ _ _ _ _ _ _ _)
 ·exact below_set9 HX.out.below (Nat.le_refl _) _ _ _ _ _ _ _ _ _
theorem plain_odd (v : Value) (w : World) (h : OddV v) : Calls Tryz.prog 39 #[v] w (TreePost (plainT .odd) w) := by
 obtain ⟨W, hW⟩ : ∃ W, w.alloc (.cells #[.int .i64 0, .bool false, .slice none 0 0, .string ⟨#[]⟩, .int .i64 0, .int .i64 0, .bool false, .bool false, .slice none 0 0] TT) = W := ⟨_, rfl⟩
 have hx : Box w W w.heap.size #[.int .i64 0, .bool false, .slice none 0 0, .string ⟨#[]⟩, .int .i64 0, .int .i64 0, .bool false, .bool false, .slice none 0 0] TT := by rw [← hW]; exact Box.new w _ _
 have HX := h_ hx
 have xc := hx.cell
 have xf := hx.fz
 clear hx
 have fin : ∀ v0 : Value, v0 = .agg #[.int .i64 1, .bool false, .slice none 0 0, .string ⟨#[]⟩, .int .i64 0, .int .i64 0, .bool false, .bool false, .slice none 0 0] → TreePost (plainT .odd) w (.returned v0) (set9 W w.heap.size (.int .i64 1) (.bool false) (.slice none 0 0) (.string ⟨#[]⟩) (.int .i64 0) (.int .i64 0) (.bool false) (.bool false) (.slice none 0 0)) := by
  rintro v0 rfl
  refine ⟨none, 0, 0, none, 0, 0, rfl, ?_, below_set9 HX.out.below (Nat.le_refl _) _ _ _ _ _ _ _ _ _⟩
  have h2 : TreeAt W (fun _ => False) (.mk (hd0 1) []) (hdC (hd0 1) (.slice none 0 0) (.slice none 0 0)) := no_kids AbsAt.empty (by decide)
  exact TreeAt.more (fun b hb => False.elim hb) _ _ (h2.set9 (X := w.heap.size) (fun h => h) _ _ _ _ _ _ _ _ _)
 have Fin := h_ fin
 clear fin
 rcases h with rfl | ⟨u, a, rfl, hu⟩
 ·go_enter Tryz.func39, Tryz.ntmps39
  go_wp2
  clear hW
  exact bodyPost_ret (v := .agg #[.int .i64 1, .bool false, .slice none 0 0, .string ⟨#[]⟩, .int .i64 0, .int .i64 0, .bool false, .bool false, .slice none 0 0]) (by simp [results, Tryz.results39, go_sem, xc, xf]) rfl (Fin.out _ rfl)
 ·simp only [List.mem_cons, List.not_mem_nil, or_false, not_or] at hu
  obtain ⟨u1, u2, u3, u4, u5, u6, u7, _⟩ := hu
  go_enter Tryz.func39, Tryz.ntmps39
  go_wp2
  clear hW
  exact bodyPost_ret (v := .agg #[.int .i64 1, .bool false, .slice none 0 0, .string ⟨#[]⟩, .int .i64 0, .int .i64 0, .bool false, .bool false, .slice none 0 0]) (by simp [results, Tryz.results39, go_sem, xc, xf]) rfl (Fin.out _ rfl)
theorem plainTerm_any : ∀ (t : Tm) (v : Value) (S : Nat → Prop) (w : World), (∀ b, S b → b < w.heap.size) → TmAt w S t v → SmT t → Calls Tryz.prog 39 #[v] w (TreePost (plainT t) w) := by
 intro t
 induction t with
 | odd => intro v S w hS h hs; exact plain_odd v w h
 | num neg abs => rintro v S w hS ⟨A, n, c, rfl, hA⟩ hs; exact plain_num neg abs A n c S w hS hA hs
 | name s => rintro v S w hS ⟨rfl, hl⟩ hs; exact plain_name s w hl
 | add l r il ir =>
  rintro v S w hS ⟨vl, vr, rfl, h1, h2⟩ hs
  exact plain_add l r vl vr w h1.one h2.one (fun w' hb => il vl S w' (fun b hb' => Nat.lt_of_lt_of_le (hS b hb') hb.size) (h1.below hS hb) hs.1) (fun w' hb => ir vr S w' (fun b hb' => Nat.lt_of_lt_of_le (hS b hb') hb.size) (h2.below hS hb) hs.2)
 | sub l r il ir =>
  rintro v S w hS ⟨vl, vr, rfl, h1, h2⟩ hs
  exact plain_sub l r vl vr w h1.one h2.one (fun w' hb => il vl S w' (fun b hb' => Nat.lt_of_lt_of_le (hS b hb') hb.size) (h1.below hS hb) hs.1) (fun w' hb => ir vr S w' (fun b hb' => Nat.lt_of_lt_of_le (hS b hb') hb.size) (h2.below hS hb) hs.2)
 | mul l r il ir =>
  rintro v S w hS ⟨vl, vr, rfl, h1, h2⟩ hs
  exact plain_mul l r vl vr w h1.one h2.one (fun w' hb => il vl S w' (fun b hb' => Nat.lt_of_lt_of_le (hS b hb') hb.size) (h1.below hS hb) hs.1) (fun w' hb => ir vr S w' (fun b hb' => Nat.lt_of_lt_of_le (hS b hb') hb.size) (h2.below hS hb) hs.2)
 | neg t it =>
  rintro v S w hS ⟨vt, rfl, h1⟩ hs
  exact plain_neg t vt w h1.one (fun w' hb => it vt S w' (fun b hb' => Nat.lt_of_lt_of_le (hS b hb') hb.size) (h1.below hS hb) hs)
 | pow t e it =>
  rintro v S w hS ⟨vt, rfl, h1⟩ hs
  exact plain_pow e _ rfl t vt w h1.one (fun w' hb => it vt S w' (fun b hb' => Nat.lt_of_lt_of_le (hS b hb') hb.size) (h1.below hS hb) hs)
end Fm
end Go.Proofs.YteneobpacobpdaaGreatDoor
