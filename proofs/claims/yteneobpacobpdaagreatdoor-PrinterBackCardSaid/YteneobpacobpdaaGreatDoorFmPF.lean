/-
  formula.Plain: the tree of a formula.
-/
import Derived.Test.YteneobpacobpdaaGreatDoorHy
import Derived.Test.YteneobpacobpdaaGreatDoorFmP
set_option linter.unusedSimpArgs false
set_option linter.unusedVariables false
set_option maxRecDepth 100000
set_option maxHeartbeats 16000000
namespace Go.Proofs.YteneobpacobpdaaGreatDoor
open Go.RowKit
namespace Fm
attribute [local go_sem] run_store taTruth_yes taTruth_no taTruth_nil taAtom_yes taAtom_no taAtom_nil taNot_yes taNot_no taNot_nil taAnd_yes taAnd_no taAnd_nil taOr_yes taOr_no taOr_nil taImplies_yes taImplies_no taImplies_nil taIff_yes taIff_no taIff_nil taQuant_yes taQuant_no taQuant_nil
def relR (r : Int) : Int := if r < 1 ∨ 6 < r then 3 else r
def plainF : Fo → Tr
 | .odd => .mk (hd0 8) []
 | .truth b => .mk { hd0 8 with truth := b } []
 | .atom l rel r => .mk { hd0 9 with rel := relR rel } [plainT l, plainT r]
 | .not f => .mk (hd0 10) [plainF f]
 | .and l r => .mk (hd0 11) [plainF l, plainF r]
 | .or l r => .mk (hd0 12) [plainF l, plainF r]
 | .implies l r => .mk (hd0 13) [plainF l, plainF r]
 | .iff l r => .mk (hd0 14) [plainF l, plainF r]
 | .quant all nm f => .mk { hd0 15 with all := all, name := nm } [plainF f]
def SmF : Fo → Prop
 | .odd => True
 | .truth _ => True
 | .atom l _ r => SmT l ∧ SmT r
 | .not f => SmF f
 | .and l r => SmF l ∧ SmF r
 | .or l r => SmF l ∧ SmF r
 | .implies l r => SmF l ∧ SmF r
 | .iff l r => SmF l ∧ SmF r
 | .quant _ _ f => SmF f
theorem relation_any (r q : Int) (w : World) (hq : q = relR r) : Calls Tryz.prog 38 #[.int .i64 r] w fun e w' => e = .returned (.int .i64 q) ∧ w' = w := by
 unfold relR at hq
 by_cases h1 : r < 1
 ·rw [if_pos (.inl h1)] at hq
  subst hq
  go_enter Tryz.func38, Tryz.ntmps38
  go_wp2
  go_ret
  exact ⟨rfl, rfl⟩
 ·by_cases h2 : 6 < r
  ·rw [if_pos (.inr h2)] at hq
   subst hq
   go_enter Tryz.func38, Tryz.ntmps38
   go_wp2
   go_ret
   exact ⟨rfl, rfl⟩
  ·rw [if_neg (by omega)] at hq
   subst hq
   go_enter Tryz.func38, Tryz.ntmps38
   go_wp2
   go_ret
   exact ⟨rfl, rfl⟩
theorem plainF_and (l r : Fo) (vl vr : Value) (w : World) (hol : vl.oneCell' = true) (hor : vr.oneCell' = true)
  (hl : ∀ w', Below w.heap.size w w' → Calls Tryz.prog 16 #[vl] w' (TreePost (plainF l) w')) (hr : ∀ w', Below w.heap.size w w' → Calls Tryz.prog 16 #[vr] w' (TreePost (plainF r) w')) :
  Calls Tryz.prog 16 #[.iface 94 (.agg #[vl, vr])] w (TreePost (plainF (.and l r)) w) := by
 obtain ⟨W, hW⟩ : ∃ W, (w.alloc (.cells #[.int .i64 0, .bool false, .slice none 0 0, .string ⟨#[]⟩, .int .i64 0, .int .i64 0, .bool false, .bool false, .slice none 0 0] TT)).alloc (.cells #[vl, vr] 94) = W := ⟨_, rfl⟩
 obtain ⟨Tl, hTl⟩ : ∃ T, T = plainF l := ⟨_, rfl⟩
 obtain ⟨Tr', hTr⟩ : ∃ T, T = plainF r := ⟨_, rfl⟩
 have hpl : plainF (.and l r) = .mk (hd0 11) [Tl, Tr'] := by rw [hTl, hTr]; rfl
 rw [hpl]
 rw [← hTl] at hl
 rw [← hTr] at hr
 have hx : Box w W w.heap.size #[.int .i64 0, .bool false, .slice none 0 0, .string ⟨#[]⟩, .int .i64 0, .int .i64 0, .bool false, .bool false, .slice none 0 0] TT := by rw [← hW]; exact (Box.new w _ _).alloc _
 have hy : Box w W (w.heap.size + 1) #[vl, vr] 94 := by rw [← hW]; exact Box.second w _ _ _
 have hWs : W.heap.size = w.heap.size + 2 := by rw [← hW]; simp
 have HX := h_ hx
 have HY := h_ hy
 have HL := h_ hl
 have HR := h_ hr
 have HWS := h_ hWs
 have HD : Below W.heap.size W W.drew := (Below.refl _ W).drew
 obtain ⟨s0, s1⟩ := hy.c2
 have hstep := h_ (show ∀ wc wn, Below W.heap.size W wc → Below wc.heap.size wc wn → Below W.heap.size W wn from fun wc wn h1 h2 => h1.trans (h2.mono h1.size))
 have hcall := h_ (show ∀ wc, Below W.heap.size W wc → Below w.heap.size w wc from fun wc h => hx.below.trans (h.mono (by omega)))
 clear hl hr hx hy hWs hTl hTr hpl
 go_enter Tryz.func16, Tryz.ntmps16
 go_wp2
 clear hW
 go_region_held3 (fun w' => w'.cell? ⟨w.heap.size + 1, 0, none⟩ = some vl ∧ w'.cell? ⟨w.heap.size + 1, 1, none⟩ = some vr) (go_keep)
  (first | (go_at_call_of 16 vl; refine (HL.out _ (hcall.out _ (by first | exact HD | exact hbR))).mono ?_; rintro e wL ⟨a1, a2, a3, a4, a5, a6, rfl, htL, hbl⟩; have hbL := (by first | exact hstep.out _ _ HD hbl | exact hstep.out _ _ hbR hbl); have HTL := h_ htL; have HBL := h_ hbl; clear htL hbl; obtain ⟨p0, p1⟩ := (HY.out.step hbL).c2; have xc := fun o => ((HX.out.step hbL).alloc o).cell; have xf := fun o => ((HX.out.step hbL).alloc o).fz) | (go_at_call_of 16 vr; refine (HR.out _ (hcall.out _ (by first | exact HD | exact hbL))).mono ?_; rintro e wR ⟨c1, c2, c3, c4, c5, c6, rfl, htR, hbr⟩; have hbR := (by first | exact hstep.out _ _ HD hbr | exact hstep.out _ _ hbL hbr); have HTR := h_ htR; have HBR := h_ hbr; clear htR hbr; obtain ⟨q0, q1⟩ := (HY.out.step hbR).c2; have yc := fun o => ((HX.out.step hbR).alloc o).cell; have yf := fun o => ((HX.out.step hbR).alloc o).fz))
 go_wp2
 refine bodyPost_ret (v := .agg #[.int .i64 11, .bool false, .slice none 0 0, .string ⟨#[]⟩, .int .i64 0, .int .i64 0, .bool false, .bool false, .slice (some ⟨wR.heap.size, 0, none⟩) 2 2]) (by simp [results, Tryz.results16, go_sem, yc, yf]) rfl ?_
 have hws := HWS.out
 have sL := HBL.out.size
 have sR := HBR.out.size
 have sLd : W.drew.heap.size = W.heap.size := rfl
 have hTL2 : TreeAt wR (Fd w 2 wR) Tl _ := TreeAt.more (fun b hb => ⟨by omega, by omega⟩) _ _ (HTL.out.below (fun b hb => hb.2) HBR.out)
 have hTR2 : TreeAt wR (Fd w 2 wR) Tr' _ := TreeAt.more (fun b hb => ⟨by omega, by omega⟩) _ _ HTR.out
 refine ⟨none, 0, 0, some ⟨wR.heap.size, 0, none⟩, 2, 2, rfl, ?_, ?_⟩
 ·have h2 := two_kids (w := w) (hd := hd0 11) (va := .slice none 0 0) (by omega) AbsAt.empty (by decide) hTL2 hTR2 _ rfl
  exact TreeAt.more (fun b hb => ⟨by omega, by rw [size_set9]; exact hb.2⟩) _ _ (h2.set9 (X := w.heap.size) (fun h => by have := h.1; omega) _ _ _ _ _ _ _ _ _)
 ·exact below_set9 (((hcall.out _ hbR)).alloc (by omega) _) (Nat.le_refl _) _ _ _ _ _ _ _ _ _
theorem plainF_or (l r : Fo) (vl vr : Value) (w : World) (hol : vl.oneCell' = true) (hor : vr.oneCell' = true)
  (hl : ∀ w', Below w.heap.size w w' → Calls Tryz.prog 16 #[vl] w' (TreePost (plainF l) w')) (hr : ∀ w', Below w.heap.size w w' → Calls Tryz.prog 16 #[vr] w' (TreePost (plainF r) w')) :
  Calls Tryz.prog 16 #[.iface 95 (.agg #[vl, vr])] w (TreePost (plainF (.or l r)) w) := by
 obtain ⟨W, hW⟩ : ∃ W, (w.alloc (.cells #[.int .i64 0, .bool false, .slice none 0 0, .string ⟨#[]⟩, .int .i64 0, .int .i64 0, .bool false, .bool false, .slice none 0 0] TT)).alloc (.cells #[vl, vr] 95) = W := ⟨_, rfl⟩
 obtain ⟨Tl, hTl⟩ : ∃ T, T = plainF l := ⟨_, rfl⟩
 obtain ⟨Tr', hTr⟩ : ∃ T, T = plainF r := ⟨_, rfl⟩
 have hpl : plainF (.or l r) = .mk (hd0 12) [Tl, Tr'] := by rw [hTl, hTr]; rfl
 rw [hpl]
 rw [← hTl] at hl
 rw [← hTr] at hr
 have hx : Box w W w.heap.size #[.int .i64 0, .bool false, .slice none 0 0, .string ⟨#[]⟩, .int .i64 0, .int .i64 0, .bool false, .bool false, .slice none 0 0] TT := by rw [← hW]; exact (Box.new w _ _).alloc _
 have hy : Box w W (w.heap.size + 1) #[vl, vr] 95 := by rw [← hW]; exact Box.second w _ _ _
 have hWs : W.heap.size = w.heap.size + 2 := by rw [← hW]; simp
 have HX := h_ hx
 have HY := h_ hy
 have HL := h_ hl
 have HR := h_ hr
 have HWS := h_ hWs
 have HD : Below W.heap.size W W.drew := (Below.refl _ W).drew
 obtain ⟨s0, s1⟩ := hy.c2
 have hstep := h_ (show ∀ wc wn, Below W.heap.size W wc → Below wc.heap.size wc wn → Below W.heap.size W wn from fun wc wn h1 h2 => h1.trans (h2.mono h1.size))
 have hcall := h_ (show ∀ wc, Below W.heap.size W wc → Below w.heap.size w wc from fun wc h => hx.below.trans (h.mono (by omega)))
 clear hl hr hx hy hWs hTl hTr hpl
 go_enter Tryz.func16, Tryz.ntmps16
 go_wp2
 clear hW
 go_region_held3 (fun w' => w'.cell? ⟨w.heap.size + 1, 0, none⟩ = some vl ∧ w'.cell? ⟨w.heap.size + 1, 1, none⟩ = some vr) (go_keep)
  (first | (go_at_call_of 16 vl; refine (HL.out _ (hcall.out _ (by first | exact HD | exact hbR))).mono ?_; rintro e wL ⟨a1, a2, a3, a4, a5, a6, rfl, htL, hbl⟩; have hbL := (by first | exact hstep.out _ _ HD hbl | exact hstep.out _ _ hbR hbl); have HTL := h_ htL; have HBL := h_ hbl; clear htL hbl; obtain ⟨p0, p1⟩ := (HY.out.step hbL).c2; have xc := fun o => ((HX.out.step hbL).alloc o).cell; have xf := fun o => ((HX.out.step hbL).alloc o).fz) | (go_at_call_of 16 vr; refine (HR.out _ (hcall.out _ (by first | exact HD | exact hbL))).mono ?_; rintro e wR ⟨c1, c2, c3, c4, c5, c6, rfl, htR, hbr⟩; have hbR := (by first | exact hstep.out _ _ HD hbr | exact hstep.out _ _ hbL hbr); have HTR := h_ htR; have HBR := h_ hbr; clear htR hbr; obtain ⟨q0, q1⟩ := (HY.out.step hbR).c2; have yc := fun o => ((HX.out.step hbR).alloc o).cell; have yf := fun o => ((HX.out.step hbR).alloc o).fz))
 go_wp2
 refine bodyPost_ret (v := .agg #[.int .i64 12, .bool false, .slice none 0 0, .string ⟨#[]⟩, .int .i64 0, .int .i64 0, .bool false, .bool false, .slice (some ⟨wR.heap.size, 0, none⟩) 2 2]) (by simp [results, Tryz.results16, go_sem, yc, yf]) rfl ?_
 have hws := HWS.out
 have sL := HBL.out.size
 have sR := HBR.out.size
 have sLd : W.drew.heap.size = W.heap.size := rfl
 have hTL2 : TreeAt wR (Fd w 2 wR) Tl _ := TreeAt.more (fun b hb => ⟨by omega, by omega⟩) _ _ (HTL.out.below (fun b hb => hb.2) HBR.out)
 have hTR2 : TreeAt wR (Fd w 2 wR) Tr' _ := TreeAt.more (fun b hb => ⟨by omega, by omega⟩) _ _ HTR.out
 refine ⟨none, 0, 0, some ⟨wR.heap.size, 0, none⟩, 2, 2, rfl, ?_, ?_⟩
 ·have h2 := two_kids (w := w) (hd := hd0 12) (va := .slice none 0 0) (by omega) AbsAt.empty (by decide) hTL2 hTR2 _ rfl
  exact TreeAt.more (fun b hb => ⟨by omega, by rw [size_set9]; exact hb.2⟩) _ _ (h2.set9 (X := w.heap.size) (fun h => by have := h.1; omega) _ _ _ _ _ _ _ _ _)
 ·exact below_set9 (((hcall.out _ hbR)).alloc (by omega) _) (Nat.le_refl _) _ _ _ _ _ _ _ _ _
theorem plainF_implies (l r : Fo) (vl vr : Value) (w : World) (hol : vl.oneCell' = true) (hor : vr.oneCell' = true)
  (hl : ∀ w', Below w.heap.size w w' → Calls Tryz.prog 16 #[vl] w' (TreePost (plainF l) w')) (hr : ∀ w', Below w.heap.size w w' → Calls Tryz.prog 16 #[vr] w' (TreePost (plainF r) w')) :
  Calls Tryz.prog 16 #[.iface 96 (.agg #[vl, vr])] w (TreePost (plainF (.implies l r)) w) := by
 obtain ⟨W, hW⟩ : ∃ W, (w.alloc (.cells #[.int .i64 0, .bool false, .slice none 0 0, .string ⟨#[]⟩, .int .i64 0, .int .i64 0, .bool false, .bool false, .slice none 0 0] TT)).alloc (.cells #[vl, vr] 96) = W := ⟨_, rfl⟩
 obtain ⟨Tl, hTl⟩ : ∃ T, T = plainF l := ⟨_, rfl⟩
 obtain ⟨Tr', hTr⟩ : ∃ T, T = plainF r := ⟨_, rfl⟩
 have hpl : plainF (.implies l r) = .mk (hd0 13) [Tl, Tr'] := by rw [hTl, hTr]; rfl
 rw [hpl]
 rw [← hTl] at hl
 rw [← hTr] at hr
 have hx : Box w W w.heap.size #[.int .i64 0, .bool false, .slice none 0 0, .string ⟨#[]⟩, .int .i64 0, .int .i64 0, .bool false, .bool false, .slice none 0 0] TT := by rw [← hW]; exact (Box.new w _ _).alloc _
 have hy : Box w W (w.heap.size + 1) #[vl, vr] 96 := by rw [← hW]; exact Box.second w _ _ _
 have hWs : W.heap.size = w.heap.size + 2 := by rw [← hW]; simp
 have HX := h_ hx
 have HY := h_ hy
 have HL := h_ hl
 have HR := h_ hr
 have HWS := h_ hWs
 have HD : Below W.heap.size W W.drew := (Below.refl _ W).drew
 obtain ⟨s0, s1⟩ := hy.c2
 have hstep := h_ (show ∀ wc wn, Below W.heap.size W wc → Below wc.heap.size wc wn → Below W.heap.size W wn from fun wc wn h1 h2 => h1.trans (h2.mono h1.size))
 have hcall := h_ (show ∀ wc, Below W.heap.size W wc → Below w.heap.size w wc from fun wc h => hx.below.trans (h.mono (by omega)))
 clear hl hr hx hy hWs hTl hTr hpl
 go_enter Tryz.func16, Tryz.ntmps16
 go_wp2
 clear hW
 go_region_held3 (fun w' => w'.cell? ⟨w.heap.size + 1, 0, none⟩ = some vl ∧ w'.cell? ⟨w.heap.size + 1, 1, none⟩ = some vr) (go_keep)
  (first | (go_at_call_of 16 vl; refine (HL.out _ (hcall.out _ (by first | exact HD | exact hbR))).mono ?_; rintro e wL ⟨a1, a2, a3, a4, a5, a6, rfl, htL, hbl⟩; have hbL := (by first | exact hstep.out _ _ HD hbl | exact hstep.out _ _ hbR hbl); have HTL := h_ htL; have HBL := h_ hbl; clear htL hbl; obtain ⟨p0, p1⟩ := (HY.out.step hbL).c2; have xc := fun o => ((HX.out.step hbL).alloc o).cell; have xf := fun o => ((HX.out.step hbL).alloc o).fz) | (go_at_call_of 16 vr; refine (HR.out _ (hcall.out _ (by first | exact HD | exact hbL))).mono ?_; rintro e wR ⟨c1, c2, c3, c4, c5, c6, rfl, htR, hbr⟩; have hbR := (by first | exact hstep.out _ _ HD hbr | exact hstep.out _ _ hbL hbr); have HTR := h_ htR; have HBR := h_ hbr; clear htR hbr; obtain ⟨q0, q1⟩ := (HY.out.step hbR).c2; have yc := fun o => ((HX.out.step hbR).alloc o).cell; have yf := fun o => ((HX.out.step hbR).alloc o).fz))
 go_wp2
 refine bodyPost_ret (v := .agg #[.int .i64 13, .bool false, .slice none 0 0, .string ⟨#[]⟩, .int .i64 0, .int .i64 0, .bool false, .bool false, .slice (some ⟨wR.heap.size, 0, none⟩) 2 2]) (by simp [results, Tryz.results16, go_sem, yc, yf]) rfl ?_
 have hws := HWS.out
 have sL := HBL.out.size
 have sR := HBR.out.size
 have sLd : W.drew.heap.size = W.heap.size := rfl
 have hTL2 : TreeAt wR (Fd w 2 wR) Tl _ := TreeAt.more (fun b hb => ⟨by omega, by omega⟩) _ _ (HTL.out.below (fun b hb => hb.2) HBR.out)
 have hTR2 : TreeAt wR (Fd w 2 wR) Tr' _ := TreeAt.more (fun b hb => ⟨by omega, by omega⟩) _ _ HTR.out
 refine ⟨none, 0, 0, some ⟨wR.heap.size, 0, none⟩, 2, 2, rfl, ?_, ?_⟩
 ·have h2 := two_kids (w := w) (hd := hd0 13) (va := .slice none 0 0) (by omega) AbsAt.empty (by decide) hTL2 hTR2 _ rfl
  exact TreeAt.more (fun b hb => ⟨by omega, by rw [size_set9]; exact hb.2⟩) _ _ (h2.set9 (X := w.heap.size) (fun h => by have := h.1; omega) _ _ _ _ _ _ _ _ _)
 ·exact below_set9 (((hcall.out _ hbR)).alloc (by omega) _) (Nat.le_refl _) _ _ _ _ _ _ _ _ _
theorem plainF_iff (l r : Fo) (vl vr : Value) (w : World) (hol : vl.oneCell' = true) (hor : vr.oneCell' = true)
  (hl : ∀ w', Below w.heap.size w w' → Calls Tryz.prog 16 #[vl] w' (TreePost (plainF l) w')) (hr : ∀ w', Below w.heap.size w w' → Calls Tryz.prog 16 #[vr] w' (TreePost (plainF r) w')) :
  Calls Tryz.prog 16 #[.iface 97 (.agg #[vl, vr])] w (TreePost (plainF (.iff l r)) w) := by
 obtain ⟨W, hW⟩ : ∃ W, (w.alloc (.cells #[.int .i64 0, .bool false, .slice none 0 0, .string ⟨#[]⟩, .int .i64 0, .int .i64 0, .bool false, .bool false, .slice none 0 0] TT)).alloc (.cells #[vl, vr] 97) = W := ⟨_, rfl⟩
 obtain ⟨Tl, hTl⟩ : ∃ T, T = plainF l := ⟨_, rfl⟩
 obtain ⟨Tr', hTr⟩ : ∃ T, T = plainF r := ⟨_, rfl⟩
 have hpl : plainF (.iff l r) = .mk (hd0 14) [Tl, Tr'] := by rw [hTl, hTr]; rfl
 rw [hpl]
 rw [← hTl] at hl
 rw [← hTr] at hr
 have hx : Box w W w.heap.size #[.int .i64 0, .bool false, .slice none 0 0, .string ⟨#[]⟩, .int .i64 0, .int .i64 0, .bool false, .bool false, .slice none 0 0] TT := by rw [← hW]; exact (Box.new w _ _).alloc _
 have hy : Box w W (w.heap.size + 1) #[vl, vr] 97 := by rw [← hW]; exact Box.second w _ _ _
 have hWs : W.heap.size = w.heap.size + 2 := by rw [← hW]; simp
 have HX := h_ hx
 have HY := h_ hy
 have HL := h_ hl
 have HR := h_ hr
 have HWS := h_ hWs
 have HD : Below W.heap.size W W.drew := (Below.refl _ W).drew
 obtain ⟨s0, s1⟩ := hy.c2
 have hstep := h_ (show ∀ wc wn, Below W.heap.size W wc → Below wc.heap.size wc wn → Below W.heap.size W wn from fun wc wn h1 h2 => h1.trans (h2.mono h1.size))
 have hcall := h_ (show ∀ wc, Below W.heap.size W wc → Below w.heap.size w wc from fun wc h => hx.below.trans (h.mono (by omega)))
 clear hl hr hx hy hWs hTl hTr hpl
 go_enter Tryz.func16, Tryz.ntmps16
 go_wp2
 clear hW
 go_region_held3 (fun w' => w'.cell? ⟨w.heap.size + 1, 0, none⟩ = some vl ∧ w'.cell? ⟨w.heap.size + 1, 1, none⟩ = some vr) (go_keep)
  (first | (go_at_call_of 16 vl; refine (HL.out _ (hcall.out _ (by first | exact HD | exact hbR))).mono ?_; rintro e wL ⟨a1, a2, a3, a4, a5, a6, rfl, htL, hbl⟩; have hbL := (by first | exact hstep.out _ _ HD hbl | exact hstep.out _ _ hbR hbl); have HTL := h_ htL; have HBL := h_ hbl; clear htL hbl; obtain ⟨p0, p1⟩ := (HY.out.step hbL).c2; have xc := fun o => ((HX.out.step hbL).alloc o).cell; have xf := fun o => ((HX.out.step hbL).alloc o).fz) | (go_at_call_of 16 vr; refine (HR.out _ (hcall.out _ (by first | exact HD | exact hbL))).mono ?_; rintro e wR ⟨c1, c2, c3, c4, c5, c6, rfl, htR, hbr⟩; have hbR := (by first | exact hstep.out _ _ HD hbr | exact hstep.out _ _ hbL hbr); have HTR := h_ htR; have HBR := h_ hbr; clear htR hbr; obtain ⟨q0, q1⟩ := (HY.out.step hbR).c2; have yc := fun o => ((HX.out.step hbR).alloc o).cell; have yf := fun o => ((HX.out.step hbR).alloc o).fz))
 go_wp2
 refine bodyPost_ret (v := .agg #[.int .i64 14, .bool false, .slice none 0 0, .string ⟨#[]⟩, .int .i64 0, .int .i64 0, .bool false, .bool false, .slice (some ⟨wR.heap.size, 0, none⟩) 2 2]) (by simp [results, Tryz.results16, go_sem, yc, yf]) rfl ?_
 have hws := HWS.out
 have sL := HBL.out.size
 have sR := HBR.out.size
 have sLd : W.drew.heap.size = W.heap.size := rfl
 have hTL2 : TreeAt wR (Fd w 2 wR) Tl _ := TreeAt.more (fun b hb => ⟨by omega, by omega⟩) _ _ (HTL.out.below (fun b hb => hb.2) HBR.out)
 have hTR2 : TreeAt wR (Fd w 2 wR) Tr' _ := TreeAt.more (fun b hb => ⟨by omega, by omega⟩) _ _ HTR.out
 refine ⟨none, 0, 0, some ⟨wR.heap.size, 0, none⟩, 2, 2, rfl, ?_, ?_⟩
 ·have h2 := two_kids (w := w) (hd := hd0 14) (va := .slice none 0 0) (by omega) AbsAt.empty (by decide) hTL2 hTR2 _ rfl
  exact TreeAt.more (fun b hb => ⟨by omega, by rw [size_set9]; exact hb.2⟩) _ _ (h2.set9 (X := w.heap.size) (fun h => by have := h.1; omega) _ _ _ _ _ _ _ _ _)
 ·exact below_set9 (((hcall.out _ hbR)).alloc (by omega) _) (Nat.le_refl _) _ _ _ _ _ _ _ _ _
theorem plainF_not (l : Fo) (vl : Value) (w : World) (hol : vl.oneCell' = true)
  (hl : ∀ w', Below w.heap.size w w' → Calls Tryz.prog 16 #[vl] w' (TreePost (plainF l) w')) :
  Calls Tryz.prog 16 #[.iface 53 (.agg #[vl])] w (TreePost (plainF (.not l)) w) := by
 obtain ⟨W, hW⟩ : ∃ W, (w.alloc (.cells #[.int .i64 0, .bool false, .slice none 0 0, .string ⟨#[]⟩, .int .i64 0, .int .i64 0, .bool false, .bool false, .slice none 0 0] TT)).alloc (.cells #[vl] 53) = W := ⟨_, rfl⟩
 obtain ⟨Tl, hTl⟩ : ∃ T, T = plainF l := ⟨_, rfl⟩
 have hpl : plainF (.not l) = .mk (hd0 10) [Tl] := by rw [hTl]; rfl
 rw [hpl]
 rw [← hTl] at hl
 have hx : Box w W w.heap.size #[.int .i64 0, .bool false, .slice none 0 0, .string ⟨#[]⟩, .int .i64 0, .int .i64 0, .bool false, .bool false, .slice none 0 0] TT := by rw [← hW]; exact (Box.new w _ _).alloc _
 have hy : Box w W (w.heap.size + 1) #[vl] 53 := by rw [← hW]; exact Box.second w _ _ _
 have hWs : W.heap.size = w.heap.size + 2 := by rw [← hW]; simp
 have HX := h_ hx
 have HY := h_ hy
 have HL := h_ hl
 have HWS := h_ hWs
 have HD : Below W.heap.size W W := Below.refl _ W
 have s0 : W.cell? ⟨w.heap.size + 1, 0, none⟩ = some (vl) := hy.cell 0
 have hstep := h_ (show ∀ wc wn, Below W.heap.size W wc → Below wc.heap.size wc wn → Below W.heap.size W wn from fun wc wn h1 h2 => h1.trans (h2.mono h1.size))
 have hcall := h_ (show ∀ wc, Below W.heap.size W wc → Below w.heap.size w wc from fun wc h => hx.below.trans (h.mono (by omega)))
 clear hl hx hy hWs hTl hpl
 go_enter Tryz.func16, Tryz.ntmps16
 go_wp2_with (go_at_call 16; refine (HL.out _ (hcall.out _ HD)).mono ?_; rintro e wL ⟨a1, a2, a3, a4, a5, a6, rfl, htL, hbl⟩; have hbL := hstep.out _ _ HD hbl; have HTL := h_ htL; have HBL := h_ hbl; clear htL hbl; have p0 : wL.cell? ⟨w.heap.size + 1, 0, none⟩ = some (vl) := (HY.out.step hbL).cell 0; have xc := fun o => ((HX.out.step hbL).alloc o).cell; have xf := fun o => ((HX.out.step hbL).alloc o).fz)
 clear hW
 refine bodyPost_ret (v := .agg #[.int .i64 10, .bool false, .slice none 0 0, .string ⟨#[]⟩, .int .i64 0, .int .i64 0, .bool false, .bool false, .slice (some ⟨wL.heap.size, 0, none⟩) 1 1]) (by simp [results, Tryz.results16, go_sem, xc, xf]) rfl ?_
 have hws := HWS.out
 have sL := HBL.out.size
 have sLd : W.heap.size = W.heap.size := rfl
 have hTL2 : TreeAt wL (Fd w 2 wL) Tl _ := TreeAt.more (fun b hb => ⟨by omega, by omega⟩) _ _ HTL.out
 refine ⟨none, 0, 0, some ⟨wL.heap.size, 0, none⟩, 1, 1, rfl, ?_, ?_⟩
 ·have h2 := one_kid (w := w) (hd := hd0 10) (va := .slice none 0 0) (by omega) AbsAt.empty (by decide) hTL2 _ rfl
  exact TreeAt.more (fun b hb => ⟨by omega, by rw [size_set9]; exact hb.2⟩) _ _ (h2.set9 (X := w.heap.size) (fun h => by have := h.1; omega) _ _ _ _ _ _ _ _ _)
 ·exact below_set9 (((hcall.out _ hbL)).alloc (by omega) _) (Nat.le_refl _) _ _ _ _ _ _ _ _ _
theorem plainF_quant (b : Bool) (nm : ByteArray) (hnm : nm.size ≤ 9223372036854775807) (l : Fo) (vl : Value) (w : World) (hol : vl.oneCell' = true)
  (hl : ∀ w', Below w.heap.size w w' → Calls Tryz.prog 16 #[vl] w' (TreePost (plainF l) w')) :
  Calls Tryz.prog 16 #[.iface 99 (.agg #[.bool b, .string nm, vl])] w (TreePost (plainF (.quant b nm l)) w) := by
 obtain ⟨W, hW⟩ : ∃ W, (w.alloc (.cells #[.int .i64 0, .bool false, .slice none 0 0, .string ⟨#[]⟩, .int .i64 0, .int .i64 0, .bool false, .bool false, .slice none 0 0] TT)).alloc (.cells #[.bool b, .string nm, vl] 99) = W := ⟨_, rfl⟩
 obtain ⟨Tl, hTl⟩ : ∃ T, T = plainF l := ⟨_, rfl⟩
 have hpl : plainF (.quant b nm l) = .mk ({ hd0 15 with all := b, name := nm }) [Tl] := by rw [hTl]; rfl
 rw [hpl]
 rw [← hTl] at hl
 have hx : Box w W w.heap.size #[.int .i64 0, .bool false, .slice none 0 0, .string ⟨#[]⟩, .int .i64 0, .int .i64 0, .bool false, .bool false, .slice none 0 0] TT := by rw [← hW]; exact (Box.new w _ _).alloc _
 have hy : Box w W (w.heap.size + 1) #[.bool b, .string nm, vl] 99 := by rw [← hW]; exact Box.second w _ _ _
 have hWs : W.heap.size = w.heap.size + 2 := by rw [← hW]; simp
 have HX := h_ hx
 have HY := h_ hy
 have HL := h_ hl
 have HWS := h_ hWs
 have HD : Below W.heap.size W W.drew := (Below.refl _ W).drew
 have s0 : W.cell? ⟨w.heap.size + 1, 0, none⟩ = some (.bool b) := hy.cell 0
 have s1 : W.cell? ⟨w.heap.size + 1, 1, none⟩ = some (.string nm) := hy.cell 1
 have s2 : W.cell? ⟨w.heap.size + 1, 2, none⟩ = some (vl) := hy.cell 2
 have hstep := h_ (show ∀ wc wn, Below W.heap.size W wc → Below wc.heap.size wc wn → Below W.heap.size W wn from fun wc wn h1 h2 => h1.trans (h2.mono h1.size))
 have hcall := h_ (show ∀ wc, Below W.heap.size W wc → Below w.heap.size w wc from fun wc h => hx.below.trans (h.mono (by omega)))
 clear hl hx hy hWs hTl hpl
 go_enter Tryz.func16, Tryz.ntmps16
 go_wp2
 clear hW
 go_region_held3 (fun w' => w'.cell? ⟨w.heap.size + 1, 0, none⟩ = some (.bool b) ∧ w'.cell? ⟨w.heap.size + 1, 1, none⟩ = some (.string nm) ∧ w'.cell? ⟨w.heap.size + 1, 2, none⟩ = some (vl)) (go_keep)
  (first | (go_at_call 16; refine (HL.out _ (hcall.out _ HD)).mono ?_; rintro e wL ⟨a1, a2, a3, a4, a5, a6, rfl, htL, hbl⟩; have hbL := hstep.out _ _ HD hbl; have HTL := h_ htL; have HBL := h_ hbl; clear htL hbl; have p0 : wL.cell? ⟨w.heap.size + 1, 0, none⟩ = some (.bool b) := (HY.out.step hbL).cell 0; have p1 : wL.cell? ⟨w.heap.size + 1, 1, none⟩ = some (.string nm) := (HY.out.step hbL).cell 1; have p2 : wL.cell? ⟨w.heap.size + 1, 2, none⟩ = some (vl) := (HY.out.step hbL).cell 2; have xc := fun o => ((HX.out.step hbL).alloc o).cell; have xf := fun o => ((HX.out.step hbL).alloc o).fz))
 go_wp2
 all_goals
  refine bodyPost_ret (v := .agg #[.int .i64 15, .bool false, .slice none 0 0, .string nm, .int .i64 0, .int .i64 0, .bool false, .bool b, .slice (some ⟨wL.heap.size, 0, none⟩) 1 1]) (by simp [results, Tryz.results16, go_sem, xc, xf]) rfl ?_
  have hws := HWS.out
  have sL := HBL.out.size
  have sLd : W.drew.heap.size = W.heap.size := rfl
  have hTL2 : TreeAt wL (Fd w 2 wL) Tl _ := TreeAt.more (fun b hb => ⟨by omega, by omega⟩) _ _ HTL.out
  refine ⟨none, 0, 0, some ⟨wL.heap.size, 0, none⟩, 1, 1, rfl, ?_, ?_⟩
  ·have h2 := one_kid (w := w) (hd := { hd0 15 with all := b, name := nm }) (va := .slice none 0 0) (by omega) AbsAt.empty hnm hTL2 _ rfl
   exact TreeAt.more (fun b hb => ⟨by omega, by rw [size_set9]; exact hb.2⟩) _ _ (h2.set9 (X := w.heap.size) (fun h => by have := h.1; omega) _ _ _ _ _ _ _ _ _)
  ·exact below_set9 (((hcall.out _ hbL)).alloc (by omega) _) (Nat.le_refl _) _ _ _ _ _ _ _ _ _
theorem plainF_atom (l r : Tm) (rel q : Int) (hq : q = relR rel) (vl vr : Value) (w : World) (hol : vl.oneCell' = true) (hor : vr.oneCell' = true)
  (hl : ∀ w', Below w.heap.size w w' → Calls Tryz.prog 39 #[vl] w' (TreePost (plainT l) w')) (hr : ∀ w', Below w.heap.size w w' → Calls Tryz.prog 39 #[vr] w' (TreePost (plainT r) w')) :
  Calls Tryz.prog 16 #[.iface 51 (.agg #[vl, .int .i64 rel, vr])] w (TreePost (plainF (.atom l rel r)) w) := by
 obtain ⟨W, hW⟩ : ∃ W, (w.alloc (.cells #[.int .i64 0, .bool false, .slice none 0 0, .string ⟨#[]⟩, .int .i64 0, .int .i64 0, .bool false, .bool false, .slice none 0 0] TT)).alloc (.cells #[vl, .int .i64 rel, vr] 51) = W := ⟨_, rfl⟩
 obtain ⟨Tl, hTl⟩ : ∃ T, T = plainT l := ⟨_, rfl⟩
 obtain ⟨Tr', hTr⟩ : ∃ T, T = plainT r := ⟨_, rfl⟩
 have hpl : plainF (.atom l rel r) = .mk { hd0 9 with rel := q } [Tl, Tr'] := by rw [hTl, hTr, hq]; rfl
 rw [hpl]
 rw [← hTl] at hl
 rw [← hTr] at hr
 have hx : Box w W w.heap.size #[.int .i64 0, .bool false, .slice none 0 0, .string ⟨#[]⟩, .int .i64 0, .int .i64 0, .bool false, .bool false, .slice none 0 0] TT := by rw [← hW]; exact (Box.new w _ _).alloc _
 have hy : Box w W (w.heap.size + 1) #[vl, .int .i64 rel, vr] 51 := by rw [← hW]; exact Box.second w _ _ _
 have hWs : W.heap.size = w.heap.size + 2 := by rw [← hW]; simp
 have HX := h_ hx
 have HY := h_ hy
 have HL := h_ hl
 have HR := h_ hr
 have HWS := h_ hWs
 have HD : Below W.heap.size W W.drew := (Below.refl _ W).drew
 have s0 : W.cell? ⟨w.heap.size + 1, 0, none⟩ = some vl := hy.cell 0
 have s1 : W.cell? ⟨w.heap.size + 1, 1, none⟩ = some (.int .i64 rel) := hy.cell 1
 have s2 : W.cell? ⟨w.heap.size + 1, 2, none⟩ = some vr := hy.cell 2
 have HQ := h_ hq
 have hstep := h_ (show ∀ wc wn, Below W.heap.size W wc → Below wc.heap.size wc wn → Below W.heap.size W wn from fun wc wn h1 h2 => h1.trans (h2.mono h1.size))
 have hcall := h_ (show ∀ wc, Below W.heap.size W wc → Below w.heap.size w wc from fun wc h => hx.below.trans (h.mono (by omega)))
 clear hl hr hx hy hWs hTl hTr hpl hq
 go_enter Tryz.func16, Tryz.ntmps16
 go_wp2
 clear hW
 go_region_held3 (fun w' => w'.cell? ⟨w.heap.size + 1, 0, none⟩ = some vl ∧ w'.cell? ⟨w.heap.size + 1, 1, none⟩ = some (.int .i64 rel) ∧ w'.cell? ⟨w.heap.size + 1, 2, none⟩ = some vr) (go_keep)
  (first | (go_at_call 38; refine (relation_any rel q _ HQ.out).mono ?_; rintro e w' ⟨rfl, rfl⟩) | (go_at_call_of 39 vl; refine (HL.out _ (hcall.out _ (by first | exact HD | exact hbR))).mono ?_; rintro e wL ⟨a1, a2, a3, a4, a5, a6, rfl, htL, hbl⟩; have hbL := (by first | exact hstep.out _ _ HD hbl | exact hstep.out _ _ hbR hbl); have HTL := h_ htL; have HBL := h_ hbl; clear htL hbl; have p0 : wL.cell? ⟨w.heap.size + 1, 0, none⟩ = some vl := (HY.out.step hbL).cell 0; have p1 : wL.cell? ⟨w.heap.size + 1, 1, none⟩ = some (.int .i64 rel) := (HY.out.step hbL).cell 1; have p2 : wL.cell? ⟨w.heap.size + 1, 2, none⟩ = some vr := (HY.out.step hbL).cell 2; have xc := fun o => ((HX.out.step hbL).alloc o).cell; have xf := fun o => ((HX.out.step hbL).alloc o).fz) | (go_at_call_of 39 vr; refine (HR.out _ (hcall.out _ (by first | exact HD | exact hbL))).mono ?_; rintro e wR ⟨c1, c2, c3, c4, c5, c6, rfl, htR, hbr⟩; have hbR := (by first | exact hstep.out _ _ HD hbr | exact hstep.out _ _ hbL hbr); have HTR := h_ htR; have HBR := h_ hbr; clear htR hbr; have q0 : wR.cell? ⟨w.heap.size + 1, 0, none⟩ = some vl := (HY.out.step hbR).cell 0; have q1 : wR.cell? ⟨w.heap.size + 1, 1, none⟩ = some (.int .i64 rel) := (HY.out.step hbR).cell 1; have q2 : wR.cell? ⟨w.heap.size + 1, 2, none⟩ = some vr := (HY.out.step hbR).cell 2; have yc := fun o => ((HX.out.step hbR).alloc o).cell; have yf := fun o => ((HX.out.step hbR).alloc o).fz))
 go_wp2
 refine bodyPost_ret (v := .agg #[.int .i64 9, .bool false, .slice none 0 0, .string ⟨#[]⟩, .int .i64 0, .int .i64 q, .bool false, .bool false, .slice (some ⟨wR.heap.size, 0, none⟩) 2 2]) (by simp [results, Tryz.results16, go_sem, yc, yf]) rfl ?_
 have hws := HWS.out
 have sL := HBL.out.size
 have sR := HBR.out.size
 have sLd : W.drew.heap.size = W.heap.size := rfl
 have hTL2 : TreeAt wR (Fd w 2 wR) Tl _ := TreeAt.more (fun b hb => ⟨by omega, by omega⟩) _ _ (HTL.out.below (fun b hb => hb.2) HBR.out)
 have hTR2 : TreeAt wR (Fd w 2 wR) Tr' _ := TreeAt.more (fun b hb => ⟨by omega, by omega⟩) _ _ HTR.out
 refine ⟨none, 0, 0, some ⟨wR.heap.size, 0, none⟩, 2, 2, rfl, ?_, ?_⟩
 ·have h2 := two_kids (w := w) (hd := { hd0 9 with rel := q }) (va := .slice none 0 0) (by omega) AbsAt.empty (show (⟨#[]⟩ : ByteArray).size ≤ _ from by decide) hTL2 hTR2 _ rfl
  exact TreeAt.more (fun b hb => ⟨by omega, by rw [size_set9]; exact hb.2⟩) _ _ (h2.set9 (X := w.heap.size) (fun h => by have := h.1; omega) _ _ _ _ _ _ _ _ _)
 ·exact below_set9 (((hcall.out _ hbR)).alloc (by omega) _) (Nat.le_refl _) _ _ _ _ _ _ _ _ _
theorem plainF_truth (b : Bool) (w : World) :
  Calls Tryz.prog 16 #[.iface 75 (.agg #[.bool b])] w (TreePost (plainF (.truth b)) w) := by
 obtain ⟨W, hW⟩ : ∃ W, (w.alloc (.cells #[.int .i64 0, .bool false, .slice none 0 0, .string ⟨#[]⟩, .int .i64 0, .int .i64 0, .bool false, .bool false, .slice none 0 0] TT)).alloc (.cells #[.bool b] 75) = W := ⟨_, rfl⟩
 have hx : Box w W w.heap.size #[.int .i64 0, .bool false, .slice none 0 0, .string ⟨#[]⟩, .int .i64 0, .int .i64 0, .bool false, .bool false, .slice none 0 0] TT := by rw [← hW]; exact (Box.new w _ _).alloc _
 have s0 : W.cell? ⟨w.heap.size + 1, 0, none⟩ = some (.bool b) := by (have hy : Box w W (w.heap.size + 1) #[.bool b] 75 := (by rw [← hW]; exact Box.second w _ _ _); exact hy.cell 0)
 have HX := h_ hx
 have xc := hx.cell
 have xf := hx.fz
 clear hx
 go_enter Tryz.func16, Tryz.ntmps16
 go_wp2
 clear hW
 refine bodyPost_ret (v := .agg #[.int .i64 8, .bool false, .slice none 0 0, .string ⟨#[]⟩, .int .i64 0, .int .i64 0, .bool b, .bool false, .slice none 0 0]) (by simp [results, Tryz.results16, go_sem, xc, xf]) rfl ?_
 refine ⟨none, 0, 0, none, 0, 0, rfl, ?_, ?_⟩
 ·have h2 : TreeAt W (fun _ => False) (.mk { hd0 8 with truth := b } []) (hdC { hd0 8 with truth := b } (.slice none 0 0) (.slice none 0 0)) := no_kids AbsAt.empty (show (⟨#[]⟩ : ByteArray).size ≤ _ from by decide)
  exact TreeAt.more (fun b hb => False.elim hb) _ _ (h2.set9 (X := w.heap.size) (fun h => h) _ _ _ _ _ _ _ _ _)
 ·exact below_set9 HX.out.below (Nat.le_refl _) _ _ _ _ _ _ _ _ _
theorem plainF_odd (v : Value) (w : World) (h : OddV v) : Calls Tryz.prog 16 #[v] w (TreePost (plainF .odd) w) := by
 obtain ⟨W, hW⟩ : ∃ W, w.alloc (.cells #[.int .i64 0, .bool false, .slice none 0 0, .string ⟨#[]⟩, .int .i64 0, .int .i64 0, .bool false, .bool false, .slice none 0 0] TT) = W := ⟨_, rfl⟩
 have hx : Box w W w.heap.size #[.int .i64 0, .bool false, .slice none 0 0, .string ⟨#[]⟩, .int .i64 0, .int .i64 0, .bool false, .bool false, .slice none 0 0] TT := by rw [← hW]; exact Box.new w _ _
 have HX := h_ hx
 have xc := hx.cell
 have xf := hx.fz
 clear hx
 have fin : ∀ v0 : Value, v0 = .agg #[.int .i64 8, .bool false, .slice none 0 0, .string ⟨#[]⟩, .int .i64 0, .int .i64 0, .bool false, .bool false, .slice none 0 0] → TreePost (plainF .odd) w (.returned v0) (set9 W w.heap.size (.int .i64 8) (.bool false) (.slice none 0 0) (.string ⟨#[]⟩) (.int .i64 0) (.int .i64 0) (.bool false) (.bool false) (.slice none 0 0)) := by
  rintro v0 rfl
  refine ⟨none, 0, 0, none, 0, 0, rfl, ?_, below_set9 HX.out.below (Nat.le_refl _) _ _ _ _ _ _ _ _ _⟩
  have h2 : TreeAt W (fun _ => False) (.mk (hd0 8) []) (hdC (hd0 8) (.slice none 0 0) (.slice none 0 0)) := no_kids AbsAt.empty (by decide)
  exact TreeAt.more (fun b hb => False.elim hb) _ _ (h2.set9 (X := w.heap.size) (fun h => h) _ _ _ _ _ _ _ _ _)
 have Fin := h_ fin
 clear fin
 rcases h with rfl | ⟨u, a, rfl, hu⟩
 ·go_enter Tryz.func16, Tryz.ntmps16
  go_wp2
  clear hW
  exact bodyPost_ret (v := .agg #[.int .i64 8, .bool false, .slice none 0 0, .string ⟨#[]⟩, .int .i64 0, .int .i64 0, .bool false, .bool false, .slice none 0 0]) (by simp [results, Tryz.results16, go_sem, xc, xf]) rfl (Fin.out _ rfl)
 ·simp only [List.mem_cons, List.not_mem_nil, or_false, not_or] at hu
  obtain ⟨_, _, _, _, _, _, _, u1, u2, u3, u4, u5, u6, u7, u8⟩ := hu
  go_enter Tryz.func16, Tryz.ntmps16
  go_wp2
  clear hW
  exact bodyPost_ret (v := .agg #[.int .i64 8, .bool false, .slice none 0 0, .string ⟨#[]⟩, .int .i64 0, .int .i64 0, .bool false, .bool false, .slice none 0 0]) (by simp [results, Tryz.results16, go_sem, xc, xf]) rfl (Fin.out _ rfl)
theorem plain_any : ∀ (t : Fo) (v : Value) (S : Nat → Prop) (w : World), (∀ b, S b → b < w.heap.size) → FoAt w S t v → SmF t → Calls Tryz.prog 16 #[v] w (TreePost (plainF t) w) := by
 intro t
 induction t with
 | odd => intro v S w hS h hs; exact plainF_odd v w h
 | truth b => intro v S w hS h hs; cases h; exact plainF_truth b w
 | atom l rel r =>
  rintro v S w hS ⟨vl, vr, rfl, h1, h2⟩ hs
  exact plainF_atom l r rel _ rfl vl vr w h1.one h2.one (fun w' hb => plainTerm_any l vl S w' (fun b hb' => Nat.lt_of_lt_of_le (hS b hb') hb.size) (h1.below hS hb) hs.1) (fun w' hb => plainTerm_any r vr S w' (fun b hb' => Nat.lt_of_lt_of_le (hS b hb') hb.size) (h2.below hS hb) hs.2)
 | and l r il ir =>
  rintro v S w hS ⟨vl, vr, rfl, h1, h2⟩ hs
  exact plainF_and l r vl vr w h1.one h2.one (fun w' hb => il vl S w' (fun b hb' => Nat.lt_of_lt_of_le (hS b hb') hb.size) (h1.below hS hb) hs.1) (fun w' hb => ir vr S w' (fun b hb' => Nat.lt_of_lt_of_le (hS b hb') hb.size) (h2.below hS hb) hs.2)
 | or l r il ir =>
  rintro v S w hS ⟨vl, vr, rfl, h1, h2⟩ hs
  exact plainF_or l r vl vr w h1.one h2.one (fun w' hb => il vl S w' (fun b hb' => Nat.lt_of_lt_of_le (hS b hb') hb.size) (h1.below hS hb) hs.1) (fun w' hb => ir vr S w' (fun b hb' => Nat.lt_of_lt_of_le (hS b hb') hb.size) (h2.below hS hb) hs.2)
 | implies l r il ir =>
  rintro v S w hS ⟨vl, vr, rfl, h1, h2⟩ hs
  exact plainF_implies l r vl vr w h1.one h2.one (fun w' hb => il vl S w' (fun b hb' => Nat.lt_of_lt_of_le (hS b hb') hb.size) (h1.below hS hb) hs.1) (fun w' hb => ir vr S w' (fun b hb' => Nat.lt_of_lt_of_le (hS b hb') hb.size) (h2.below hS hb) hs.2)
 | iff l r il ir =>
  rintro v S w hS ⟨vl, vr, rfl, h1, h2⟩ hs
  exact plainF_iff l r vl vr w h1.one h2.one (fun w' hb => il vl S w' (fun b hb' => Nat.lt_of_lt_of_le (hS b hb') hb.size) (h1.below hS hb) hs.1) (fun w' hb => ir vr S w' (fun b hb' => Nat.lt_of_lt_of_le (hS b hb') hb.size) (h2.below hS hb) hs.2)
 | not f it =>
  rintro v S w hS ⟨vt, rfl, h1⟩ hs
  exact plainF_not f vt w h1.one (fun w' hb => it vt S w' (fun b hb' => Nat.lt_of_lt_of_le (hS b hb') hb.size) (h1.below hS hb) hs)
 | quant all nm f it =>
  rintro v S w hS ⟨vt, rfl, hn, h1⟩ hs
  exact plainF_quant all nm hn f vt w h1.one (fun w' hb => it vt S w' (fun b hb' => Nat.lt_of_lt_of_le (hS b hb') hb.size) (h1.below hS hb) hs)
end Fm
end Go.Proofs.YteneobpacobpdaaGreatDoor
