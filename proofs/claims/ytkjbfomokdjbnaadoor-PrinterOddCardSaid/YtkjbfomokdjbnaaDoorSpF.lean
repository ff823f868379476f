/-
  formula.Plain: its tree may be changed in place.
-/
import Derived.Test.YtkjbfomokdjbnaaDoorSpT
import Derived.Test.YtkjbfomokdjbnaaDoorFmPF
namespace Go.Proofs.YtkjbfomokdjbnaaDoor
open Go.RowKit
set_option linter.unusedSimpArgs false
set_option linter.unusedVariables false
namespace Fm
attribute [local go_sem] run_store taTruth_yes taTruth_no taTruth_nil taAtom_yes taAtom_no taAtom_nil taNot_yes taNot_no taNot_nil taAnd_yes taAnd_no taAnd_nil taOr_yes taOr_no taOr_nil taImplies_yes taImplies_no taImplies_nil taIff_yes taIff_no taIff_nil taQuant_yes taQuant_no taQuant_nil
set_option maxRecDepth 100000 in
set_option maxHeartbeats 4000000 in
theorem spF_and (l r : Fo) (vl vr : Value) (w : World) (hol : vl.oneCell' = true) (hor : vr.oneCell' = true)
    (hl : ∀ w', Below w.heap.size w w' → Calls Tryd.prog 16 #[vl] w' (SpPost (plainF l) w')) (hr : ∀ w', Below w.heap.size w w' → Calls Tryd.prog 16 #[vr] w' (SpPost (plainF r) w')) :
    Calls Tryd.prog 16 #[.iface 53 (.agg #[vl, vr])] w (SpPost (plainF (.and l r)) w) := by
  obtain ⟨W, hW⟩ : ∃ W, (w.alloc (.cells #[.int .i64 0, .bool false, .slice none 0 0, .string ⟨#[]⟩, .int .i64 0, .int .i64 0, .bool false, .bool false, .slice none 0 0] TT)).alloc (.cells #[vl, vr] 53) = W := ⟨_, rfl⟩
  obtain ⟨Tl, hTl⟩ : ∃ T, T = plainF l := ⟨_, rfl⟩
  obtain ⟨Tr', hTr⟩ : ∃ T, T = plainF r := ⟨_, rfl⟩
  have hpl : plainF (.and l r) = .mk (hd0 11) [Tl, Tr'] := by rw [hTl, hTr]; rfl
  rw [hpl]
  rw [← hTl] at hl
  rw [← hTr] at hr
  have hx : Box w W w.heap.size #[.int .i64 0, .bool false, .slice none 0 0, .string ⟨#[]⟩, .int .i64 0, .int .i64 0, .bool false, .bool false, .slice none 0 0] TT := by rw [← hW]; exact (Box.new w _ _).alloc _
  have hy : Box w W (w.heap.size + 1) #[vl, vr] 53 := by rw [← hW]; exact Box.second w _ _ _
  have hWs : W.heap.size = w.heap.size + 2 := by rw [← hW]; simp
  have HX := Lib.hid hx
  have HY := Lib.hid hy
  have HL := Lib.hid hl
  have HR := Lib.hid hr
  have HWS := Lib.hid hWs
  have HD : Below W.heap.size W W.drew := (Below.refl _ W).drew
  obtain ⟨s0, s1⟩ := hy.c2
  have hstep := Lib.hid (show ∀ wc wn, Below W.heap.size W wc → Below wc.heap.size wc wn → Below W.heap.size W wn from fun wc wn h1 h2 => h1.trans (h2.mono h1.size))
  have hcall := Lib.hid (show ∀ wc, Below W.heap.size W wc → Below w.heap.size w wc from fun wc h => hx.below.trans (h.mono (by omega)))
  clear hl hr hx hy hWs hTl hTr hpl
  go_enter Tryd.func16, Tryd.ntmps16
  go_wp2
  clear hW
  go_region_held3 (fun w' => w'.cell? ⟨w.heap.size + 1, 0, none⟩ = some vl ∧ w'.cell? ⟨w.heap.size + 1, 1, none⟩ = some vr) (go_keep)
    (first | (go_at_call_of 16 vl; refine (HL.out _ (hcall.out _ (by first | exact HD | exact hbR))).mono ?_; rintro e wL ⟨a1, a2, a3, a4, a5, a6, rfl, htL, hbl⟩; have hbL := (by first | exact hstep.out _ _ HD hbl | exact hstep.out _ _ hbR hbl); have HTL := Lib.hid htL; have HBL := Lib.hid hbl; clear htL hbl; obtain ⟨p0, p1⟩ := (HY.out.step hbL).c2; have xc := fun o => ((HX.out.step hbL).alloc o).cell; have xf := fun o => ((HX.out.step hbL).alloc o).fz) | (go_at_call_of 16 vr; refine (HR.out _ (hcall.out _ (by first | exact HD | exact hbL))).mono ?_; rintro e wR ⟨c1, c2, c3, c4, c5, c6, rfl, htR, hbr⟩; have hbR := (by first | exact hstep.out _ _ HD hbr | exact hstep.out _ _ hbL hbr); have HTR := Lib.hid htR; have HBR := Lib.hid hbr; clear htR hbr; obtain ⟨q0, q1⟩ := (HY.out.step hbR).c2; have yc := fun o => ((HX.out.step hbR).alloc o).cell; have yf := fun o => ((HX.out.step hbR).alloc o).fz))
  go_wp2
  refine bodyPost_ret (v := .agg #[.int .i64 11, .bool false, .slice none 0 0, .string ⟨#[]⟩, .int .i64 0, .int .i64 0, .bool false, .bool false, .slice (some ⟨wR.heap.size, 0, none⟩) 2 2]) (by simp [results, Tryd.results16, go_sem, yc, yf]) rfl ?_
  have hws := HWS.out
  have sL := HBL.out.size
  have sR := HBR.out.size
  have sLd : W.drew.heap.size = W.heap.size := rfl
  have hTL2 : TreeSp wR (Fr W.drew wL) Tl _ := HTL.out.below (fun b hb => hb.2) HBR.out
  have hTR2 := HTR.out
  refine ⟨none, 0, 0, some ⟨wR.heap.size, 0, none⟩, 2, 2, rfl, ?_, ?_⟩
  · have h2 := two_sp (hd := hd0 11) rfl (by decide) hTL2 hTR2 (fun x h1 h2 => by have := h1.2; have := h2.1; omega) (fun x hx => by rcases hx with hx | hx <;> (have := hx.2; omega)) _ rfl
    refine TreeSp.more (fun b hb => ⟨by rcases hb with (⟨h5, h6⟩ | ⟨h5, h6⟩) | h5 <;> omega, by rw [size_set9]; simp only [World.alloc_size']; rcases hb with (⟨h5, h6⟩ | ⟨h5, h6⟩) | h5 <;> omega⟩) (h2.set9 (X := w.heap.size) (fun hb => by rcases hb with (⟨h5, h6⟩ | ⟨h5, h6⟩) | h5 <;> omega) _ _ _ _ _ _ _ _ _)
  · exact below_set9 (((hcall.out _ hbR)).alloc (by omega) _) (Nat.le_refl _) _ _ _ _ _ _ _ _ _


set_option maxRecDepth 100000 in
set_option maxHeartbeats 4000000 in
theorem spF_or (l r : Fo) (vl vr : Value) (w : World) (hol : vl.oneCell' = true) (hor : vr.oneCell' = true)
    (hl : ∀ w', Below w.heap.size w w' → Calls Tryd.prog 16 #[vl] w' (SpPost (plainF l) w')) (hr : ∀ w', Below w.heap.size w w' → Calls Tryd.prog 16 #[vr] w' (SpPost (plainF r) w')) :
    Calls Tryd.prog 16 #[.iface 94 (.agg #[vl, vr])] w (SpPost (plainF (.or l r)) w) := by
  obtain ⟨W, hW⟩ : ∃ W, (w.alloc (.cells #[.int .i64 0, .bool false, .slice none 0 0, .string ⟨#[]⟩, .int .i64 0, .int .i64 0, .bool false, .bool false, .slice none 0 0] TT)).alloc (.cells #[vl, vr] 94) = W := ⟨_, rfl⟩
  obtain ⟨Tl, hTl⟩ : ∃ T, T = plainF l := ⟨_, rfl⟩
  obtain ⟨Tr', hTr⟩ : ∃ T, T = plainF r := ⟨_, rfl⟩
  have hpl : plainF (.or l r) = .mk (hd0 12) [Tl, Tr'] := by rw [hTl, hTr]; rfl
  rw [hpl]
  rw [← hTl] at hl
  rw [← hTr] at hr
  have hx : Box w W w.heap.size #[.int .i64 0, .bool false, .slice none 0 0, .string ⟨#[]⟩, .int .i64 0, .int .i64 0, .bool false, .bool false, .slice none 0 0] TT := by rw [← hW]; exact (Box.new w _ _).alloc _
  have hy : Box w W (w.heap.size + 1) #[vl, vr] 94 := by rw [← hW]; exact Box.second w _ _ _
  have hWs : W.heap.size = w.heap.size + 2 := by rw [← hW]; simp
  have HX := Lib.hid hx
  have HY := Lib.hid hy
  have HL := Lib.hid hl
  have HR := Lib.hid hr
  have HWS := Lib.hid hWs
  have HD : Below W.heap.size W W.drew := (Below.refl _ W).drew
  obtain ⟨s0, s1⟩ := hy.c2
  have hstep := Lib.hid (show ∀ wc wn, Below W.heap.size W wc → Below wc.heap.size wc wn → Below W.heap.size W wn from fun wc wn h1 h2 => h1.trans (h2.mono h1.size))
  have hcall := Lib.hid (show ∀ wc, Below W.heap.size W wc → Below w.heap.size w wc from fun wc h => hx.below.trans (h.mono (by omega)))
  clear hl hr hx hy hWs hTl hTr hpl
  go_enter Tryd.func16, Tryd.ntmps16
  go_wp2
  clear hW
  go_region_held3 (fun w' => w'.cell? ⟨w.heap.size + 1, 0, none⟩ = some vl ∧ w'.cell? ⟨w.heap.size + 1, 1, none⟩ = some vr) (go_keep)
    (first | (go_at_call_of 16 vl; refine (HL.out _ (hcall.out _ (by first | exact HD | exact hbR))).mono ?_; rintro e wL ⟨a1, a2, a3, a4, a5, a6, rfl, htL, hbl⟩; have hbL := (by first | exact hstep.out _ _ HD hbl | exact hstep.out _ _ hbR hbl); have HTL := Lib.hid htL; have HBL := Lib.hid hbl; clear htL hbl; obtain ⟨p0, p1⟩ := (HY.out.step hbL).c2; have xc := fun o => ((HX.out.step hbL).alloc o).cell; have xf := fun o => ((HX.out.step hbL).alloc o).fz) | (go_at_call_of 16 vr; refine (HR.out _ (hcall.out _ (by first | exact HD | exact hbL))).mono ?_; rintro e wR ⟨c1, c2, c3, c4, c5, c6, rfl, htR, hbr⟩; have hbR := (by first | exact hstep.out _ _ HD hbr | exact hstep.out _ _ hbL hbr); have HTR := Lib.hid htR; have HBR := Lib.hid hbr; clear htR hbr; obtain ⟨q0, q1⟩ := (HY.out.step hbR).c2; have yc := fun o => ((HX.out.step hbR).alloc o).cell; have yf := fun o => ((HX.out.step hbR).alloc o).fz))
  go_wp2
  refine bodyPost_ret (v := .agg #[.int .i64 12, .bool false, .slice none 0 0, .string ⟨#[]⟩, .int .i64 0, .int .i64 0, .bool false, .bool false, .slice (some ⟨wR.heap.size, 0, none⟩) 2 2]) (by simp [results, Tryd.results16, go_sem, yc, yf]) rfl ?_
  have hws := HWS.out
  have sL := HBL.out.size
  have sR := HBR.out.size
  have sLd : W.drew.heap.size = W.heap.size := rfl
  have hTL2 : TreeSp wR (Fr W.drew wL) Tl _ := HTL.out.below (fun b hb => hb.2) HBR.out
  have hTR2 := HTR.out
  refine ⟨none, 0, 0, some ⟨wR.heap.size, 0, none⟩, 2, 2, rfl, ?_, ?_⟩
  · have h2 := two_sp (hd := hd0 12) rfl (by decide) hTL2 hTR2 (fun x h1 h2 => by have := h1.2; have := h2.1; omega) (fun x hx => by rcases hx with hx | hx <;> (have := hx.2; omega)) _ rfl
    refine TreeSp.more (fun b hb => ⟨by rcases hb with (⟨h5, h6⟩ | ⟨h5, h6⟩) | h5 <;> omega, by rw [size_set9]; simp only [World.alloc_size']; rcases hb with (⟨h5, h6⟩ | ⟨h5, h6⟩) | h5 <;> omega⟩) (h2.set9 (X := w.heap.size) (fun hb => by rcases hb with (⟨h5, h6⟩ | ⟨h5, h6⟩) | h5 <;> omega) _ _ _ _ _ _ _ _ _)
  · exact below_set9 (((hcall.out _ hbR)).alloc (by omega) _) (Nat.le_refl _) _ _ _ _ _ _ _ _ _


set_option maxRecDepth 100000 in
set_option maxHeartbeats 4000000 in
theorem spF_implies (l r : Fo) (vl vr : Value) (w : World) (hol : vl.oneCell' = true) (hor : vr.oneCell' = true)
    (hl : ∀ w', Below w.heap.size w w' → Calls Tryd.prog 16 #[vl] w' (SpPost (plainF l) w')) (hr : ∀ w', Below w.heap.size w w' → Calls Tryd.prog 16 #[vr] w' (SpPost (plainF r) w')) :
    Calls Tryd.prog 16 #[.iface 95 (.agg #[vl, vr])] w (SpPost (plainF (.implies l r)) w) := by
  obtain ⟨W, hW⟩ : ∃ W, (w.alloc (.cells #[.int .i64 0, .bool false, .slice none 0 0, .string ⟨#[]⟩, .int .i64 0, .int .i64 0, .bool false, .bool false, .slice none 0 0] TT)).alloc (.cells #[vl, vr] 95) = W := ⟨_, rfl⟩
  obtain ⟨Tl, hTl⟩ : ∃ T, T = plainF l := ⟨_, rfl⟩
  obtain ⟨Tr', hTr⟩ : ∃ T, T = plainF r := ⟨_, rfl⟩
  have hpl : plainF (.implies l r) = .mk (hd0 13) [Tl, Tr'] := by rw [hTl, hTr]; rfl
  rw [hpl]
  rw [← hTl] at hl
  rw [← hTr] at hr
  have hx : Box w W w.heap.size #[.int .i64 0, .bool false, .slice none 0 0, .string ⟨#[]⟩, .int .i64 0, .int .i64 0, .bool false, .bool false, .slice none 0 0] TT := by rw [← hW]; exact (Box.new w _ _).alloc _
  have hy : Box w W (w.heap.size + 1) #[vl, vr] 95 := by rw [← hW]; exact Box.second w _ _ _
  have hWs : W.heap.size = w.heap.size + 2 := by rw [← hW]; simp
  have HX := Lib.hid hx
  have HY := Lib.hid hy
  have HL := Lib.hid hl
  have HR := Lib.hid hr
  have HWS := Lib.hid hWs
  have HD : Below W.heap.size W W.drew := (Below.refl _ W).drew
  obtain ⟨s0, s1⟩ := hy.c2
  have hstep := Lib.hid (show ∀ wc wn, Below W.heap.size W wc → Below wc.heap.size wc wn → Below W.heap.size W wn from fun wc wn h1 h2 => h1.trans (h2.mono h1.size))
  have hcall := Lib.hid (show ∀ wc, Below W.heap.size W wc → Below w.heap.size w wc from fun wc h => hx.below.trans (h.mono (by omega)))
  clear hl hr hx hy hWs hTl hTr hpl
  go_enter Tryd.func16, Tryd.ntmps16
  go_wp2
  clear hW
  go_region_held3 (fun w' => w'.cell? ⟨w.heap.size + 1, 0, none⟩ = some vl ∧ w'.cell? ⟨w.heap.size + 1, 1, none⟩ = some vr) (go_keep)
    (first | (go_at_call_of 16 vl; refine (HL.out _ (hcall.out _ (by first | exact HD | exact hbR))).mono ?_; rintro e wL ⟨a1, a2, a3, a4, a5, a6, rfl, htL, hbl⟩; have hbL := (by first | exact hstep.out _ _ HD hbl | exact hstep.out _ _ hbR hbl); have HTL := Lib.hid htL; have HBL := Lib.hid hbl; clear htL hbl; obtain ⟨p0, p1⟩ := (HY.out.step hbL).c2; have xc := fun o => ((HX.out.step hbL).alloc o).cell; have xf := fun o => ((HX.out.step hbL).alloc o).fz) | (go_at_call_of 16 vr; refine (HR.out _ (hcall.out _ (by first | exact HD | exact hbL))).mono ?_; rintro e wR ⟨c1, c2, c3, c4, c5, c6, rfl, htR, hbr⟩; have hbR := (by first | exact hstep.out _ _ HD hbr | exact hstep.out _ _ hbL hbr); have HTR := Lib.hid htR; have HBR := Lib.hid hbr; clear htR hbr; obtain ⟨q0, q1⟩ := (HY.out.step hbR).c2; have yc := fun o => ((HX.out.step hbR).alloc o).cell; have yf := fun o => ((HX.out.step hbR).alloc o).fz))
  go_wp2
  refine bodyPost_ret (v := .agg #[.int .i64 13, .bool false, .slice none 0 0, .string ⟨#[]⟩, .int .i64 0, .int .i64 0, .bool false, .bool false, .slice (some ⟨wR.heap.size, 0, none⟩) 2 2]) (by simp [results, Tryd.results16, go_sem, yc, yf]) rfl ?_
  have hws := HWS.out
  have sL := HBL.out.size
  have sR := HBR.out.size
  have sLd : W.drew.heap.size = W.heap.size := rfl
  have hTL2 : TreeSp wR (Fr W.drew wL) Tl _ := HTL.out.below (fun b hb => hb.2) HBR.out
  have hTR2 := HTR.out
  refine ⟨none, 0, 0, some ⟨wR.heap.size, 0, none⟩, 2, 2, rfl, ?_, ?_⟩
  · have h2 := two_sp (hd := hd0 13) rfl (by decide) hTL2 hTR2 (fun x h1 h2 => by have := h1.2; have := h2.1; omega) (fun x hx => by rcases hx with hx | hx <;> (have := hx.2; omega)) _ rfl
    refine TreeSp.more (fun b hb => ⟨by rcases hb with (⟨h5, h6⟩ | ⟨h5, h6⟩) | h5 <;> omega, by rw [size_set9]; simp only [World.alloc_size']; rcases hb with (⟨h5, h6⟩ | ⟨h5, h6⟩) | h5 <;> omega⟩) (h2.set9 (X := w.heap.size) (fun hb => by rcases hb with (⟨h5, h6⟩ | ⟨h5, h6⟩) | h5 <;> omega) _ _ _ _ _ _ _ _ _)
  · exact below_set9 (((hcall.out _ hbR)).alloc (by omega) _) (Nat.le_refl _) _ _ _ _ _ _ _ _ _


set_option maxRecDepth 100000 in
set_option maxHeartbeats 4000000 in
theorem spF_iff (l r : Fo) (vl vr : Value) (w : World) (hol : vl.oneCell' = true) (hor : vr.oneCell' = true)
    (hl : ∀ w', Below w.heap.size w w' → Calls Tryd.prog 16 #[vl] w' (SpPost (plainF l) w')) (hr : ∀ w', Below w.heap.size w w' → Calls Tryd.prog 16 #[vr] w' (SpPost (plainF r) w')) :
    Calls Tryd.prog 16 #[.iface 96 (.agg #[vl, vr])] w (SpPost (plainF (.iff l r)) w) := by
  obtain ⟨W, hW⟩ : ∃ W, (w.alloc (.cells #[.int .i64 0, .bool false, .slice none 0 0, .string ⟨#[]⟩, .int .i64 0, .int .i64 0, .bool false, .bool false, .slice none 0 0] TT)).alloc (.cells #[vl, vr] 96) = W := ⟨_, rfl⟩
  obtain ⟨Tl, hTl⟩ : ∃ T, T = plainF l := ⟨_, rfl⟩
  obtain ⟨Tr', hTr⟩ : ∃ T, T = plainF r := ⟨_, rfl⟩
  have hpl : plainF (.iff l r) = .mk (hd0 14) [Tl, Tr'] := by rw [hTl, hTr]; rfl
  rw [hpl]
  rw [← hTl] at hl
  rw [← hTr] at hr
  have hx : Box w W w.heap.size #[.int .i64 0, .bool false, .slice none 0 0, .string ⟨#[]⟩, .int .i64 0, .int .i64 0, .bool false, .bool false, .slice none 0 0] TT := by rw [← hW]; exact (Box.new w _ _).alloc _
  have hy : Box w W (w.heap.size + 1) #[vl, vr] 96 := by rw [← hW]; exact Box.second w _ _ _
  have hWs : W.heap.size = w.heap.size + 2 := by rw [← hW]; simp
  have HX := Lib.hid hx
  have HY := Lib.hid hy
  have HL := Lib.hid hl
  have HR := Lib.hid hr
  have HWS := Lib.hid hWs
  have HD : Below W.heap.size W W.drew := (Below.refl _ W).drew
  obtain ⟨s0, s1⟩ := hy.c2
  have hstep := Lib.hid (show ∀ wc wn, Below W.heap.size W wc → Below wc.heap.size wc wn → Below W.heap.size W wn from fun wc wn h1 h2 => h1.trans (h2.mono h1.size))
  have hcall := Lib.hid (show ∀ wc, Below W.heap.size W wc → Below w.heap.size w wc from fun wc h => hx.below.trans (h.mono (by omega)))
  clear hl hr hx hy hWs hTl hTr hpl
  go_enter Tryd.func16, Tryd.ntmps16
  go_wp2
  clear hW
  go_region_held3 (fun w' => w'.cell? ⟨w.heap.size + 1, 0, none⟩ = some vl ∧ w'.cell? ⟨w.heap.size + 1, 1, none⟩ = some vr) (go_keep)
    (first | (go_at_call_of 16 vl; refine (HL.out _ (hcall.out _ (by first | exact HD | exact hbR))).mono ?_; rintro e wL ⟨a1, a2, a3, a4, a5, a6, rfl, htL, hbl⟩; have hbL := (by first | exact hstep.out _ _ HD hbl | exact hstep.out _ _ hbR hbl); have HTL := Lib.hid htL; have HBL := Lib.hid hbl; clear htL hbl; obtain ⟨p0, p1⟩ := (HY.out.step hbL).c2; have xc := fun o => ((HX.out.step hbL).alloc o).cell; have xf := fun o => ((HX.out.step hbL).alloc o).fz) | (go_at_call_of 16 vr; refine (HR.out _ (hcall.out _ (by first | exact HD | exact hbL))).mono ?_; rintro e wR ⟨c1, c2, c3, c4, c5, c6, rfl, htR, hbr⟩; have hbR := (by first | exact hstep.out _ _ HD hbr | exact hstep.out _ _ hbL hbr); have HTR := Lib.hid htR; have HBR := Lib.hid hbr; clear htR hbr; obtain ⟨q0, q1⟩ := (HY.out.step hbR).c2; have yc := fun o => ((HX.out.step hbR).alloc o).cell; have yf := fun o => ((HX.out.step hbR).alloc o).fz))
  go_wp2
  refine bodyPost_ret (v := .agg #[.int .i64 14, .bool false, .slice none 0 0, .string ⟨#[]⟩, .int .i64 0, .int .i64 0, .bool false, .bool false, .slice (some ⟨wR.heap.size, 0, none⟩) 2 2]) (by simp [results, Tryd.results16, go_sem, yc, yf]) rfl ?_
  have hws := HWS.out
  have sL := HBL.out.size
  have sR := HBR.out.size
  have sLd : W.drew.heap.size = W.heap.size := rfl
  have hTL2 : TreeSp wR (Fr W.drew wL) Tl _ := HTL.out.below (fun b hb => hb.2) HBR.out
  have hTR2 := HTR.out
  refine ⟨none, 0, 0, some ⟨wR.heap.size, 0, none⟩, 2, 2, rfl, ?_, ?_⟩
  · have h2 := two_sp (hd := hd0 14) rfl (by decide) hTL2 hTR2 (fun x h1 h2 => by have := h1.2; have := h2.1; omega) (fun x hx => by rcases hx with hx | hx <;> (have := hx.2; omega)) _ rfl
    refine TreeSp.more (fun b hb => ⟨by rcases hb with (⟨h5, h6⟩ | ⟨h5, h6⟩) | h5 <;> omega, by rw [size_set9]; simp only [World.alloc_size']; rcases hb with (⟨h5, h6⟩ | ⟨h5, h6⟩) | h5 <;> omega⟩) (h2.set9 (X := w.heap.size) (fun hb => by rcases hb with (⟨h5, h6⟩ | ⟨h5, h6⟩) | h5 <;> omega) _ _ _ _ _ _ _ _ _)
  · exact below_set9 (((hcall.out _ hbR)).alloc (by omega) _) (Nat.le_refl _) _ _ _ _ _ _ _ _ _


set_option maxRecDepth 100000 in
set_option maxHeartbeats 4000000 in
theorem spF_not (l : Fo) (vl : Value) (w : World) (hol : vl.oneCell' = true)
    (hl : ∀ w', Below w.heap.size w w' → Calls Tryd.prog 16 #[vl] w' (SpPost (plainF l) w')) :
    Calls Tryd.prog 16 #[.iface 68 (.agg #[vl])] w (SpPost (plainF (.not l)) w) := by
  obtain ⟨W, hW⟩ : ∃ W, (w.alloc (.cells #[.int .i64 0, .bool false, .slice none 0 0, .string ⟨#[]⟩, .int .i64 0, .int .i64 0, .bool false, .bool false, .slice none 0 0] TT)).alloc (.cells #[vl] 68) = W := ⟨_, rfl⟩
  obtain ⟨Tl, hTl⟩ : ∃ T, T = plainF l := ⟨_, rfl⟩
  have hpl : plainF (.not l) = .mk (hd0 10) [Tl] := by rw [hTl]; rfl
  rw [hpl]
  rw [← hTl] at hl
  have hx : Box w W w.heap.size #[.int .i64 0, .bool false, .slice none 0 0, .string ⟨#[]⟩, .int .i64 0, .int .i64 0, .bool false, .bool false, .slice none 0 0] TT := by rw [← hW]; exact (Box.new w _ _).alloc _
  have hy : Box w W (w.heap.size + 1) #[vl] 68 := by rw [← hW]; exact Box.second w _ _ _
  have hWs : W.heap.size = w.heap.size + 2 := by rw [← hW]; simp
  have HX := Lib.hid hx
  have HY := Lib.hid hy
  have HL := Lib.hid hl
  have HWS := Lib.hid hWs
  have HD : Below W.heap.size W W := Below.refl _ W
  have s0 : W.cell? ⟨w.heap.size + 1, 0, none⟩ = some (vl) := hy.cell 0
  have hstep := Lib.hid (show ∀ wc wn, Below W.heap.size W wc → Below wc.heap.size wc wn → Below W.heap.size W wn from fun wc wn h1 h2 => h1.trans (h2.mono h1.size))
  have hcall := Lib.hid (show ∀ wc, Below W.heap.size W wc → Below w.heap.size w wc from fun wc h => hx.below.trans (h.mono (by omega)))
  clear hl hx hy hWs hTl hpl
  go_enter Tryd.func16, Tryd.ntmps16
  go_wp2_with (go_at_call 16; refine (HL.out _ (hcall.out _ HD)).mono ?_; rintro e wL ⟨a1, a2, a3, a4, a5, a6, rfl, htL, hbl⟩; have hbL := hstep.out _ _ HD hbl; have HTL := Lib.hid htL; have HBL := Lib.hid hbl; clear htL hbl; have p0 : wL.cell? ⟨w.heap.size + 1, 0, none⟩ = some (vl) := (HY.out.step hbL).cell 0; have xc := fun o => ((HX.out.step hbL).alloc o).cell; have xf := fun o => ((HX.out.step hbL).alloc o).fz)
  clear hW
  refine bodyPost_ret (v := .agg #[.int .i64 10, .bool false, .slice none 0 0, .string ⟨#[]⟩, .int .i64 0, .int .i64 0, .bool false, .bool false, .slice (some ⟨wL.heap.size, 0, none⟩) 1 1]) (by simp [results, Tryd.results16, go_sem, xc, xf]) rfl ?_
  have hws := HWS.out
  have sL := HBL.out.size
  have sLd : W.heap.size = W.heap.size := rfl
  have hTL2 := HTL.out
  refine ⟨none, 0, 0, some ⟨wL.heap.size, 0, none⟩, 1, 1, rfl, ?_, ?_⟩
  · have h2 := one_sp (hd := hd0 10) rfl (by decide) hTL2 (fun x hx => hx.2) _ rfl
    refine TreeSp.more (fun b hb => ⟨by rcases hb with ⟨h5, h6⟩ | h5 <;> omega, by rw [size_set9]; simp only [World.alloc_size']; rcases hb with ⟨h5, h6⟩ | h5 <;> omega⟩) (h2.set9 (X := w.heap.size) (fun hb => by rcases hb with ⟨h5, h6⟩ | h5 <;> omega) _ _ _ _ _ _ _ _ _)
  · exact below_set9 (((hcall.out _ hbL)).alloc (by omega) _) (Nat.le_refl _) _ _ _ _ _ _ _ _ _


set_option maxRecDepth 100000 in
set_option maxHeartbeats 4000000 in
theorem spF_quant (b : Bool) (nm : ByteArray) (hnm : nm.size ≤ 9223372036854775807) (l : Fo) (vl : Value) (w : World) (hol : vl.oneCell' = true)
    (hl : ∀ w', Below w.heap.size w w' → Calls Tryd.prog 16 #[vl] w' (SpPost (plainF l) w')) :
    Calls Tryd.prog 16 #[.iface 98 (.agg #[.bool b, .string nm, vl])] w (SpPost (plainF (.quant b nm l)) w) := by
  obtain ⟨W, hW⟩ : ∃ W, (w.alloc (.cells #[.int .i64 0, .bool false, .slice none 0 0, .string ⟨#[]⟩, .int .i64 0, .int .i64 0, .bool false, .bool false, .slice none 0 0] TT)).alloc (.cells #[.bool b, .string nm, vl] 98) = W := ⟨_, rfl⟩
  obtain ⟨Tl, hTl⟩ : ∃ T, T = plainF l := ⟨_, rfl⟩
  have hpl : plainF (.quant b nm l) = .mk ({ hd0 15 with all := b, name := nm }) [Tl] := by rw [hTl]; rfl
  rw [hpl]
  rw [← hTl] at hl
  have hx : Box w W w.heap.size #[.int .i64 0, .bool false, .slice none 0 0, .string ⟨#[]⟩, .int .i64 0, .int .i64 0, .bool false, .bool false, .slice none 0 0] TT := by rw [← hW]; exact (Box.new w _ _).alloc _
  have hy : Box w W (w.heap.size + 1) #[.bool b, .string nm, vl] 98 := by rw [← hW]; exact Box.second w _ _ _
  have hWs : W.heap.size = w.heap.size + 2 := by rw [← hW]; simp
  have HX := Lib.hid hx
  have HY := Lib.hid hy
  have HL := Lib.hid hl
  have HWS := Lib.hid hWs
  have HD : Below W.heap.size W W.drew := (Below.refl _ W).drew
  have s0 : W.cell? ⟨w.heap.size + 1, 0, none⟩ = some (.bool b) := hy.cell 0
  have s1 : W.cell? ⟨w.heap.size + 1, 1, none⟩ = some (.string nm) := hy.cell 1
  have s2 : W.cell? ⟨w.heap.size + 1, 2, none⟩ = some (vl) := hy.cell 2
  have hstep := Lib.hid (show ∀ wc wn, Below W.heap.size W wc → Below wc.heap.size wc wn → Below W.heap.size W wn from fun wc wn h1 h2 => h1.trans (h2.mono h1.size))
  have hcall := Lib.hid (show ∀ wc, Below W.heap.size W wc → Below w.heap.size w wc from fun wc h => hx.below.trans (h.mono (by omega)))
  clear hl hx hy hWs hTl hpl
  go_enter Tryd.func16, Tryd.ntmps16
  go_wp2
  clear hW
  go_region_held3 (fun w' => w'.cell? ⟨w.heap.size + 1, 0, none⟩ = some (.bool b) ∧ w'.cell? ⟨w.heap.size + 1, 1, none⟩ = some (.string nm) ∧ w'.cell? ⟨w.heap.size + 1, 2, none⟩ = some (vl)) (go_keep)
    (first | (go_at_call 16; refine (HL.out _ (hcall.out _ HD)).mono ?_; rintro e wL ⟨a1, a2, a3, a4, a5, a6, rfl, htL, hbl⟩; have hbL := hstep.out _ _ HD hbl; have HTL := Lib.hid htL; have HBL := Lib.hid hbl; clear htL hbl; have p0 : wL.cell? ⟨w.heap.size + 1, 0, none⟩ = some (.bool b) := (HY.out.step hbL).cell 0; have p1 : wL.cell? ⟨w.heap.size + 1, 1, none⟩ = some (.string nm) := (HY.out.step hbL).cell 1; have p2 : wL.cell? ⟨w.heap.size + 1, 2, none⟩ = some (vl) := (HY.out.step hbL).cell 2; have xc := fun o => ((HX.out.step hbL).alloc o).cell; have xf := fun o => ((HX.out.step hbL).alloc o).fz))
  go_wp2
  all_goals
    refine bodyPost_ret (v := .agg #[.int .i64 15, .bool false, .slice none 0 0, .string nm, .int .i64 0, .int .i64 0, .bool false, .bool b, .slice (some ⟨wL.heap.size, 0, none⟩) 1 1]) (by simp [results, Tryd.results16, go_sem, xc, xf]) rfl ?_
    have hws := HWS.out
    have sL := HBL.out.size
    have sLd : W.drew.heap.size = W.heap.size := rfl
    have hTL2 := HTL.out
    refine ⟨none, 0, 0, some ⟨wL.heap.size, 0, none⟩, 1, 1, rfl, ?_, ?_⟩
    · have h2 := one_sp (hd := { hd0 15 with all := b, name := nm }) rfl hnm hTL2 (fun x hx => hx.2) _ rfl
      refine TreeSp.more (fun b hb => ⟨by rcases hb with ⟨h5, h6⟩ | h5 <;> omega, by rw [size_set9]; simp only [World.alloc_size']; rcases hb with ⟨h5, h6⟩ | h5 <;> omega⟩) (h2.set9 (X := w.heap.size) (fun hb => by rcases hb with ⟨h5, h6⟩ | h5 <;> omega) _ _ _ _ _ _ _ _ _)
    · exact below_set9 (((hcall.out _ hbL)).alloc (by omega) _) (Nat.le_refl _) _ _ _ _ _ _ _ _ _


set_option maxRecDepth 100000 in
set_option maxHeartbeats 4000000 in
theorem spF_atom (l r : Tm) (rel q : Int) (hq : q = relR rel) (vl vr : Value) (w : World) (hol : vl.oneCell' = true) (hor : vr.oneCell' = true)
    (hl : ∀ w', Below w.heap.size w w' → Calls Tryd.prog 33 #[vl] w' (SpPost (plainT l) w')) (hr : ∀ w', Below w.heap.size w w' → Calls Tryd.prog 33 #[vr] w' (SpPost (plainT r) w')) :
    Calls Tryd.prog 16 #[.iface 51 (.agg #[vl, .int .i64 rel, vr])] w (SpPost (plainF (.atom l rel r)) w) := by
  obtain ⟨W, hW⟩ : ∃ W, (w.alloc (.cells #[.int .i64 0, .bool false, .slice none 0 0, .string ⟨#[]⟩, .int .i64 0, .int .i64 0, .bool false, .bool false, .slice none 0 0] TT)).alloc (.cells #[vl, .int .i64 rel, vr] 51) = W := ⟨_, rfl⟩
  obtain ⟨Tl, hTl⟩ : ∃ T, T = plainT l := ⟨_, rfl⟩
  obtain ⟨Tr', hTr⟩ : ∃ T, T = plainT r := ⟨_, rfl⟩
  have hpl : plainF (.atom l rel r) = .mk { hd0 9 with rel := q } [Tl, Tr'] := by rw [hTl, hTr, hq]; rfl
  rw [hpl]
  rw [← hTl] at hl
  rw [← hTr] at hr
  have hx : Box w W w.heap.size #[.int .i64 0, .bool false, .slice none 0 0, .string ⟨#[]⟩, .int .i64 0, .int .i64 0, .bool false, .bool false, .slice none 0 0] TT := by rw [← hW]; exact (Box.new w _ _).alloc _
  have hy : Box w W (w.heap.size + 1) #[vl, .int .i64 rel, vr] 51 := by rw [← hW]; exact Box.second w _ _ _
  have hWs : W.heap.size = w.heap.size + 2 := by rw [← hW]; simp
  have HX := Lib.hid hx
  have HY := Lib.hid hy
  have HL := Lib.hid hl
  have HR := Lib.hid hr
  have HWS := Lib.hid hWs
  have HD : Below W.heap.size W W.drew := (Below.refl _ W).drew
  have s0 : W.cell? ⟨w.heap.size + 1, 0, none⟩ = some vl := hy.cell 0
  have s1 : W.cell? ⟨w.heap.size + 1, 1, none⟩ = some (.int .i64 rel) := hy.cell 1
  have s2 : W.cell? ⟨w.heap.size + 1, 2, none⟩ = some vr := hy.cell 2
  have HQ := Lib.hid hq
  have hstep := Lib.hid (show ∀ wc wn, Below W.heap.size W wc → Below wc.heap.size wc wn → Below W.heap.size W wn from fun wc wn h1 h2 => h1.trans (h2.mono h1.size))
  have hcall := Lib.hid (show ∀ wc, Below W.heap.size W wc → Below w.heap.size w wc from fun wc h => hx.below.trans (h.mono (by omega)))
  clear hl hr hx hy hWs hTl hTr hpl hq
  go_enter Tryd.func16, Tryd.ntmps16
  go_wp2
  clear hW
  go_region_held3 (fun w' => w'.cell? ⟨w.heap.size + 1, 0, none⟩ = some vl ∧ w'.cell? ⟨w.heap.size + 1, 1, none⟩ = some (.int .i64 rel) ∧ w'.cell? ⟨w.heap.size + 1, 2, none⟩ = some vr) (go_keep)
    (first | (go_at_call 37; refine (relation_any rel q _ HQ.out).mono ?_; rintro e w' ⟨rfl, rfl⟩) | (go_at_call_of 33 vl; refine (HL.out _ (hcall.out _ (by first | exact HD | exact hbR))).mono ?_; rintro e wL ⟨a1, a2, a3, a4, a5, a6, rfl, htL, hbl⟩; have hbL := (by first | exact hstep.out _ _ HD hbl | exact hstep.out _ _ hbR hbl); have HTL := Lib.hid htL; have HBL := Lib.hid hbl; clear htL hbl; have p0 : wL.cell? ⟨w.heap.size + 1, 0, none⟩ = some vl := (HY.out.step hbL).cell 0; have p1 : wL.cell? ⟨w.heap.size + 1, 1, none⟩ = some (.int .i64 rel) := (HY.out.step hbL).cell 1; have p2 : wL.cell? ⟨w.heap.size + 1, 2, none⟩ = some vr := (HY.out.step hbL).cell 2; have xc := fun o => ((HX.out.step hbL).alloc o).cell; have xf := fun o => ((HX.out.step hbL).alloc o).fz) | (go_at_call_of 33 vr; refine (HR.out _ (hcall.out _ (by first | exact HD | exact hbL))).mono ?_; rintro e wR ⟨c1, c2, c3, c4, c5, c6, rfl, htR, hbr⟩; have hbR := (by first | exact hstep.out _ _ HD hbr | exact hstep.out _ _ hbL hbr); have HTR := Lib.hid htR; have HBR := Lib.hid hbr; clear htR hbr; have q0 : wR.cell? ⟨w.heap.size + 1, 0, none⟩ = some vl := (HY.out.step hbR).cell 0; have q1 : wR.cell? ⟨w.heap.size + 1, 1, none⟩ = some (.int .i64 rel) := (HY.out.step hbR).cell 1; have q2 : wR.cell? ⟨w.heap.size + 1, 2, none⟩ = some vr := (HY.out.step hbR).cell 2; have yc := fun o => ((HX.out.step hbR).alloc o).cell; have yf := fun o => ((HX.out.step hbR).alloc o).fz))
  go_wp2
  refine bodyPost_ret (v := .agg #[.int .i64 9, .bool false, .slice none 0 0, .string ⟨#[]⟩, .int .i64 0, .int .i64 q, .bool false, .bool false, .slice (some ⟨wR.heap.size, 0, none⟩) 2 2]) (by simp [results, Tryd.results16, go_sem, yc, yf]) rfl ?_
  have hws := HWS.out
  have sL := HBL.out.size
  have sR := HBR.out.size
  have sLd : W.drew.heap.size = W.heap.size := rfl
  have hTL2 : TreeSp wR (Fr W.drew wL) Tl _ := HTL.out.below (fun b hb => hb.2) HBR.out
  have hTR2 := HTR.out
  refine ⟨none, 0, 0, some ⟨wR.heap.size, 0, none⟩, 2, 2, rfl, ?_, ?_⟩
  · have h2 := two_sp (hd := { hd0 9 with rel := q }) rfl (show (⟨#[]⟩ : ByteArray).size ≤ _ from by decide) hTL2 hTR2 (fun x h1 h2 => by have := h1.2; have := h2.1; omega) (fun x hx => by rcases hx with hx | hx <;> (have := hx.2; omega)) _ rfl
    refine TreeSp.more (fun b hb => ⟨by rcases hb with (⟨h5, h6⟩ | ⟨h5, h6⟩) | h5 <;> omega, by rw [size_set9]; simp only [World.alloc_size']; rcases hb with (⟨h5, h6⟩ | ⟨h5, h6⟩) | h5 <;> omega⟩) (h2.set9 (X := w.heap.size) (fun hb => by rcases hb with (⟨h5, h6⟩ | ⟨h5, h6⟩) | h5 <;> omega) _ _ _ _ _ _ _ _ _)
  · exact below_set9 (((hcall.out _ hbR)).alloc (by omega) _) (Nat.le_refl _) _ _ _ _ _ _ _ _ _


set_option maxRecDepth 100000 in
set_option maxHeartbeats 4000000 in
theorem spF_truth (b : Bool) (w : World) :
    Calls Tryd.prog 16 #[.iface 71 (.agg #[.bool b])] w (SpPost (plainF (.truth b)) w) := by
  obtain ⟨W, hW⟩ : ∃ W, (w.alloc (.cells #[.int .i64 0, .bool false, .slice none 0 0, .string ⟨#[]⟩, .int .i64 0, .int .i64 0, .bool false, .bool false, .slice none 0 0] TT)).alloc (.cells #[.bool b] 71) = W := ⟨_, rfl⟩
  have hx : Box w W w.heap.size #[.int .i64 0, .bool false, .slice none 0 0, .string ⟨#[]⟩, .int .i64 0, .int .i64 0, .bool false, .bool false, .slice none 0 0] TT := by rw [← hW]; exact (Box.new w _ _).alloc _
  have s0 : W.cell? ⟨w.heap.size + 1, 0, none⟩ = some (.bool b) := by (have hy : Box w W (w.heap.size + 1) #[.bool b] 71 := (by rw [← hW]; exact Box.second w _ _ _); exact hy.cell 0)
  have HX := Lib.hid hx
  have xc := hx.cell
  have xf := hx.fz
  clear hx
  go_enter Tryd.func16, Tryd.ntmps16
  go_wp2
  clear hW
  refine bodyPost_ret (v := .agg #[.int .i64 8, .bool false, .slice none 0 0, .string ⟨#[]⟩, .int .i64 0, .int .i64 0, .bool b, .bool false, .slice none 0 0]) (by simp [results, Tryd.results16, go_sem, xc, xf]) rfl ?_
  refine ⟨none, 0, 0, none, 0, 0, rfl, ?_, ?_⟩
  · have h2 : TreeSp W (fun _ => False) (.mk { hd0 8 with truth := b } []) (hdC { hd0 8 with truth := b } (.slice none 0 0) (.slice none 0 0)) := no_sp AbsAt.empty (show (⟨#[]⟩ : ByteArray).size ≤ _ from by decide)
    exact TreeSp.more (fun b hb => False.elim hb) (h2.set9 (X := w.heap.size) (fun h => h) _ _ _ _ _ _ _ _ _)
  · exact below_set9 HX.out.below (Nat.le_refl _) _ _ _ _ _ _ _ _ _

set_option maxRecDepth 100000 in
set_option maxHeartbeats 4000000 in
theorem spF_odd (v : Value) (w : World) (h : OddV v) : Calls Tryd.prog 16 #[v] w (SpPost (plainF .odd) w) := by
  obtain ⟨W, hW⟩ : ∃ W, w.alloc (.cells #[.int .i64 0, .bool false, .slice none 0 0, .string ⟨#[]⟩, .int .i64 0, .int .i64 0, .bool false, .bool false, .slice none 0 0] TT) = W := ⟨_, rfl⟩
  have hx : Box w W w.heap.size #[.int .i64 0, .bool false, .slice none 0 0, .string ⟨#[]⟩, .int .i64 0, .int .i64 0, .bool false, .bool false, .slice none 0 0] TT := by rw [← hW]; exact Box.new w _ _
  have HX := Lib.hid hx
  have xc := hx.cell
  have xf := hx.fz
  clear hx
  have fin : ∀ v0 : Value, v0 = .agg #[.int .i64 8, .bool false, .slice none 0 0, .string ⟨#[]⟩, .int .i64 0, .int .i64 0, .bool false, .bool false, .slice none 0 0] → SpPost (plainF .odd) w (.returned v0) (set9 W w.heap.size (.int .i64 8) (.bool false) (.slice none 0 0) (.string ⟨#[]⟩) (.int .i64 0) (.int .i64 0) (.bool false) (.bool false) (.slice none 0 0)) := by
    rintro v0 rfl
    refine ⟨none, 0, 0, none, 0, 0, rfl, ?_, below_set9 HX.out.below (Nat.le_refl _) _ _ _ _ _ _ _ _ _⟩
    have h2 : TreeSp W (fun _ => False) (.mk (hd0 8) []) (hdC (hd0 8) (.slice none 0 0) (.slice none 0 0)) := no_sp AbsAt.empty (by decide)
    exact TreeSp.more (fun b hb => False.elim hb) (h2.set9 (X := w.heap.size) (fun h => h) _ _ _ _ _ _ _ _ _)
  have Fin := Lib.hid fin
  clear fin
  rcases h with rfl | ⟨u, a, rfl, hu⟩
  · go_enter Tryd.func16, Tryd.ntmps16
    go_wp2
    clear hW
    exact bodyPost_ret (v := .agg #[.int .i64 8, .bool false, .slice none 0 0, .string ⟨#[]⟩, .int .i64 0, .int .i64 0, .bool false, .bool false, .slice none 0 0]) (by simp [results, Tryd.results16, go_sem, xc, xf]) rfl (Fin.out _ rfl)
  · simp only [List.mem_cons, List.not_mem_nil, or_false, not_or] at hu
    obtain ⟨_, _, _, _, _, _, _, u1, u2, u3, u4, u5, u6, u7, u8⟩ := hu
    go_enter Tryd.func16, Tryd.ntmps16
    go_wp2
    clear hW
    exact bodyPost_ret (v := .agg #[.int .i64 8, .bool false, .slice none 0 0, .string ⟨#[]⟩, .int .i64 0, .int .i64 0, .bool false, .bool false, .slice none 0 0]) (by simp [results, Tryd.results16, go_sem, xc, xf]) rfl (Fin.out _ rfl)

theorem sp_any : ∀ (t : Fo) (v : Value) (S : Nat → Prop) (w : World), (∀ b, S b → b < w.heap.size) → FoAt w S t v → SmF t → Calls Tryd.prog 16 #[v] w (SpPost (plainF t) w) := by
  intro t
  induction t with
  | odd => intro v S w hS h hs; exact spF_odd v w h
  | truth b => intro v S w hS h hs; cases h; exact spF_truth b w
  | atom l rel r =>
    rintro v S w hS ⟨vl, vr, rfl, h1, h2⟩ hs
    exact spF_atom l r rel _ rfl vl vr w h1.one h2.one (fun w' hb => spTerm_any l vl S w' (fun b hb' => Nat.lt_of_lt_of_le (hS b hb') hb.size) (h1.below hS hb) hs.1) (fun w' hb => spTerm_any r vr S w' (fun b hb' => Nat.lt_of_lt_of_le (hS b hb') hb.size) (h2.below hS hb) hs.2)

  | and l r il ir =>
    rintro v S w hS ⟨vl, vr, rfl, h1, h2⟩ hs
    exact spF_and l r vl vr w h1.one h2.one (fun w' hb => il vl S w' (fun b hb' => Nat.lt_of_lt_of_le (hS b hb') hb.size) (h1.below hS hb) hs.1) (fun w' hb => ir vr S w' (fun b hb' => Nat.lt_of_lt_of_le (hS b hb') hb.size) (h2.below hS hb) hs.2)
  | or l r il ir =>
    rintro v S w hS ⟨vl, vr, rfl, h1, h2⟩ hs
    exact spF_or l r vl vr w h1.one h2.one (fun w' hb => il vl S w' (fun b hb' => Nat.lt_of_lt_of_le (hS b hb') hb.size) (h1.below hS hb) hs.1) (fun w' hb => ir vr S w' (fun b hb' => Nat.lt_of_lt_of_le (hS b hb') hb.size) (h2.below hS hb) hs.2)
  | implies l r il ir =>
    rintro v S w hS ⟨vl, vr, rfl, h1, h2⟩ hs
    exact spF_implies l r vl vr w h1.one h2.one (fun w' hb => il vl S w' (fun b hb' => Nat.lt_of_lt_of_le (hS b hb') hb.size) (h1.below hS hb) hs.1) (fun w' hb => ir vr S w' (fun b hb' => Nat.lt_of_lt_of_le (hS b hb') hb.size) (h2.below hS hb) hs.2)
  | iff l r il ir =>
    rintro v S w hS ⟨vl, vr, rfl, h1, h2⟩ hs
    exact spF_iff l r vl vr w h1.one h2.one (fun w' hb => il vl S w' (fun b hb' => Nat.lt_of_lt_of_le (hS b hb') hb.size) (h1.below hS hb) hs.1) (fun w' hb => ir vr S w' (fun b hb' => Nat.lt_of_lt_of_le (hS b hb') hb.size) (h2.below hS hb) hs.2)
  | not f it =>
    rintro v S w hS ⟨vt, rfl, h1⟩ hs
    exact spF_not f vt w h1.one (fun w' hb => it vt S w' (fun b hb' => Nat.lt_of_lt_of_le (hS b hb') hb.size) (h1.below hS hb) hs)
  | quant all nm f it =>
    rintro v S w hS ⟨vt, rfl, hn, h1⟩ hs
    exact spF_quant all nm hn f vt w h1.one (fun w' hb => it vt S w' (fun b hb' => Nat.lt_of_lt_of_le (hS b hb') hb.size) (h1.below hS hb) hs)
end Fm
end Go.Proofs.YtkjbfomokdjbnaaDoor
