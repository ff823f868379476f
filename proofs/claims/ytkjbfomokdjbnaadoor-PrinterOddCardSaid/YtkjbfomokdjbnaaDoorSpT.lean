/-
  formula.PlainTerm: its tree may be changed in place.
-/
import Derived.Test.YtkjbfomokdjbnaaDoorSp
import Derived.Test.YtkjbfomokdjbnaaDoorFmQ
namespace Go.Proofs.YtkjbfomokdjbnaaDoor
open Go.RowKit
set_option linter.unusedSimpArgs false
set_option linter.unusedVariables false
namespace Fm
attribute [local go_sem] run_store taNum_yes taNum_no taNum_nil taName_yes taName_no taName_nil taAdd_yes taAdd_no taAdd_nil taSub_yes taSub_no taSub_nil taMul_yes taMul_no taMul_nil taNeg_yes taNeg_no taNeg_nil taPow_yes taPow_no taPow_nil

/-- a call that gives back a new tree whose rows lie apart -/
def SpPost (T : Tr) (w : World) (e : Ending) (w' : World) : Prop :=
  ∃ A1 n1 c1 A2 n2 c2, e = .returned (.agg #[.int .i64 T.h.k, .bool T.h.neg, .slice A1 n1 c1, .string T.h.name, .int .i64 T.h.exp, .int .i64 T.h.rel, .bool T.h.truth, .bool T.h.all, .slice A2 n2 c2]) ∧ TreeSp w' (Fr w w') T (hdC T.h (.slice A1 n1 c1) (.slice A2 n2 c2)) ∧ Below w.heap.size w w'
theorem SpPost.tree {T : Tr} {w w' : World} {e : Ending} (h : SpPost T w e w') : TreePost T w e w' := by
  obtain ⟨A1, n1, c1, A2, n2, c2, he, ht, hb⟩ := h
  exact ⟨A1, n1, c1, A2, n2, c2, he, TreeSp.at_ _ _ _ ht, hb⟩
theorem set9_block (w : World) (X : Nat) (u0 u1 u2 u3 u4 u5 u6 u7 u8 : Value) (b : Nat) (h : b ≠ X) : (set9 w X u0 u1 u2 u3 u4 u5 u6 u7 u8).heap[b]? = w.heap[b]? := by
  have s : ∀ (w : World) (j : Nat) (u : Value), (w.setCell ⟨X, j, none⟩ u).heap[b]? = w.heap[b]? := fun w j u => Below.heap_setCell w ⟨X, j, none⟩ u b h
  unfold set9
  rw [s, s, s, s, s, s, s, s, s]
theorem TreeSp.set9 {w : World} {S : Nat → Prop} {t : Tr} {cs : List Value} (h : TreeSp w S t cs) {X : Nat} (hX : ¬ S X) (u0 u1 u2 u3 u4 u5 u6 u7 u8 : Value) : TreeSp (set9 w X u0 u1 u2 u3 u4 u5 u6 u7 u8) S t cs :=
  TreeSp.keep t S cs (fun b hb => set9_block w X _ _ _ _ _ _ _ _ _ b (fun e => hX (e ▸ hb))) h
theorem World.alloc_size' (w : World) (o : Obj) : (w.alloc o).heap.size = w.heap.size + 1 := by simp
theorem no_sp {w2 : World} {S : Nat → Prop} {hd : Hd} {va : Value} (ha : AbsAt w2 S va hd.abs) (hn : hd.name.size ≤ 9223372036854775807) : TreeSp w2 S (.mk hd []) (hdC hd va (.slice none 0 0)) := by
  unfold TreeSp; exact ⟨hn, by simp, .inl ⟨rfl, va, rfl, ha⟩⟩
theorem two_sp {w2 : World} {S1 S2 : Nat → Prop} {hd : Hd} {T1 T2 : Tr} {c1 c2 : List Value} (ha : hd.abs = []) (hn : hd.name.size ≤ 9223372036854775807) (h1 : TreeSp w2 S1 T1 c1) (h2 : TreeSp w2 S2 T2 c2) (hd12 : ∀ x, S1 x → ¬ S2 x)
    (hS : ∀ x, S1 x ∨ S2 x → x < w2.heap.size) (o : Obj) (ho : o = .cells (c1 ++ c2).toArray TT) :
    TreeSp (w2.alloc o) (fun x => (S1 x ∨ S2 x) ∨ x = w2.heap.size) (.mk hd [T1, T2]) (hdC hd (.slice none 0 0) (.slice (some ⟨w2.heap.size, 0, none⟩) 2 2)) := by
  subst ho
  have hb : Below w2.heap.size w2 (w2.alloc (.cells (c1 ++ c2).toArray TT)) := (Below.refl _ _).alloc (Nat.le_refl _) _
  unfold TreeSp
  refine ⟨hn, by simp, .inr ⟨by simp, ha, w2.heap.size, c1 ++ (c2 ++ []), fun x => S1 x ∨ S2 x, rfl, .inr rfl, ?_, fun x hx => ⟨.inl hx, by have := hS x hx; omega⟩, ?_⟩⟩
  · rw [List.append_nil]; exact heap_alloc_new w2 _
  · exact TrsSp.cons (h1.below (fun x hx => hS x (.inl hx)) hb) (TrsSp.cons (S2 := fun _ => False) (h2.below (fun x hx => hS x (.inr hx)) hb) TrsSp.nil (fun x hx => ⟨hx, id⟩) (fun x hx => hx.elim)) (fun x hx => ⟨.inl hx, hd12 x hx⟩) (fun x hx => .inr hx)
theorem one_sp {w2 : World} {S1 : Nat → Prop} {hd : Hd} {T1 : Tr} {c1 : List Value} (ha : hd.abs = []) (hn : hd.name.size ≤ 9223372036854775807) (h1 : TreeSp w2 S1 T1 c1)
    (hS : ∀ x, S1 x → x < w2.heap.size) (o : Obj) (ho : o = .cells c1.toArray TT) :
    TreeSp (w2.alloc o) (fun x => S1 x ∨ x = w2.heap.size) (.mk hd [T1]) (hdC hd (.slice none 0 0) (.slice (some ⟨w2.heap.size, 0, none⟩) 1 1)) := by
  subst ho
  have hb : Below w2.heap.size w2 (w2.alloc (.cells c1.toArray TT)) := (Below.refl _ _).alloc (Nat.le_refl _) _
  unfold TreeSp
  refine ⟨hn, by simp, .inr ⟨by simp, ha, w2.heap.size, c1 ++ [], S1, rfl, .inr rfl, ?_, fun x hx => ⟨.inl hx, by have := hS x hx; omega⟩, ?_⟩⟩
  · rw [List.append_nil]; exact heap_alloc_new w2 _
  · exact TrsSp.cons (S2 := fun _ => False) (h1.below hS hb) TrsSp.nil (fun x hx => ⟨hx, id⟩) (fun x hx => hx.elim)

set_option maxRecDepth 100000 in
set_option maxHeartbeats 4000000 in
theorem sp_add (l r : Tm) (vl vr : Value) (w : World) (hol : vl.oneCell' = true) (hor : vr.oneCell' = true)
    (hl : ∀ w', Below w.heap.size w w' → Calls Tryd.prog 33 #[vl] w' (SpPost (plainT l) w')) (hr : ∀ w', Below w.heap.size w w' → Calls Tryd.prog 33 #[vr] w' (SpPost (plainT r) w')) :
    Calls Tryd.prog 33 #[.iface 89 (.agg #[vl, vr])] w (SpPost (plainT (.add l r)) w) := by
  obtain ⟨W, hW⟩ : ∃ W, (w.alloc (.cells #[.int .i64 0, .bool false, .slice none 0 0, .string ⟨#[]⟩, .int .i64 0, .int .i64 0, .bool false, .bool false, .slice none 0 0] TT)).alloc (.cells #[vl, vr] 89) = W := ⟨_, rfl⟩
  obtain ⟨Tl, hTl⟩ : ∃ T, T = plainT l := ⟨_, rfl⟩
  obtain ⟨Tr', hTr⟩ : ∃ T, T = plainT r := ⟨_, rfl⟩
  have hpl : plainT (.add l r) = .mk (hd0 3) [Tl, Tr'] := by rw [hTl, hTr]; rfl
  rw [hpl]
  rw [← hTl] at hl
  rw [← hTr] at hr
  have hx : Box w W w.heap.size #[.int .i64 0, .bool false, .slice none 0 0, .string ⟨#[]⟩, .int .i64 0, .int .i64 0, .bool false, .bool false, .slice none 0 0] TT := by rw [← hW]; exact (Box.new w _ _).alloc _
  have hy : Box w W (w.heap.size + 1) #[vl, vr] 89 := by rw [← hW]; exact Box.second w _ _ _
  have hWs : W.heap.size = w.heap.size + 2 := by rw [← hW]; simp
  have HX := Lib.hid hx
  have HY := Lib.hid hy
  have HL := Lib.hid hl
  have HR := Lib.hid hr
  have HWS := Lib.hid hWs
  have HD : Below W.heap.size W W.drew := (Below.refl _ W).drew
  obtain ⟨s0, s1⟩ := hy.c2
  have hstep := Lib.hid (show ∀ wc wn, Below W.heap.size W wc → Below wc.heap.size wc wn → Below W.heap.size W wn from fun wc wn h1 h2 => h1.trans (h2.mono h1.size))
  have hcall := Lib.hid (show ∀ wc, Below W.heap.size W wc → Below w.heap.size w wc from fun wc h => hx.below.trans (h.mono (by omega)))
  clear hl hr hx hy hWs hTl hTr hpl
  go_enter Tryd.func33, Tryd.ntmps33
  go_wp2
  clear hW
  go_region_held3 (fun w' => w'.cell? ⟨w.heap.size + 1, 0, none⟩ = some vl ∧ w'.cell? ⟨w.heap.size + 1, 1, none⟩ = some vr) (go_keep)
    (first | (go_at_call_of 33 vl; refine (HL.out _ (hcall.out _ (by first | exact HD | exact hbR))).mono ?_; rintro e wL ⟨a1, a2, a3, a4, a5, a6, rfl, htL, hbl⟩; have hbL := (by first | exact hstep.out _ _ HD hbl | exact hstep.out _ _ hbR hbl); have HTL := Lib.hid htL; have HBL := Lib.hid hbl; clear htL hbl; obtain ⟨p0, p1⟩ := (HY.out.step hbL).c2; have xc := fun o => ((HX.out.step hbL).alloc o).cell; have xf := fun o => ((HX.out.step hbL).alloc o).fz) | (go_at_call_of 33 vr; refine (HR.out _ (hcall.out _ (by first | exact HD | exact hbL))).mono ?_; rintro e wR ⟨c1, c2, c3, c4, c5, c6, rfl, htR, hbr⟩; have hbR := (by first | exact hstep.out _ _ HD hbr | exact hstep.out _ _ hbL hbr); have HTR := Lib.hid htR; have HBR := Lib.hid hbr; clear htR hbr; obtain ⟨q0, q1⟩ := (HY.out.step hbR).c2; have yc := fun o => ((HX.out.step hbR).alloc o).cell; have yf := fun o => ((HX.out.step hbR).alloc o).fz))
  go_wp2
  refine bodyPost_ret (v := .agg #[.int .i64 3, .bool false, .slice none 0 0, .string ⟨#[]⟩, .int .i64 0, .int .i64 0, .bool false, .bool false, .slice (some ⟨wR.heap.size, 0, none⟩) 2 2]) (by simp [results, Tryd.results33, go_sem, yc, yf]) rfl ?_
  have hws := HWS.out
  have sL := HBL.out.size
  have sR := HBR.out.size
  have sLd : W.drew.heap.size = W.heap.size := rfl
  have hTL2 : TreeSp wR (Fr W.drew wL) Tl _ := HTL.out.below (fun b hb => hb.2) HBR.out
  have hTR2 := HTR.out
  refine ⟨none, 0, 0, some ⟨wR.heap.size, 0, none⟩, 2, 2, rfl, ?_, ?_⟩
  · have h2 := two_sp (hd := hd0 3) rfl (by decide) hTL2 hTR2 (fun x h1 h2 => by have := h1.2; have := h2.1; omega) (fun x hx => by rcases hx with hx | hx <;> (have := hx.2; omega)) _ rfl
    refine TreeSp.more (fun b hb => ⟨by rcases hb with (⟨h5, h6⟩ | ⟨h5, h6⟩) | h5 <;> omega, by rw [size_set9]; simp only [World.alloc_size']; rcases hb with (⟨h5, h6⟩ | ⟨h5, h6⟩) | h5 <;> omega⟩) (h2.set9 (X := w.heap.size) (fun hb => by rcases hb with (⟨h5, h6⟩ | ⟨h5, h6⟩) | h5 <;> omega) _ _ _ _ _ _ _ _ _)
  · exact below_set9 (((hcall.out _ hbR)).alloc (by omega) _) (Nat.le_refl _) _ _ _ _ _ _ _ _ _


set_option maxRecDepth 100000 in
set_option maxHeartbeats 4000000 in
theorem sp_sub (l r : Tm) (vl vr : Value) (w : World) (hol : vl.oneCell' = true) (hor : vr.oneCell' = true)
    (hl : ∀ w', Below w.heap.size w w' → Calls Tryd.prog 33 #[vl] w' (SpPost (plainT l) w')) (hr : ∀ w', Below w.heap.size w w' → Calls Tryd.prog 33 #[vr] w' (SpPost (plainT r) w')) :
    Calls Tryd.prog 33 #[.iface 56 (.agg #[vl, vr])] w (SpPost (plainT (.sub l r)) w) := by
  obtain ⟨W, hW⟩ : ∃ W, (w.alloc (.cells #[.int .i64 0, .bool false, .slice none 0 0, .string ⟨#[]⟩, .int .i64 0, .int .i64 0, .bool false, .bool false, .slice none 0 0] TT)).alloc (.cells #[vl, vr] 56) = W := ⟨_, rfl⟩
  obtain ⟨Tl, hTl⟩ : ∃ T, T = plainT l := ⟨_, rfl⟩
  obtain ⟨Tr', hTr⟩ : ∃ T, T = plainT r := ⟨_, rfl⟩
  have hpl : plainT (.sub l r) = .mk (hd0 4) [Tl, Tr'] := by rw [hTl, hTr]; rfl
  rw [hpl]
  rw [← hTl] at hl
  rw [← hTr] at hr
  have hx : Box w W w.heap.size #[.int .i64 0, .bool false, .slice none 0 0, .string ⟨#[]⟩, .int .i64 0, .int .i64 0, .bool false, .bool false, .slice none 0 0] TT := by rw [← hW]; exact (Box.new w _ _).alloc _
  have hy : Box w W (w.heap.size + 1) #[vl, vr] 56 := by rw [← hW]; exact Box.second w _ _ _
  have hWs : W.heap.size = w.heap.size + 2 := by rw [← hW]; simp
  have HX := Lib.hid hx
  have HY := Lib.hid hy
  have HL := Lib.hid hl
  have HR := Lib.hid hr
  have HWS := Lib.hid hWs
  have HD : Below W.heap.size W W.drew := (Below.refl _ W).drew
  obtain ⟨s0, s1⟩ := hy.c2
  have hstep := Lib.hid (show ∀ wc wn, Below W.heap.size W wc → Below wc.heap.size wc wn → Below W.heap.size W wn from fun wc wn h1 h2 => h1.trans (h2.mono h1.size))
  have hcall := Lib.hid (show ∀ wc, Below W.heap.size W wc → Below w.heap.size w wc from fun wc h => hx.below.trans (h.mono (by omega)))
  clear hl hr hx hy hWs hTl hTr hpl
  go_enter Tryd.func33, Tryd.ntmps33
  go_wp2
  clear hW
  go_region_held3 (fun w' => w'.cell? ⟨w.heap.size + 1, 0, none⟩ = some vl ∧ w'.cell? ⟨w.heap.size + 1, 1, none⟩ = some vr) (go_keep)
    (first | (go_at_call_of 33 vl; refine (HL.out _ (hcall.out _ (by first | exact HD | exact hbR))).mono ?_; rintro e wL ⟨a1, a2, a3, a4, a5, a6, rfl, htL, hbl⟩; have hbL := (by first | exact hstep.out _ _ HD hbl | exact hstep.out _ _ hbR hbl); have HTL := Lib.hid htL; have HBL := Lib.hid hbl; clear htL hbl; obtain ⟨p0, p1⟩ := (HY.out.step hbL).c2; have xc := fun o => ((HX.out.step hbL).alloc o).cell; have xf := fun o => ((HX.out.step hbL).alloc o).fz) | (go_at_call_of 33 vr; refine (HR.out _ (hcall.out _ (by first | exact HD | exact hbL))).mono ?_; rintro e wR ⟨c1, c2, c3, c4, c5, c6, rfl, htR, hbr⟩; have hbR := (by first | exact hstep.out _ _ HD hbr | exact hstep.out _ _ hbL hbr); have HTR := Lib.hid htR; have HBR := Lib.hid hbr; clear htR hbr; obtain ⟨q0, q1⟩ := (HY.out.step hbR).c2; have yc := fun o => ((HX.out.step hbR).alloc o).cell; have yf := fun o => ((HX.out.step hbR).alloc o).fz))
  go_wp2
  refine bodyPost_ret (v := .agg #[.int .i64 4, .bool false, .slice none 0 0, .string ⟨#[]⟩, .int .i64 0, .int .i64 0, .bool false, .bool false, .slice (some ⟨wR.heap.size, 0, none⟩) 2 2]) (by simp [results, Tryd.results33, go_sem, yc, yf]) rfl ?_
  have hws := HWS.out
  have sL := HBL.out.size
  have sR := HBR.out.size
  have sLd : W.drew.heap.size = W.heap.size := rfl
  have hTL2 : TreeSp wR (Fr W.drew wL) Tl _ := HTL.out.below (fun b hb => hb.2) HBR.out
  have hTR2 := HTR.out
  refine ⟨none, 0, 0, some ⟨wR.heap.size, 0, none⟩, 2, 2, rfl, ?_, ?_⟩
  · have h2 := two_sp (hd := hd0 4) rfl (by decide) hTL2 hTR2 (fun x h1 h2 => by have := h1.2; have := h2.1; omega) (fun x hx => by rcases hx with hx | hx <;> (have := hx.2; omega)) _ rfl
    refine TreeSp.more (fun b hb => ⟨by rcases hb with (⟨h5, h6⟩ | ⟨h5, h6⟩) | h5 <;> omega, by rw [size_set9]; simp only [World.alloc_size']; rcases hb with (⟨h5, h6⟩ | ⟨h5, h6⟩) | h5 <;> omega⟩) (h2.set9 (X := w.heap.size) (fun hb => by rcases hb with (⟨h5, h6⟩ | ⟨h5, h6⟩) | h5 <;> omega) _ _ _ _ _ _ _ _ _)
  · exact below_set9 (((hcall.out _ hbR)).alloc (by omega) _) (Nat.le_refl _) _ _ _ _ _ _ _ _ _


set_option maxRecDepth 100000 in
set_option maxHeartbeats 4000000 in
theorem sp_mul (l r : Tm) (vl vr : Value) (w : World) (hol : vl.oneCell' = true) (hor : vr.oneCell' = true)
    (hl : ∀ w', Below w.heap.size w w' → Calls Tryd.prog 33 #[vl] w' (SpPost (plainT l) w')) (hr : ∀ w', Below w.heap.size w w' → Calls Tryd.prog 33 #[vr] w' (SpPost (plainT r) w')) :
    Calls Tryd.prog 33 #[.iface 57 (.agg #[vl, vr])] w (SpPost (plainT (.mul l r)) w) := by
  obtain ⟨W, hW⟩ : ∃ W, (w.alloc (.cells #[.int .i64 0, .bool false, .slice none 0 0, .string ⟨#[]⟩, .int .i64 0, .int .i64 0, .bool false, .bool false, .slice none 0 0] TT)).alloc (.cells #[vl, vr] 57) = W := ⟨_, rfl⟩
  obtain ⟨Tl, hTl⟩ : ∃ T, T = plainT l := ⟨_, rfl⟩
  obtain ⟨Tr', hTr⟩ : ∃ T, T = plainT r := ⟨_, rfl⟩
  have hpl : plainT (.mul l r) = .mk (hd0 5) [Tl, Tr'] := by rw [hTl, hTr]; rfl
  rw [hpl]
  rw [← hTl] at hl
  rw [← hTr] at hr
  have hx : Box w W w.heap.size #[.int .i64 0, .bool false, .slice none 0 0, .string ⟨#[]⟩, .int .i64 0, .int .i64 0, .bool false, .bool false, .slice none 0 0] TT := by rw [← hW]; exact (Box.new w _ _).alloc _
  have hy : Box w W (w.heap.size + 1) #[vl, vr] 57 := by rw [← hW]; exact Box.second w _ _ _
  have hWs : W.heap.size = w.heap.size + 2 := by rw [← hW]; simp
  have HX := Lib.hid hx
  have HY := Lib.hid hy
  have HL := Lib.hid hl
  have HR := Lib.hid hr
  have HWS := Lib.hid hWs
  have HD : Below W.heap.size W W.drew := (Below.refl _ W).drew
  obtain ⟨s0, s1⟩ := hy.c2
  have hstep := Lib.hid (show ∀ wc wn, Below W.heap.size W wc → Below wc.heap.size wc wn → Below W.heap.size W wn from fun wc wn h1 h2 => h1.trans (h2.mono h1.size))
  have hcall := Lib.hid (show ∀ wc, Below W.heap.size W wc → Below w.heap.size w wc from fun wc h => hx.below.trans (h.mono (by omega)))
  clear hl hr hx hy hWs hTl hTr hpl
  go_enter Tryd.func33, Tryd.ntmps33
  go_wp2
  clear hW
  go_region_held3 (fun w' => w'.cell? ⟨w.heap.size + 1, 0, none⟩ = some vl ∧ w'.cell? ⟨w.heap.size + 1, 1, none⟩ = some vr) (go_keep)
    (first | (go_at_call_of 33 vl; refine (HL.out _ (hcall.out _ (by first | exact HD | exact hbR))).mono ?_; rintro e wL ⟨a1, a2, a3, a4, a5, a6, rfl, htL, hbl⟩; have hbL := (by first | exact hstep.out _ _ HD hbl | exact hstep.out _ _ hbR hbl); have HTL := Lib.hid htL; have HBL := Lib.hid hbl; clear htL hbl; obtain ⟨p0, p1⟩ := (HY.out.step hbL).c2; have xc := fun o => ((HX.out.step hbL).alloc o).cell; have xf := fun o => ((HX.out.step hbL).alloc o).fz) | (go_at_call_of 33 vr; refine (HR.out _ (hcall.out _ (by first | exact HD | exact hbL))).mono ?_; rintro e wR ⟨c1, c2, c3, c4, c5, c6, rfl, htR, hbr⟩; have hbR := (by first | exact hstep.out _ _ HD hbr | exact hstep.out _ _ hbL hbr); have HTR := Lib.hid htR; have HBR := Lib.hid hbr; clear htR hbr; obtain ⟨q0, q1⟩ := (HY.out.step hbR).c2; have yc := fun o => ((HX.out.step hbR).alloc o).cell; have yf := fun o => ((HX.out.step hbR).alloc o).fz))
  go_wp2
  refine bodyPost_ret (v := .agg #[.int .i64 5, .bool false, .slice none 0 0, .string ⟨#[]⟩, .int .i64 0, .int .i64 0, .bool false, .bool false, .slice (some ⟨wR.heap.size, 0, none⟩) 2 2]) (by simp [results, Tryd.results33, go_sem, yc, yf]) rfl ?_
  have hws := HWS.out
  have sL := HBL.out.size
  have sR := HBR.out.size
  have sLd : W.drew.heap.size = W.heap.size := rfl
  have hTL2 : TreeSp wR (Fr W.drew wL) Tl _ := HTL.out.below (fun b hb => hb.2) HBR.out
  have hTR2 := HTR.out
  refine ⟨none, 0, 0, some ⟨wR.heap.size, 0, none⟩, 2, 2, rfl, ?_, ?_⟩
  · have h2 := two_sp (hd := hd0 5) rfl (by decide) hTL2 hTR2 (fun x h1 h2 => by have := h1.2; have := h2.1; omega) (fun x hx => by rcases hx with hx | hx <;> (have := hx.2; omega)) _ rfl
    refine TreeSp.more (fun b hb => ⟨by rcases hb with (⟨h5, h6⟩ | ⟨h5, h6⟩) | h5 <;> omega, by rw [size_set9]; simp only [World.alloc_size']; rcases hb with (⟨h5, h6⟩ | ⟨h5, h6⟩) | h5 <;> omega⟩) (h2.set9 (X := w.heap.size) (fun hb => by rcases hb with (⟨h5, h6⟩ | ⟨h5, h6⟩) | h5 <;> omega) _ _ _ _ _ _ _ _ _)
  · exact below_set9 (((hcall.out _ hbR)).alloc (by omega) _) (Nat.le_refl _) _ _ _ _ _ _ _ _ _


set_option maxRecDepth 100000 in
set_option maxHeartbeats 4000000 in
theorem sp_neg (l : Tm) (vl : Value) (w : World) (hol : vl.oneCell' = true)
    (hl : ∀ w', Below w.heap.size w w' → Calls Tryd.prog 33 #[vl] w' (SpPost (plainT l) w')) :
    Calls Tryd.prog 33 #[.iface 88 (.agg #[vl])] w (SpPost (plainT (.neg l)) w) := by
  obtain ⟨W, hW⟩ : ∃ W, (w.alloc (.cells #[.int .i64 0, .bool false, .slice none 0 0, .string ⟨#[]⟩, .int .i64 0, .int .i64 0, .bool false, .bool false, .slice none 0 0] TT)).alloc (.cells #[vl] 88) = W := ⟨_, rfl⟩
  obtain ⟨Tl, hTl⟩ : ∃ T, T = plainT l := ⟨_, rfl⟩
  have hpl : plainT (.neg l) = .mk (hd0 6) [Tl] := by rw [hTl]; rfl
  rw [hpl]
  rw [← hTl] at hl
  have hx : Box w W w.heap.size #[.int .i64 0, .bool false, .slice none 0 0, .string ⟨#[]⟩, .int .i64 0, .int .i64 0, .bool false, .bool false, .slice none 0 0] TT := by rw [← hW]; exact (Box.new w _ _).alloc _
  have hy : Box w W (w.heap.size + 1) #[vl] 88 := by rw [← hW]; exact Box.second w _ _ _
  have hWs : W.heap.size = w.heap.size + 2 := by rw [← hW]; simp
  have HX := Lib.hid hx
  have HY := Lib.hid hy
  have HL := Lib.hid hl
  have HWS := Lib.hid hWs
  have HD : Below W.heap.size W W := Below.refl _ W
  have s0 : W.cell? ⟨w.heap.size + 1, 0, none⟩ = some (vl) := hy.cell 0
  have hstep := Lib.hid (show ∀ wc wn, Below W.heap.size W wc → Below wc.heap.size wc wn → Below W.heap.size W wn from fun wc wn h1 h2 => h1.trans (h2.mono h1.size))
  have hcall := Lib.hid (show ∀ wc, Below W.heap.size W wc → Below w.heap.size w wc from fun wc h => hx.below.trans (h.mono (by omega)))
  clear hl hx hy hWs hTl hpl
  go_enter Tryd.func33, Tryd.ntmps33
  go_wp2_with (go_at_call 33; refine (HL.out _ (hcall.out _ HD)).mono ?_; rintro e wL ⟨a1, a2, a3, a4, a5, a6, rfl, htL, hbl⟩; have hbL := hstep.out _ _ HD hbl; have HTL := Lib.hid htL; have HBL := Lib.hid hbl; clear htL hbl; have p0 : wL.cell? ⟨w.heap.size + 1, 0, none⟩ = some (vl) := (HY.out.step hbL).cell 0; have xc := fun o => ((HX.out.step hbL).alloc o).cell; have xf := fun o => ((HX.out.step hbL).alloc o).fz)
  clear hW
  refine bodyPost_ret (v := .agg #[.int .i64 6, .bool false, .slice none 0 0, .string ⟨#[]⟩, .int .i64 0, .int .i64 0, .bool false, .bool false, .slice (some ⟨wL.heap.size, 0, none⟩) 1 1]) (by simp [results, Tryd.results33, go_sem, xc, xf]) rfl ?_
  have hws := HWS.out
  have sL := HBL.out.size
  have sLd : W.heap.size = W.heap.size := rfl
  have hTL2 := HTL.out
  refine ⟨none, 0, 0, some ⟨wL.heap.size, 0, none⟩, 1, 1, rfl, ?_, ?_⟩
  · have h2 := one_sp (hd := hd0 6) rfl (by decide) hTL2 (fun x hx => hx.2) _ rfl
    refine TreeSp.more (fun b hb => ⟨by rcases hb with ⟨h5, h6⟩ | h5 <;> omega, by rw [size_set9]; simp only [World.alloc_size']; rcases hb with ⟨h5, h6⟩ | h5 <;> omega⟩) (h2.set9 (X := w.heap.size) (fun hb => by rcases hb with ⟨h5, h6⟩ | h5 <;> omega) _ _ _ _ _ _ _ _ _)
  · exact below_set9 (((hcall.out _ hbL)).alloc (by omega) _) (Nat.le_refl _) _ _ _ _ _ _ _ _ _


set_option maxRecDepth 100000 in
set_option maxHeartbeats 4000000 in
theorem sp_pow (e m : Int) (hm : m = max e 0) (l : Tm) (vl : Value) (w : World) (hol : vl.oneCell' = true)
    (hl : ∀ w', Below w.heap.size w w' → Calls Tryd.prog 33 #[vl] w' (SpPost (plainT l) w')) :
    Calls Tryd.prog 33 #[.iface 49 (.agg #[vl, .int .i64 e])] w (SpPost (plainT (.pow l e)) w) := by
  obtain ⟨W, hW⟩ : ∃ W, (w.alloc (.cells #[.int .i64 0, .bool false, .slice none 0 0, .string ⟨#[]⟩, .int .i64 0, .int .i64 0, .bool false, .bool false, .slice none 0 0] TT)).alloc (.cells #[vl, .int .i64 e] 49) = W := ⟨_, rfl⟩
  obtain ⟨Tl, hTl⟩ : ∃ T, T = plainT l := ⟨_, rfl⟩
  have hpl : plainT (.pow l e) = .mk ({ hd0 7 with exp := m }) [Tl] := by rw [hTl]; show Tr.mk { hd0 7 with exp := max e 0 } [plainT l] = _; rw [← hm]
  rw [hpl]
  rw [← hTl] at hl
  have hx : Box w W w.heap.size #[.int .i64 0, .bool false, .slice none 0 0, .string ⟨#[]⟩, .int .i64 0, .int .i64 0, .bool false, .bool false, .slice none 0 0] TT := by rw [← hW]; exact (Box.new w _ _).alloc _
  have hy : Box w W (w.heap.size + 1) #[vl, .int .i64 e] 49 := by rw [← hW]; exact Box.second w _ _ _
  have hWs : W.heap.size = w.heap.size + 2 := by rw [← hW]; simp
  have HX := Lib.hid hx
  have HY := Lib.hid hy
  have HL := Lib.hid hl
  have HWS := Lib.hid hWs
  have HD : Below W.heap.size W W.drew := (Below.refl _ W).drew
  have s0 : W.cell? ⟨w.heap.size + 1, 0, none⟩ = some (vl) := hy.cell 0
  have s1 : W.cell? ⟨w.heap.size + 1, 1, none⟩ = some (.int .i64 e) := hy.cell 1
  have hif : (if e < 0 then (0 : Int) else e) = m := by rw [hm]; split <;> omega
  have hstep := Lib.hid (show ∀ wc wn, Below W.heap.size W wc → Below wc.heap.size wc wn → Below W.heap.size W wn from fun wc wn h1 h2 => h1.trans (h2.mono h1.size))
  have hcall := Lib.hid (show ∀ wc, Below W.heap.size W wc → Below w.heap.size w wc from fun wc h => hx.below.trans (h.mono (by omega)))
  clear hl hx hy hWs hTl hpl hm
  go_enter Tryd.func33, Tryd.ntmps33
  go_wp2
  clear hW
  go_region_held3 (fun w' => w'.cell? ⟨w.heap.size + 1, 0, none⟩ = some (vl) ∧ w'.cell? ⟨w.heap.size + 1, 1, none⟩ = some (.int .i64 e)) (go_keep)
    (first | (go_at_call 33; refine (HL.out _ (hcall.out _ HD)).mono ?_; rintro e wL ⟨a1, a2, a3, a4, a5, a6, rfl, htL, hbl⟩; have hbL := hstep.out _ _ HD hbl; have HTL := Lib.hid htL; have HBL := Lib.hid hbl; clear htL hbl; have p0 : wL.cell? ⟨w.heap.size + 1, 0, none⟩ = some (vl) := (HY.out.step hbL).cell 0; have p1 : wL.cell? ⟨w.heap.size + 1, 1, none⟩ = some (.int .i64 e) := (HY.out.step hbL).cell 1; have xc := fun o => ((HX.out.step hbL).alloc o).cell; have xf := fun o => ((HX.out.step hbL).alloc o).fz))
  go_wp2
  all_goals
    refine bodyPost_ret (v := .agg #[.int .i64 7, .bool false, .slice none 0 0, .string ⟨#[]⟩, .int .i64 m, .int .i64 0, .bool false, .bool false, .slice (some ⟨wL.heap.size, 0, none⟩) 1 1]) (by simp [results, Tryd.results33, go_sem, xc, xf]) rfl ?_
    have hws := HWS.out
    have sL := HBL.out.size
    have sLd : W.drew.heap.size = W.heap.size := rfl
    have hTL2 := HTL.out
    refine ⟨none, 0, 0, some ⟨wL.heap.size, 0, none⟩, 1, 1, rfl, ?_, ?_⟩
    · have h2 := one_sp (hd := { hd0 7 with exp := m }) rfl (show (⟨#[]⟩ : ByteArray).size ≤ _ from by decide) hTL2 (fun x hx => hx.2) _ rfl
      refine TreeSp.more (fun b hb => ⟨by rcases hb with ⟨h5, h6⟩ | h5 <;> omega, by rw [size_set9]; simp only [World.alloc_size']; rcases hb with ⟨h5, h6⟩ | h5 <;> omega⟩) (h2.set9 (X := w.heap.size) (fun hb => by rcases hb with ⟨h5, h6⟩ | h5 <;> omega) _ _ _ _ _ _ _ _ _)
    · exact below_set9 (((hcall.out _ hbL)).alloc (by omega) _) (Nat.le_refl _) _ _ _ _ _ _ _ _ _

set_option maxRecDepth 100000 in
set_option maxHeartbeats 4000000 in
theorem sp_num (neg : Bool) (abs : List Nat) (A : Option Addr) (n c : Nat) (S : Nat → Prop) (w : World) (hS : ∀ b, S b → b < w.heap.size) (hA : AbsAt w S (.slice A n c) abs) (hl : abs.length ≤ 1000000) :
    Calls Tryd.prog 33 #[.iface 86 (.agg #[.bool neg, .slice A n c])] w (SpPost (plainT (.num neg abs)) w) := by
  obtain ⟨W, hW⟩ : ∃ W, (w.alloc (.cells #[.int .i64 0, .bool false, .slice none 0 0, .string ⟨#[]⟩, .int .i64 0, .int .i64 0, .bool false, .bool false, .slice none 0 0] TT)).alloc (.cells #[.bool neg, .slice A n c] 86) = W := ⟨_, rfl⟩
  obtain ⟨r, hr⟩ : ∃ r, r = normB neg abs := ⟨_, rfl⟩
  have hpl : plainT (.num neg abs) = .mk { hd0 1 with neg := r, abs := trimN abs } [] := by rw [hr]; rfl
  rw [hpl]
  have hx : Box w W w.heap.size #[.int .i64 0, .bool false, .slice none 0 0, .string ⟨#[]⟩, .int .i64 0, .int .i64 0, .bool false, .bool false, .slice none 0 0] TT := by rw [← hW]; exact (Box.new w _ _).alloc _
  obtain ⟨s0, s1⟩ : W.cell? ⟨w.heap.size + 1, 0, none⟩ = some (.bool neg) ∧ W.cell? ⟨w.heap.size + 1, 1, none⟩ = some (.slice A n c) := by (have hy : Box w W (w.heap.size + 1) #[.bool neg, .slice A n c] 86 := (by rw [← hW]; exact Box.second w _ _ _); exact hy.c2)
  have hWs : W.heap.size = w.heap.size + 2 := by rw [← hW]; simp
  have HX := Lib.hid hx
  have HN := Lib.hid (normal_any neg abs (.slice A n c) S W (fun b hb => by have := hS b hb; omega) (hA.below hS hx.below) hl)
  have HR := Lib.hid hr
  have HWS := Lib.hid hWs
  clear hr hpl hx hWs hA
  go_enter Tryd.func33, Tryd.ntmps33
  go_wp2_with (go_at_call 32; refine HN.out.mono ?_; intro e w3 hq; obtain ⟨A', n', c', rfl, hA', hb3⟩ := hq.named r HR.out; clear hq; have HA := Lib.hid hA'; clear hA'; have xc := (HX.out.step hb3).cell; have xf := (HX.out.step hb3).fz)
  clear hW
  refine bodyPost_ret (v := .agg #[.int .i64 1, .bool r, .slice A' n' c', .string ⟨#[]⟩, .int .i64 0, .int .i64 0, .bool false, .bool false, .slice none 0 0]) (by simp [results, Tryd.results33, go_sem, xc, xf]) rfl ?_
  have hws := HWS.out
  have s3 := hb3.size
  refine ⟨A', n', c', none, 0, 0, rfl, ?_, ?_⟩
  · have h2 : TreeSp w3 (Fd w 2 w3) (.mk { hd0 1 with neg := r, abs := trimN abs } []) (hdC { hd0 1 with neg := r, abs := trimN abs } (.slice A' n' c') (.slice none 0 0)) := no_sp (HA.out.more (fun b hb => ⟨by omega, hb.2⟩)) (show (⟨#[]⟩ : ByteArray).size ≤ _ from by decide)
    exact TreeSp.more (fun b hb => ⟨by omega, by rw [size_set9]; exact hb.2⟩) (h2.set9 (X := w.heap.size) (fun h => by have := h.1; omega) _ _ _ _ _ _ _ _ _)
  · exact below_set9 (HX.out.step hb3).below (Nat.le_refl _) _ _ _ _ _ _ _ _ _

set_option maxRecDepth 100000 in
set_option maxHeartbeats 4000000 in
theorem sp_name (s : ByteArray) (w : World) (hs : s.size ≤ 9223372036854775807) :
    Calls Tryd.prog 33 #[.iface 47 (.agg #[.string s])] w (SpPost (plainT (.name s)) w) := by
  obtain ⟨W, hW⟩ : ∃ W, (w.alloc (.cells #[.int .i64 0, .bool false, .slice none 0 0, .string ⟨#[]⟩, .int .i64 0, .int .i64 0, .bool false, .bool false, .slice none 0 0] TT)).alloc (.cells #[.string s] 47) = W := ⟨_, rfl⟩
  have hx : Box w W w.heap.size #[.int .i64 0, .bool false, .slice none 0 0, .string ⟨#[]⟩, .int .i64 0, .int .i64 0, .bool false, .bool false, .slice none 0 0] TT := by rw [← hW]; exact (Box.new w _ _).alloc _
  have s0 : W.cell? ⟨w.heap.size + 1, 0, none⟩ = some (.string s) := by (have hy : Box w W (w.heap.size + 1) #[.string s] 47 := (by rw [← hW]; exact Box.second w _ _ _); exact hy.cell 0)
  have hWs : W.heap.size = w.heap.size + 2 := by rw [← hW]; simp
  have HX := Lib.hid hx
  have xc := hx.cell
  have xf := hx.fz
  clear hx hWs
  go_enter Tryd.func33, Tryd.ntmps33
  go_wp2
  clear hW
  refine bodyPost_ret (v := .agg #[.int .i64 2, .bool false, .slice none 0 0, .string s, .int .i64 0, .int .i64 0, .bool false, .bool false, .slice none 0 0]) (by simp [results, Tryd.results33, go_sem, xc, xf]) rfl ?_
  refine ⟨none, 0, 0, none, 0, 0, rfl, ?_, ?_⟩
  · have h2 : TreeSp W (fun _ => False) (.mk { hd0 2 with name := s } []) (hdC { hd0 2 with name := s } (.slice none 0 0) (.slice none 0 0)) := no_sp AbsAt.empty hs
    exact TreeSp.more (fun b hb => False.elim hb) (h2.set9 (X := w.heap.size) (fun h => h) _ _ _ _ _ _ _ _ _)
  · exact below_set9 HX.out.below (Nat.le_refl _) _ _ _ _ _ _ _ _ _

set_option maxRecDepth 100000 in
set_option maxHeartbeats 4000000 in
theorem sp_odd (v : Value) (w : World) (h : OddV v) : Calls Tryd.prog 33 #[v] w (SpPost (plainT .odd) w) := by
  obtain ⟨W, hW⟩ : ∃ W, w.alloc (.cells #[.int .i64 0, .bool false, .slice none 0 0, .string ⟨#[]⟩, .int .i64 0, .int .i64 0, .bool false, .bool false, .slice none 0 0] TT) = W := ⟨_, rfl⟩
  have hx : Box w W w.heap.size #[.int .i64 0, .bool false, .slice none 0 0, .string ⟨#[]⟩, .int .i64 0, .int .i64 0, .bool false, .bool false, .slice none 0 0] TT := by rw [← hW]; exact Box.new w _ _
  have HX := Lib.hid hx
  have xc := hx.cell
  have xf := hx.fz
  clear hx
  have fin : ∀ v0 : Value, v0 = .agg #[.int .i64 1, .bool false, .slice none 0 0, .string ⟨#[]⟩, .int .i64 0, .int .i64 0, .bool false, .bool false, .slice none 0 0] → SpPost (plainT .odd) w (.returned v0) (set9 W w.heap.size (.int .i64 1) (.bool false) (.slice none 0 0) (.string ⟨#[]⟩) (.int .i64 0) (.int .i64 0) (.bool false) (.bool false) (.slice none 0 0)) := by
    rintro v0 rfl
    refine ⟨none, 0, 0, none, 0, 0, rfl, ?_, below_set9 HX.out.below (Nat.le_refl _) _ _ _ _ _ _ _ _ _⟩
    have h2 : TreeSp W (fun _ => False) (.mk (hd0 1) []) (hdC (hd0 1) (.slice none 0 0) (.slice none 0 0)) := no_sp AbsAt.empty (by decide)
    exact TreeSp.more (fun b hb => False.elim hb) (h2.set9 (X := w.heap.size) (fun h => h) _ _ _ _ _ _ _ _ _)
  have Fin := Lib.hid fin
  clear fin
  rcases h with rfl | ⟨u, a, rfl, hu⟩
  · go_enter Tryd.func33, Tryd.ntmps33
    go_wp2
    clear hW
    exact bodyPost_ret (v := .agg #[.int .i64 1, .bool false, .slice none 0 0, .string ⟨#[]⟩, .int .i64 0, .int .i64 0, .bool false, .bool false, .slice none 0 0]) (by simp [results, Tryd.results33, go_sem, xc, xf]) rfl (Fin.out _ rfl)
  · simp only [List.mem_cons, List.not_mem_nil, or_false, not_or] at hu
    obtain ⟨u1, u2, u3, u4, u5, u6, u7, _⟩ := hu
    go_enter Tryd.func33, Tryd.ntmps33
    go_wp2
    clear hW
    exact bodyPost_ret (v := .agg #[.int .i64 1, .bool false, .slice none 0 0, .string ⟨#[]⟩, .int .i64 0, .int .i64 0, .bool false, .bool false, .slice none 0 0]) (by simp [results, Tryd.results33, go_sem, xc, xf]) rfl (Fin.out _ rfl)

theorem spTerm_any : ∀ (t : Tm) (v : Value) (S : Nat → Prop) (w : World), (∀ b, S b → b < w.heap.size) → TmAt w S t v → SmT t → Calls Tryd.prog 33 #[v] w (SpPost (plainT t) w) := by
  intro t
  induction t with
  | odd => intro v S w hS h hs; exact sp_odd v w h
  | num neg abs => rintro v S w hS ⟨A, n, c, rfl, hA⟩ hs; exact sp_num neg abs A n c S w hS hA hs
  | name s => rintro v S w hS ⟨rfl, hl⟩ hs; exact sp_name s w hl
  | add l r il ir =>
    rintro v S w hS ⟨vl, vr, rfl, h1, h2⟩ hs
    exact sp_add l r vl vr w h1.one h2.one (fun w' hb => il vl S w' (fun b hb' => Nat.lt_of_lt_of_le (hS b hb') hb.size) (h1.below hS hb) hs.1) (fun w' hb => ir vr S w' (fun b hb' => Nat.lt_of_lt_of_le (hS b hb') hb.size) (h2.below hS hb) hs.2)
  | sub l r il ir =>
    rintro v S w hS ⟨vl, vr, rfl, h1, h2⟩ hs
    exact sp_sub l r vl vr w h1.one h2.one (fun w' hb => il vl S w' (fun b hb' => Nat.lt_of_lt_of_le (hS b hb') hb.size) (h1.below hS hb) hs.1) (fun w' hb => ir vr S w' (fun b hb' => Nat.lt_of_lt_of_le (hS b hb') hb.size) (h2.below hS hb) hs.2)
  | mul l r il ir =>
    rintro v S w hS ⟨vl, vr, rfl, h1, h2⟩ hs
    exact sp_mul l r vl vr w h1.one h2.one (fun w' hb => il vl S w' (fun b hb' => Nat.lt_of_lt_of_le (hS b hb') hb.size) (h1.below hS hb) hs.1) (fun w' hb => ir vr S w' (fun b hb' => Nat.lt_of_lt_of_le (hS b hb') hb.size) (h2.below hS hb) hs.2)
  | neg t it =>
    rintro v S w hS ⟨vt, rfl, h1⟩ hs
    exact sp_neg t vt w h1.one (fun w' hb => it vt S w' (fun b hb' => Nat.lt_of_lt_of_le (hS b hb') hb.size) (h1.below hS hb) hs)
  | pow t e it =>
    rintro v S w hS ⟨vt, rfl, h1⟩ hs
    exact sp_pow e _ rfl t vt w h1.one (fun w' hb => it vt S w' (fun b hb' => Nat.lt_of_lt_of_le (hS b hb') hb.size) (h1.below hS hb) hs)

end Fm
end Go.Proofs.YtkjbfomokdjbnaaDoor
