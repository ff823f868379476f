/-
  The reference's in, two, text: on the trees of terms and formulas without negative numbers.
-/
import Derived.Test.YtkjbfomokdjbnaaDoorRtZ
namespace Go.Proofs.YtkjbfomokdjbnaaDoor
open Go.RowKit Go.Sort
set_option linter.unusedSimpArgs false
set_option linter.unusedVariables false
namespace Rt
open Fm Dc
attribute [local go_sem] run_store
def TxC (t : Tr) (s : ByteArray) : Prop := ∀ (cs : List Value) (S : Nat → Prop) (w : World), (∀ b, S b → b < w.heap.size) → TreeAt w S t cs → Calls Tryd.prog 31 #[.agg cs.toArray] w (StrPost s w)
def InC (t : Tr) (r : Int) (s : ByteArray) : Prop := ∀ (cs : List Value) (S : Nat → Prop) (w : World), (∀ b, S b → b < w.heap.size) → TreeAt w S t cs → Calls Tryd.prog 56 #[.agg cs.toArray, .int .i64 r] w (StrPost s w)
def TwC (t : Tr) (x : Int) (m : ByteArray) (y : Int) (s : ByteArray) : Prop := ∀ (cs : List Value) (S : Nat → Prop) (w : World), (∀ b, S b → b < w.heap.size) → TreeAt w S t cs → Calls Tryd.prog 57 #[.agg cs.toArray, .int .i64 x, .string m, .int .i64 y] w (StrPost s w)
def QuietS (f : FuncId) (args : Array Value) (s : ByteArray) (W : World) : Prop := ∀ d os, Calls Tryd.prog f args (grow (redrawn W d) os) fun e w' => e = .returned (.string s) ∧ Below (grow (redrawn W d) os).heap.size (grow (redrawn W d) os) w'

set_option maxRecDepth 100000 in
set_option maxHeartbeats 4000000 in
theorem in_false (h : Hd) (ks : List Tr) (s : ByteArray) (r st : Int) (hst : StC h.k st) (ht : TxC (.mk h ks) s) (hp : decide (st < r) = false) (hs : s.size ≤ 2000000) : InC (.mk h ks) r s := by
  intro cs S w hS hT
  have htt := fun w' (hb : Below w.heap.size w w') => hT.below hS hb
  obtain ⟨va, vk, xs, rfl, hab, hnm, hkl, hks, htr⟩ := hT.cells
  dsimp only [Tr.h, Tr.kids, hd0] at hab hnm hkl hks htr htt ⊢
  obtain ⟨A9, c9, hv⟩ := hab.form
  obtain ⟨A8, c8, hv8⟩ := hks.form
  subst hv
  subst hv8
  have htx := fun w' (hb : Below w.heap.size w w') => ht _ S w' (fun b h => Nat.lt_of_lt_of_le (hS b h) hb.size) (htt w' hb)
  unfold hdC at htx
  unfold hdC
  try dsimp only
  obtain ⟨W, hW⟩ : ∃ W, w.alloc (.cells #[.int .i64 h.k, .bool h.neg, .slice A9 h.abs.length c9, .string h.name, .int .i64 h.exp, .int .i64 h.rel, .bool h.truth, .bool h.all, .slice A8 ks.length c8] TT) = W := ⟨_, rfl⟩
  have hx : Box w W w.heap.size #[.int .i64 h.k, .bool h.neg, .slice A9 h.abs.length c9, .string h.name, .int .i64 h.exp, .int .i64 h.rel, .bool h.truth, .bool h.all, .slice A8 ks.length c8] TT := by rw [← hW]; exact Box.new w _ _
  obtain ⟨x0, x1, x2, x3, x4, x5, x6, x7, x8⟩ := hx.c9
  have HS := Lib.hid (hst W)
  have HX := Lib.hid hx
  have HTX := Lib.hid htx
  have hz1 : ¬ 9223372036854775807 < 1 + s.size := by omega
  have hz2 : ¬ 9223372036854775807 < 1 + s.size + 1 := by omega
  clear htx hst ht htt hab hks htr hS hT hx hnm hkl
  go_enter Tryd.func56, Tryd.ntmps56
  go_wp2_with fail
  refine HS.out.mono ?_
  rintro e w1 ⟨rfl, hb1⟩
  have hx1 := HX.out.step hb1
  obtain ⟨y0, y1, y2, y3, y4, y5, y6, y7, y8⟩ := hx1.c9
  have HX1 := Lib.hid hx1
  clear hb1 hx1 x0 x1 x2 x3 x4 x5 x6 x7 x8
  go_wp2_with fail
  refine (HTX.out _ HX1.out.below).mono ?_
  rintro e w2 ⟨rfl, hb2⟩
  have HX2 := Lib.hid (HX1.out.step hb2)
  clear hb2
  go_wp2
  go_ret
  exact ⟨rfl, HX2.out.below⟩

set_option maxRecDepth 100000 in
set_option maxHeartbeats 4000000 in
theorem in_true (h : Hd) (ks : List Tr) (s : ByteArray) (r st : Int) (hst : StC h.k st) (ht : TxC (.mk h ks) s) (hp : decide (st < r) = true) (hs : s.size ≤ 2000000) : InC (.mk h ks) r (⟨#[40]⟩ ++ s ++ ⟨#[41]⟩) := by
  intro cs S w hS hT
  have htt := fun w' (hb : Below w.heap.size w w') => hT.below hS hb
  obtain ⟨va, vk, xs, rfl, hab, hnm, hkl, hks, htr⟩ := hT.cells
  dsimp only [Tr.h, Tr.kids, hd0] at hab hnm hkl hks htr htt ⊢
  obtain ⟨A9, c9, hv⟩ := hab.form
  obtain ⟨A8, c8, hv8⟩ := hks.form
  subst hv
  subst hv8
  have htx := fun w' (hb : Below w.heap.size w w') => ht _ S w' (fun b h => Nat.lt_of_lt_of_le (hS b h) hb.size) (htt w' hb)
  unfold hdC at htx
  unfold hdC
  try dsimp only
  obtain ⟨W, hW⟩ : ∃ W, w.alloc (.cells #[.int .i64 h.k, .bool h.neg, .slice A9 h.abs.length c9, .string h.name, .int .i64 h.exp, .int .i64 h.rel, .bool h.truth, .bool h.all, .slice A8 ks.length c8] TT) = W := ⟨_, rfl⟩
  have hx : Box w W w.heap.size #[.int .i64 h.k, .bool h.neg, .slice A9 h.abs.length c9, .string h.name, .int .i64 h.exp, .int .i64 h.rel, .bool h.truth, .bool h.all, .slice A8 ks.length c8] TT := by rw [← hW]; exact Box.new w _ _
  obtain ⟨x0, x1, x2, x3, x4, x5, x6, x7, x8⟩ := hx.c9
  have HS := Lib.hid (hst W)
  have HX := Lib.hid hx
  have HTX := Lib.hid htx
  have hz1 : ¬ 9223372036854775807 < 1 + s.size := by omega
  have hz2 : ¬ 9223372036854775807 < 1 + s.size + 1 := by omega
  clear htx hst ht htt hab hks htr hS hT hx hnm hkl
  go_enter Tryd.func56, Tryd.ntmps56
  go_wp2_with fail
  refine HS.out.mono ?_
  rintro e w1 ⟨rfl, hb1⟩
  have hx1 := HX.out.step hb1
  obtain ⟨y0, y1, y2, y3, y4, y5, y6, y7, y8⟩ := hx1.c9
  have HX1 := Lib.hid hx1
  clear hb1 hx1 x0 x1 x2 x3 x4 x5 x6 x7 x8
  go_wp2_with fail
  refine (HTX.out _ HX1.out.below).mono ?_
  rintro e w2 ⟨rfl, hb2⟩
  have HX2 := Lib.hid (HX1.out.step hb2)
  clear hb2
  go_wp2
  go_ret
  exact ⟨rfl, HX2.out.below⟩

set_option maxRecDepth 100000 in
set_option maxHeartbeats 4000000 in
theorem two_of (h : Hd) (a b : Tr) (x y : Int) (M s1 s2 : ByteArray) (ia : InC a x s1) (ib : InC b y s2) (hs : s1.size ≤ 2000000 ∧ M.size ≤ 100 ∧ s2.size ≤ 2000000) : TwC (.mk h [a, b]) x M y (s1 ++ M ++ s2) := by
  intro cs S w hS hT
  have htt := fun w' (hb : Below w.heap.size w w') => hT.below hS hb
  obtain ⟨va, vk, xs, rfl, hab, hnm, hkl, hks, htr⟩ := hT.cells
  dsimp only [Tr.h, Tr.kids, hd0] at hab hnm hkl hks htr htt ⊢
  simp only [List.length_cons, List.length_nil, Nat.zero_add, Nat.reduceAdd] at hks
  obtain ⟨A9, c9, hv⟩ := hab.form
  obtain ⟨A8, c8, hv8⟩ := hks.form
  subst hv
  subst hv8
  unfold hdC
  try dsimp only
  obtain ⟨W, hW⟩ : ∃ W, w.alloc (.cells #[.int .i64 h.k, .bool h.neg, .slice A9 h.abs.length c9, .string h.name, .int .i64 h.exp, .int .i64 h.rel, .bool h.truth, .bool h.all, .slice A8 2 c8] TT) = W := ⟨_, rfl⟩
  have hx : Box w W w.heap.size #[.int .i64 h.k, .bool h.neg, .slice A9 h.abs.length c9, .string h.name, .int .i64 h.exp, .int .i64 h.rel, .bool h.truth, .bool h.all, .slice A8 2 c8] TT := by rw [← hW]; exact Box.new w _ _
  obtain ⟨x0, x1, x2, x3, x4, x5, x6, x7, x8⟩ := hx.c9
  have hK : 2 = ([a, b] : List Tr).length := rfl
  obtain ⟨kd0, bb0, o0, A0, n0, c0, B0, m0, d0, hkd0, he0, hb0, hT0, f0, f1, f2, f3, f4, f5, f6, f7, f8⟩ := kid_cells (hks.below hS hx.below) (htr.below hS hx.below) hK 0 (by omega)
  obtain rfl : a = kd0 := by simpa using hkd0
  obtain ⟨kd1, bb1, o1, A1, n1, c1, B1, m1, d1, hkd1, he1, hb1, hT1, g0, g1, g2, g3, g4, g5, g6, g7, g8⟩ := kid_cells (hks.below hS hx.below) (htr.below hS hx.below) hK 1 (by omega)
  obtain rfl : b = kd1 := by simpa using hkd1
  rw [he0] at he1
  injection he1 with he1
  injection he1 with he1a he1b _
  subst he1a; subst he1b
  subst he0
  simp only [Nat.zero_mul, Nat.one_mul, Nat.add_zero] at f0 f1 f2 f3 f4 f5 f6 f7 f8 g0 g1 g2 g3 g4 g5 g6 g7 g8
  have hA : QuietS 56 #[.agg (hdC a.h (.slice A0 n0 c0) (.slice B0 m0 d0)).toArray, .int .i64 x] s1 W := fun d os =>
    ia _ S (grow (redrawn W d) os) (fun b hb => Nat.lt_of_lt_of_le (hS b hb) (Nat.le_trans hx.below.size (below_regrown W d os).size)) (hT0.below (fun b hb => Nat.lt_of_lt_of_le (hS b hb) hx.below.size) (below_regrown W d os))
  unfold QuietS hdC at hA
  have HA := Lib.hid hA
  have hB : QuietS 56 #[.agg (hdC b.h (.slice A1 n1 c1) (.slice B1 m1 d1)).toArray, .int .i64 y] s2 W := fun d os =>
    ib _ S (grow (redrawn W d) os) (fun b hb => Nat.lt_of_lt_of_le (hS b hb) (Nat.le_trans hx.below.size (below_regrown W d os).size)) (hT1.below (fun b hb => Nat.lt_of_lt_of_le (hS b hb) hx.below.size) (below_regrown W d os))
  unfold QuietS hdC at hB
  have HB := Lib.hid hB
  have HX := Lib.hid hx
  have rx8 := fun d os => cell_regrown x8 d os
  have rf0 := fun d os => cell_regrown f0 d os
  have rf1 := fun d os => cell_regrown f1 d os
  have rf2 := fun d os => cell_regrown f2 d os
  have rf3 := fun d os => cell_regrown f3 d os
  have rf4 := fun d os => cell_regrown f4 d os
  have rf5 := fun d os => cell_regrown f5 d os
  have rf6 := fun d os => cell_regrown f6 d os
  have rf7 := fun d os => cell_regrown f7 d os
  have rf8 := fun d os => cell_regrown f8 d os
  have rg0 := fun d os => cell_regrown g0 d os
  have rg1 := fun d os => cell_regrown g1 d os
  have rg2 := fun d os => cell_regrown g2 d os
  have rg3 := fun d os => cell_regrown g3 d os
  have rg4 := fun d os => cell_regrown g4 d os
  have rg5 := fun d os => cell_regrown g5 d os
  have rg6 := fun d os => cell_regrown g6 d os
  have rg7 := fun d os => cell_regrown g7 d os
  have rg8 := fun d os => cell_regrown g8 d os
  obtain ⟨hs1, hs2, hs3⟩ := hs
  have hz1 : ¬ 9223372036854775807 < s1.size + M.size := by omega
  have hz2 : ¬ 9223372036854775807 < s1.size + M.size + s2.size := by omega
  clear hA hT0 hx hks htr hS hT hkd0 hab hb0 ia hkl hnm hK hB hT1 hkd1 hb1 ib htt hs1 hs2 hs3
  go_enter Tryd.func57, Tryd.ntmps57
  go_wp2_with fail
  refine wp_region_quiet_below (by kernel_rfl) (by kernel_rfl) ?_
  (repeat (quiet_step (first | (with_reducible exact Calls.regrown_of (HA.out _ _)) | (with_reducible exact Calls.regrown_of (HB.out _ _)))))
  refine wpQuiet_nil ?_
  rintro _ ⟨⟨d, os⟩, rfl⟩
  have hb2 := below_regrown W d os
  go_wp2
  go_ret
  exact ⟨rfl, HX.out.below.trans (hb2.mono HX.out.below.size)⟩

set_option maxRecDepth 100000 in
set_option maxHeartbeats 4000000 in
theorem tx_3 (a b : Tr) (s : ByteArray) (h2 : TwC (.mk (hd0 3) [a, b]) 1 ⟨#[32, 43, 32]⟩ 2 s) : TxC (.mk (hd0 3) [a, b]) s := by
  intro cs S w hS hT
  have htt := fun w' (hb : Below w.heap.size w w') => hT.below hS hb
  obtain ⟨va, vk, xs, rfl, hab, hnm, hkl, hks, htr⟩ := hT.cells
  dsimp only [Tr.h, Tr.kids, hd0] at hab hnm hkl hks htr htt ⊢
  simp only [List.length_cons, List.length_nil, Nat.zero_add, Nat.reduceAdd] at hks
  obtain ⟨A9, c9, hv⟩ := hab.form
  obtain ⟨A8, c8, hv8⟩ := hks.form
  subst hv
  subst hv8
  have h2x := fun w' (hb : Below w.heap.size w w') => h2 _ S w' (fun b h => Nat.lt_of_lt_of_le (hS b h) hb.size) (htt w' hb)
  unfold hdC at h2x
  unfold hdC
  try dsimp only
  obtain ⟨W, hW⟩ : ∃ W, w.alloc (.cells #[.int .i64 3, .bool false, .slice A9 0 c9, .string ⟨#[]⟩, .int .i64 0, .int .i64 0, .bool false, .bool false, .slice A8 2 c8] TT) = W := ⟨_, rfl⟩
  have hx : Box w W w.heap.size #[.int .i64 3, .bool false, .slice A9 0 c9, .string ⟨#[]⟩, .int .i64 0, .int .i64 0, .bool false, .bool false, .slice A8 2 c8] TT := by rw [← hW]; exact Box.new w _ _
  obtain ⟨x0, x1, x2, x3, x4, x5, x6, x7, x8⟩ := hx.c9
  have HX := Lib.hid hx
  have H2 := Lib.hid h2x
  clear h2x h2 htt hab hks htr hS hT hx hnm hkl
  go_enter Tryd.func31, Tryd.ntmps31
  go_wp2_with fail
  refine (H2.out _ HX.out.below).mono ?_
  rintro e w2 ⟨rfl, hb2⟩
  have HX2 := Lib.hid (HX.out.step hb2)
  clear hb2
  go_wp2
  go_ret
  exact ⟨rfl, HX2.out.below⟩

set_option maxRecDepth 100000 in
set_option maxHeartbeats 4000000 in
theorem tx_4 (a b : Tr) (s : ByteArray) (h2 : TwC (.mk (hd0 4) [a, b]) 1 ⟨#[32, 45, 32]⟩ 2 s) : TxC (.mk (hd0 4) [a, b]) s := by
  intro cs S w hS hT
  have htt := fun w' (hb : Below w.heap.size w w') => hT.below hS hb
  obtain ⟨va, vk, xs, rfl, hab, hnm, hkl, hks, htr⟩ := hT.cells
  dsimp only [Tr.h, Tr.kids, hd0] at hab hnm hkl hks htr htt ⊢
  simp only [List.length_cons, List.length_nil, Nat.zero_add, Nat.reduceAdd] at hks
  obtain ⟨A9, c9, hv⟩ := hab.form
  obtain ⟨A8, c8, hv8⟩ := hks.form
  subst hv
  subst hv8
  have h2x := fun w' (hb : Below w.heap.size w w') => h2 _ S w' (fun b h => Nat.lt_of_lt_of_le (hS b h) hb.size) (htt w' hb)
  unfold hdC at h2x
  unfold hdC
  try dsimp only
  obtain ⟨W, hW⟩ : ∃ W, w.alloc (.cells #[.int .i64 4, .bool false, .slice A9 0 c9, .string ⟨#[]⟩, .int .i64 0, .int .i64 0, .bool false, .bool false, .slice A8 2 c8] TT) = W := ⟨_, rfl⟩
  have hx : Box w W w.heap.size #[.int .i64 4, .bool false, .slice A9 0 c9, .string ⟨#[]⟩, .int .i64 0, .int .i64 0, .bool false, .bool false, .slice A8 2 c8] TT := by rw [← hW]; exact Box.new w _ _
  obtain ⟨x0, x1, x2, x3, x4, x5, x6, x7, x8⟩ := hx.c9
  have HX := Lib.hid hx
  have H2 := Lib.hid h2x
  clear h2x h2 htt hab hks htr hS hT hx hnm hkl
  go_enter Tryd.func31, Tryd.ntmps31
  go_wp2_with fail
  refine (H2.out _ HX.out.below).mono ?_
  rintro e w2 ⟨rfl, hb2⟩
  have HX2 := Lib.hid (HX.out.step hb2)
  clear hb2
  go_wp2
  go_ret
  exact ⟨rfl, HX2.out.below⟩

set_option maxRecDepth 100000 in
set_option maxHeartbeats 4000000 in
theorem tx_5 (a b : Tr) (s : ByteArray) (h2 : TwC (.mk (hd0 5) [a, b]) 2 ⟨#[42]⟩ 3 s) : TxC (.mk (hd0 5) [a, b]) s := by
  intro cs S w hS hT
  have htt := fun w' (hb : Below w.heap.size w w') => hT.below hS hb
  obtain ⟨va, vk, xs, rfl, hab, hnm, hkl, hks, htr⟩ := hT.cells
  dsimp only [Tr.h, Tr.kids, hd0] at hab hnm hkl hks htr htt ⊢
  simp only [List.length_cons, List.length_nil, Nat.zero_add, Nat.reduceAdd] at hks
  obtain ⟨A9, c9, hv⟩ := hab.form
  obtain ⟨A8, c8, hv8⟩ := hks.form
  subst hv
  subst hv8
  have h2x := fun w' (hb : Below w.heap.size w w') => h2 _ S w' (fun b h => Nat.lt_of_lt_of_le (hS b h) hb.size) (htt w' hb)
  unfold hdC at h2x
  unfold hdC
  try dsimp only
  obtain ⟨W, hW⟩ : ∃ W, w.alloc (.cells #[.int .i64 5, .bool false, .slice A9 0 c9, .string ⟨#[]⟩, .int .i64 0, .int .i64 0, .bool false, .bool false, .slice A8 2 c8] TT) = W := ⟨_, rfl⟩
  have hx : Box w W w.heap.size #[.int .i64 5, .bool false, .slice A9 0 c9, .string ⟨#[]⟩, .int .i64 0, .int .i64 0, .bool false, .bool false, .slice A8 2 c8] TT := by rw [← hW]; exact Box.new w _ _
  obtain ⟨x0, x1, x2, x3, x4, x5, x6, x7, x8⟩ := hx.c9
  have HX := Lib.hid hx
  have H2 := Lib.hid h2x
  clear h2x h2 htt hab hks htr hS hT hx hnm hkl
  go_enter Tryd.func31, Tryd.ntmps31
  go_wp2_with fail
  refine (H2.out _ HX.out.below).mono ?_
  rintro e w2 ⟨rfl, hb2⟩
  have HX2 := Lib.hid (HX.out.step hb2)
  clear hb2
  go_wp2
  go_ret
  exact ⟨rfl, HX2.out.below⟩

set_option maxRecDepth 100000 in
set_option maxHeartbeats 4000000 in
theorem tx_11 (a b : Tr) (s : ByteArray) (h2 : TwC (.mk (hd0 11) [a, b]) 4 ⟨#[32, 97, 110, 100, 32]⟩ 5 s) : TxC (.mk (hd0 11) [a, b]) s := by
  intro cs S w hS hT
  have htt := fun w' (hb : Below w.heap.size w w') => hT.below hS hb
  obtain ⟨va, vk, xs, rfl, hab, hnm, hkl, hks, htr⟩ := hT.cells
  dsimp only [Tr.h, Tr.kids, hd0] at hab hnm hkl hks htr htt ⊢
  simp only [List.length_cons, List.length_nil, Nat.zero_add, Nat.reduceAdd] at hks
  obtain ⟨A9, c9, hv⟩ := hab.form
  obtain ⟨A8, c8, hv8⟩ := hks.form
  subst hv
  subst hv8
  have h2x := fun w' (hb : Below w.heap.size w w') => h2 _ S w' (fun b h => Nat.lt_of_lt_of_le (hS b h) hb.size) (htt w' hb)
  unfold hdC at h2x
  unfold hdC
  try dsimp only
  obtain ⟨W, hW⟩ : ∃ W, w.alloc (.cells #[.int .i64 11, .bool false, .slice A9 0 c9, .string ⟨#[]⟩, .int .i64 0, .int .i64 0, .bool false, .bool false, .slice A8 2 c8] TT) = W := ⟨_, rfl⟩
  have hx : Box w W w.heap.size #[.int .i64 11, .bool false, .slice A9 0 c9, .string ⟨#[]⟩, .int .i64 0, .int .i64 0, .bool false, .bool false, .slice A8 2 c8] TT := by rw [← hW]; exact Box.new w _ _
  obtain ⟨x0, x1, x2, x3, x4, x5, x6, x7, x8⟩ := hx.c9
  have HX := Lib.hid hx
  have H2 := Lib.hid h2x
  clear h2x h2 htt hab hks htr hS hT hx hnm hkl
  go_enter Tryd.func31, Tryd.ntmps31
  go_wp2_with fail
  refine (H2.out _ HX.out.below).mono ?_
  rintro e w2 ⟨rfl, hb2⟩
  have HX2 := Lib.hid (HX.out.step hb2)
  clear hb2
  go_wp2
  go_ret
  exact ⟨rfl, HX2.out.below⟩

set_option maxRecDepth 100000 in
set_option maxHeartbeats 4000000 in
theorem tx_12 (a b : Tr) (s : ByteArray) (h2 : TwC (.mk (hd0 12) [a, b]) 3 ⟨#[32, 111, 114, 32]⟩ 4 s) : TxC (.mk (hd0 12) [a, b]) s := by
  intro cs S w hS hT
  have htt := fun w' (hb : Below w.heap.size w w') => hT.below hS hb
  obtain ⟨va, vk, xs, rfl, hab, hnm, hkl, hks, htr⟩ := hT.cells
  dsimp only [Tr.h, Tr.kids, hd0] at hab hnm hkl hks htr htt ⊢
  simp only [List.length_cons, List.length_nil, Nat.zero_add, Nat.reduceAdd] at hks
  obtain ⟨A9, c9, hv⟩ := hab.form
  obtain ⟨A8, c8, hv8⟩ := hks.form
  subst hv
  subst hv8
  have h2x := fun w' (hb : Below w.heap.size w w') => h2 _ S w' (fun b h => Nat.lt_of_lt_of_le (hS b h) hb.size) (htt w' hb)
  unfold hdC at h2x
  unfold hdC
  try dsimp only
  obtain ⟨W, hW⟩ : ∃ W, w.alloc (.cells #[.int .i64 12, .bool false, .slice A9 0 c9, .string ⟨#[]⟩, .int .i64 0, .int .i64 0, .bool false, .bool false, .slice A8 2 c8] TT) = W := ⟨_, rfl⟩
  have hx : Box w W w.heap.size #[.int .i64 12, .bool false, .slice A9 0 c9, .string ⟨#[]⟩, .int .i64 0, .int .i64 0, .bool false, .bool false, .slice A8 2 c8] TT := by rw [← hW]; exact Box.new w _ _
  obtain ⟨x0, x1, x2, x3, x4, x5, x6, x7, x8⟩ := hx.c9
  have HX := Lib.hid hx
  have H2 := Lib.hid h2x
  clear h2x h2 htt hab hks htr hS hT hx hnm hkl
  go_enter Tryd.func31, Tryd.ntmps31
  go_wp2_with fail
  refine (H2.out _ HX.out.below).mono ?_
  rintro e w2 ⟨rfl, hb2⟩
  have HX2 := Lib.hid (HX.out.step hb2)
  clear hb2
  go_wp2
  go_ret
  exact ⟨rfl, HX2.out.below⟩

set_option maxRecDepth 100000 in
set_option maxHeartbeats 4000000 in
theorem tx_13 (a b : Tr) (s : ByteArray) (h2 : TwC (.mk (hd0 13) [a, b]) 3 ⟨#[32, 105, 109, 112, 108, 105, 101, 115, 32]⟩ 2 s) : TxC (.mk (hd0 13) [a, b]) s := by
  intro cs S w hS hT
  have htt := fun w' (hb : Below w.heap.size w w') => hT.below hS hb
  obtain ⟨va, vk, xs, rfl, hab, hnm, hkl, hks, htr⟩ := hT.cells
  dsimp only [Tr.h, Tr.kids, hd0] at hab hnm hkl hks htr htt ⊢
  simp only [List.length_cons, List.length_nil, Nat.zero_add, Nat.reduceAdd] at hks
  obtain ⟨A9, c9, hv⟩ := hab.form
  obtain ⟨A8, c8, hv8⟩ := hks.form
  subst hv
  subst hv8
  have h2x := fun w' (hb : Below w.heap.size w w') => h2 _ S w' (fun b h => Nat.lt_of_lt_of_le (hS b h) hb.size) (htt w' hb)
  unfold hdC at h2x
  unfold hdC
  try dsimp only
  obtain ⟨W, hW⟩ : ∃ W, w.alloc (.cells #[.int .i64 13, .bool false, .slice A9 0 c9, .string ⟨#[]⟩, .int .i64 0, .int .i64 0, .bool false, .bool false, .slice A8 2 c8] TT) = W := ⟨_, rfl⟩
  have hx : Box w W w.heap.size #[.int .i64 13, .bool false, .slice A9 0 c9, .string ⟨#[]⟩, .int .i64 0, .int .i64 0, .bool false, .bool false, .slice A8 2 c8] TT := by rw [← hW]; exact Box.new w _ _
  obtain ⟨x0, x1, x2, x3, x4, x5, x6, x7, x8⟩ := hx.c9
  have HX := Lib.hid hx
  have H2 := Lib.hid h2x
  clear h2x h2 htt hab hks htr hS hT hx hnm hkl
  go_enter Tryd.func31, Tryd.ntmps31
  go_wp2_with fail
  refine (H2.out _ HX.out.below).mono ?_
  rintro e w2 ⟨rfl, hb2⟩
  have HX2 := Lib.hid (HX.out.step hb2)
  clear hb2
  go_wp2
  go_ret
  exact ⟨rfl, HX2.out.below⟩

set_option maxRecDepth 100000 in
set_option maxHeartbeats 4000000 in
theorem tx_14 (a b : Tr) (s : ByteArray) (h2 : TwC (.mk (hd0 14) [a, b]) 1 ⟨#[32, 105, 102, 102, 32]⟩ 2 s) : TxC (.mk (hd0 14) [a, b]) s := by
  intro cs S w hS hT
  have htt := fun w' (hb : Below w.heap.size w w') => hT.below hS hb
  obtain ⟨va, vk, xs, rfl, hab, hnm, hkl, hks, htr⟩ := hT.cells
  dsimp only [Tr.h, Tr.kids, hd0] at hab hnm hkl hks htr htt ⊢
  simp only [List.length_cons, List.length_nil, Nat.zero_add, Nat.reduceAdd] at hks
  obtain ⟨A9, c9, hv⟩ := hab.form
  obtain ⟨A8, c8, hv8⟩ := hks.form
  subst hv
  subst hv8
  have h2x := fun w' (hb : Below w.heap.size w w') => h2 _ S w' (fun b h => Nat.lt_of_lt_of_le (hS b h) hb.size) (htt w' hb)
  unfold hdC at h2x
  unfold hdC
  try dsimp only
  obtain ⟨W, hW⟩ : ∃ W, w.alloc (.cells #[.int .i64 14, .bool false, .slice A9 0 c9, .string ⟨#[]⟩, .int .i64 0, .int .i64 0, .bool false, .bool false, .slice A8 2 c8] TT) = W := ⟨_, rfl⟩
  have hx : Box w W w.heap.size #[.int .i64 14, .bool false, .slice A9 0 c9, .string ⟨#[]⟩, .int .i64 0, .int .i64 0, .bool false, .bool false, .slice A8 2 c8] TT := by rw [← hW]; exact Box.new w _ _
  obtain ⟨x0, x1, x2, x3, x4, x5, x6, x7, x8⟩ := hx.c9
  have HX := Lib.hid hx
  have H2 := Lib.hid h2x
  clear h2x h2 htt hab hks htr hS hT hx hnm hkl
  go_enter Tryd.func31, Tryd.ntmps31
  go_wp2_with fail
  refine (H2.out _ HX.out.below).mono ?_
  rintro e w2 ⟨rfl, hb2⟩
  have HX2 := Lib.hid (HX.out.step hb2)
  clear hb2
  go_wp2
  go_ret
  exact ⟨rfl, HX2.out.below⟩

set_option maxRecDepth 100000 in
set_option maxHeartbeats 4000000 in
theorem tx_10 (a : Tr) (s : ByteArray) (ia : InC a 5 s) (hs : s.size ≤ 2000000) : TxC (.mk (hd0 10) [a]) (⟨#[110, 111, 116, 32]⟩ ++ s) := by
  intro cs S w hS hT
  have htt := fun w' (hb : Below w.heap.size w w') => hT.below hS hb
  obtain ⟨va, vk, xs, rfl, hab, hnm, hkl, hks, htr⟩ := hT.cells
  dsimp only [Tr.h, Tr.kids, hd0] at hab hnm hkl hks htr htt ⊢
  simp only [List.length_cons, List.length_nil, Nat.zero_add, Nat.reduceAdd] at hks
  obtain ⟨A9, c9, hv⟩ := hab.form
  obtain ⟨A8, c8, hv8⟩ := hks.form
  subst hv
  subst hv8
  unfold hdC
  try dsimp only
  obtain ⟨W, hW⟩ : ∃ W, w.alloc (.cells #[.int .i64 10, .bool false, .slice A9 0 c9, .string ⟨#[]⟩, .int .i64 0, .int .i64 0, .bool false, .bool false, .slice A8 1 c8] TT) = W := ⟨_, rfl⟩
  have hx : Box w W w.heap.size #[.int .i64 10, .bool false, .slice A9 0 c9, .string ⟨#[]⟩, .int .i64 0, .int .i64 0, .bool false, .bool false, .slice A8 1 c8] TT := by rw [← hW]; exact Box.new w _ _
  obtain ⟨x0, x1, x2, x3, x4, x5, x6, x7, x8⟩ := hx.c9
  have hK : 1 = ([a] : List Tr).length := rfl
  obtain ⟨kd0, bb0, o0, A0, n0, c0, B0, m0, d0, hkd0, he0, hb0, hT0, f0, f1, f2, f3, f4, f5, f6, f7, f8⟩ := kid_cells (hks.below hS hx.below) (htr.below hS hx.below) hK 0 (by omega)
  obtain rfl : a = kd0 := by simpa using hkd0
  subst he0
  simp only [Nat.zero_mul, Nat.add_zero] at f0 f1 f2 f3 f4 f5 f6 f7 f8
  have hA : Calls Tryd.prog 56 #[.agg (hdC a.h (.slice A0 n0 c0) (.slice B0 m0 d0)).toArray, .int .i64 5] W (StrPost s W) :=
    ia _ S W (fun b hb => Nat.lt_of_lt_of_le (hS b hb) hx.below.size) hT0
  unfold StrPost hdC at hA
  have HA := Lib.hid hA
  have HX := Lib.hid hx
  have hz1 : ¬ 9223372036854775807 < 4 + s.size := by omega
  clear hA hT0 hx hks htr hS hT hkd0 hab hb0 ia hkl hnm hK htt
  go_enter Tryd.func31, Tryd.ntmps31
  go_wp2_with fail
  refine HA.out.mono ?_
  rintro e w2 ⟨rfl, hb2⟩
  have HX2 := Lib.hid (HX.out.step hb2)
  clear hb2
  go_wp2
  go_ret
  exact ⟨rfl, HX2.out.below⟩

set_option maxRecDepth 100000 in
set_option maxHeartbeats 4000000 in
theorem tx_6 (a : Tr) (s : ByteArray) (ia : InC a 3 s) (hs : s.size ≤ 2000000) : TxC (.mk (hd0 6) [a]) (⟨#[45]⟩ ++ s) := by
  intro cs S w hS hT
  have htt := fun w' (hb : Below w.heap.size w w') => hT.below hS hb
  obtain ⟨va, vk, xs, rfl, hab, hnm, hkl, hks, htr⟩ := hT.cells
  dsimp only [Tr.h, Tr.kids, hd0] at hab hnm hkl hks htr htt ⊢
  simp only [List.length_cons, List.length_nil, Nat.zero_add, Nat.reduceAdd] at hks
  obtain ⟨A9, c9, hv⟩ := hab.form
  obtain ⟨A8, c8, hv8⟩ := hks.form
  subst hv
  subst hv8
  unfold hdC
  try dsimp only
  obtain ⟨W, hW⟩ : ∃ W, w.alloc (.cells #[.int .i64 6, .bool false, .slice A9 0 c9, .string ⟨#[]⟩, .int .i64 0, .int .i64 0, .bool false, .bool false, .slice A8 1 c8] TT) = W := ⟨_, rfl⟩
  have hx : Box w W w.heap.size #[.int .i64 6, .bool false, .slice A9 0 c9, .string ⟨#[]⟩, .int .i64 0, .int .i64 0, .bool false, .bool false, .slice A8 1 c8] TT := by rw [← hW]; exact Box.new w _ _
  obtain ⟨x0, x1, x2, x3, x4, x5, x6, x7, x8⟩ := hx.c9
  have hK : 1 = ([a] : List Tr).length := rfl
  obtain ⟨kd0, bb0, o0, A0, n0, c0, B0, m0, d0, hkd0, he0, hb0, hT0, f0, f1, f2, f3, f4, f5, f6, f7, f8⟩ := kid_cells (hks.below hS hx.below) (htr.below hS hx.below) hK 0 (by omega)
  obtain rfl : a = kd0 := by simpa using hkd0
  subst he0
  simp only [Nat.zero_mul, Nat.add_zero] at f0 f1 f2 f3 f4 f5 f6 f7 f8
  have hA : Calls Tryd.prog 56 #[.agg (hdC a.h (.slice A0 n0 c0) (.slice B0 m0 d0)).toArray, .int .i64 3] W (StrPost s W) :=
    ia _ S W (fun b hb => Nat.lt_of_lt_of_le (hS b hb) hx.below.size) hT0
  unfold StrPost hdC at hA
  have HA := Lib.hid hA
  have HX := Lib.hid hx
  have hz1 : ¬ 9223372036854775807 < 1 + s.size := by omega
  clear hA hT0 hx hks htr hS hT hkd0 hab hb0 ia hkl hnm hK htt
  go_enter Tryd.func31, Tryd.ntmps31
  go_wp2_with fail
  refine HA.out.mono ?_
  rintro e w2 ⟨rfl, hb2⟩
  have HX2 := Lib.hid (HX.out.step hb2)
  clear hb2
  go_wp2
  go_ret
  exact ⟨rfl, HX2.out.below⟩

set_option maxRecDepth 100000 in
set_option maxHeartbeats 4000000 in
theorem tx_15_true (nm : ByteArray) (a : Tr) (s : ByteArray) (ia : InC a 0 s) (hs : s.size ≤ 2000000) (hnz : nm.size ≤ 2000000) : TxC (.mk { hd0 15 with name := nm, all := true } [a]) (⟨#[102, 111, 114, 97, 108, 108, 32]⟩ ++ nm ++ ⟨#[46, 32]⟩ ++ s) := by
  intro cs S w hS hT
  have htt := fun w' (hb : Below w.heap.size w w') => hT.below hS hb
  obtain ⟨va, vk, xs, rfl, hab, hnm, hkl, hks, htr⟩ := hT.cells
  dsimp only [Tr.h, Tr.kids, hd0] at hab hnm hkl hks htr htt ⊢
  simp only [List.length_cons, List.length_nil, Nat.zero_add, Nat.reduceAdd] at hks
  obtain ⟨A9, c9, hv⟩ := hab.form
  obtain ⟨A8, c8, hv8⟩ := hks.form
  subst hv
  subst hv8
  unfold hdC
  try dsimp only
  obtain ⟨W, hW⟩ : ∃ W, w.alloc (.cells #[.int .i64 15, .bool false, .slice A9 0 c9, .string nm, .int .i64 0, .int .i64 0, .bool false, .bool true, .slice A8 1 c8] TT) = W := ⟨_, rfl⟩
  have hx : Box w W w.heap.size #[.int .i64 15, .bool false, .slice A9 0 c9, .string nm, .int .i64 0, .int .i64 0, .bool false, .bool true, .slice A8 1 c8] TT := by rw [← hW]; exact Box.new w _ _
  obtain ⟨x0, x1, x2, x3, x4, x5, x6, x7, x8⟩ := hx.c9
  have hK : 1 = ([a] : List Tr).length := rfl
  obtain ⟨kd0, bb0, o0, A0, n0, c0, B0, m0, d0, hkd0, he0, hb0, hT0, f0, f1, f2, f3, f4, f5, f6, f7, f8⟩ := kid_cells (hks.below hS hx.below) (htr.below hS hx.below) hK 0 (by omega)
  obtain rfl : a = kd0 := by simpa using hkd0
  subst he0
  simp only [Nat.zero_mul, Nat.add_zero] at f0 f1 f2 f3 f4 f5 f6 f7 f8
  have hA : QuietS 56 #[.agg (hdC a.h (.slice A0 n0 c0) (.slice B0 m0 d0)).toArray, .int .i64 0] s W := fun d os =>
    ia _ S (grow (redrawn W d) os) (fun b hb => Nat.lt_of_lt_of_le (hS b hb) (Nat.le_trans hx.below.size (below_regrown W d os).size)) (hT0.below (fun b hb => Nat.lt_of_lt_of_le (hS b hb) hx.below.size) (below_regrown W d os))
  unfold QuietS hdC at hA
  have HA := Lib.hid hA
  have HX := Lib.hid hx
  have rx3 := fun d os => cell_regrown x3 d os
  have rx8 := fun d os => cell_regrown x8 d os
  have rf0 := fun d os => cell_regrown f0 d os
  have rf1 := fun d os => cell_regrown f1 d os
  have rf2 := fun d os => cell_regrown f2 d os
  have rf3 := fun d os => cell_regrown f3 d os
  have rf4 := fun d os => cell_regrown f4 d os
  have rf5 := fun d os => cell_regrown f5 d os
  have rf6 := fun d os => cell_regrown f6 d os
  have rf7 := fun d os => cell_regrown f7 d os
  have rf8 := fun d os => cell_regrown f8 d os
  have hz1 : ¬ 9223372036854775807 < 7 + nm.size := by omega
  have hz2 : ¬ 9223372036854775807 < 7 + nm.size + 2 := by omega
  have hz3 : ¬ 9223372036854775807 < 7 + nm.size + 2 + s.size := by omega
  clear hA hT0 hx hks htr hS hT hkd0 hab hb0 ia hkl hnm hK htt
  go_enter Tryd.func31, Tryd.ntmps31
  go_wp2_with fail
  refine wp_region_quiet_below (by kernel_rfl) (by kernel_rfl) ?_
  (repeat (quiet_step (with_reducible exact Calls.regrown_of (HA.out _ _))))
  refine wpQuiet_nil ?_
  rintro _ ⟨⟨d, os⟩, rfl⟩
  have hb2 := below_regrown W d os
  go_wp2
  go_ret
  exact ⟨rfl, HX.out.below.trans (hb2.mono HX.out.below.size)⟩

set_option maxRecDepth 100000 in
set_option maxHeartbeats 4000000 in
theorem tx_15_false (nm : ByteArray) (a : Tr) (s : ByteArray) (ia : InC a 0 s) (hs : s.size ≤ 2000000) (hnz : nm.size ≤ 2000000) : TxC (.mk { hd0 15 with name := nm, all := false } [a]) (⟨#[101, 120, 105, 115, 116, 115, 32]⟩ ++ nm ++ ⟨#[46, 32]⟩ ++ s) := by
  intro cs S w hS hT
  have htt := fun w' (hb : Below w.heap.size w w') => hT.below hS hb
  obtain ⟨va, vk, xs, rfl, hab, hnm, hkl, hks, htr⟩ := hT.cells
  dsimp only [Tr.h, Tr.kids, hd0] at hab hnm hkl hks htr htt ⊢
  simp only [List.length_cons, List.length_nil, Nat.zero_add, Nat.reduceAdd] at hks
  obtain ⟨A9, c9, hv⟩ := hab.form
  obtain ⟨A8, c8, hv8⟩ := hks.form
  subst hv
  subst hv8
  unfold hdC
  try dsimp only
  obtain ⟨W, hW⟩ : ∃ W, w.alloc (.cells #[.int .i64 15, .bool false, .slice A9 0 c9, .string nm, .int .i64 0, .int .i64 0, .bool false, .bool false, .slice A8 1 c8] TT) = W := ⟨_, rfl⟩
  have hx : Box w W w.heap.size #[.int .i64 15, .bool false, .slice A9 0 c9, .string nm, .int .i64 0, .int .i64 0, .bool false, .bool false, .slice A8 1 c8] TT := by rw [← hW]; exact Box.new w _ _
  obtain ⟨x0, x1, x2, x3, x4, x5, x6, x7, x8⟩ := hx.c9
  have hK : 1 = ([a] : List Tr).length := rfl
  obtain ⟨kd0, bb0, o0, A0, n0, c0, B0, m0, d0, hkd0, he0, hb0, hT0, f0, f1, f2, f3, f4, f5, f6, f7, f8⟩ := kid_cells (hks.below hS hx.below) (htr.below hS hx.below) hK 0 (by omega)
  obtain rfl : a = kd0 := by simpa using hkd0
  subst he0
  simp only [Nat.zero_mul, Nat.add_zero] at f0 f1 f2 f3 f4 f5 f6 f7 f8
  have hA : QuietS 56 #[.agg (hdC a.h (.slice A0 n0 c0) (.slice B0 m0 d0)).toArray, .int .i64 0] s W := fun d os =>
    ia _ S (grow (redrawn W d) os) (fun b hb => Nat.lt_of_lt_of_le (hS b hb) (Nat.le_trans hx.below.size (below_regrown W d os).size)) (hT0.below (fun b hb => Nat.lt_of_lt_of_le (hS b hb) hx.below.size) (below_regrown W d os))
  unfold QuietS hdC at hA
  have HA := Lib.hid hA
  have HX := Lib.hid hx
  have rx3 := fun d os => cell_regrown x3 d os
  have rx8 := fun d os => cell_regrown x8 d os
  have rf0 := fun d os => cell_regrown f0 d os
  have rf1 := fun d os => cell_regrown f1 d os
  have rf2 := fun d os => cell_regrown f2 d os
  have rf3 := fun d os => cell_regrown f3 d os
  have rf4 := fun d os => cell_regrown f4 d os
  have rf5 := fun d os => cell_regrown f5 d os
  have rf6 := fun d os => cell_regrown f6 d os
  have rf7 := fun d os => cell_regrown f7 d os
  have rf8 := fun d os => cell_regrown f8 d os
  have hz1 : ¬ 9223372036854775807 < 7 + nm.size := by omega
  have hz2 : ¬ 9223372036854775807 < 7 + nm.size + 2 := by omega
  have hz3 : ¬ 9223372036854775807 < 7 + nm.size + 2 + s.size := by omega
  clear hA hT0 hx hks htr hS hT hkd0 hab hb0 ia hkl hnm hK htt
  go_enter Tryd.func31, Tryd.ntmps31
  go_wp2_with fail
  refine wp_region_quiet_below (by kernel_rfl) (by kernel_rfl) ?_
  (repeat (quiet_step (with_reducible exact Calls.regrown_of (HA.out _ _))))
  refine wpQuiet_nil ?_
  rintro _ ⟨⟨d, os⟩, rfl⟩
  have hb2 := below_regrown W d os
  go_wp2
  go_ret
  exact ⟨rfl, HX.out.below.trans (hb2.mono HX.out.below.size)⟩

set_option maxRecDepth 100000 in
set_option maxHeartbeats 4000000 in
theorem tx_7 (e : Int) (a : Tr) (s D : ByteArray) (ia : InC a 5 s) (isml : ∀ w, Calls Tryd.prog 58 #[.int .i64 e] w fun e w' => e = .returned (.string D) ∧ w = w') (hs : s.size ≤ 2000000) (hds : D.size ≤ 100) : TxC (.mk { hd0 7 with exp := e } [a]) (s ++ ⟨#[94]⟩ ++ D) := by
  intro cs S w hS hT
  have htt := fun w' (hb : Below w.heap.size w w') => hT.below hS hb
  obtain ⟨va, vk, xs, rfl, hab, hnm, hkl, hks, htr⟩ := hT.cells
  dsimp only [Tr.h, Tr.kids, hd0] at hab hnm hkl hks htr htt ⊢
  simp only [List.length_cons, List.length_nil, Nat.zero_add, Nat.reduceAdd] at hks
  obtain ⟨A9, c9, hv⟩ := hab.form
  obtain ⟨A8, c8, hv8⟩ := hks.form
  subst hv
  subst hv8
  unfold hdC
  try dsimp only
  obtain ⟨W, hW⟩ : ∃ W, w.alloc (.cells #[.int .i64 7, .bool false, .slice A9 0 c9, .string ⟨#[]⟩, .int .i64 e, .int .i64 0, .bool false, .bool false, .slice A8 1 c8] TT) = W := ⟨_, rfl⟩
  have hx : Box w W w.heap.size #[.int .i64 7, .bool false, .slice A9 0 c9, .string ⟨#[]⟩, .int .i64 e, .int .i64 0, .bool false, .bool false, .slice A8 1 c8] TT := by rw [← hW]; exact Box.new w _ _
  obtain ⟨x0, x1, x2, x3, x4, x5, x6, x7, x8⟩ := hx.c9
  have hK : 1 = ([a] : List Tr).length := rfl
  obtain ⟨kd0, bb0, o0, A0, n0, c0, B0, m0, d0, hkd0, he0, hb0, hT0, f0, f1, f2, f3, f4, f5, f6, f7, f8⟩ := kid_cells (hks.below hS hx.below) (htr.below hS hx.below) hK 0 (by omega)
  obtain rfl : a = kd0 := by simpa using hkd0
  subst he0
  simp only [Nat.zero_mul, Nat.add_zero] at f0 f1 f2 f3 f4 f5 f6 f7 f8
  have hA : QuietS 56 #[.agg (hdC a.h (.slice A0 n0 c0) (.slice B0 m0 d0)).toArray, .int .i64 5] s W := fun d os =>
    ia _ S (grow (redrawn W d) os) (fun b hb => Nat.lt_of_lt_of_le (hS b hb) (Nat.le_trans hx.below.size (below_regrown W d os).size)) (hT0.below (fun b hb => Nat.lt_of_lt_of_le (hS b hb) hx.below.size) (below_regrown W d os))
  unfold QuietS hdC at hA
  have HA := Lib.hid hA
  have hB : QuietS 58 #[.int .i64 e] D W := fun d os => (isml _).mono (by rintro e w' ⟨rfl, rfl⟩; exact ⟨rfl, Below.refl _ _⟩)
  unfold QuietS at hB
  have HB := Lib.hid hB
  have HX := Lib.hid hx
  have rx4 := fun d os => cell_regrown x4 d os
  have rx8 := fun d os => cell_regrown x8 d os
  have rf0 := fun d os => cell_regrown f0 d os
  have rf1 := fun d os => cell_regrown f1 d os
  have rf2 := fun d os => cell_regrown f2 d os
  have rf3 := fun d os => cell_regrown f3 d os
  have rf4 := fun d os => cell_regrown f4 d os
  have rf5 := fun d os => cell_regrown f5 d os
  have rf6 := fun d os => cell_regrown f6 d os
  have rf7 := fun d os => cell_regrown f7 d os
  have rf8 := fun d os => cell_regrown f8 d os
  have hz1 : ¬ 9223372036854775807 < s.size + 1 := by omega
  have hz2 : ¬ 9223372036854775807 < s.size + 1 + D.size := by omega
  clear hA hB hT0 hx hks htr hS hT hkd0 hab hb0 ia hkl hnm hK htt isml
  go_enter Tryd.func31, Tryd.ntmps31
  go_wp2_with fail
  refine wp_region_quiet_below (by kernel_rfl) (by kernel_rfl) ?_
  (repeat (quiet_step (first | (with_reducible exact Calls.regrown_of (HA.out _ _)) | (with_reducible exact Calls.regrown_of (HB.out _ _)))))
  refine wpQuiet_nil ?_
  rintro _ ⟨⟨d, os⟩, rfl⟩
  have hb2 := below_regrown W d os
  go_wp2
  go_ret
  exact ⟨rfl, HX.out.below.trans (hb2.mono HX.out.below.size)⟩

set_option maxRecDepth 100000 in
set_option maxHeartbeats 4000000 in
theorem tx_2 (nm : ByteArray) : TxC (.mk { hd0 2 with name := nm } []) nm := by
  intro cs S w hS hT
  have htt := fun w' (hb : Below w.heap.size w w') => hT.below hS hb
  obtain ⟨va, vk, xs, rfl, hab, hnm, hkl, hks, htr⟩ := hT.cells
  dsimp only [Tr.h, Tr.kids, hd0] at hab hnm hkl hks htr htt ⊢
  simp only [List.length_cons, List.length_nil, Nat.zero_add, Nat.reduceAdd] at hks
  obtain ⟨A9, c9, hv⟩ := hab.form
  obtain ⟨A8, c8, hv8⟩ := hks.form
  subst hv
  subst hv8
  unfold hdC
  try dsimp only
  obtain ⟨W, hW⟩ : ∃ W, w.alloc (.cells #[.int .i64 2, .bool false, .slice A9 0 c9, .string nm, .int .i64 0, .int .i64 0, .bool false, .bool false, .slice A8 0 c8] TT) = W := ⟨_, rfl⟩
  have hx : Box w W w.heap.size #[.int .i64 2, .bool false, .slice A9 0 c9, .string nm, .int .i64 0, .int .i64 0, .bool false, .bool false, .slice A8 0 c8] TT := by rw [← hW]; exact Box.new w _ _
  obtain ⟨x0, x1, x2, x3, x4, x5, x6, x7, x8⟩ := hx.c9
  have HX := Lib.hid hx
  clear htt hab hks htr hS hT hx hnm hkl
  go_enter Tryd.func31, Tryd.ntmps31
  go_wp2
  go_ret
  exact ⟨rfl, HX.out.below⟩

set_option maxRecDepth 100000 in
set_option maxHeartbeats 4000000 in
theorem tx_8_true : TxC (.mk { hd0 8 with truth := true } []) ⟨#[116, 114, 117, 101]⟩ := by
  intro cs S w hS hT
  have htt := fun w' (hb : Below w.heap.size w w') => hT.below hS hb
  obtain ⟨va, vk, xs, rfl, hab, hnm, hkl, hks, htr⟩ := hT.cells
  dsimp only [Tr.h, Tr.kids, hd0] at hab hnm hkl hks htr htt ⊢
  simp only [List.length_cons, List.length_nil, Nat.zero_add, Nat.reduceAdd] at hks
  obtain ⟨A9, c9, hv⟩ := hab.form
  obtain ⟨A8, c8, hv8⟩ := hks.form
  subst hv
  subst hv8
  unfold hdC
  try dsimp only
  obtain ⟨W, hW⟩ : ∃ W, w.alloc (.cells #[.int .i64 8, .bool false, .slice A9 0 c9, .string ⟨#[]⟩, .int .i64 0, .int .i64 0, .bool true, .bool false, .slice A8 0 c8] TT) = W := ⟨_, rfl⟩
  have hx : Box w W w.heap.size #[.int .i64 8, .bool false, .slice A9 0 c9, .string ⟨#[]⟩, .int .i64 0, .int .i64 0, .bool true, .bool false, .slice A8 0 c8] TT := by rw [← hW]; exact Box.new w _ _
  obtain ⟨x0, x1, x2, x3, x4, x5, x6, x7, x8⟩ := hx.c9
  have HX := Lib.hid hx
  clear htt hab hks htr hS hT hx hnm hkl
  go_enter Tryd.func31, Tryd.ntmps31
  go_wp2
  go_ret
  exact ⟨rfl, HX.out.below⟩

set_option maxRecDepth 100000 in
set_option maxHeartbeats 4000000 in
theorem tx_8_false : TxC (.mk { hd0 8 with truth := false } []) ⟨#[102, 97, 108, 115, 101]⟩ := by
  intro cs S w hS hT
  have htt := fun w' (hb : Below w.heap.size w w') => hT.below hS hb
  obtain ⟨va, vk, xs, rfl, hab, hnm, hkl, hks, htr⟩ := hT.cells
  dsimp only [Tr.h, Tr.kids, hd0] at hab hnm hkl hks htr htt ⊢
  simp only [List.length_cons, List.length_nil, Nat.zero_add, Nat.reduceAdd] at hks
  obtain ⟨A9, c9, hv⟩ := hab.form
  obtain ⟨A8, c8, hv8⟩ := hks.form
  subst hv
  subst hv8
  unfold hdC
  try dsimp only
  obtain ⟨W, hW⟩ : ∃ W, w.alloc (.cells #[.int .i64 8, .bool false, .slice A9 0 c9, .string ⟨#[]⟩, .int .i64 0, .int .i64 0, .bool false, .bool false, .slice A8 0 c8] TT) = W := ⟨_, rfl⟩
  have hx : Box w W w.heap.size #[.int .i64 8, .bool false, .slice A9 0 c9, .string ⟨#[]⟩, .int .i64 0, .int .i64 0, .bool false, .bool false, .slice A8 0 c8] TT := by rw [← hW]; exact Box.new w _ _
  obtain ⟨x0, x1, x2, x3, x4, x5, x6, x7, x8⟩ := hx.c9
  have HX := Lib.hid hx
  clear htt hab hks htr hS hT hx hnm hkl
  go_enter Tryd.func31, Tryd.ntmps31
  go_wp2
  go_ret
  exact ⟨rfl, HX.out.below⟩

set_option maxRecDepth 100000 in
set_option maxHeartbeats 4000000 in
theorem tx_1 (l : List Nat) (s : ByteArray) (hd : ∀ (v : Value) (S : Nat → Prop) (w : World), (∀ b, S b → b < w.heap.size) → AbsAt w S v l → Calls Tryd.prog 59 #[.agg #[.bool false, v]] w (StrPost s w)) : TxC (.mk { hd0 1 with abs := l } []) s := by
  intro cs S w hS hT
  have htt := fun w' (hb : Below w.heap.size w w') => hT.below hS hb
  obtain ⟨va, vk, xs, rfl, hab, hnm, hkl, hks, htr⟩ := hT.cells
  dsimp only [Tr.h, Tr.kids, hd0] at hab hnm hkl hks htr htt ⊢
  simp only [List.length_cons, List.length_nil, Nat.zero_add, Nat.reduceAdd] at hks
  obtain ⟨A9, c9, hv⟩ := hab.form
  obtain ⟨A8, c8, hv8⟩ := hks.form
  subst hv
  subst hv8
  unfold hdC
  try dsimp only
  obtain ⟨W, hW⟩ : ∃ W, w.alloc (.cells #[.int .i64 1, .bool false, .slice A9 l.length c9, .string ⟨#[]⟩, .int .i64 0, .int .i64 0, .bool false, .bool false, .slice A8 0 c8] TT) = W := ⟨_, rfl⟩
  have hx : Box w W w.heap.size #[.int .i64 1, .bool false, .slice A9 l.length c9, .string ⟨#[]⟩, .int .i64 0, .int .i64 0, .bool false, .bool false, .slice A8 0 c8] TT := by rw [← hW]; exact Box.new w _ _
  obtain ⟨x0, x1, x2, x3, x4, x5, x6, x7, x8⟩ := hx.c9
  have HX := Lib.hid hx
  have HD := Lib.hid (hd (.slice A9 l.length c9) S W (fun b h => Nat.lt_of_lt_of_le (hS b h) hx.below.size) (hab.below hS hx.below))
  clear htt hab hks htr hS hT hx hnm hkl hd
  go_enter Tryd.func31, Tryd.ntmps31
  go_wp2_with fail
  refine HD.out.mono ?_
  rintro e w2 ⟨rfl, hb2⟩
  have HX2 := Lib.hid (HX.out.step hb2)
  clear hb2
  go_wp2
  go_ret
  exact ⟨rfl, HX2.out.below⟩

set_option maxRecDepth 100000 in
set_option maxHeartbeats 4000000 in
theorem tx_9_1 (a b : Tr) (s : ByteArray) (h2 : TwC (.mk { hd0 9 with rel := 1 } [a, b]) 1 ⟨#[32, 60, 32]⟩ 1 s) : TxC (.mk { hd0 9 with rel := 1 } [a, b]) s := by
  intro cs S w hS hT
  have htt := fun w' (hb : Below w.heap.size w w') => hT.below hS hb
  obtain ⟨va, vk, xs, rfl, hab, hnm, hkl, hks, htr⟩ := hT.cells
  dsimp only [Tr.h, Tr.kids, hd0] at hab hnm hkl hks htr htt ⊢
  simp only [List.length_cons, List.length_nil, Nat.zero_add, Nat.reduceAdd] at hks
  obtain ⟨A9, c9, hv⟩ := hab.form
  obtain ⟨A8, c8, hv8⟩ := hks.form
  subst hv
  subst hv8
  have h2x := fun w' (hb : Below w.heap.size w w') => h2 _ S w' (fun b h => Nat.lt_of_lt_of_le (hS b h) hb.size) (htt w' hb)
  unfold hdC at h2x
  unfold hdC
  try dsimp only
  obtain ⟨W, hW⟩ : ∃ W, w.alloc (.cells #[.int .i64 9, .bool false, .slice A9 0 c9, .string ⟨#[]⟩, .int .i64 0, .int .i64 1, .bool false, .bool false, .slice A8 2 c8] TT) = W := ⟨_, rfl⟩
  have hx : Box w W w.heap.size #[.int .i64 9, .bool false, .slice A9 0 c9, .string ⟨#[]⟩, .int .i64 0, .int .i64 1, .bool false, .bool false, .slice A8 2 c8] TT := by rw [← hW]; exact Box.new w _ _
  obtain ⟨x0, x1, x2, x3, x4, x5, x6, x7, x8⟩ := hx.c9
  have HX := Lib.hid hx
  have H2 := Lib.hid h2x
  clear h2x h2 htt hab hks htr hS hT hx hnm hkl
  go_enter Tryd.func31, Tryd.ntmps31
  go_wp2_with fail
  have HBW := Lib.hid HX.out.below
  have HSZ := Lib.hid HX.out.below.size
  have xa0 : ∀ ob, (W.alloc ob).cell? ⟨w.heap.size, 0, none⟩ = some (.int .i64 9) := fun ob => (HX.out.alloc ob).cell 0
  have xa1 : ∀ ob, (W.alloc ob).cell? ⟨w.heap.size, 1, none⟩ = some (.bool false) := fun ob => (HX.out.alloc ob).cell 1
  have xa2 : ∀ ob, (W.alloc ob).cell? ⟨w.heap.size, 2, none⟩ = some (.slice A9 0 c9) := fun ob => (HX.out.alloc ob).cell 2
  have xa3 : ∀ ob, (W.alloc ob).cell? ⟨w.heap.size, 3, none⟩ = some (.string ⟨#[]⟩) := fun ob => (HX.out.alloc ob).cell 3
  have xa4 : ∀ ob, (W.alloc ob).cell? ⟨w.heap.size, 4, none⟩ = some (.int .i64 0) := fun ob => (HX.out.alloc ob).cell 4
  have xa5 : ∀ ob, (W.alloc ob).cell? ⟨w.heap.size, 5, none⟩ = some (.int .i64 1) := fun ob => (HX.out.alloc ob).cell 5
  have xa6 : ∀ ob, (W.alloc ob).cell? ⟨w.heap.size, 6, none⟩ = some (.bool false) := fun ob => (HX.out.alloc ob).cell 6
  have xa7 : ∀ ob, (W.alloc ob).cell? ⟨w.heap.size, 7, none⟩ = some (.bool false) := fun ob => (HX.out.alloc ob).cell 7
  have xa8 : ∀ ob, (W.alloc ob).cell? ⟨w.heap.size, 8, none⟩ = some (.slice A8 2 c8) := fun ob => (HX.out.alloc ob).cell 8
  have HBS : (⟨#[32]⟩ ++ ⟨#[60]⟩ ++ ⟨#[32]⟩ : ByteArray) = ⟨#[32, 60, 32]⟩ := rfl
  have HH2 := Lib.hid (show ∀ ob, Calls _ _ _ (W.alloc ob).drew _ from fun ob => H2.out _ (HBW.out.alloc HSZ.out ob).drew)
  have HST := Lib.hid (show ∀ ob wn, Below (W.alloc ob).drew.heap.size (W.alloc ob).drew wn → Below w.heap.size w wn from fun ob wn h => ((HBW.out.alloc HSZ.out ob).drew).trans (h.mono ((HBW.out.alloc HSZ.out ob).drew).size))
  go_region_law (go_simp; (go_at_call 57; refine (HH2.out _).mono ?_; rintro e w2 ⟨rfl, hb2⟩; have HX2 := Lib.hid (HST.out _ _ hb2)))
  all_goals
    go_wp2
    go_ret
    exact ⟨rfl, HX2.out⟩

set_option maxRecDepth 100000 in
set_option maxHeartbeats 4000000 in
theorem tx_9_2 (a b : Tr) (s : ByteArray) (h2 : TwC (.mk { hd0 9 with rel := 2 } [a, b]) 1 ⟨#[32, 60, 61, 32]⟩ 1 s) : TxC (.mk { hd0 9 with rel := 2 } [a, b]) s := by
  intro cs S w hS hT
  have htt := fun w' (hb : Below w.heap.size w w') => hT.below hS hb
  obtain ⟨va, vk, xs, rfl, hab, hnm, hkl, hks, htr⟩ := hT.cells
  dsimp only [Tr.h, Tr.kids, hd0] at hab hnm hkl hks htr htt ⊢
  simp only [List.length_cons, List.length_nil, Nat.zero_add, Nat.reduceAdd] at hks
  obtain ⟨A9, c9, hv⟩ := hab.form
  obtain ⟨A8, c8, hv8⟩ := hks.form
  subst hv
  subst hv8
  have h2x := fun w' (hb : Below w.heap.size w w') => h2 _ S w' (fun b h => Nat.lt_of_lt_of_le (hS b h) hb.size) (htt w' hb)
  unfold hdC at h2x
  unfold hdC
  try dsimp only
  obtain ⟨W, hW⟩ : ∃ W, w.alloc (.cells #[.int .i64 9, .bool false, .slice A9 0 c9, .string ⟨#[]⟩, .int .i64 0, .int .i64 2, .bool false, .bool false, .slice A8 2 c8] TT) = W := ⟨_, rfl⟩
  have hx : Box w W w.heap.size #[.int .i64 9, .bool false, .slice A9 0 c9, .string ⟨#[]⟩, .int .i64 0, .int .i64 2, .bool false, .bool false, .slice A8 2 c8] TT := by rw [← hW]; exact Box.new w _ _
  obtain ⟨x0, x1, x2, x3, x4, x5, x6, x7, x8⟩ := hx.c9
  have HX := Lib.hid hx
  have H2 := Lib.hid h2x
  clear h2x h2 htt hab hks htr hS hT hx hnm hkl
  go_enter Tryd.func31, Tryd.ntmps31
  go_wp2_with fail
  have HBW := Lib.hid HX.out.below
  have HSZ := Lib.hid HX.out.below.size
  have xa0 : ∀ ob, (W.alloc ob).cell? ⟨w.heap.size, 0, none⟩ = some (.int .i64 9) := fun ob => (HX.out.alloc ob).cell 0
  have xa1 : ∀ ob, (W.alloc ob).cell? ⟨w.heap.size, 1, none⟩ = some (.bool false) := fun ob => (HX.out.alloc ob).cell 1
  have xa2 : ∀ ob, (W.alloc ob).cell? ⟨w.heap.size, 2, none⟩ = some (.slice A9 0 c9) := fun ob => (HX.out.alloc ob).cell 2
  have xa3 : ∀ ob, (W.alloc ob).cell? ⟨w.heap.size, 3, none⟩ = some (.string ⟨#[]⟩) := fun ob => (HX.out.alloc ob).cell 3
  have xa4 : ∀ ob, (W.alloc ob).cell? ⟨w.heap.size, 4, none⟩ = some (.int .i64 0) := fun ob => (HX.out.alloc ob).cell 4
  have xa5 : ∀ ob, (W.alloc ob).cell? ⟨w.heap.size, 5, none⟩ = some (.int .i64 2) := fun ob => (HX.out.alloc ob).cell 5
  have xa6 : ∀ ob, (W.alloc ob).cell? ⟨w.heap.size, 6, none⟩ = some (.bool false) := fun ob => (HX.out.alloc ob).cell 6
  have xa7 : ∀ ob, (W.alloc ob).cell? ⟨w.heap.size, 7, none⟩ = some (.bool false) := fun ob => (HX.out.alloc ob).cell 7
  have xa8 : ∀ ob, (W.alloc ob).cell? ⟨w.heap.size, 8, none⟩ = some (.slice A8 2 c8) := fun ob => (HX.out.alloc ob).cell 8
  have HBS : (⟨#[32]⟩ ++ ⟨#[60, 61]⟩ ++ ⟨#[32]⟩ : ByteArray) = ⟨#[32, 60, 61, 32]⟩ := rfl
  have HH2 := Lib.hid (show ∀ ob, Calls _ _ _ (W.alloc ob).drew _ from fun ob => H2.out _ (HBW.out.alloc HSZ.out ob).drew)
  have HST := Lib.hid (show ∀ ob wn, Below (W.alloc ob).drew.heap.size (W.alloc ob).drew wn → Below w.heap.size w wn from fun ob wn h => ((HBW.out.alloc HSZ.out ob).drew).trans (h.mono ((HBW.out.alloc HSZ.out ob).drew).size))
  go_region_law (go_simp; (go_at_call 57; refine (HH2.out _).mono ?_; rintro e w2 ⟨rfl, hb2⟩; have HX2 := Lib.hid (HST.out _ _ hb2)))
  all_goals
    go_wp2
    go_ret
    exact ⟨rfl, HX2.out⟩

set_option maxRecDepth 100000 in
set_option maxHeartbeats 4000000 in
theorem tx_9_3 (a b : Tr) (s : ByteArray) (h2 : TwC (.mk { hd0 9 with rel := 3 } [a, b]) 1 ⟨#[32, 61, 32]⟩ 1 s) : TxC (.mk { hd0 9 with rel := 3 } [a, b]) s := by
  intro cs S w hS hT
  have htt := fun w' (hb : Below w.heap.size w w') => hT.below hS hb
  obtain ⟨va, vk, xs, rfl, hab, hnm, hkl, hks, htr⟩ := hT.cells
  dsimp only [Tr.h, Tr.kids, hd0] at hab hnm hkl hks htr htt ⊢
  simp only [List.length_cons, List.length_nil, Nat.zero_add, Nat.reduceAdd] at hks
  obtain ⟨A9, c9, hv⟩ := hab.form
  obtain ⟨A8, c8, hv8⟩ := hks.form
  subst hv
  subst hv8
  have h2x := fun w' (hb : Below w.heap.size w w') => h2 _ S w' (fun b h => Nat.lt_of_lt_of_le (hS b h) hb.size) (htt w' hb)
  unfold hdC at h2x
  unfold hdC
  try dsimp only
  obtain ⟨W, hW⟩ : ∃ W, w.alloc (.cells #[.int .i64 9, .bool false, .slice A9 0 c9, .string ⟨#[]⟩, .int .i64 0, .int .i64 3, .bool false, .bool false, .slice A8 2 c8] TT) = W := ⟨_, rfl⟩
  have hx : Box w W w.heap.size #[.int .i64 9, .bool false, .slice A9 0 c9, .string ⟨#[]⟩, .int .i64 0, .int .i64 3, .bool false, .bool false, .slice A8 2 c8] TT := by rw [← hW]; exact Box.new w _ _
  obtain ⟨x0, x1, x2, x3, x4, x5, x6, x7, x8⟩ := hx.c9
  have HX := Lib.hid hx
  have H2 := Lib.hid h2x
  clear h2x h2 htt hab hks htr hS hT hx hnm hkl
  go_enter Tryd.func31, Tryd.ntmps31
  go_wp2_with fail
  have HBW := Lib.hid HX.out.below
  have HSZ := Lib.hid HX.out.below.size
  have xa0 : ∀ ob, (W.alloc ob).cell? ⟨w.heap.size, 0, none⟩ = some (.int .i64 9) := fun ob => (HX.out.alloc ob).cell 0
  have xa1 : ∀ ob, (W.alloc ob).cell? ⟨w.heap.size, 1, none⟩ = some (.bool false) := fun ob => (HX.out.alloc ob).cell 1
  have xa2 : ∀ ob, (W.alloc ob).cell? ⟨w.heap.size, 2, none⟩ = some (.slice A9 0 c9) := fun ob => (HX.out.alloc ob).cell 2
  have xa3 : ∀ ob, (W.alloc ob).cell? ⟨w.heap.size, 3, none⟩ = some (.string ⟨#[]⟩) := fun ob => (HX.out.alloc ob).cell 3
  have xa4 : ∀ ob, (W.alloc ob).cell? ⟨w.heap.size, 4, none⟩ = some (.int .i64 0) := fun ob => (HX.out.alloc ob).cell 4
  have xa5 : ∀ ob, (W.alloc ob).cell? ⟨w.heap.size, 5, none⟩ = some (.int .i64 3) := fun ob => (HX.out.alloc ob).cell 5
  have xa6 : ∀ ob, (W.alloc ob).cell? ⟨w.heap.size, 6, none⟩ = some (.bool false) := fun ob => (HX.out.alloc ob).cell 6
  have xa7 : ∀ ob, (W.alloc ob).cell? ⟨w.heap.size, 7, none⟩ = some (.bool false) := fun ob => (HX.out.alloc ob).cell 7
  have xa8 : ∀ ob, (W.alloc ob).cell? ⟨w.heap.size, 8, none⟩ = some (.slice A8 2 c8) := fun ob => (HX.out.alloc ob).cell 8
  have HBS : (⟨#[32]⟩ ++ ⟨#[61]⟩ ++ ⟨#[32]⟩ : ByteArray) = ⟨#[32, 61, 32]⟩ := rfl
  have HH2 := Lib.hid (show ∀ ob, Calls _ _ _ (W.alloc ob).drew _ from fun ob => H2.out _ (HBW.out.alloc HSZ.out ob).drew)
  have HST := Lib.hid (show ∀ ob wn, Below (W.alloc ob).drew.heap.size (W.alloc ob).drew wn → Below w.heap.size w wn from fun ob wn h => ((HBW.out.alloc HSZ.out ob).drew).trans (h.mono ((HBW.out.alloc HSZ.out ob).drew).size))
  go_region_law (go_simp; (go_at_call 57; refine (HH2.out _).mono ?_; rintro e w2 ⟨rfl, hb2⟩; have HX2 := Lib.hid (HST.out _ _ hb2)))
  all_goals
    go_wp2
    go_ret
    exact ⟨rfl, HX2.out⟩

set_option maxRecDepth 100000 in
set_option maxHeartbeats 4000000 in
theorem tx_9_4 (a b : Tr) (s : ByteArray) (h2 : TwC (.mk { hd0 9 with rel := 4 } [a, b]) 1 ⟨#[32, 60, 62, 32]⟩ 1 s) : TxC (.mk { hd0 9 with rel := 4 } [a, b]) s := by
  intro cs S w hS hT
  have htt := fun w' (hb : Below w.heap.size w w') => hT.below hS hb
  obtain ⟨va, vk, xs, rfl, hab, hnm, hkl, hks, htr⟩ := hT.cells
  dsimp only [Tr.h, Tr.kids, hd0] at hab hnm hkl hks htr htt ⊢
  simp only [List.length_cons, List.length_nil, Nat.zero_add, Nat.reduceAdd] at hks
  obtain ⟨A9, c9, hv⟩ := hab.form
  obtain ⟨A8, c8, hv8⟩ := hks.form
  subst hv
  subst hv8
  have h2x := fun w' (hb : Below w.heap.size w w') => h2 _ S w' (fun b h => Nat.lt_of_lt_of_le (hS b h) hb.size) (htt w' hb)
  unfold hdC at h2x
  unfold hdC
  try dsimp only
  obtain ⟨W, hW⟩ : ∃ W, w.alloc (.cells #[.int .i64 9, .bool false, .slice A9 0 c9, .string ⟨#[]⟩, .int .i64 0, .int .i64 4, .bool false, .bool false, .slice A8 2 c8] TT) = W := ⟨_, rfl⟩
  have hx : Box w W w.heap.size #[.int .i64 9, .bool false, .slice A9 0 c9, .string ⟨#[]⟩, .int .i64 0, .int .i64 4, .bool false, .bool false, .slice A8 2 c8] TT := by rw [← hW]; exact Box.new w _ _
  obtain ⟨x0, x1, x2, x3, x4, x5, x6, x7, x8⟩ := hx.c9
  have HX := Lib.hid hx
  have H2 := Lib.hid h2x
  clear h2x h2 htt hab hks htr hS hT hx hnm hkl
  go_enter Tryd.func31, Tryd.ntmps31
  go_wp2_with fail
  have HBW := Lib.hid HX.out.below
  have HSZ := Lib.hid HX.out.below.size
  have xa0 : ∀ ob, (W.alloc ob).cell? ⟨w.heap.size, 0, none⟩ = some (.int .i64 9) := fun ob => (HX.out.alloc ob).cell 0
  have xa1 : ∀ ob, (W.alloc ob).cell? ⟨w.heap.size, 1, none⟩ = some (.bool false) := fun ob => (HX.out.alloc ob).cell 1
  have xa2 : ∀ ob, (W.alloc ob).cell? ⟨w.heap.size, 2, none⟩ = some (.slice A9 0 c9) := fun ob => (HX.out.alloc ob).cell 2
  have xa3 : ∀ ob, (W.alloc ob).cell? ⟨w.heap.size, 3, none⟩ = some (.string ⟨#[]⟩) := fun ob => (HX.out.alloc ob).cell 3
  have xa4 : ∀ ob, (W.alloc ob).cell? ⟨w.heap.size, 4, none⟩ = some (.int .i64 0) := fun ob => (HX.out.alloc ob).cell 4
  have xa5 : ∀ ob, (W.alloc ob).cell? ⟨w.heap.size, 5, none⟩ = some (.int .i64 4) := fun ob => (HX.out.alloc ob).cell 5
  have xa6 : ∀ ob, (W.alloc ob).cell? ⟨w.heap.size, 6, none⟩ = some (.bool false) := fun ob => (HX.out.alloc ob).cell 6
  have xa7 : ∀ ob, (W.alloc ob).cell? ⟨w.heap.size, 7, none⟩ = some (.bool false) := fun ob => (HX.out.alloc ob).cell 7
  have xa8 : ∀ ob, (W.alloc ob).cell? ⟨w.heap.size, 8, none⟩ = some (.slice A8 2 c8) := fun ob => (HX.out.alloc ob).cell 8
  have HBS : (⟨#[32]⟩ ++ ⟨#[60, 62]⟩ ++ ⟨#[32]⟩ : ByteArray) = ⟨#[32, 60, 62, 32]⟩ := rfl
  have HH2 := Lib.hid (show ∀ ob, Calls _ _ _ (W.alloc ob).drew _ from fun ob => H2.out _ (HBW.out.alloc HSZ.out ob).drew)
  have HST := Lib.hid (show ∀ ob wn, Below (W.alloc ob).drew.heap.size (W.alloc ob).drew wn → Below w.heap.size w wn from fun ob wn h => ((HBW.out.alloc HSZ.out ob).drew).trans (h.mono ((HBW.out.alloc HSZ.out ob).drew).size))
  go_region_law (go_simp; (go_at_call 57; refine (HH2.out _).mono ?_; rintro e w2 ⟨rfl, hb2⟩; have HX2 := Lib.hid (HST.out _ _ hb2)))
  all_goals
    go_wp2
    go_ret
    exact ⟨rfl, HX2.out⟩

set_option maxRecDepth 100000 in
set_option maxHeartbeats 4000000 in
theorem tx_9_5 (a b : Tr) (s : ByteArray) (h2 : TwC (.mk { hd0 9 with rel := 5 } [a, b]) 1 ⟨#[32, 62, 61, 32]⟩ 1 s) : TxC (.mk { hd0 9 with rel := 5 } [a, b]) s := by
  intro cs S w hS hT
  have htt := fun w' (hb : Below w.heap.size w w') => hT.below hS hb
  obtain ⟨va, vk, xs, rfl, hab, hnm, hkl, hks, htr⟩ := hT.cells
  dsimp only [Tr.h, Tr.kids, hd0] at hab hnm hkl hks htr htt ⊢
  simp only [List.length_cons, List.length_nil, Nat.zero_add, Nat.reduceAdd] at hks
  obtain ⟨A9, c9, hv⟩ := hab.form
  obtain ⟨A8, c8, hv8⟩ := hks.form
  subst hv
  subst hv8
  have h2x := fun w' (hb : Below w.heap.size w w') => h2 _ S w' (fun b h => Nat.lt_of_lt_of_le (hS b h) hb.size) (htt w' hb)
  unfold hdC at h2x
  unfold hdC
  try dsimp only
  obtain ⟨W, hW⟩ : ∃ W, w.alloc (.cells #[.int .i64 9, .bool false, .slice A9 0 c9, .string ⟨#[]⟩, .int .i64 0, .int .i64 5, .bool false, .bool false, .slice A8 2 c8] TT) = W := ⟨_, rfl⟩
  have hx : Box w W w.heap.size #[.int .i64 9, .bool false, .slice A9 0 c9, .string ⟨#[]⟩, .int .i64 0, .int .i64 5, .bool false, .bool false, .slice A8 2 c8] TT := by rw [← hW]; exact Box.new w _ _
  obtain ⟨x0, x1, x2, x3, x4, x5, x6, x7, x8⟩ := hx.c9
  have HX := Lib.hid hx
  have H2 := Lib.hid h2x
  clear h2x h2 htt hab hks htr hS hT hx hnm hkl
  go_enter Tryd.func31, Tryd.ntmps31
  go_wp2_with fail
  have HBW := Lib.hid HX.out.below
  have HSZ := Lib.hid HX.out.below.size
  have xa0 : ∀ ob, (W.alloc ob).cell? ⟨w.heap.size, 0, none⟩ = some (.int .i64 9) := fun ob => (HX.out.alloc ob).cell 0
  have xa1 : ∀ ob, (W.alloc ob).cell? ⟨w.heap.size, 1, none⟩ = some (.bool false) := fun ob => (HX.out.alloc ob).cell 1
  have xa2 : ∀ ob, (W.alloc ob).cell? ⟨w.heap.size, 2, none⟩ = some (.slice A9 0 c9) := fun ob => (HX.out.alloc ob).cell 2
  have xa3 : ∀ ob, (W.alloc ob).cell? ⟨w.heap.size, 3, none⟩ = some (.string ⟨#[]⟩) := fun ob => (HX.out.alloc ob).cell 3
  have xa4 : ∀ ob, (W.alloc ob).cell? ⟨w.heap.size, 4, none⟩ = some (.int .i64 0) := fun ob => (HX.out.alloc ob).cell 4
  have xa5 : ∀ ob, (W.alloc ob).cell? ⟨w.heap.size, 5, none⟩ = some (.int .i64 5) := fun ob => (HX.out.alloc ob).cell 5
  have xa6 : ∀ ob, (W.alloc ob).cell? ⟨w.heap.size, 6, none⟩ = some (.bool false) := fun ob => (HX.out.alloc ob).cell 6
  have xa7 : ∀ ob, (W.alloc ob).cell? ⟨w.heap.size, 7, none⟩ = some (.bool false) := fun ob => (HX.out.alloc ob).cell 7
  have xa8 : ∀ ob, (W.alloc ob).cell? ⟨w.heap.size, 8, none⟩ = some (.slice A8 2 c8) := fun ob => (HX.out.alloc ob).cell 8
  have HBS : (⟨#[32]⟩ ++ ⟨#[62, 61]⟩ ++ ⟨#[32]⟩ : ByteArray) = ⟨#[32, 62, 61, 32]⟩ := rfl
  have HH2 := Lib.hid (show ∀ ob, Calls _ _ _ (W.alloc ob).drew _ from fun ob => H2.out _ (HBW.out.alloc HSZ.out ob).drew)
  have HST := Lib.hid (show ∀ ob wn, Below (W.alloc ob).drew.heap.size (W.alloc ob).drew wn → Below w.heap.size w wn from fun ob wn h => ((HBW.out.alloc HSZ.out ob).drew).trans (h.mono ((HBW.out.alloc HSZ.out ob).drew).size))
  go_region_law (go_simp; (go_at_call 57; refine (HH2.out _).mono ?_; rintro e w2 ⟨rfl, hb2⟩; have HX2 := Lib.hid (HST.out _ _ hb2)))
  all_goals
    go_wp2
    go_ret
    exact ⟨rfl, HX2.out⟩

set_option maxRecDepth 100000 in
set_option maxHeartbeats 4000000 in
theorem tx_9_6 (a b : Tr) (s : ByteArray) (h2 : TwC (.mk { hd0 9 with rel := 6 } [a, b]) 1 ⟨#[32, 62, 32]⟩ 1 s) : TxC (.mk { hd0 9 with rel := 6 } [a, b]) s := by
  intro cs S w hS hT
  have htt := fun w' (hb : Below w.heap.size w w') => hT.below hS hb
  obtain ⟨va, vk, xs, rfl, hab, hnm, hkl, hks, htr⟩ := hT.cells
  dsimp only [Tr.h, Tr.kids, hd0] at hab hnm hkl hks htr htt ⊢
  simp only [List.length_cons, List.length_nil, Nat.zero_add, Nat.reduceAdd] at hks
  obtain ⟨A9, c9, hv⟩ := hab.form
  obtain ⟨A8, c8, hv8⟩ := hks.form
  subst hv
  subst hv8
  have h2x := fun w' (hb : Below w.heap.size w w') => h2 _ S w' (fun b h => Nat.lt_of_lt_of_le (hS b h) hb.size) (htt w' hb)
  unfold hdC at h2x
  unfold hdC
  try dsimp only
  obtain ⟨W, hW⟩ : ∃ W, w.alloc (.cells #[.int .i64 9, .bool false, .slice A9 0 c9, .string ⟨#[]⟩, .int .i64 0, .int .i64 6, .bool false, .bool false, .slice A8 2 c8] TT) = W := ⟨_, rfl⟩
  have hx : Box w W w.heap.size #[.int .i64 9, .bool false, .slice A9 0 c9, .string ⟨#[]⟩, .int .i64 0, .int .i64 6, .bool false, .bool false, .slice A8 2 c8] TT := by rw [← hW]; exact Box.new w _ _
  obtain ⟨x0, x1, x2, x3, x4, x5, x6, x7, x8⟩ := hx.c9
  have HX := Lib.hid hx
  have H2 := Lib.hid h2x
  clear h2x h2 htt hab hks htr hS hT hx hnm hkl
  go_enter Tryd.func31, Tryd.ntmps31
  go_wp2_with fail
  have HBW := Lib.hid HX.out.below
  have HSZ := Lib.hid HX.out.below.size
  have xa0 : ∀ ob, (W.alloc ob).cell? ⟨w.heap.size, 0, none⟩ = some (.int .i64 9) := fun ob => (HX.out.alloc ob).cell 0
  have xa1 : ∀ ob, (W.alloc ob).cell? ⟨w.heap.size, 1, none⟩ = some (.bool false) := fun ob => (HX.out.alloc ob).cell 1
  have xa2 : ∀ ob, (W.alloc ob).cell? ⟨w.heap.size, 2, none⟩ = some (.slice A9 0 c9) := fun ob => (HX.out.alloc ob).cell 2
  have xa3 : ∀ ob, (W.alloc ob).cell? ⟨w.heap.size, 3, none⟩ = some (.string ⟨#[]⟩) := fun ob => (HX.out.alloc ob).cell 3
  have xa4 : ∀ ob, (W.alloc ob).cell? ⟨w.heap.size, 4, none⟩ = some (.int .i64 0) := fun ob => (HX.out.alloc ob).cell 4
  have xa5 : ∀ ob, (W.alloc ob).cell? ⟨w.heap.size, 5, none⟩ = some (.int .i64 6) := fun ob => (HX.out.alloc ob).cell 5
  have xa6 : ∀ ob, (W.alloc ob).cell? ⟨w.heap.size, 6, none⟩ = some (.bool false) := fun ob => (HX.out.alloc ob).cell 6
  have xa7 : ∀ ob, (W.alloc ob).cell? ⟨w.heap.size, 7, none⟩ = some (.bool false) := fun ob => (HX.out.alloc ob).cell 7
  have xa8 : ∀ ob, (W.alloc ob).cell? ⟨w.heap.size, 8, none⟩ = some (.slice A8 2 c8) := fun ob => (HX.out.alloc ob).cell 8
  have HBS : (⟨#[32]⟩ ++ ⟨#[62]⟩ ++ ⟨#[32]⟩ : ByteArray) = ⟨#[32, 62, 32]⟩ := rfl
  have HH2 := Lib.hid (show ∀ ob, Calls _ _ _ (W.alloc ob).drew _ from fun ob => H2.out _ (HBW.out.alloc HSZ.out ob).drew)
  have HST := Lib.hid (show ∀ ob wn, Below (W.alloc ob).drew.heap.size (W.alloc ob).drew wn → Below w.heap.size w wn from fun ob wn h => ((HBW.out.alloc HSZ.out ob).drew).trans (h.mono ((HBW.out.alloc HSZ.out ob).drew).size))
  go_region_law (go_simp; (go_at_call 57; refine (HH2.out _).mono ?_; rintro e w2 ⟨rfl, hb2⟩; have HX2 := Lib.hid (HST.out _ _ hb2)))
  all_goals
    go_wp2
    go_ret
    exact ⟨rfl, HX2.out⟩
end Rt
end Go.Proofs.YtkjbfomokdjbnaaDoor
