/-
  The reference's capped, Degree, Weight.
-/
import Derived.Test.YteneobpacobpdaaDcH
import Derived.Test.YteneobpacobpdaaFmV
import Derived.Lib.QuietBelow
import Derived.BigQuiet
import Derived.Deep.QuietTactic
namespace Go.Proofs.Yteneobpacobpdaa
open Go.RowKit Go.Sort
set_option linter.unusedSimpArgs false
set_option linter.unusedVariables false
namespace Dc
open Fm
attribute [local go_sem] run_store

set_option maxHeartbeats 1000000 in
theorem rcapped_any (n : Nat) (w : World) : Calls Try.prog 50 #[.int .i64 n] w fun e w' => e = .returned (.int .i64 ((capN n : Nat) : Int)) ∧ w = w' := by
  obtain ⟨m, hm⟩ : ∃ m, m = capN n := ⟨_, rfl⟩
  rw [← hm]
  have hif : (if (2147483647 : Int) < n then (2147483647 : Int) else n) = m := by rw [hm]; unfold capN; split <;> omega
  clear hm
  go_enter Try.func50, Try.ntmps50
  go_wp2
  go_ret
  exact ⟨rfl, rfl⟩
/-- a call that answers in whatever world of a region -/
def QuietCall (f : FuncId) (args : Array Value) (n : Nat) (W : World) : Prop := ∀ d os, Calls Try.prog f args (grow (redrawn W d) os) fun e w' => e = .returned (.int .i64 (n : Int)) ∧ Below (grow (redrawn W d) os).heap.size (grow (redrawn W d) os) w'
theorem rcapped_quiet (n : Nat) (W : World) : QuietCall 50 #[.int .i64 n] (capN n) W := fun d os => (rcapped_any n _).mono (by rintro e w' ⟨rfl, rfl⟩; exact ⟨rfl, Below.refl _ _⟩)
theorem capN_capN (n : Nat) : capN (capN n) = capN n := by unfold capN; omega
theorem prodN_deg (a b : Nat) (hb : b ≤ 2147483647) : capN (capN a * b) = prodN a b := by
  unfold prodN
  rw [show capN b = b by unfold capN; omega]
theorem rec_deg_sm {h : Hd} {ks : List Tr} {i : Nat} {k : Tr} (hs : Sm (.mk h ks)) (hk : ks[i]? = some k) : Sm k := by
  unfold Sm at hs; exact hs.2.2.at_ hk

set_option maxRecDepth 100000 in
set_option maxHeartbeats 4000000 in
theorem rdeg_num (h : Hd) (hk : h.k = 1) (cs : List Value) (S : Nat → Prop) (w : World) (hS : ∀ b, S b → b < w.heap.size) (hT : TreeAt w S (.mk h []) cs) (hsm : Sm (.mk h [])) :
    Calls Try.prog 32 #[.agg cs.toArray] w (NumPost (degT (.num (normB h.neg h.abs) (trimN h.abs))) w) := by
  obtain ⟨va, vk, xs, rfl, hab, hnm, hkl, hks, htr⟩ := hT.cells
  dsimp only [Tr.h, Tr.kids] at hab hnm hkl hks htr ⊢
  simp only [List.length_cons, List.length_nil, Nat.zero_add, Nat.reduceAdd] at hks
  obtain ⟨A9, c9, hv⟩ := hab.form
  obtain ⟨A8, c8, hv8⟩ := hks.form
  subst hv
  subst hv8
  have hK : 0 = ([] : List Tr).length := rfl
  unfold hdC
  obtain ⟨W, hW⟩ : ∃ W, w.alloc (.cells #[.int .i64 h.k, .bool h.neg, .slice A9 h.abs.length c9, .string h.name, .int .i64 h.exp, .int .i64 h.rel, .bool h.truth, .bool h.all, .slice A8 0 c8] TT) = W := ⟨_, rfl⟩
  have hx : Box w W w.heap.size #[.int .i64 h.k, .bool h.neg, .slice A9 h.abs.length c9, .string h.name, .int .i64 h.exp, .int .i64 h.rel, .bool h.truth, .bool h.all, .slice A8 0 c8] TT := by rw [← hW]; exact Box.new w _ _
  rw [hk] at hx hW ⊢
  obtain ⟨x0, x1, x2, x3, x4, x5, x6, x7, x8⟩ := hx.c9
  have hfn : degT (.num (normB h.neg h.abs) (trimN h.abs)) = 0 := rfl
  rw [hfn]
  have HX := Lib.hid hx
  clear hfn hab hks htr hS hT hsm hx hK hnm hkl
  go_enter Try.func32, Try.ntmps32
  go_wp2
  go_ret
  exact ⟨rfl, HX.out.below⟩

set_option maxRecDepth 100000 in
set_option maxHeartbeats 4000000 in
theorem rdeg_name (h : Hd) (hk : h.k = 2) (cs : List Value) (S : Nat → Prop) (w : World) (hS : ∀ b, S b → b < w.heap.size) (hT : TreeAt w S (.mk h []) cs) (hsm : Sm (.mk h [])) :
    Calls Try.prog 32 #[.agg cs.toArray] w (NumPost (degT (.name h.name)) w) := by
  obtain ⟨va, vk, xs, rfl, hab, hnm, hkl, hks, htr⟩ := hT.cells
  dsimp only [Tr.h, Tr.kids] at hab hnm hkl hks htr ⊢
  simp only [List.length_cons, List.length_nil, Nat.zero_add, Nat.reduceAdd] at hks
  obtain ⟨A9, c9, hv⟩ := hab.form
  obtain ⟨A8, c8, hv8⟩ := hks.form
  subst hv
  subst hv8
  have hK : 0 = ([] : List Tr).length := rfl
  unfold hdC
  obtain ⟨W, hW⟩ : ∃ W, w.alloc (.cells #[.int .i64 h.k, .bool h.neg, .slice A9 h.abs.length c9, .string h.name, .int .i64 h.exp, .int .i64 h.rel, .bool h.truth, .bool h.all, .slice A8 0 c8] TT) = W := ⟨_, rfl⟩
  have hx : Box w W w.heap.size #[.int .i64 h.k, .bool h.neg, .slice A9 h.abs.length c9, .string h.name, .int .i64 h.exp, .int .i64 h.rel, .bool h.truth, .bool h.all, .slice A8 0 c8] TT := by rw [← hW]; exact Box.new w _ _
  rw [hk] at hx hW ⊢
  obtain ⟨x0, x1, x2, x3, x4, x5, x6, x7, x8⟩ := hx.c9
  have hfn : degT (.name h.name) = 1 := rfl
  rw [hfn]
  have HX := Lib.hid hx
  clear hfn hab hks htr hS hT hsm hx hK hnm hkl
  go_enter Try.func32, Try.ntmps32
  go_wp2
  go_ret
  exact ⟨rfl, HX.out.below⟩

set_option maxRecDepth 100000 in
set_option maxHeartbeats 4000000 in
theorem rdeg_add (h : Hd) (a b : Tr) (p q : Tm) (hk : h.k = 3) (ia : ∀ (cs : List Value) (S : Nat → Prop) (w : World), (∀ b, S b → b < w.heap.size) → TreeAt w S a cs → Sm a → Calls Try.prog 32 #[.agg cs.toArray] w (NumPost (degT p) w)) (ib : ∀ (cs : List Value) (S : Nat → Prop) (w : World), (∀ b, S b → b < w.heap.size) → TreeAt w S b cs → Sm b → Calls Try.prog 32 #[.agg cs.toArray] w (NumPost (degT q) w)) (cs : List Value) (S : Nat → Prop) (w : World) (hS : ∀ b, S b → b < w.heap.size) (hT : TreeAt w S (.mk h [a, b]) cs) (hsm : Sm (.mk h [a, b])) :
    Calls Try.prog 32 #[.agg cs.toArray] w (NumPost (degT (.add p q)) w) := by
  obtain ⟨va, vk, xs, rfl, hab, hnm, hkl, hks, htr⟩ := hT.cells
  dsimp only [Tr.h, Tr.kids] at hab hnm hkl hks htr ⊢
  simp only [List.length_cons, List.length_nil, Nat.zero_add, Nat.reduceAdd] at hks
  obtain ⟨A9, c9, hv⟩ := hab.form
  obtain ⟨A8, c8, hv8⟩ := hks.form
  subst hv
  subst hv8
  have hK : 2 = ([a, b] : List Tr).length := rfl
  unfold hdC
  obtain ⟨W, hW⟩ : ∃ W, w.alloc (.cells #[.int .i64 h.k, .bool h.neg, .slice A9 h.abs.length c9, .string h.name, .int .i64 h.exp, .int .i64 h.rel, .bool h.truth, .bool h.all, .slice A8 2 c8] TT) = W := ⟨_, rfl⟩
  have hx : Box w W w.heap.size #[.int .i64 h.k, .bool h.neg, .slice A9 h.abs.length c9, .string h.name, .int .i64 h.exp, .int .i64 h.rel, .bool h.truth, .bool h.all, .slice A8 2 c8] TT := by rw [← hW]; exact Box.new w _ _
  rw [hk] at hx hW ⊢
  obtain ⟨x0, x1, x2, x3, x4, x5, x6, x7, x8⟩ := hx.c9
  obtain ⟨kd0, bb0, o0, A0, n0, c0, B0, m0, d0, hkd0, he0, hb0, hT0, f0, f1, f2, f3, f4, f5, f6, f7, f8⟩ := kid_cells (hks.below hS hx.below) (htr.below hS hx.below) hK 0 (by omega)
  obtain rfl : a = kd0 := by simpa using hkd0
  have hsa := rec_deg_sm hsm hkd0
  obtain ⟨kd1, bb1, o1, A1, n1, c1, B1, m1, d1, hkd1, he1, hb1, hT1, g0, g1, g2, g3, g4, g5, g6, g7, g8⟩ := kid_cells (hks.below hS hx.below) (htr.below hS hx.below) hK 1 (by omega)
  obtain rfl : b = kd1 := by simpa using hkd1
  have hsb := rec_deg_sm hsm hkd1
  rw [he0] at he1
  injection he1 with he1
  injection he1 with he1a he1b _
  subst he1a; subst he1b
  subst he0
  simp only [Nat.zero_mul, Nat.one_mul, Nat.add_zero] at f0 f1 f2 f3 f4 f5 f6 f7 f8 g0 g1 g2 g3 g4 g5 g6 g7 g8
  have hp0 := degT_le p
  obtain ⟨x, hxx⟩ : ∃ x, x = degT p := ⟨_, rfl⟩
  rw [← hxx] at hp0
  have hA : QuietCall 32 #[.agg (hdC a.h (.slice A0 n0 c0) (.slice B0 m0 d0)).toArray] x W := fun d os => by
    have h := ia _ S (grow (redrawn W d) os) (fun b hb => Nat.lt_of_lt_of_le (hS b hb) (Nat.le_trans hx.below.size (below_regrown W d os).size)) (hT0.below (fun b hb => Nat.lt_of_lt_of_le (hS b hb) hx.below.size) (below_regrown W d os)) hsa
    rw [← hxx] at h
    exact h
  unfold QuietCall hdC at hA
  have HA := Lib.hid hA
  have hq0 := degT_le q
  obtain ⟨y, hyy⟩ : ∃ y, y = degT q := ⟨_, rfl⟩
  rw [← hyy] at hq0
  have hB : QuietCall 32 #[.agg (hdC b.h (.slice A1 n1 c1) (.slice B1 m1 d1)).toArray] y W := fun d os => by
    have h := ib _ S (grow (redrawn W d) os) (fun b hb => Nat.lt_of_lt_of_le (hS b hb) (Nat.le_trans hx.below.size (below_regrown W d os).size)) (hT1.below (fun b hb => Nat.lt_of_lt_of_le (hS b hb) hx.below.size) (below_regrown W d os)) hsb
    rw [← hyy] at h
    exact h
  unfold QuietCall hdC at hB
  have HB := Lib.hid hB
  have HX := Lib.hid hx
  have rx8 := fun d os => cell_regrown x8 d os
  have rf0 := fun d os => cell_regrown f0 d os
  have rf1 := fun d os => cell_regrown f1 d os
  have rf2 := fun d os => cell_regrown f2 d os
  have rf3 := fun d os => cell_regrown f3 d os
  have rf4 := fun d os => cell_regrown f4 d os
  have rf5 := fun d os => cell_regrown f5 d os
  have rf6 := fun d os => cell_regrown f6 d os
  have rf7 := fun d os => cell_regrown f7 d os
  have rf8 := fun d os => cell_regrown f8 d os
  have rg0 := fun d os => cell_regrown g0 d os
  have rg1 := fun d os => cell_regrown g1 d os
  have rg2 := fun d os => cell_regrown g2 d os
  have rg3 := fun d os => cell_regrown g3 d os
  have rg4 := fun d os => cell_regrown g4 d os
  have rg5 := fun d os => cell_regrown g5 d os
  have rg6 := fun d os => cell_regrown g6 d os
  have rg7 := fun d os => cell_regrown g7 d os
  have rg8 := fun d os => cell_regrown g8 d os
  have hfn : degT (.add p q) = max x y := by rw [hxx, hyy]; conv => lhs; unfold degT
  rw [hfn]
  obtain ⟨z, hz⟩ : ∃ z, z = max x y := ⟨_, rfl⟩
  rw [← hz]
  have HZ := Lib.hid hz
  clear hz hfn hA hT0 hx hxx hks htr hS hT hsm hsa hkd0 hab hb0 ia hkl hnm hK hB hT1 hyy hsb hkd1 hb1 ib
  by_cases hxy : x < y
  all_goals
    first
      | (have hl1 : (x : Int) < y := by omega
         obtain rfl : z = y := by have := HZ.out; omega)
      | (have hl2 : ¬ (x : Int) < y := by omega
         obtain rfl : z = x := by have := HZ.out; omega)
    clear HZ
    go_enter Try.func32, Try.ntmps32
    go_wp2_with fail
    refine wp_region_quiet_below (by kernel_rfl) (by kernel_rfl) ?_
    (repeat (quiet_step (first | (with_reducible exact Calls.regrown_of (HA.out _ _)) | (with_reducible exact Calls.regrown_of (HB.out _ _)))))
    refine wpQuiet_nil ?_
    rintro _ ⟨⟨d, os⟩, rfl⟩
    have hb2 := below_regrown W d os
    go_wp2
    go_ret
    exact ⟨rfl, HX.out.below.trans (hb2.mono HX.out.below.size)⟩

set_option maxRecDepth 100000 in
set_option maxHeartbeats 4000000 in
theorem rdeg_sub (h : Hd) (a b : Tr) (p q : Tm) (hk : h.k = 4) (ia : ∀ (cs : List Value) (S : Nat → Prop) (w : World), (∀ b, S b → b < w.heap.size) → TreeAt w S a cs → Sm a → Calls Try.prog 32 #[.agg cs.toArray] w (NumPost (degT p) w)) (ib : ∀ (cs : List Value) (S : Nat → Prop) (w : World), (∀ b, S b → b < w.heap.size) → TreeAt w S b cs → Sm b → Calls Try.prog 32 #[.agg cs.toArray] w (NumPost (degT q) w)) (cs : List Value) (S : Nat → Prop) (w : World) (hS : ∀ b, S b → b < w.heap.size) (hT : TreeAt w S (.mk h [a, b]) cs) (hsm : Sm (.mk h [a, b])) :
    Calls Try.prog 32 #[.agg cs.toArray] w (NumPost (degT (.sub p q)) w) := by
  obtain ⟨va, vk, xs, rfl, hab, hnm, hkl, hks, htr⟩ := hT.cells
  dsimp only [Tr.h, Tr.kids] at hab hnm hkl hks htr ⊢
  simp only [List.length_cons, List.length_nil, Nat.zero_add, Nat.reduceAdd] at hks
  obtain ⟨A9, c9, hv⟩ := hab.form
  obtain ⟨A8, c8, hv8⟩ := hks.form
  subst hv
  subst hv8
  have hK : 2 = ([a, b] : List Tr).length := rfl
  unfold hdC
  obtain ⟨W, hW⟩ : ∃ W, w.alloc (.cells #[.int .i64 h.k, .bool h.neg, .slice A9 h.abs.length c9, .string h.name, .int .i64 h.exp, .int .i64 h.rel, .bool h.truth, .bool h.all, .slice A8 2 c8] TT) = W := ⟨_, rfl⟩
  have hx : Box w W w.heap.size #[.int .i64 h.k, .bool h.neg, .slice A9 h.abs.length c9, .string h.name, .int .i64 h.exp, .int .i64 h.rel, .bool h.truth, .bool h.all, .slice A8 2 c8] TT := by rw [← hW]; exact Box.new w _ _
  rw [hk] at hx hW ⊢
  obtain ⟨x0, x1, x2, x3, x4, x5, x6, x7, x8⟩ := hx.c9
  obtain ⟨kd0, bb0, o0, A0, n0, c0, B0, m0, d0, hkd0, he0, hb0, hT0, f0, f1, f2, f3, f4, f5, f6, f7, f8⟩ := kid_cells (hks.below hS hx.below) (htr.below hS hx.below) hK 0 (by omega)
  obtain rfl : a = kd0 := by simpa using hkd0
  have hsa := rec_deg_sm hsm hkd0
  obtain ⟨kd1, bb1, o1, A1, n1, c1, B1, m1, d1, hkd1, he1, hb1, hT1, g0, g1, g2, g3, g4, g5, g6, g7, g8⟩ := kid_cells (hks.below hS hx.below) (htr.below hS hx.below) hK 1 (by omega)
  obtain rfl : b = kd1 := by simpa using hkd1
  have hsb := rec_deg_sm hsm hkd1
  rw [he0] at he1
  injection he1 with he1
  injection he1 with he1a he1b _
  subst he1a; subst he1b
  subst he0
  simp only [Nat.zero_mul, Nat.one_mul, Nat.add_zero] at f0 f1 f2 f3 f4 f5 f6 f7 f8 g0 g1 g2 g3 g4 g5 g6 g7 g8
  have hp0 := degT_le p
  obtain ⟨x, hxx⟩ : ∃ x, x = degT p := ⟨_, rfl⟩
  rw [← hxx] at hp0
  have hA : QuietCall 32 #[.agg (hdC a.h (.slice A0 n0 c0) (.slice B0 m0 d0)).toArray] x W := fun d os => by
    have h := ia _ S (grow (redrawn W d) os) (fun b hb => Nat.lt_of_lt_of_le (hS b hb) (Nat.le_trans hx.below.size (below_regrown W d os).size)) (hT0.below (fun b hb => Nat.lt_of_lt_of_le (hS b hb) hx.below.size) (below_regrown W d os)) hsa
    rw [← hxx] at h
    exact h
  unfold QuietCall hdC at hA
  have HA := Lib.hid hA
  have hq0 := degT_le q
  obtain ⟨y, hyy⟩ : ∃ y, y = degT q := ⟨_, rfl⟩
  rw [← hyy] at hq0
  have hB : QuietCall 32 #[.agg (hdC b.h (.slice A1 n1 c1) (.slice B1 m1 d1)).toArray] y W := fun d os => by
    have h := ib _ S (grow (redrawn W d) os) (fun b hb => Nat.lt_of_lt_of_le (hS b hb) (Nat.le_trans hx.below.size (below_regrown W d os).size)) (hT1.below (fun b hb => Nat.lt_of_lt_of_le (hS b hb) hx.below.size) (below_regrown W d os)) hsb
    rw [← hyy] at h
    exact h
  unfold QuietCall hdC at hB
  have HB := Lib.hid hB
  have HX := Lib.hid hx
  have rx8 := fun d os => cell_regrown x8 d os
  have rf0 := fun d os => cell_regrown f0 d os
  have rf1 := fun d os => cell_regrown f1 d os
  have rf2 := fun d os => cell_regrown f2 d os
  have rf3 := fun d os => cell_regrown f3 d os
  have rf4 := fun d os => cell_regrown f4 d os
  have rf5 := fun d os => cell_regrown f5 d os
  have rf6 := fun d os => cell_regrown f6 d os
  have rf7 := fun d os => cell_regrown f7 d os
  have rf8 := fun d os => cell_regrown f8 d os
  have rg0 := fun d os => cell_regrown g0 d os
  have rg1 := fun d os => cell_regrown g1 d os
  have rg2 := fun d os => cell_regrown g2 d os
  have rg3 := fun d os => cell_regrown g3 d os
  have rg4 := fun d os => cell_regrown g4 d os
  have rg5 := fun d os => cell_regrown g5 d os
  have rg6 := fun d os => cell_regrown g6 d os
  have rg7 := fun d os => cell_regrown g7 d os
  have rg8 := fun d os => cell_regrown g8 d os
  have hfn : degT (.sub p q) = max x y := by rw [hxx, hyy]; conv => lhs; unfold degT
  rw [hfn]
  obtain ⟨z, hz⟩ : ∃ z, z = max x y := ⟨_, rfl⟩
  rw [← hz]
  have HZ := Lib.hid hz
  clear hz hfn hA hT0 hx hxx hks htr hS hT hsm hsa hkd0 hab hb0 ia hkl hnm hK hB hT1 hyy hsb hkd1 hb1 ib
  by_cases hxy : x < y
  all_goals
    first
      | (have hl1 : (x : Int) < y := by omega
         obtain rfl : z = y := by have := HZ.out; omega)
      | (have hl2 : ¬ (x : Int) < y := by omega
         obtain rfl : z = x := by have := HZ.out; omega)
    clear HZ
    go_enter Try.func32, Try.ntmps32
    go_wp2_with fail
    refine wp_region_quiet_below (by kernel_rfl) (by kernel_rfl) ?_
    (repeat (quiet_step (first | (with_reducible exact Calls.regrown_of (HA.out _ _)) | (with_reducible exact Calls.regrown_of (HB.out _ _)))))
    refine wpQuiet_nil ?_
    rintro _ ⟨⟨d, os⟩, rfl⟩
    have hb2 := below_regrown W d os
    go_wp2
    go_ret
    exact ⟨rfl, HX.out.below.trans (hb2.mono HX.out.below.size)⟩

set_option maxRecDepth 100000 in
set_option maxHeartbeats 4000000 in
theorem rdeg_mul (h : Hd) (a b : Tr) (p q : Tm) (hk : h.k = 5) (ia : ∀ (cs : List Value) (S : Nat → Prop) (w : World), (∀ b, S b → b < w.heap.size) → TreeAt w S a cs → Sm a → Calls Try.prog 32 #[.agg cs.toArray] w (NumPost (degT p) w)) (ib : ∀ (cs : List Value) (S : Nat → Prop) (w : World), (∀ b, S b → b < w.heap.size) → TreeAt w S b cs → Sm b → Calls Try.prog 32 #[.agg cs.toArray] w (NumPost (degT q) w)) (cs : List Value) (S : Nat → Prop) (w : World) (hS : ∀ b, S b → b < w.heap.size) (hT : TreeAt w S (.mk h [a, b]) cs) (hsm : Sm (.mk h [a, b])) :
    Calls Try.prog 32 #[.agg cs.toArray] w (NumPost (degT (.mul p q)) w) := by
  obtain ⟨va, vk, xs, rfl, hab, hnm, hkl, hks, htr⟩ := hT.cells
  dsimp only [Tr.h, Tr.kids] at hab hnm hkl hks htr ⊢
  simp only [List.length_cons, List.length_nil, Nat.zero_add, Nat.reduceAdd] at hks
  obtain ⟨A9, c9, hv⟩ := hab.form
  obtain ⟨A8, c8, hv8⟩ := hks.form
  subst hv
  subst hv8
  have hK : 2 = ([a, b] : List Tr).length := rfl
  unfold hdC
  obtain ⟨W, hW⟩ : ∃ W, w.alloc (.cells #[.int .i64 h.k, .bool h.neg, .slice A9 h.abs.length c9, .string h.name, .int .i64 h.exp, .int .i64 h.rel, .bool h.truth, .bool h.all, .slice A8 2 c8] TT) = W := ⟨_, rfl⟩
  have hx : Box w W w.heap.size #[.int .i64 h.k, .bool h.neg, .slice A9 h.abs.length c9, .string h.name, .int .i64 h.exp, .int .i64 h.rel, .bool h.truth, .bool h.all, .slice A8 2 c8] TT := by rw [← hW]; exact Box.new w _ _
  rw [hk] at hx hW ⊢
  obtain ⟨x0, x1, x2, x3, x4, x5, x6, x7, x8⟩ := hx.c9
  obtain ⟨kd0, bb0, o0, A0, n0, c0, B0, m0, d0, hkd0, he0, hb0, hT0, f0, f1, f2, f3, f4, f5, f6, f7, f8⟩ := kid_cells (hks.below hS hx.below) (htr.below hS hx.below) hK 0 (by omega)
  obtain rfl : a = kd0 := by simpa using hkd0
  have hsa := rec_deg_sm hsm hkd0
  obtain ⟨kd1, bb1, o1, A1, n1, c1, B1, m1, d1, hkd1, he1, hb1, hT1, g0, g1, g2, g3, g4, g5, g6, g7, g8⟩ := kid_cells (hks.below hS hx.below) (htr.below hS hx.below) hK 1 (by omega)
  obtain rfl : b = kd1 := by simpa using hkd1
  have hsb := rec_deg_sm hsm hkd1
  rw [he0] at he1
  injection he1 with he1
  injection he1 with he1a he1b _
  subst he1a; subst he1b
  subst he0
  simp only [Nat.zero_mul, Nat.one_mul, Nat.add_zero] at f0 f1 f2 f3 f4 f5 f6 f7 f8 g0 g1 g2 g3 g4 g5 g6 g7 g8
  have hp0 := degT_le p
  obtain ⟨x, hxx⟩ : ∃ x, x = degT p := ⟨_, rfl⟩
  rw [← hxx] at hp0
  have hA : QuietCall 32 #[.agg (hdC a.h (.slice A0 n0 c0) (.slice B0 m0 d0)).toArray] x W := fun d os => by
    have h := ia _ S (grow (redrawn W d) os) (fun b hb => Nat.lt_of_lt_of_le (hS b hb) (Nat.le_trans hx.below.size (below_regrown W d os).size)) (hT0.below (fun b hb => Nat.lt_of_lt_of_le (hS b hb) hx.below.size) (below_regrown W d os)) hsa
    rw [← hxx] at h
    exact h
  unfold QuietCall hdC at hA
  have HA := Lib.hid hA
  have hq0 := degT_le q
  obtain ⟨y, hyy⟩ : ∃ y, y = degT q := ⟨_, rfl⟩
  rw [← hyy] at hq0
  have hB : QuietCall 32 #[.agg (hdC b.h (.slice A1 n1 c1) (.slice B1 m1 d1)).toArray] y W := fun d os => by
    have h := ib _ S (grow (redrawn W d) os) (fun b hb => Nat.lt_of_lt_of_le (hS b hb) (Nat.le_trans hx.below.size (below_regrown W d os).size)) (hT1.below (fun b hb => Nat.lt_of_lt_of_le (hS b hb) hx.below.size) (below_regrown W d os)) hsb
    rw [← hyy] at h
    exact h
  unfold QuietCall hdC at hB
  have HB := Lib.hid hB
  have HX := Lib.hid hx
  have rx8 := fun d os => cell_regrown x8 d os
  have rf0 := fun d os => cell_regrown f0 d os
  have rf1 := fun d os => cell_regrown f1 d os
  have rf2 := fun d os => cell_regrown f2 d os
  have rf3 := fun d os => cell_regrown f3 d os
  have rf4 := fun d os => cell_regrown f4 d os
  have rf5 := fun d os => cell_regrown f5 d os
  have rf6 := fun d os => cell_regrown f6 d os
  have rf7 := fun d os => cell_regrown f7 d os
  have rf8 := fun d os => cell_regrown f8 d os
  have rg0 := fun d os => cell_regrown g0 d os
  have rg1 := fun d os => cell_regrown g1 d os
  have rg2 := fun d os => cell_regrown g2 d os
  have rg3 := fun d os => cell_regrown g3 d os
  have rg4 := fun d os => cell_regrown g4 d os
  have rg5 := fun d os => cell_regrown g5 d os
  have rg6 := fun d os => cell_regrown g6 d os
  have rg7 := fun d os => cell_regrown g7 d os
  have rg8 := fun d os => cell_regrown g8 d os
  have hfn : degT (.mul p q) = capN (x + y) := by rw [hxx, hyy]; conv => lhs; unfold degT
  rw [hfn]
  have hC := rcapped_quiet (x + y) W
  obtain ⟨m, hm⟩ : ∃ m, m = capN (x + y) := ⟨_, rfl⟩
  rw [← hm] at hC ⊢
  unfold QuietCall at hC
  rw [Int.natCast_add] at hC
  have HC := Lib.hid hC
  have hw1 : IntKind.i64.wrap ((x : Int) + y) = x + y := IntWalk.i64_in _ (by omega)
  clear hm hC hfn hA hT0 hx hxx hks htr hS hT hsm hsa hkd0 hab hb0 ia hkl hnm hK hB hT1 hyy hsb hkd1 hb1 ib
  go_enter Try.func32, Try.ntmps32
  go_wp2_with fail
  refine wp_region_quiet_below (by kernel_rfl) (by kernel_rfl) ?_
  (repeat (quiet_step (first | (with_reducible exact Calls.regrown_of (HA.out _ _)) | (with_reducible exact Calls.regrown_of (HC.out _ _)) | (with_reducible exact Calls.regrown_of (HB.out _ _)))))
  refine wpQuiet_nil ?_
  rintro _ ⟨⟨d, os⟩, rfl⟩
  have hb2 := below_regrown W d os
  go_wp2
  go_ret
  exact ⟨rfl, HX.out.below.trans (hb2.mono HX.out.below.size)⟩

set_option maxRecDepth 100000 in
set_option maxHeartbeats 4000000 in
theorem rdeg_neg (h : Hd) (a : Tr) (p : Tm) (hk : h.k = 6) (ia : ∀ (cs : List Value) (S : Nat → Prop) (w : World), (∀ b, S b → b < w.heap.size) → TreeAt w S a cs → Sm a → Calls Try.prog 32 #[.agg cs.toArray] w (NumPost (degT p) w)) (cs : List Value) (S : Nat → Prop) (w : World) (hS : ∀ b, S b → b < w.heap.size) (hT : TreeAt w S (.mk h [a]) cs) (hsm : Sm (.mk h [a])) :
    Calls Try.prog 32 #[.agg cs.toArray] w (NumPost (degT (.neg p)) w) := by
  obtain ⟨va, vk, xs, rfl, hab, hnm, hkl, hks, htr⟩ := hT.cells
  dsimp only [Tr.h, Tr.kids] at hab hnm hkl hks htr ⊢
  simp only [List.length_cons, List.length_nil, Nat.zero_add, Nat.reduceAdd] at hks
  obtain ⟨A9, c9, hv⟩ := hab.form
  obtain ⟨A8, c8, hv8⟩ := hks.form
  subst hv
  subst hv8
  have hK : 1 = ([a] : List Tr).length := rfl
  unfold hdC
  obtain ⟨W, hW⟩ : ∃ W, w.alloc (.cells #[.int .i64 h.k, .bool h.neg, .slice A9 h.abs.length c9, .string h.name, .int .i64 h.exp, .int .i64 h.rel, .bool h.truth, .bool h.all, .slice A8 1 c8] TT) = W := ⟨_, rfl⟩
  have hx : Box w W w.heap.size #[.int .i64 h.k, .bool h.neg, .slice A9 h.abs.length c9, .string h.name, .int .i64 h.exp, .int .i64 h.rel, .bool h.truth, .bool h.all, .slice A8 1 c8] TT := by rw [← hW]; exact Box.new w _ _
  rw [hk] at hx hW ⊢
  obtain ⟨x0, x1, x2, x3, x4, x5, x6, x7, x8⟩ := hx.c9
  obtain ⟨kd0, bb0, o0, A0, n0, c0, B0, m0, d0, hkd0, he0, hb0, hT0, f0, f1, f2, f3, f4, f5, f6, f7, f8⟩ := kid_cells (hks.below hS hx.below) (htr.below hS hx.below) hK 0 (by omega)
  obtain rfl : a = kd0 := by simpa using hkd0
  have hsa := rec_deg_sm hsm hkd0
  subst he0
  simp only [Nat.zero_mul, Nat.one_mul, Nat.add_zero] at f0 f1 f2 f3 f4 f5 f6 f7 f8
  have hp0 := degT_le p
  obtain ⟨x, hxx⟩ : ∃ x, x = degT p := ⟨_, rfl⟩
  rw [← hxx] at hp0
  have hA : QuietCall 32 #[.agg (hdC a.h (.slice A0 n0 c0) (.slice B0 m0 d0)).toArray] x W := fun d os => by
    have h := ia _ S (grow (redrawn W d) os) (fun b hb => Nat.lt_of_lt_of_le (hS b hb) (Nat.le_trans hx.below.size (below_regrown W d os).size)) (hT0.below (fun b hb => Nat.lt_of_lt_of_le (hS b hb) hx.below.size) (below_regrown W d os)) hsa
    rw [← hxx] at h
    exact h
  unfold QuietCall hdC at hA
  have HA := Lib.hid hA
  have HX := Lib.hid hx
  have hfn : degT (.neg p) = x := by rw [hxx]; conv => lhs; unfold degT
  rw [hfn]
  have hA1 := HA.out W.drawn #[]
  have hdd : grow (redrawn W W.drawn) #[] = W := by rw [grow_empty]; rfl
  rw [hdd] at hA1
  have HA1 := Lib.hid hA1
  clear hdd hA1 hfn hA hT0 hx hxx hks htr hS hT hsm hsa hkd0 hab hb0 ia hkl hnm hK
  go_enter Try.func32, Try.ntmps32
  go_wp2_with (go_at_call 32; refine HA1.out.mono ?_; rintro e w2 ⟨rfl, hb⟩)
  go_ret
  exact ⟨rfl, HX.out.below.trans (hb.mono HX.out.below.size)⟩

set_option maxRecDepth 100000 in
set_option maxHeartbeats 4000000 in
theorem rdeg_pow (h : Hd) (a : Tr) (p : Tm) (hk : h.k = 7) (he : 0 ≤ h.exp) (ia : ∀ (cs : List Value) (S : Nat → Prop) (w : World), (∀ b, S b → b < w.heap.size) → TreeAt w S a cs → Sm a → Calls Try.prog 32 #[.agg cs.toArray] w (NumPost (degT p) w)) (cs : List Value) (S : Nat → Prop) (w : World) (hS : ∀ b, S b → b < w.heap.size) (hT : TreeAt w S (.mk h [a]) cs) (hsm : Sm (.mk h [a])) :
    Calls Try.prog 32 #[.agg cs.toArray] w (NumPost (degT (.pow p h.exp)) w) := by
  obtain ⟨va, vk, xs, rfl, hab, hnm, hkl, hks, htr⟩ := hT.cells
  dsimp only [Tr.h, Tr.kids] at hab hnm hkl hks htr ⊢
  simp only [List.length_cons, List.length_nil, Nat.zero_add, Nat.reduceAdd] at hks
  obtain ⟨A9, c9, hv⟩ := hab.form
  obtain ⟨A8, c8, hv8⟩ := hks.form
  subst hv
  subst hv8
  have hK : 1 = ([a] : List Tr).length := rfl
  unfold hdC
  obtain ⟨W, hW⟩ : ∃ W, w.alloc (.cells #[.int .i64 h.k, .bool h.neg, .slice A9 h.abs.length c9, .string h.name, .int .i64 h.exp, .int .i64 h.rel, .bool h.truth, .bool h.all, .slice A8 1 c8] TT) = W := ⟨_, rfl⟩
  have hx : Box w W w.heap.size #[.int .i64 h.k, .bool h.neg, .slice A9 h.abs.length c9, .string h.name, .int .i64 h.exp, .int .i64 h.rel, .bool h.truth, .bool h.all, .slice A8 1 c8] TT := by rw [← hW]; exact Box.new w _ _
  rw [hk] at hx hW ⊢
  obtain ⟨x0, x1, x2, x3, x4, x5, x6, x7, x8⟩ := hx.c9
  obtain ⟨kd0, bb0, o0, A0, n0, c0, B0, m0, d0, hkd0, he0, hb0, hT0, f0, f1, f2, f3, f4, f5, f6, f7, f8⟩ := kid_cells (hks.below hS hx.below) (htr.below hS hx.below) hK 0 (by omega)
  obtain rfl : a = kd0 := by simpa using hkd0
  have hsa := rec_deg_sm hsm hkd0
  subst he0
  simp only [Nat.zero_mul, Nat.one_mul, Nat.add_zero] at f0 f1 f2 f3 f4 f5 f6 f7 f8
  have hp0 := degT_le p
  obtain ⟨x, hxx⟩ : ∃ x, x = degT p := ⟨_, rfl⟩
  rw [← hxx] at hp0
  have hA : QuietCall 32 #[.agg (hdC a.h (.slice A0 n0 c0) (.slice B0 m0 d0)).toArray] x W := fun d os => by
    have h := ia _ S (grow (redrawn W d) os) (fun b hb => Nat.lt_of_lt_of_le (hS b hb) (Nat.le_trans hx.below.size (below_regrown W d os).size)) (hT0.below (fun b hb => Nat.lt_of_lt_of_le (hS b hb) hx.below.size) (below_regrown W d os)) hsa
    rw [← hxx] at h
    exact h
  unfold QuietCall hdC at hA
  have HA := Lib.hid hA
  have HX := Lib.hid hx
  have rx8 := fun d os => cell_regrown x8 d os
  have rf0 := fun d os => cell_regrown f0 d os
  have rf1 := fun d os => cell_regrown f1 d os
  have rf2 := fun d os => cell_regrown f2 d os
  have rf3 := fun d os => cell_regrown f3 d os
  have rf4 := fun d os => cell_regrown f4 d os
  have rf5 := fun d os => cell_regrown f5 d os
  have rf6 := fun d os => cell_regrown f6 d os
  have rf7 := fun d os => cell_regrown f7 d os
  have rf8 := fun d os => cell_regrown f8 d os
  have rx4 := fun d os => cell_regrown x4 d os
  obtain ⟨xe, hxe⟩ : ∃ xe : Nat, (xe : Int) = h.exp := ⟨h.exp.toNat, by omega⟩
  rw [← hxe] at x4 rx4 HX hW ⊢
  obtain ⟨u, hu⟩ : ∃ u, u = capN xe := ⟨_, rfl⟩
  have hul : u ≤ 2147483647 := by rw [hu]; exact capN_le _
  have hE := rcapped_quiet xe W
  rw [← hu] at hE
  unfold QuietCall at hE
  have HE := Lib.hid hE
  have hfn : degT (.pow p (xe : Int)) = capN (u * x) := by
    rw [hu, hxx, prodN_deg _ _ (degT_le p)]
    show prodN (xe : Int).toNat (degT p) = _
    simp
  have hv1 : u * x ≤ 2147483647 * 2147483647 := Nat.mul_le_mul hul hp0
  obtain ⟨v, hv⟩ : ∃ v, v = u := ⟨_, rfl⟩
  rw [hfn]
  have hC := rcapped_quiet (u * x) W
  obtain ⟨m, hm⟩ : ∃ m, m = capN (u * x) := ⟨_, rfl⟩
  rw [← hm] at hC ⊢
  unfold QuietCall at hC
  rw [Int.natCast_mul] at hC
  have HC := Lib.hid hC
  have hw1 : IntKind.i64.wrap ((u : Int) * x) = u * x := IntWalk.i64_in _ (by
    have : (0 : Int) ≤ ((u * x : Nat) : Int) ∧ ((u * x : Nat) : Int) ≤ 4611686014132420609 := by omega
    rw [Int.natCast_mul] at this
    omega)
  clear hm hC hfn hu hv hv1 hE hxe hA hT0 hx hxx hks htr hS hT hsm hsa hkd0 hab hb0 ia hkl hnm hK
  go_enter Try.func32, Try.ntmps32
  go_wp2_with fail
  refine wp_region_quiet_below (by kernel_rfl) (by kernel_rfl) ?_
  (repeat (quiet_step (first | (with_reducible exact Calls.regrown_of (HA.out _ _)) | (with_reducible exact Calls.regrown_of (HC.out _ _)) | (with_reducible exact Calls.regrown_of (HE.out _ _)))))
  refine wpQuiet_nil ?_
  rintro _ ⟨⟨d, os⟩, rfl⟩
  have hb2 := below_regrown W d os
  go_wp2
  go_ret
  exact ⟨rfl, HX.out.below.trans (hb2.mono HX.out.below.size)⟩

theorem rdeg_any {t : Tr} {p : Tm} (h : RT t p) : ∀ (cs : List Value) (S : Nat → Prop) (w : World), (∀ b, S b → b < w.heap.size) → TreeAt w S t cs → Sm t → Calls Try.prog 32 #[.agg cs.toArray] w (NumPost (degT p) w) := by
  induction h with
  | num h hk => exact rdeg_num h hk
  | name h hk => exact rdeg_name h hk
  | add h a b p q hk ha hb ia ib => exact rdeg_add h a b p q hk ia ib
  | sub h a b p q hk ha hb ia ib => exact rdeg_sub h a b p q hk ia ib
  | mul h a b p q hk ha hb ia ib => exact rdeg_mul h a b p q hk ia ib
  | neg h a p hk ha ia => exact rdeg_neg h a p hk ia
  | pow h a p hk he ha ia => exact rdeg_pow h a p hk he ia

set_option maxRecDepth 100000 in
set_option maxHeartbeats 4000000 in
theorem rwgt_num (h : Hd) (hk : h.k = 1) (cs : List Value) (S : Nat → Prop) (w : World) (hS : ∀ b, S b → b < w.heap.size) (hT : TreeAt w S (.mk h []) cs) (hsm : Sm (.mk h [])) :
    Calls Try.prog 33 #[.agg cs.toArray] w (NumPost (wgtT (.num (normB h.neg h.abs) (trimN h.abs))) w) := by
  obtain ⟨va, vk, xs, rfl, hab, hnm, hkl, hks, htr⟩ := hT.cells
  dsimp only [Tr.h, Tr.kids] at hab hnm hkl hks htr ⊢
  simp only [List.length_cons, List.length_nil, Nat.zero_add, Nat.reduceAdd] at hks
  obtain ⟨A9, c9, hv⟩ := hab.form
  obtain ⟨A8, c8, hv8⟩ := hks.form
  subst hv
  subst hv8
  have hK : 0 = ([] : List Tr).length := rfl
  unfold hdC
  obtain ⟨W, hW⟩ : ∃ W, w.alloc (.cells #[.int .i64 h.k, .bool h.neg, .slice A9 h.abs.length c9, .string h.name, .int .i64 h.exp, .int .i64 h.rel, .bool h.truth, .bool h.all, .slice A8 0 c8] TT) = W := ⟨_, rfl⟩
  have hx : Box w W w.heap.size #[.int .i64 h.k, .bool h.neg, .slice A9 h.abs.length c9, .string h.name, .int .i64 h.exp, .int .i64 h.rel, .bool h.truth, .bool h.all, .slice A8 0 c8] TT := by rw [← hW]; exact Box.new w _ _
  rw [hk] at hx hW ⊢
  obtain ⟨x0, x1, x2, x3, x4, x5, x6, x7, x8⟩ := hx.c9
  have hsl : h.abs.length ≤ 20 := by unfold Sm at hsm; exact hsm.1
  have HD := Lib.hid (rdigits_any h.neg h.abs _ S W (fun b hb => Nat.lt_of_lt_of_le (hS b hb) hx.below.size) (hab.below hS hx.below) (by omega))
  have hdg : digN (valN h.abs) ≤ 200 := by
    unfold digN
    have h1 : (revd (valN h.abs)).length ≤ 10 * h.abs.length := revd_len_val _ hab.2.1
    omega
  have hfn : wgtT (.num (normB h.neg h.abs) (trimN h.abs)) = digN (valN h.abs) := by
    show capN (digN (valN (trimN h.abs))) = _
    rw [valN_trim]; unfold capN; omega
  rw [hfn]
  obtain ⟨D, hD⟩ : ∃ D, D = digN (valN h.abs) := ⟨_, rfl⟩
  rw [← hD] at HD ⊢
  have HX := Lib.hid hx
  clear hfn hD hdg hab hks htr hS hT hsm hx hK hnm hkl
  go_enter Try.func33, Try.ntmps33
  go_wp2_with (go_at_call 31; refine HD.out.mono ?_; rintro e w2 ⟨rfl, hb⟩)
  go_ret
  exact ⟨rfl, HX.out.below.trans (hb.mono HX.out.below.size)⟩

set_option maxRecDepth 100000 in
set_option maxHeartbeats 4000000 in
theorem rwgt_name (h : Hd) (hk : h.k = 2) (cs : List Value) (S : Nat → Prop) (w : World) (hS : ∀ b, S b → b < w.heap.size) (hT : TreeAt w S (.mk h []) cs) (hsm : Sm (.mk h [])) :
    Calls Try.prog 33 #[.agg cs.toArray] w (NumPost (wgtT (.name h.name)) w) := by
  obtain ⟨va, vk, xs, rfl, hab, hnm, hkl, hks, htr⟩ := hT.cells
  dsimp only [Tr.h, Tr.kids] at hab hnm hkl hks htr ⊢
  simp only [List.length_cons, List.length_nil, Nat.zero_add, Nat.reduceAdd] at hks
  obtain ⟨A9, c9, hv⟩ := hab.form
  obtain ⟨A8, c8, hv8⟩ := hks.form
  subst hv
  subst hv8
  have hK : 0 = ([] : List Tr).length := rfl
  unfold hdC
  obtain ⟨W, hW⟩ : ∃ W, w.alloc (.cells #[.int .i64 h.k, .bool h.neg, .slice A9 h.abs.length c9, .string h.name, .int .i64 h.exp, .int .i64 h.rel, .bool h.truth, .bool h.all, .slice A8 0 c8] TT) = W := ⟨_, rfl⟩
  have hx : Box w W w.heap.size #[.int .i64 h.k, .bool h.neg, .slice A9 h.abs.length c9, .string h.name, .int .i64 h.exp, .int .i64 h.rel, .bool h.truth, .bool h.all, .slice A8 0 c8] TT := by rw [← hW]; exact Box.new w _ _
  rw [hk] at hx hW ⊢
  obtain ⟨x0, x1, x2, x3, x4, x5, x6, x7, x8⟩ := hx.c9
  have hfn : wgtT (.name h.name) = 1 := rfl
  rw [hfn]
  have HX := Lib.hid hx
  clear hfn hab hks htr hS hT hsm hx hK hnm hkl
  go_enter Try.func33, Try.ntmps33
  go_wp2
  go_ret
  exact ⟨rfl, HX.out.below⟩

set_option maxRecDepth 100000 in
set_option maxHeartbeats 4000000 in
theorem rwgt_add (h : Hd) (a b : Tr) (p q : Tm) (hk : h.k = 3) (ia : ∀ (cs : List Value) (S : Nat → Prop) (w : World), (∀ b, S b → b < w.heap.size) → TreeAt w S a cs → Sm a → Calls Try.prog 33 #[.agg cs.toArray] w (NumPost (wgtT p) w)) (ib : ∀ (cs : List Value) (S : Nat → Prop) (w : World), (∀ b, S b → b < w.heap.size) → TreeAt w S b cs → Sm b → Calls Try.prog 33 #[.agg cs.toArray] w (NumPost (wgtT q) w)) (cs : List Value) (S : Nat → Prop) (w : World) (hS : ∀ b, S b → b < w.heap.size) (hT : TreeAt w S (.mk h [a, b]) cs) (hsm : Sm (.mk h [a, b])) :
    Calls Try.prog 33 #[.agg cs.toArray] w (NumPost (wgtT (.add p q)) w) := by
  obtain ⟨va, vk, xs, rfl, hab, hnm, hkl, hks, htr⟩ := hT.cells
  dsimp only [Tr.h, Tr.kids] at hab hnm hkl hks htr ⊢
  simp only [List.length_cons, List.length_nil, Nat.zero_add, Nat.reduceAdd] at hks
  obtain ⟨A9, c9, hv⟩ := hab.form
  obtain ⟨A8, c8, hv8⟩ := hks.form
  subst hv
  subst hv8
  have hK : 2 = ([a, b] : List Tr).length := rfl
  unfold hdC
  obtain ⟨W, hW⟩ : ∃ W, w.alloc (.cells #[.int .i64 h.k, .bool h.neg, .slice A9 h.abs.length c9, .string h.name, .int .i64 h.exp, .int .i64 h.rel, .bool h.truth, .bool h.all, .slice A8 2 c8] TT) = W := ⟨_, rfl⟩
  have hx : Box w W w.heap.size #[.int .i64 h.k, .bool h.neg, .slice A9 h.abs.length c9, .string h.name, .int .i64 h.exp, .int .i64 h.rel, .bool h.truth, .bool h.all, .slice A8 2 c8] TT := by rw [← hW]; exact Box.new w _ _
  rw [hk] at hx hW ⊢
  obtain ⟨x0, x1, x2, x3, x4, x5, x6, x7, x8⟩ := hx.c9
  obtain ⟨kd0, bb0, o0, A0, n0, c0, B0, m0, d0, hkd0, he0, hb0, hT0, f0, f1, f2, f3, f4, f5, f6, f7, f8⟩ := kid_cells (hks.below hS hx.below) (htr.below hS hx.below) hK 0 (by omega)
  obtain rfl : a = kd0 := by simpa using hkd0
  have hsa := rec_deg_sm hsm hkd0
  obtain ⟨kd1, bb1, o1, A1, n1, c1, B1, m1, d1, hkd1, he1, hb1, hT1, g0, g1, g2, g3, g4, g5, g6, g7, g8⟩ := kid_cells (hks.below hS hx.below) (htr.below hS hx.below) hK 1 (by omega)
  obtain rfl : b = kd1 := by simpa using hkd1
  have hsb := rec_deg_sm hsm hkd1
  rw [he0] at he1
  injection he1 with he1
  injection he1 with he1a he1b _
  subst he1a; subst he1b
  subst he0
  simp only [Nat.zero_mul, Nat.one_mul, Nat.add_zero] at f0 f1 f2 f3 f4 f5 f6 f7 f8 g0 g1 g2 g3 g4 g5 g6 g7 g8
  have hp0 := wgtT_le p
  obtain ⟨x, hxx⟩ : ∃ x, x = wgtT p := ⟨_, rfl⟩
  rw [← hxx] at hp0
  have hA : QuietCall 33 #[.agg (hdC a.h (.slice A0 n0 c0) (.slice B0 m0 d0)).toArray] x W := fun d os => by
    have h := ia _ S (grow (redrawn W d) os) (fun b hb => Nat.lt_of_lt_of_le (hS b hb) (Nat.le_trans hx.below.size (below_regrown W d os).size)) (hT0.below (fun b hb => Nat.lt_of_lt_of_le (hS b hb) hx.below.size) (below_regrown W d os)) hsa
    rw [← hxx] at h
    exact h
  unfold QuietCall hdC at hA
  have HA := Lib.hid hA
  have hq0 := wgtT_le q
  obtain ⟨y, hyy⟩ : ∃ y, y = wgtT q := ⟨_, rfl⟩
  rw [← hyy] at hq0
  have hB : QuietCall 33 #[.agg (hdC b.h (.slice A1 n1 c1) (.slice B1 m1 d1)).toArray] y W := fun d os => by
    have h := ib _ S (grow (redrawn W d) os) (fun b hb => Nat.lt_of_lt_of_le (hS b hb) (Nat.le_trans hx.below.size (below_regrown W d os).size)) (hT1.below (fun b hb => Nat.lt_of_lt_of_le (hS b hb) hx.below.size) (below_regrown W d os)) hsb
    rw [← hyy] at h
    exact h
  unfold QuietCall hdC at hB
  have HB := Lib.hid hB
  have HX := Lib.hid hx
  have rx8 := fun d os => cell_regrown x8 d os
  have rf0 := fun d os => cell_regrown f0 d os
  have rf1 := fun d os => cell_regrown f1 d os
  have rf2 := fun d os => cell_regrown f2 d os
  have rf3 := fun d os => cell_regrown f3 d os
  have rf4 := fun d os => cell_regrown f4 d os
  have rf5 := fun d os => cell_regrown f5 d os
  have rf6 := fun d os => cell_regrown f6 d os
  have rf7 := fun d os => cell_regrown f7 d os
  have rf8 := fun d os => cell_regrown f8 d os
  have rg0 := fun d os => cell_regrown g0 d os
  have rg1 := fun d os => cell_regrown g1 d os
  have rg2 := fun d os => cell_regrown g2 d os
  have rg3 := fun d os => cell_regrown g3 d os
  have rg4 := fun d os => cell_regrown g4 d os
  have rg5 := fun d os => cell_regrown g5 d os
  have rg6 := fun d os => cell_regrown g6 d os
  have rg7 := fun d os => cell_regrown g7 d os
  have rg8 := fun d os => cell_regrown g8 d os
  have hfn : wgtT (.add p q) = capN (max x y + 1) := by rw [hxx, hyy]; conv => lhs; unfold wgtT
  rw [hfn]
  obtain ⟨z, hz⟩ : ∃ z, z = max x y := ⟨_, rfl⟩
  have hC := rcapped_quiet (max x y + 1) W
  obtain ⟨m, hm⟩ : ∃ m, m = capN (max x y + 1) := ⟨_, rfl⟩
  rw [← hm] at hC ⊢
  rw [← hz] at hC
  unfold QuietCall at hC
  rw [show ((z + 1 : Nat) : Int) = 1 + (z : Int) by omega] at hC
  have HC := Lib.hid hC
  have hzl : z ≤ 2147483647 := by omega
  have hw1 : IntKind.i64.wrap (1 + (z : Int)) = 1 + (z : Int) := IntWalk.i64_in _ (by omega)
  have HZ := Lib.hid hz
  clear hz hm hC hfn hA hT0 hx hxx hks htr hS hT hsm hsa hkd0 hab hb0 ia hkl hnm hK hB hT1 hyy hsb hkd1 hb1 ib
  by_cases hxy : x < y
  all_goals
    first
      | (have hl1 : (x : Int) < y := by omega
         obtain rfl : z = y := by have := HZ.out; omega)
      | (have hl2 : ¬ (x : Int) < y := by omega
         obtain rfl : z = x := by have := HZ.out; omega)
    clear HZ
    go_enter Try.func33, Try.ntmps33
    go_wp2_with fail
    refine wp_region_quiet_below (by kernel_rfl) (by kernel_rfl) ?_
    (repeat (quiet_step (first | (with_reducible exact Calls.regrown_of (HA.out _ _)) | (with_reducible exact Calls.regrown_of (HC.out _ _)) | (with_reducible exact Calls.regrown_of (HB.out _ _)))))
    refine wpQuiet_nil ?_
    rintro _ ⟨⟨d, os⟩, rfl⟩
    have hb2 := below_regrown W d os
    go_wp2
    go_ret
    exact ⟨rfl, HX.out.below.trans (hb2.mono HX.out.below.size)⟩

set_option maxRecDepth 100000 in
set_option maxHeartbeats 4000000 in
theorem rwgt_sub (h : Hd) (a b : Tr) (p q : Tm) (hk : h.k = 4) (ia : ∀ (cs : List Value) (S : Nat → Prop) (w : World), (∀ b, S b → b < w.heap.size) → TreeAt w S a cs → Sm a → Calls Try.prog 33 #[.agg cs.toArray] w (NumPost (wgtT p) w)) (ib : ∀ (cs : List Value) (S : Nat → Prop) (w : World), (∀ b, S b → b < w.heap.size) → TreeAt w S b cs → Sm b → Calls Try.prog 33 #[.agg cs.toArray] w (NumPost (wgtT q) w)) (cs : List Value) (S : Nat → Prop) (w : World) (hS : ∀ b, S b → b < w.heap.size) (hT : TreeAt w S (.mk h [a, b]) cs) (hsm : Sm (.mk h [a, b])) :
    Calls Try.prog 33 #[.agg cs.toArray] w (NumPost (wgtT (.sub p q)) w) := by
  obtain ⟨va, vk, xs, rfl, hab, hnm, hkl, hks, htr⟩ := hT.cells
  dsimp only [Tr.h, Tr.kids] at hab hnm hkl hks htr ⊢
  simp only [List.length_cons, List.length_nil, Nat.zero_add, Nat.reduceAdd] at hks
  obtain ⟨A9, c9, hv⟩ := hab.form
  obtain ⟨A8, c8, hv8⟩ := hks.form
  subst hv
  subst hv8
  have hK : 2 = ([a, b] : List Tr).length := rfl
  unfold hdC
  obtain ⟨W, hW⟩ : ∃ W, w.alloc (.cells #[.int .i64 h.k, .bool h.neg, .slice A9 h.abs.length c9, .string h.name, .int .i64 h.exp, .int .i64 h.rel, .bool h.truth, .bool h.all, .slice A8 2 c8] TT) = W := ⟨_, rfl⟩
  have hx : Box w W w.heap.size #[.int .i64 h.k, .bool h.neg, .slice A9 h.abs.length c9, .string h.name, .int .i64 h.exp, .int .i64 h.rel, .bool h.truth, .bool h.all, .slice A8 2 c8] TT := by rw [← hW]; exact Box.new w _ _
  rw [hk] at hx hW ⊢
  obtain ⟨x0, x1, x2, x3, x4, x5, x6, x7, x8⟩ := hx.c9
  obtain ⟨kd0, bb0, o0, A0, n0, c0, B0, m0, d0, hkd0, he0, hb0, hT0, f0, f1, f2, f3, f4, f5, f6, f7, f8⟩ := kid_cells (hks.below hS hx.below) (htr.below hS hx.below) hK 0 (by omega)
  obtain rfl : a = kd0 := by simpa using hkd0
  have hsa := rec_deg_sm hsm hkd0
  obtain ⟨kd1, bb1, o1, A1, n1, c1, B1, m1, d1, hkd1, he1, hb1, hT1, g0, g1, g2, g3, g4, g5, g6, g7, g8⟩ := kid_cells (hks.below hS hx.below) (htr.below hS hx.below) hK 1 (by omega)
  obtain rfl : b = kd1 := by simpa using hkd1
  have hsb := rec_deg_sm hsm hkd1
  rw [he0] at he1
  injection he1 with he1
  injection he1 with he1a he1b _
  subst he1a; subst he1b
  subst he0
  simp only [Nat.zero_mul, Nat.one_mul, Nat.add_zero] at f0 f1 f2 f3 f4 f5 f6 f7 f8 g0 g1 g2 g3 g4 g5 g6 g7 g8
  have hp0 := wgtT_le p
  obtain ⟨x, hxx⟩ : ∃ x, x = wgtT p := ⟨_, rfl⟩
  rw [← hxx] at hp0
  have hA : QuietCall 33 #[.agg (hdC a.h (.slice A0 n0 c0) (.slice B0 m0 d0)).toArray] x W := fun d os => by
    have h := ia _ S (grow (redrawn W d) os) (fun b hb => Nat.lt_of_lt_of_le (hS b hb) (Nat.le_trans hx.below.size (below_regrown W d os).size)) (hT0.below (fun b hb => Nat.lt_of_lt_of_le (hS b hb) hx.below.size) (below_regrown W d os)) hsa
    rw [← hxx] at h
    exact h
  unfold QuietCall hdC at hA
  have HA := Lib.hid hA
  have hq0 := wgtT_le q
  obtain ⟨y, hyy⟩ : ∃ y, y = wgtT q := ⟨_, rfl⟩
  rw [← hyy] at hq0
  have hB : QuietCall 33 #[.agg (hdC b.h (.slice A1 n1 c1) (.slice B1 m1 d1)).toArray] y W := fun d os => by
    have h := ib _ S (grow (redrawn W d) os) (fun b hb => Nat.lt_of_lt_of_le (hS b hb) (Nat.le_trans hx.below.size (below_regrown W d os).size)) (hT1.below (fun b hb => Nat.lt_of_lt_of_le (hS b hb) hx.below.size) (below_regrown W d os)) hsb
    rw [← hyy] at h
    exact h
  unfold QuietCall hdC at hB
  have HB := Lib.hid hB
  have HX := Lib.hid hx
  have rx8 := fun d os => cell_regrown x8 d os
  have rf0 := fun d os => cell_regrown f0 d os
  have rf1 := fun d os => cell_regrown f1 d os
  have rf2 := fun d os => cell_regrown f2 d os
  have rf3 := fun d os => cell_regrown f3 d os
  have rf4 := fun d os => cell_regrown f4 d os
  have rf5 := fun d os => cell_regrown f5 d os
  have rf6 := fun d os => cell_regrown f6 d os
  have rf7 := fun d os => cell_regrown f7 d os
  have rf8 := fun d os => cell_regrown f8 d os
  have rg0 := fun d os => cell_regrown g0 d os
  have rg1 := fun d os => cell_regrown g1 d os
  have rg2 := fun d os => cell_regrown g2 d os
  have rg3 := fun d os => cell_regrown g3 d os
  have rg4 := fun d os => cell_regrown g4 d os
  have rg5 := fun d os => cell_regrown g5 d os
  have rg6 := fun d os => cell_regrown g6 d os
  have rg7 := fun d os => cell_regrown g7 d os
  have rg8 := fun d os => cell_regrown g8 d os
  have hfn : wgtT (.sub p q) = capN (max x y + 1) := by rw [hxx, hyy]; conv => lhs; unfold wgtT
  rw [hfn]
  obtain ⟨z, hz⟩ : ∃ z, z = max x y := ⟨_, rfl⟩
  have hC := rcapped_quiet (max x y + 1) W
  obtain ⟨m, hm⟩ : ∃ m, m = capN (max x y + 1) := ⟨_, rfl⟩
  rw [← hm] at hC ⊢
  rw [← hz] at hC
  unfold QuietCall at hC
  rw [show ((z + 1 : Nat) : Int) = 1 + (z : Int) by omega] at hC
  have HC := Lib.hid hC
  have hzl : z ≤ 2147483647 := by omega
  have hw1 : IntKind.i64.wrap (1 + (z : Int)) = 1 + (z : Int) := IntWalk.i64_in _ (by omega)
  have HZ := Lib.hid hz
  clear hz hm hC hfn hA hT0 hx hxx hks htr hS hT hsm hsa hkd0 hab hb0 ia hkl hnm hK hB hT1 hyy hsb hkd1 hb1 ib
  by_cases hxy : x < y
  all_goals
    first
      | (have hl1 : (x : Int) < y := by omega
         obtain rfl : z = y := by have := HZ.out; omega)
      | (have hl2 : ¬ (x : Int) < y := by omega
         obtain rfl : z = x := by have := HZ.out; omega)
    clear HZ
    go_enter Try.func33, Try.ntmps33
    go_wp2_with fail
    refine wp_region_quiet_below (by kernel_rfl) (by kernel_rfl) ?_
    (repeat (quiet_step (first | (with_reducible exact Calls.regrown_of (HA.out _ _)) | (with_reducible exact Calls.regrown_of (HC.out _ _)) | (with_reducible exact Calls.regrown_of (HB.out _ _)))))
    refine wpQuiet_nil ?_
    rintro _ ⟨⟨d, os⟩, rfl⟩
    have hb2 := below_regrown W d os
    go_wp2
    go_ret
    exact ⟨rfl, HX.out.below.trans (hb2.mono HX.out.below.size)⟩

set_option maxRecDepth 100000 in
set_option maxHeartbeats 4000000 in
theorem rwgt_mul (h : Hd) (a b : Tr) (p q : Tm) (hk : h.k = 5) (ia : ∀ (cs : List Value) (S : Nat → Prop) (w : World), (∀ b, S b → b < w.heap.size) → TreeAt w S a cs → Sm a → Calls Try.prog 33 #[.agg cs.toArray] w (NumPost (wgtT p) w)) (ib : ∀ (cs : List Value) (S : Nat → Prop) (w : World), (∀ b, S b → b < w.heap.size) → TreeAt w S b cs → Sm b → Calls Try.prog 33 #[.agg cs.toArray] w (NumPost (wgtT q) w)) (cs : List Value) (S : Nat → Prop) (w : World) (hS : ∀ b, S b → b < w.heap.size) (hT : TreeAt w S (.mk h [a, b]) cs) (hsm : Sm (.mk h [a, b])) :
    Calls Try.prog 33 #[.agg cs.toArray] w (NumPost (wgtT (.mul p q)) w) := by
  obtain ⟨va, vk, xs, rfl, hab, hnm, hkl, hks, htr⟩ := hT.cells
  dsimp only [Tr.h, Tr.kids] at hab hnm hkl hks htr ⊢
  simp only [List.length_cons, List.length_nil, Nat.zero_add, Nat.reduceAdd] at hks
  obtain ⟨A9, c9, hv⟩ := hab.form
  obtain ⟨A8, c8, hv8⟩ := hks.form
  subst hv
  subst hv8
  have hK : 2 = ([a, b] : List Tr).length := rfl
  unfold hdC
  obtain ⟨W, hW⟩ : ∃ W, w.alloc (.cells #[.int .i64 h.k, .bool h.neg, .slice A9 h.abs.length c9, .string h.name, .int .i64 h.exp, .int .i64 h.rel, .bool h.truth, .bool h.all, .slice A8 2 c8] TT) = W := ⟨_, rfl⟩
  have hx : Box w W w.heap.size #[.int .i64 h.k, .bool h.neg, .slice A9 h.abs.length c9, .string h.name, .int .i64 h.exp, .int .i64 h.rel, .bool h.truth, .bool h.all, .slice A8 2 c8] TT := by rw [← hW]; exact Box.new w _ _
  rw [hk] at hx hW ⊢
  obtain ⟨x0, x1, x2, x3, x4, x5, x6, x7, x8⟩ := hx.c9
  obtain ⟨kd0, bb0, o0, A0, n0, c0, B0, m0, d0, hkd0, he0, hb0, hT0, f0, f1, f2, f3, f4, f5, f6, f7, f8⟩ := kid_cells (hks.below hS hx.below) (htr.below hS hx.below) hK 0 (by omega)
  obtain rfl : a = kd0 := by simpa using hkd0
  have hsa := rec_deg_sm hsm hkd0
  obtain ⟨kd1, bb1, o1, A1, n1, c1, B1, m1, d1, hkd1, he1, hb1, hT1, g0, g1, g2, g3, g4, g5, g6, g7, g8⟩ := kid_cells (hks.below hS hx.below) (htr.below hS hx.below) hK 1 (by omega)
  obtain rfl : b = kd1 := by simpa using hkd1
  have hsb := rec_deg_sm hsm hkd1
  rw [he0] at he1
  injection he1 with he1
  injection he1 with he1a he1b _
  subst he1a; subst he1b
  subst he0
  simp only [Nat.zero_mul, Nat.one_mul, Nat.add_zero] at f0 f1 f2 f3 f4 f5 f6 f7 f8 g0 g1 g2 g3 g4 g5 g6 g7 g8
  have hp0 := wgtT_le p
  obtain ⟨x, hxx⟩ : ∃ x, x = wgtT p := ⟨_, rfl⟩
  rw [← hxx] at hp0
  have hA : QuietCall 33 #[.agg (hdC a.h (.slice A0 n0 c0) (.slice B0 m0 d0)).toArray] x W := fun d os => by
    have h := ia _ S (grow (redrawn W d) os) (fun b hb => Nat.lt_of_lt_of_le (hS b hb) (Nat.le_trans hx.below.size (below_regrown W d os).size)) (hT0.below (fun b hb => Nat.lt_of_lt_of_le (hS b hb) hx.below.size) (below_regrown W d os)) hsa
    rw [← hxx] at h
    exact h
  unfold QuietCall hdC at hA
  have HA := Lib.hid hA
  have hq0 := wgtT_le q
  obtain ⟨y, hyy⟩ : ∃ y, y = wgtT q := ⟨_, rfl⟩
  rw [← hyy] at hq0
  have hB : QuietCall 33 #[.agg (hdC b.h (.slice A1 n1 c1) (.slice B1 m1 d1)).toArray] y W := fun d os => by
    have h := ib _ S (grow (redrawn W d) os) (fun b hb => Nat.lt_of_lt_of_le (hS b hb) (Nat.le_trans hx.below.size (below_regrown W d os).size)) (hT1.below (fun b hb => Nat.lt_of_lt_of_le (hS b hb) hx.below.size) (below_regrown W d os)) hsb
    rw [← hyy] at h
    exact h
  unfold QuietCall hdC at hB
  have HB := Lib.hid hB
  have HX := Lib.hid hx
  have rx8 := fun d os => cell_regrown x8 d os
  have rf0 := fun d os => cell_regrown f0 d os
  have rf1 := fun d os => cell_regrown f1 d os
  have rf2 := fun d os => cell_regrown f2 d os
  have rf3 := fun d os => cell_regrown f3 d os
  have rf4 := fun d os => cell_regrown f4 d os
  have rf5 := fun d os => cell_regrown f5 d os
  have rf6 := fun d os => cell_regrown f6 d os
  have rf7 := fun d os => cell_regrown f7 d os
  have rf8 := fun d os => cell_regrown f8 d os
  have rg0 := fun d os => cell_regrown g0 d os
  have rg1 := fun d os => cell_regrown g1 d os
  have rg2 := fun d os => cell_regrown g2 d os
  have rg3 := fun d os => cell_regrown g3 d os
  have rg4 := fun d os => cell_regrown g4 d os
  have rg5 := fun d os => cell_regrown g5 d os
  have rg6 := fun d os => cell_regrown g6 d os
  have rg7 := fun d os => cell_regrown g7 d os
  have rg8 := fun d os => cell_regrown g8 d os
  have hfn : wgtT (.mul p q) = capN (x + y) := by rw [hxx, hyy]; conv => lhs; unfold wgtT
  rw [hfn]
  have hC := rcapped_quiet (x + y) W
  obtain ⟨m, hm⟩ : ∃ m, m = capN (x + y) := ⟨_, rfl⟩
  rw [← hm] at hC ⊢
  unfold QuietCall at hC
  rw [Int.natCast_add] at hC
  have HC := Lib.hid hC
  have hw1 : IntKind.i64.wrap ((x : Int) + y) = x + y := IntWalk.i64_in _ (by omega)
  clear hm hC hfn hA hT0 hx hxx hks htr hS hT hsm hsa hkd0 hab hb0 ia hkl hnm hK hB hT1 hyy hsb hkd1 hb1 ib
  go_enter Try.func33, Try.ntmps33
  go_wp2_with fail
  refine wp_region_quiet_below (by kernel_rfl) (by kernel_rfl) ?_
  (repeat (quiet_step (first | (with_reducible exact Calls.regrown_of (HA.out _ _)) | (with_reducible exact Calls.regrown_of (HC.out _ _)) | (with_reducible exact Calls.regrown_of (HB.out _ _)))))
  refine wpQuiet_nil ?_
  rintro _ ⟨⟨d, os⟩, rfl⟩
  have hb2 := below_regrown W d os
  go_wp2
  go_ret
  exact ⟨rfl, HX.out.below.trans (hb2.mono HX.out.below.size)⟩

set_option maxRecDepth 100000 in
set_option maxHeartbeats 4000000 in
theorem rwgt_neg (h : Hd) (a : Tr) (p : Tm) (hk : h.k = 6) (ia : ∀ (cs : List Value) (S : Nat → Prop) (w : World), (∀ b, S b → b < w.heap.size) → TreeAt w S a cs → Sm a → Calls Try.prog 33 #[.agg cs.toArray] w (NumPost (wgtT p) w)) (cs : List Value) (S : Nat → Prop) (w : World) (hS : ∀ b, S b → b < w.heap.size) (hT : TreeAt w S (.mk h [a]) cs) (hsm : Sm (.mk h [a])) :
    Calls Try.prog 33 #[.agg cs.toArray] w (NumPost (wgtT (.neg p)) w) := by
  obtain ⟨va, vk, xs, rfl, hab, hnm, hkl, hks, htr⟩ := hT.cells
  dsimp only [Tr.h, Tr.kids] at hab hnm hkl hks htr ⊢
  simp only [List.length_cons, List.length_nil, Nat.zero_add, Nat.reduceAdd] at hks
  obtain ⟨A9, c9, hv⟩ := hab.form
  obtain ⟨A8, c8, hv8⟩ := hks.form
  subst hv
  subst hv8
  have hK : 1 = ([a] : List Tr).length := rfl
  unfold hdC
  obtain ⟨W, hW⟩ : ∃ W, w.alloc (.cells #[.int .i64 h.k, .bool h.neg, .slice A9 h.abs.length c9, .string h.name, .int .i64 h.exp, .int .i64 h.rel, .bool h.truth, .bool h.all, .slice A8 1 c8] TT) = W := ⟨_, rfl⟩
  have hx : Box w W w.heap.size #[.int .i64 h.k, .bool h.neg, .slice A9 h.abs.length c9, .string h.name, .int .i64 h.exp, .int .i64 h.rel, .bool h.truth, .bool h.all, .slice A8 1 c8] TT := by rw [← hW]; exact Box.new w _ _
  rw [hk] at hx hW ⊢
  obtain ⟨x0, x1, x2, x3, x4, x5, x6, x7, x8⟩ := hx.c9
  obtain ⟨kd0, bb0, o0, A0, n0, c0, B0, m0, d0, hkd0, he0, hb0, hT0, f0, f1, f2, f3, f4, f5, f6, f7, f8⟩ := kid_cells (hks.below hS hx.below) (htr.below hS hx.below) hK 0 (by omega)
  obtain rfl : a = kd0 := by simpa using hkd0
  have hsa := rec_deg_sm hsm hkd0
  subst he0
  simp only [Nat.zero_mul, Nat.one_mul, Nat.add_zero] at f0 f1 f2 f3 f4 f5 f6 f7 f8
  have hp0 := wgtT_le p
  obtain ⟨x, hxx⟩ : ∃ x, x = wgtT p := ⟨_, rfl⟩
  rw [← hxx] at hp0
  have hA : QuietCall 33 #[.agg (hdC a.h (.slice A0 n0 c0) (.slice B0 m0 d0)).toArray] x W := fun d os => by
    have h := ia _ S (grow (redrawn W d) os) (fun b hb => Nat.lt_of_lt_of_le (hS b hb) (Nat.le_trans hx.below.size (below_regrown W d os).size)) (hT0.below (fun b hb => Nat.lt_of_lt_of_le (hS b hb) hx.below.size) (below_regrown W d os)) hsa
    rw [← hxx] at h
    exact h
  unfold QuietCall hdC at hA
  have HA := Lib.hid hA
  have HX := Lib.hid hx
  have hfn : wgtT (.neg p) = x := by rw [hxx]; conv => lhs; unfold wgtT
  rw [hfn]
  have hA1 := HA.out W.drawn #[]
  have hdd : grow (redrawn W W.drawn) #[] = W := by rw [grow_empty]; rfl
  rw [hdd] at hA1
  have HA1 := Lib.hid hA1
  clear hdd hA1 hfn hA hT0 hx hxx hks htr hS hT hsm hsa hkd0 hab hb0 ia hkl hnm hK
  go_enter Try.func33, Try.ntmps33
  go_wp2_with (go_at_call 33; refine HA1.out.mono ?_; rintro e w2 ⟨rfl, hb⟩)
  go_ret
  exact ⟨rfl, HX.out.below.trans (hb.mono HX.out.below.size)⟩

set_option maxRecDepth 100000 in
set_option maxHeartbeats 4000000 in
theorem rwgt_pow (h : Hd) (a : Tr) (p : Tm) (hk : h.k = 7) (he : 0 ≤ h.exp) (ia : ∀ (cs : List Value) (S : Nat → Prop) (w : World), (∀ b, S b → b < w.heap.size) → TreeAt w S a cs → Sm a → Calls Try.prog 33 #[.agg cs.toArray] w (NumPost (wgtT p) w)) (cs : List Value) (S : Nat → Prop) (w : World) (hS : ∀ b, S b → b < w.heap.size) (hT : TreeAt w S (.mk h [a]) cs) (hsm : Sm (.mk h [a])) :
    Calls Try.prog 33 #[.agg cs.toArray] w (NumPost (wgtT (.pow p h.exp)) w) := by
  obtain ⟨va, vk, xs, rfl, hab, hnm, hkl, hks, htr⟩ := hT.cells
  dsimp only [Tr.h, Tr.kids] at hab hnm hkl hks htr ⊢
  simp only [List.length_cons, List.length_nil, Nat.zero_add, Nat.reduceAdd] at hks
  obtain ⟨A9, c9, hv⟩ := hab.form
  obtain ⟨A8, c8, hv8⟩ := hks.form
  subst hv
  subst hv8
  have hK : 1 = ([a] : List Tr).length := rfl
  unfold hdC
  obtain ⟨W, hW⟩ : ∃ W, w.alloc (.cells #[.int .i64 h.k, .bool h.neg, .slice A9 h.abs.length c9, .string h.name, .int .i64 h.exp, .int .i64 h.rel, .bool h.truth, .bool h.all, .slice A8 1 c8] TT) = W := ⟨_, rfl⟩
  have hx : Box w W w.heap.size #[.int .i64 h.k, .bool h.neg, .slice A9 h.abs.length c9, .string h.name, .int .i64 h.exp, .int .i64 h.rel, .bool h.truth, .bool h.all, .slice A8 1 c8] TT := by rw [← hW]; exact Box.new w _ _
  rw [hk] at hx hW ⊢
  obtain ⟨x0, x1, x2, x3, x4, x5, x6, x7, x8⟩ := hx.c9
  obtain ⟨kd0, bb0, o0, A0, n0, c0, B0, m0, d0, hkd0, he0, hb0, hT0, f0, f1, f2, f3, f4, f5, f6, f7, f8⟩ := kid_cells (hks.below hS hx.below) (htr.below hS hx.below) hK 0 (by omega)
  obtain rfl : a = kd0 := by simpa using hkd0
  have hsa := rec_deg_sm hsm hkd0
  subst he0
  simp only [Nat.zero_mul, Nat.one_mul, Nat.add_zero] at f0 f1 f2 f3 f4 f5 f6 f7 f8
  have hp0 := wgtT_le p
  obtain ⟨x, hxx⟩ : ∃ x, x = wgtT p := ⟨_, rfl⟩
  rw [← hxx] at hp0
  have hA : QuietCall 33 #[.agg (hdC a.h (.slice A0 n0 c0) (.slice B0 m0 d0)).toArray] x W := fun d os => by
    have h := ia _ S (grow (redrawn W d) os) (fun b hb => Nat.lt_of_lt_of_le (hS b hb) (Nat.le_trans hx.below.size (below_regrown W d os).size)) (hT0.below (fun b hb => Nat.lt_of_lt_of_le (hS b hb) hx.below.size) (below_regrown W d os)) hsa
    rw [← hxx] at h
    exact h
  unfold QuietCall hdC at hA
  have HA := Lib.hid hA
  have HX := Lib.hid hx
  have rx8 := fun d os => cell_regrown x8 d os
  have rf0 := fun d os => cell_regrown f0 d os
  have rf1 := fun d os => cell_regrown f1 d os
  have rf2 := fun d os => cell_regrown f2 d os
  have rf3 := fun d os => cell_regrown f3 d os
  have rf4 := fun d os => cell_regrown f4 d os
  have rf5 := fun d os => cell_regrown f5 d os
  have rf6 := fun d os => cell_regrown f6 d os
  have rf7 := fun d os => cell_regrown f7 d os
  have rf8 := fun d os => cell_regrown f8 d os
  have rx4 := fun d os => cell_regrown x4 d os
  obtain ⟨xe, hxe⟩ : ∃ xe : Nat, (xe : Int) = h.exp := ⟨h.exp.toNat, by omega⟩
  rw [← hxe] at x4 rx4 HX hW ⊢
  obtain ⟨u, hu⟩ : ∃ u, u = capN xe := ⟨_, rfl⟩
  have hul : u ≤ 2147483647 := by rw [hu]; exact capN_le _
  have hE := rcapped_quiet xe W
  rw [← hu] at hE
  unfold QuietCall at hE
  have HE := Lib.hid hE
  by_cases hu1 : 1 < u
  · have hfn : wgtT (.pow p (xe : Int)) = capN (u * x) := by
      have e : u = capN (max (xe : Int) 1).toNat := by rw [hu] at hu1 ⊢; unfold capN at hu1 ⊢; omega
      have e2 : u * x = capN (max (xe : Int) 1).toNat * wgtT p := by rw [← e, hxx]
      rw [e2, prodN_deg _ _ (wgtT_le p)]; conv => lhs; unfold wgtT
    rw [hfn]
    have hC := rcapped_quiet (u * x) W
    obtain ⟨m, hm⟩ : ∃ m, m = capN (u * x) := ⟨_, rfl⟩
    rw [← hm] at hC ⊢
    unfold QuietCall at hC
    rw [Int.natCast_mul] at hC
    have hv1 : u * x ≤ 2147483647 * 2147483647 := Nat.mul_le_mul hul hp0
    have hw1 : IntKind.i64.wrap ((u : Int) * x) = u * x := IntWalk.i64_in _ (by
      have : (0 : Int) ≤ ((u * x : Nat) : Int) ∧ ((u * x : Nat) : Int) ≤ 4611686014132420609 := by omega
      rw [Int.natCast_mul] at this
      omega)
    have hl1 : (1 : Int) < u := by omega
    clear hv1
    have HC := Lib.hid hC
    clear hm hC hfn hu hE hxe hA hT0 hx hxx hks htr hS hT hsm hsa hkd0 hab hb0 ia hkl hnm hK
    go_enter Try.func33, Try.ntmps33
    go_wp2_with fail
    refine wp_region_quiet_below (by kernel_rfl) (by kernel_rfl) ?_
    (repeat (quiet_step (first | (with_reducible exact Calls.regrown_of (HA.out _ _)) | (with_reducible exact Calls.regrown_of (HC.out _ _)) | (with_reducible exact Calls.regrown_of (HE.out _ _)))))
    refine wpQuiet_nil ?_
    rintro _ ⟨⟨d, os⟩, rfl⟩
    have hb2 := below_regrown W d os
    go_wp2
    go_ret
    exact ⟨rfl, HX.out.below.trans (hb2.mono HX.out.below.size)⟩
  · have hfn : wgtT (.pow p (xe : Int)) = capN (x) := by
      have e : 1 = capN (max (xe : Int) 1).toNat := by rw [hu] at hu1; unfold capN at hu1 ⊢; omega
      have e2 : x = capN (max (xe : Int) 1).toNat * wgtT p := by rw [← e, hxx]; simp
      rw [e2, prodN_deg _ _ (wgtT_le p)]; conv => lhs; unfold wgtT
    rw [hfn]
    have hC := rcapped_quiet (x) W
    obtain ⟨m, hm⟩ : ∃ m, m = capN (x) := ⟨_, rfl⟩
    rw [← hm] at hC ⊢
    unfold QuietCall at hC
    have hl2 : (if (1 : Int) < u then (u : Int) else 1) = 1 := by split <;> omega
    have hw2 : IntKind.i64.wrap (x : Int) = x := IntWalk.i64_in _ (by omega)
    have hw3 : IntKind.i64.wrap (1 * (x : Int)) = x := by rw [Int.one_mul]; exact hw2
    have HC := Lib.hid hC
    clear hm hC hfn hu hE hxe hA hT0 hx hxx hks htr hS hT hsm hsa hkd0 hab hb0 ia hkl hnm hK
    go_enter Try.func33, Try.ntmps33
    go_wp2_with fail
    refine wp_region_quiet_below (by kernel_rfl) (by kernel_rfl) ?_
    (repeat (quiet_step (first | (with_reducible exact Calls.regrown_of (HA.out _ _)) | (with_reducible exact Calls.regrown_of (HC.out _ _)) | (with_reducible exact Calls.regrown_of (HE.out _ _)))))
    refine wpQuiet_nil ?_
    rintro _ ⟨⟨d, os⟩, rfl⟩
    have hb2 := below_regrown W d os
    go_wp2
    go_ret
    exact ⟨rfl, HX.out.below.trans (hb2.mono HX.out.below.size)⟩

theorem rwgt_any {t : Tr} {p : Tm} (h : RT t p) : ∀ (cs : List Value) (S : Nat → Prop) (w : World), (∀ b, S b → b < w.heap.size) → TreeAt w S t cs → Sm t → Calls Try.prog 33 #[.agg cs.toArray] w (NumPost (wgtT p) w) := by
  induction h with
  | num h hk => exact rwgt_num h hk
  | name h hk => exact rwgt_name h hk
  | add h a b p q hk ha hb ia ib => exact rwgt_add h a b p q hk ia ib
  | sub h a b p q hk ha hb ia ib => exact rwgt_sub h a b p q hk ia ib
  | mul h a b p q hk ha hb ia ib => exact rwgt_mul h a b p q hk ia ib
  | neg h a p hk ha ia => exact rwgt_neg h a p hk ia
  | pow h a p hk he ha ia => exact rwgt_pow h a p hk he ia
end Dc
end Go.Proofs.Yteneobpacobpdaa

