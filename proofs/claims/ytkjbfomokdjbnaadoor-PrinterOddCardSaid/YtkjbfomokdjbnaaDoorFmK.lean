/-
  formula.subterms, formula.parts: what a term, a formula consists of.
-/
import Derived.Test.YtkjbfomokdjbnaaDoorTa
import Derived.Test.YtkjbfomokdjbnaaDoorFmO
namespace Go.Proofs.YtkjbfomokdjbnaaDoor
open Go.RowKit
set_option linter.unusedSimpArgs false
set_option linter.unusedVariables false
namespace Fm
attribute [local go_sem] run_store taNum_yes taNum_no taNum_nil taName_yes taName_no taName_nil taAdd_yes taAdd_no taAdd_nil taSub_yes taSub_no taSub_nil taMul_yes taMul_no taMul_nil taNeg_yes taNeg_no taNeg_nil taPow_yes taPow_no taPow_nil taTruth_yes taTruth_no taTruth_nil taAtom_yes taAtom_no taAtom_nil taNot_yes taNot_no taNot_nil taAnd_yes taAnd_no taAnd_nil taOr_yes taOr_no taOr_nil taImplies_yes taImplies_no taImplies_nil taIff_yes taIff_no taIff_nil taQuant_yes taQuant_no taQuant_nil

theorem cells_one {v : Value} (h : v.oneCell' = true) : v.cells = #[v] := by
  cases v <;> first | rfl | (simp [Value.oneCell'] at h)
/-- a call that gives back a new list of these values -/
def SubPost (vs : List Value) (w : World) (e : Ending) (w' : World) : Prop :=
  ∃ A c, e = .returned (.slice A vs.length c) ∧ SS w' (Fr w w') 1 (.slice A vs.length c) vs.length vs ∧ Below w.heap.size w w'
theorem sub_nil (w : World) : SubPost [] w (.returned (.slice none 0 0)) w := ⟨none, 0, rfl, SS.nil, Below.refl _ w⟩
theorem sub_new {w W : World} (vs : List Value) (o : Obj) (e : TypeId) (ho : o = .cells vs.toArray e) (hb : Below w.heap.size w W) (hs : w.heap.size ≤ W.heap.size) : SubPost vs w (.returned (.slice (some ⟨W.heap.size, 0, none⟩) vs.length vs.length)) (W.alloc o) := by
  subst ho
  refine ⟨some ⟨W.heap.size, 0, none⟩, vs.length, rfl, ⟨_, _, rfl, Nat.le_refl _, by simp, fun _ => ⟨W.heap.size, 0, rfl, ⟨hs, by simp⟩, fun j u hj => ?_⟩⟩, hb.alloc hs _⟩
  rw [Nat.zero_add, cell_new]
  simpa using hj


set_option maxRecDepth 100000 in
set_option maxHeartbeats 1000000 in
theorem subs_Add (vl vr : Value) (w : World) (hovl : vl.oneCell' = true) (hovr : vr.oneCell' = true) : Calls Tryd.prog 78 #[.iface 89 (.agg #[vl, vr])] w (SubPost [vl, vr] w) := by
  obtain ⟨W, hW⟩ : ∃ W, w.alloc (.cells #[vl, vr] 89) = W := ⟨_, rfl⟩
  have hx : Box w W w.heap.size #[vl, vr] 89 := by rw [← hW]; exact Box.new w _ _
  have hs : W.heap.size = w.heap.size + 1 := by rw [← hW]; simp
  have s0 : W.cell? ⟨w.heap.size, 0, none⟩ = some (vl) := hx.cell 0
  have s1 : W.cell? ⟨w.heap.size, 1, none⟩ = some (vr) := hx.cell 1
  have hcvl := cells_one hovl
  simp only [Value.cells] at hcvl
  have hcvr := cells_one hovr
  simp only [Value.cells] at hcvr
  have HX := Lib.hid hx
  have HS := Lib.hid hs
  clear hx hs
  go_enter Tryd.func78, Tryd.ntmps78
  go_wp2
  clear hW
  go_ret
  exact sub_new [vl, vr] _ 42 rfl HX.out.below (by have := HS.out; omega)


set_option maxRecDepth 100000 in
set_option maxHeartbeats 1000000 in
theorem subs_Sub (vl vr : Value) (w : World) (hovl : vl.oneCell' = true) (hovr : vr.oneCell' = true) : Calls Tryd.prog 78 #[.iface 56 (.agg #[vl, vr])] w (SubPost [vl, vr] w) := by
  obtain ⟨W, hW⟩ : ∃ W, w.alloc (.cells #[vl, vr] 56) = W := ⟨_, rfl⟩
  have hx : Box w W w.heap.size #[vl, vr] 56 := by rw [← hW]; exact Box.new w _ _
  have hs : W.heap.size = w.heap.size + 1 := by rw [← hW]; simp
  have s0 : W.cell? ⟨w.heap.size, 0, none⟩ = some (vl) := hx.cell 0
  have s1 : W.cell? ⟨w.heap.size, 1, none⟩ = some (vr) := hx.cell 1
  have hcvl := cells_one hovl
  simp only [Value.cells] at hcvl
  have hcvr := cells_one hovr
  simp only [Value.cells] at hcvr
  have HX := Lib.hid hx
  have HS := Lib.hid hs
  clear hx hs
  go_enter Tryd.func78, Tryd.ntmps78
  go_wp2
  clear hW
  go_ret
  exact sub_new [vl, vr] _ 42 rfl HX.out.below (by have := HS.out; omega)


set_option maxRecDepth 100000 in
set_option maxHeartbeats 1000000 in
theorem subs_Mul (vl vr : Value) (w : World) (hovl : vl.oneCell' = true) (hovr : vr.oneCell' = true) : Calls Tryd.prog 78 #[.iface 57 (.agg #[vl, vr])] w (SubPost [vl, vr] w) := by
  obtain ⟨W, hW⟩ : ∃ W, w.alloc (.cells #[vl, vr] 57) = W := ⟨_, rfl⟩
  have hx : Box w W w.heap.size #[vl, vr] 57 := by rw [← hW]; exact Box.new w _ _
  have hs : W.heap.size = w.heap.size + 1 := by rw [← hW]; simp
  have s0 : W.cell? ⟨w.heap.size, 0, none⟩ = some (vl) := hx.cell 0
  have s1 : W.cell? ⟨w.heap.size, 1, none⟩ = some (vr) := hx.cell 1
  have hcvl := cells_one hovl
  simp only [Value.cells] at hcvl
  have hcvr := cells_one hovr
  simp only [Value.cells] at hcvr
  have HX := Lib.hid hx
  have HS := Lib.hid hs
  clear hx hs
  go_enter Tryd.func78, Tryd.ntmps78
  go_wp2
  clear hW
  go_ret
  exact sub_new [vl, vr] _ 42 rfl HX.out.below (by have := HS.out; omega)


set_option maxRecDepth 100000 in
set_option maxHeartbeats 1000000 in
theorem subs_Neg (vl : Value) (w : World) (hovl : vl.oneCell' = true) : Calls Tryd.prog 78 #[.iface 88 (.agg #[vl])] w (SubPost [vl] w) := by
  obtain ⟨W, hW⟩ : ∃ W, w.alloc (.cells #[vl] 88) = W := ⟨_, rfl⟩
  have hx : Box w W w.heap.size #[vl] 88 := by rw [← hW]; exact Box.new w _ _
  have hs : W.heap.size = w.heap.size + 1 := by rw [← hW]; simp
  have s0 : W.cell? ⟨w.heap.size, 0, none⟩ = some (vl) := hx.cell 0
  have hcvl := cells_one hovl
  simp only [Value.cells] at hcvl
  have HX := Lib.hid hx
  have HS := Lib.hid hs
  clear hx hs
  go_enter Tryd.func78, Tryd.ntmps78
  go_wp2
  clear hW
  go_ret
  exact sub_new [vl] _ 42 rfl HX.out.below (by have := HS.out; omega)


set_option maxRecDepth 100000 in
set_option maxHeartbeats 1000000 in
theorem subs_Pow (vl : Value) (e : Int) (w : World) (hovl : vl.oneCell' = true) : Calls Tryd.prog 78 #[.iface 49 (.agg #[vl, .int .i64 e])] w (SubPost [vl] w) := by
  obtain ⟨W, hW⟩ : ∃ W, w.alloc (.cells #[vl, .int .i64 e] 49) = W := ⟨_, rfl⟩
  have hx : Box w W w.heap.size #[vl, .int .i64 e] 49 := by rw [← hW]; exact Box.new w _ _
  have hs : W.heap.size = w.heap.size + 1 := by rw [← hW]; simp
  have s0 : W.cell? ⟨w.heap.size, 0, none⟩ = some (vl) := hx.cell 0
  have hcvl := cells_one hovl
  simp only [Value.cells] at hcvl
  have HX := Lib.hid hx
  have HS := Lib.hid hs
  clear hx hs
  go_enter Tryd.func78, Tryd.ntmps78
  go_wp2
  clear hW
  go_ret
  exact sub_new [vl] _ 42 rfl HX.out.below (by have := HS.out; omega)


set_option maxRecDepth 100000 in
set_option maxHeartbeats 1000000 in
theorem subs_Num (b : Bool) (A : Option Addr) (n c : Nat) (w : World) : Calls Tryd.prog 78 #[.iface 86 (.agg #[.bool b, .slice A n c])] w (SubPost [] w) := by
  go_enter Tryd.func78, Tryd.ntmps78
  go_wp2
  go_ret
  exact sub_nil w


set_option maxRecDepth 100000 in
set_option maxHeartbeats 1000000 in
theorem subs_Name (s : ByteArray) (w : World) : Calls Tryd.prog 78 #[.iface 47 (.agg #[.string s])] w (SubPost [] w) := by
  go_enter Tryd.func78, Tryd.ntmps78
  go_wp2
  go_ret
  exact sub_nil w


set_option maxRecDepth 100000 in
set_option maxHeartbeats 1000000 in
theorem parts_And (vl vr : Value) (w : World) (hovl : vl.oneCell' = true) (hovr : vr.oneCell' = true) : Calls Tryd.prog 41 #[.iface 53 (.agg #[vl, vr])] w (SubPost [vl, vr] w) := by
  obtain ⟨W, hW⟩ : ∃ W, w.alloc (.cells #[vl, vr] 53) = W := ⟨_, rfl⟩
  have hx : Box w W w.heap.size #[vl, vr] 53 := by rw [← hW]; exact Box.new w _ _
  have hs : W.heap.size = w.heap.size + 1 := by rw [← hW]; simp
  have s0 : W.cell? ⟨w.heap.size, 0, none⟩ = some (vl) := hx.cell 0
  have s1 : W.cell? ⟨w.heap.size, 1, none⟩ = some (vr) := hx.cell 1
  have hcvl := cells_one hovl
  simp only [Value.cells] at hcvl
  have hcvr := cells_one hovr
  simp only [Value.cells] at hcvr
  have HX := Lib.hid hx
  have HS := Lib.hid hs
  clear hx hs
  go_enter Tryd.func41, Tryd.ntmps41
  go_wp2
  clear hW
  go_ret
  exact sub_new [vl, vr] _ 33 rfl HX.out.below (by have := HS.out; omega)


set_option maxRecDepth 100000 in
set_option maxHeartbeats 1000000 in
theorem parts_Or (vl vr : Value) (w : World) (hovl : vl.oneCell' = true) (hovr : vr.oneCell' = true) : Calls Tryd.prog 41 #[.iface 94 (.agg #[vl, vr])] w (SubPost [vl, vr] w) := by
  obtain ⟨W, hW⟩ : ∃ W, w.alloc (.cells #[vl, vr] 94) = W := ⟨_, rfl⟩
  have hx : Box w W w.heap.size #[vl, vr] 94 := by rw [← hW]; exact Box.new w _ _
  have hs : W.heap.size = w.heap.size + 1 := by rw [← hW]; simp
  have s0 : W.cell? ⟨w.heap.size, 0, none⟩ = some (vl) := hx.cell 0
  have s1 : W.cell? ⟨w.heap.size, 1, none⟩ = some (vr) := hx.cell 1
  have hcvl := cells_one hovl
  simp only [Value.cells] at hcvl
  have hcvr := cells_one hovr
  simp only [Value.cells] at hcvr
  have HX := Lib.hid hx
  have HS := Lib.hid hs
  clear hx hs
  go_enter Tryd.func41, Tryd.ntmps41
  go_wp2
  clear hW
  go_ret
  exact sub_new [vl, vr] _ 33 rfl HX.out.below (by have := HS.out; omega)


set_option maxRecDepth 100000 in
set_option maxHeartbeats 1000000 in
theorem parts_Implies (vl vr : Value) (w : World) (hovl : vl.oneCell' = true) (hovr : vr.oneCell' = true) : Calls Tryd.prog 41 #[.iface 95 (.agg #[vl, vr])] w (SubPost [vl, vr] w) := by
  obtain ⟨W, hW⟩ : ∃ W, w.alloc (.cells #[vl, vr] 95) = W := ⟨_, rfl⟩
  have hx : Box w W w.heap.size #[vl, vr] 95 := by rw [← hW]; exact Box.new w _ _
  have hs : W.heap.size = w.heap.size + 1 := by rw [← hW]; simp
  have s0 : W.cell? ⟨w.heap.size, 0, none⟩ = some (vl) := hx.cell 0
  have s1 : W.cell? ⟨w.heap.size, 1, none⟩ = some (vr) := hx.cell 1
  have hcvl := cells_one hovl
  simp only [Value.cells] at hcvl
  have hcvr := cells_one hovr
  simp only [Value.cells] at hcvr
  have HX := Lib.hid hx
  have HS := Lib.hid hs
  clear hx hs
  go_enter Tryd.func41, Tryd.ntmps41
  go_wp2
  clear hW
  go_ret
  exact sub_new [vl, vr] _ 33 rfl HX.out.below (by have := HS.out; omega)


set_option maxRecDepth 100000 in
set_option maxHeartbeats 1000000 in
theorem parts_Iff (vl vr : Value) (w : World) (hovl : vl.oneCell' = true) (hovr : vr.oneCell' = true) : Calls Tryd.prog 41 #[.iface 96 (.agg #[vl, vr])] w (SubPost [vl, vr] w) := by
  obtain ⟨W, hW⟩ : ∃ W, w.alloc (.cells #[vl, vr] 96) = W := ⟨_, rfl⟩
  have hx : Box w W w.heap.size #[vl, vr] 96 := by rw [← hW]; exact Box.new w _ _
  have hs : W.heap.size = w.heap.size + 1 := by rw [← hW]; simp
  have s0 : W.cell? ⟨w.heap.size, 0, none⟩ = some (vl) := hx.cell 0
  have s1 : W.cell? ⟨w.heap.size, 1, none⟩ = some (vr) := hx.cell 1
  have hcvl := cells_one hovl
  simp only [Value.cells] at hcvl
  have hcvr := cells_one hovr
  simp only [Value.cells] at hcvr
  have HX := Lib.hid hx
  have HS := Lib.hid hs
  clear hx hs
  go_enter Tryd.func41, Tryd.ntmps41
  go_wp2
  clear hW
  go_ret
  exact sub_new [vl, vr] _ 33 rfl HX.out.below (by have := HS.out; omega)


set_option maxRecDepth 100000 in
set_option maxHeartbeats 1000000 in
theorem parts_Not (vl : Value) (w : World) (hovl : vl.oneCell' = true) : Calls Tryd.prog 41 #[.iface 68 (.agg #[vl])] w (SubPost [vl] w) := by
  obtain ⟨W, hW⟩ : ∃ W, w.alloc (.cells #[vl] 68) = W := ⟨_, rfl⟩
  have hx : Box w W w.heap.size #[vl] 68 := by rw [← hW]; exact Box.new w _ _
  have hs : W.heap.size = w.heap.size + 1 := by rw [← hW]; simp
  have s0 : W.cell? ⟨w.heap.size, 0, none⟩ = some (vl) := hx.cell 0
  have hcvl := cells_one hovl
  simp only [Value.cells] at hcvl
  have HX := Lib.hid hx
  have HS := Lib.hid hs
  clear hx hs
  go_enter Tryd.func41, Tryd.ntmps41
  go_wp2
  clear hW
  go_ret
  exact sub_new [vl] _ 33 rfl HX.out.below (by have := HS.out; omega)


set_option maxRecDepth 100000 in
set_option maxHeartbeats 1000000 in
theorem parts_Quant (b : Bool) (s : ByteArray) (vl : Value) (w : World) (hovl : vl.oneCell' = true) : Calls Tryd.prog 41 #[.iface 98 (.agg #[.bool b, .string s, vl])] w (SubPost [vl] w) := by
  obtain ⟨W, hW⟩ : ∃ W, w.alloc (.cells #[.bool b, .string s, vl] 98) = W := ⟨_, rfl⟩
  have hx : Box w W w.heap.size #[.bool b, .string s, vl] 98 := by rw [← hW]; exact Box.new w _ _
  have hs : W.heap.size = w.heap.size + 1 := by rw [← hW]; simp
  have s2 : W.cell? ⟨w.heap.size, 2, none⟩ = some (vl) := hx.cell 2
  have hcvl := cells_one hovl
  simp only [Value.cells] at hcvl
  have HX := Lib.hid hx
  have HS := Lib.hid hs
  clear hx hs
  go_enter Tryd.func41, Tryd.ntmps41
  go_wp2
  clear hW
  go_ret
  exact sub_new [vl] _ 33 rfl HX.out.below (by have := HS.out; omega)


set_option maxRecDepth 100000 in
set_option maxHeartbeats 1000000 in
theorem parts_Truth (b : Bool) (w : World) : Calls Tryd.prog 41 #[.iface 71 (.agg #[.bool b])] w (SubPost [] w) := by
  go_enter Tryd.func41, Tryd.ntmps41
  go_wp2
  go_ret
  exact sub_nil w


set_option maxRecDepth 100000 in
set_option maxHeartbeats 1000000 in
theorem parts_Atom (vl vr : Value) (e : Int) (w : World) : Calls Tryd.prog 41 #[.iface 51 (.agg #[vl, .int .i64 e, vr])] w (SubPost [] w) := by
  go_enter Tryd.func41, Tryd.ntmps41
  go_wp2
  go_ret
  exact sub_nil w


set_option maxRecDepth 100000 in
set_option maxHeartbeats 1000000 in
theorem subs_odd (v : Value) (w : World) (h : OddV v) : Calls Tryd.prog 78 #[v] w (SubPost [] w) := by
  rcases h with rfl | ⟨u, a, rfl, hu⟩
  · go_enter Tryd.func78, Tryd.ntmps78
    go_wp2
    go_ret
    exact sub_nil w
  · simp only [List.mem_cons, List.not_mem_nil, or_false, not_or] at hu
    obtain ⟨u1, u2, u3, u4, u5, u6, u7, u8, u9, u10, u11, u12, u13, u14, u15⟩ := hu
    go_enter Tryd.func78, Tryd.ntmps78
    go_wp2
    go_ret
    exact sub_nil w

set_option maxRecDepth 100000 in
set_option maxHeartbeats 1000000 in
theorem parts_odd (v : Value) (w : World) (h : OddV v) : Calls Tryd.prog 41 #[v] w (SubPost [] w) := by
  rcases h with rfl | ⟨u, a, rfl, hu⟩
  · go_enter Tryd.func41, Tryd.ntmps41
    go_wp2
    go_ret
    exact sub_nil w
  · simp only [List.mem_cons, List.not_mem_nil, or_false, not_or] at hu
    obtain ⟨u1, u2, u3, u4, u5, u6, u7, u8, u9, u10, u11, u12, u13, u14, u15⟩ := hu
    go_enter Tryd.func41, Tryd.ntmps41
    go_wp2
    go_ret
    exact sub_nil w

def subT : Tm → List Tm
  | .add l r => [l, r]
  | .sub l r => [l, r]
  | .mul l r => [l, r]
  | .neg t => [t]
  | .pow t _ => [t]
  | _ => []
def subF : Fo → List Fo
  | .not f => [f]
  | .and l r => [l, r]
  | .or l r => [l, r]
  | .implies l r => [l, r]
  | .iff l r => [l, r]
  | .quant _ _ f => [f]
  | _ => []
/-- values of terms, of formulas -/
def TmsAt (w : World) (S : Nat → Prop) (ts : List Tm) (vs : List Value) : Prop := vs.length = ts.length ∧ ∀ (i : Nat) (t : Tm), ts[i]? = some t → ∃ v, vs[i]? = some v ∧ TmAt w S t v
def FosAt (w : World) (S : Nat → Prop) (ts : List Fo) (vs : List Value) : Prop := vs.length = ts.length ∧ ∀ (i : Nat) (t : Fo), ts[i]? = some t → ∃ v, vs[i]? = some v ∧ FoAt w S t v
theorem TmsAt.nil {w : World} {S : Nat → Prop} : TmsAt w S [] [] := ⟨rfl, fun i t h => by simp at h⟩
theorem TmsAt.one {w : World} {S : Nat → Prop} {t : Tm} {v : Value} (h : TmAt w S t v) : TmsAt w S [t] [v] := ⟨rfl, fun i t' h' => by
  match i with
  | 0 => simp at h'; subst h'; exact ⟨v, rfl, h⟩
  | i + 1 => simp at h'⟩
theorem TmsAt.two {w : World} {S : Nat → Prop} {t u : Tm} {v x : Value} (h : TmAt w S t v) (k : TmAt w S u x) : TmsAt w S [t, u] [v, x] := ⟨rfl, fun i t' h' => by
  match i with
  | 0 => simp at h'; subst h'; exact ⟨v, rfl, h⟩
  | 1 => simp at h'; subst h'; exact ⟨x, rfl, k⟩
  | i + 2 => simp at h'⟩
theorem FosAt.nil {w : World} {S : Nat → Prop} : FosAt w S [] [] := ⟨rfl, fun i t h => by simp at h⟩
theorem FosAt.one {w : World} {S : Nat → Prop} {t : Fo} {v : Value} (h : FoAt w S t v) : FosAt w S [t] [v] := ⟨rfl, fun i t' h' => by
  match i with
  | 0 => simp at h'; subst h'; exact ⟨v, rfl, h⟩
  | i + 1 => simp at h'⟩
theorem FosAt.two {w : World} {S : Nat → Prop} {t u : Fo} {v x : Value} (h : FoAt w S t v) (k : FoAt w S u x) : FosAt w S [t, u] [v, x] := ⟨rfl, fun i t' h' => by
  match i with
  | 0 => simp at h'; subst h'; exact ⟨v, rfl, h⟩
  | 1 => simp at h'; subst h'; exact ⟨x, rfl, k⟩
  | i + 2 => simp at h'⟩
theorem subs_any (t : Tm) (v : Value) (S : Nat → Prop) (w : World) (h : TmAt w S t v) : ∃ vs, TmsAt w S (subT t) vs ∧ Calls Tryd.prog 78 #[v] w (SubPost vs w) := by
  cases t with
  | odd => exact ⟨[], TmsAt.nil, subs_odd v w h⟩
  | num neg abs => obtain ⟨A, n, c, rfl, _⟩ := h; exact ⟨[], TmsAt.nil, subs_Num neg A n c w⟩
  | name s => obtain ⟨rfl, _⟩ := h; exact ⟨[], TmsAt.nil, subs_Name s w⟩
  | add l r => obtain ⟨vl, vr, rfl, h1, h2⟩ := h; exact ⟨[vl, vr], TmsAt.two h1 h2, subs_Add vl vr w h1.one h2.one⟩
  | sub l r => obtain ⟨vl, vr, rfl, h1, h2⟩ := h; exact ⟨[vl, vr], TmsAt.two h1 h2, subs_Sub vl vr w h1.one h2.one⟩
  | mul l r => obtain ⟨vl, vr, rfl, h1, h2⟩ := h; exact ⟨[vl, vr], TmsAt.two h1 h2, subs_Mul vl vr w h1.one h2.one⟩
  | neg t => obtain ⟨vt, rfl, h1⟩ := h; exact ⟨[vt], TmsAt.one h1, subs_Neg vt w h1.one⟩
  | pow t e => obtain ⟨vt, rfl, h1⟩ := h; exact ⟨[vt], TmsAt.one h1, subs_Pow vt e w h1.one⟩
theorem parts_any (t : Fo) (v : Value) (S : Nat → Prop) (w : World) (h : FoAt w S t v) : ∃ vs, FosAt w S (subF t) vs ∧ Calls Tryd.prog 41 #[v] w (SubPost vs w) := by
  cases t with
  | odd => exact ⟨[], FosAt.nil, parts_odd v w h⟩
  | truth b => cases h; exact ⟨[], FosAt.nil, parts_Truth b w⟩
  | atom l rel r => obtain ⟨vl, vr, rfl, _⟩ := h; exact ⟨[], FosAt.nil, parts_Atom vl vr rel w⟩
  | not f => obtain ⟨vf, rfl, h1⟩ := h; exact ⟨[vf], FosAt.one h1, parts_Not vf w h1.one⟩
  | and l r => obtain ⟨vl, vr, rfl, h1, h2⟩ := h; exact ⟨[vl, vr], FosAt.two h1 h2, parts_And vl vr w h1.one h2.one⟩
  | or l r => obtain ⟨vl, vr, rfl, h1, h2⟩ := h; exact ⟨[vl, vr], FosAt.two h1 h2, parts_Or vl vr w h1.one h2.one⟩
  | implies l r => obtain ⟨vl, vr, rfl, h1, h2⟩ := h; exact ⟨[vl, vr], FosAt.two h1 h2, parts_Implies vl vr w h1.one h2.one⟩
  | iff l r => obtain ⟨vl, vr, rfl, h1, h2⟩ := h; exact ⟨[vl, vr], FosAt.two h1 h2, parts_Iff vl vr w h1.one h2.one⟩
  | quant all name f => obtain ⟨vf, rfl, h0, h1⟩ := h; exact ⟨[vf], FosAt.one h1, parts_Quant all name vf w h1.one⟩
end Fm
end Go.Proofs.YtkjbfomokdjbnaaDoor
