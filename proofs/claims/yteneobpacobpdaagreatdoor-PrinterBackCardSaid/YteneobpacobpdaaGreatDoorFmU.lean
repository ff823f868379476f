/-
  formula.subterms, formula.parts: what a term, a formula consists of.
-/
import Derived.Test.YteneobpacobpdaaGreatDoorHy
import Derived.Test.YteneobpacobpdaaGreatDoorTa
import Derived.Test.YteneobpacobpdaaGreatDoorFmO
set_option linter.unusedSimpArgs false
set_option linter.unusedVariables false
set_option maxRecDepth 100000
set_option maxHeartbeats 16000000
namespace Go.Proofs.YteneobpacobpdaaGreatDoor
open Go.RowKit
namespace Fm
attribute [local go_sem] run_store taNum_yes taNum_no taNum_nil taName_yes taName_no taName_nil taAdd_yes taAdd_no taAdd_nil taSub_yes taSub_no taSub_nil taMul_yes taMul_no taMul_nil taNeg_yes taNeg_no taNeg_nil taPow_yes taPow_no taPow_nil taTruth_yes taTruth_no taTruth_nil taAtom_yes taAtom_no taAtom_nil taNot_yes taNot_no taNot_nil taAnd_yes taAnd_no taAnd_nil taOr_yes taOr_no taOr_nil taImplies_yes taImplies_no taImplies_nil taIff_yes taIff_no taIff_nil taQuant_yes taQuant_no taQuant_nil
theorem cells_one {v : Value} (h : v.oneCell' = true) : v.cells = #[v] := by
 cases v <;> first | rfl | (simp [Value.oneCell'] at h)
def SubPost (vs : List Value) (w : World) (e : Ending) (w' : World) : Prop :=
 ∃ A c, e = .returned (.slice A vs.length c) ∧ SS w' (Fr w w') 1 (.slice A vs.length c) vs.length vs ∧ Below w.heap.size w w'
theorem sub_nil (w : World) : SubPost [] w (.returned (.slice none 0 0)) w := ⟨none, 0, rfl, SS.nil, Below.refl _ w⟩
theorem sub_new {w W : World} (vs : List Value) (o : Obj) (e : TypeId) (ho : o = .cells vs.toArray e) (hb : Below w.heap.size w W) (hs : w.heap.size ≤ W.heap.size) : SubPost vs w (.returned (.slice (some ⟨W.heap.size, 0, none⟩) vs.length vs.length)) (W.alloc o) := by
 subst ho
 refine ⟨some ⟨W.heap.size, 0, none⟩, vs.length, rfl, ⟨_, _, rfl, Nat.le_refl _, by simp, fun _ => ⟨W.heap.size, 0, rfl, ⟨hs, by simp⟩, fun j u hj => ?_⟩⟩, hb.alloc hs _⟩
 rw [Nat.zero_add, cell_new]
 simpa using hj
theorem subs_Add (vl vr : Value) (w : World) (hovl : vl.oneCell' = true) (hovr : vr.oneCell' = true) : Calls Tryz.prog 77 #[.iface 137 (.agg #[vl, vr])] w (SubPost [vl, vr] w) := by
 obtain ⟨W, hW⟩ : ∃ W, w.alloc (.cells #[vl, vr] 137) = W := ⟨_, rfl⟩
 have hx : Box w W w.heap.size #[vl, vr] 137 := by rw [← hW]; exact Box.new w _ _
 have hs : W.heap.size = w.heap.size + 1 := by rw [← hW]; simp
 have s0 : W.cell? ⟨w.heap.size, 0, none⟩ = some (vl) := hx.cell 0
 have s1 : W.cell? ⟨w.heap.size, 1, none⟩ = some (vr) := hx.cell 1
 have hcvl := cells_one hovl
 simp only [Value.cells] at hcvl
 have hcvr := cells_one hovr
 simp only [Value.cells] at hcvr
 have HX := h_ hx
 have HS := h_ hs
 clear hx hs
 go_enter Tryz.func77, Tryz.ntmps77
 go_wp2
 clear hW
 go_ret
 exact sub_new [vl, vr] _ 49 rfl HX.out.below (by have := HS.out; omega)
theorem subs_Sub (vl vr : Value) (w : World) (hovl : vl.oneCell' = true) (hovr : vr.oneCell' = true) : Calls Tryz.prog 77 #[.iface 138 (.agg #[vl, vr])] w (SubPost [vl, vr] w) := by
 obtain ⟨W, hW⟩ : ∃ W, w.alloc (.cells #[vl, vr] 138) = W := ⟨_, rfl⟩
 have hx : Box w W w.heap.size #[vl, vr] 138 := by rw [← hW]; exact Box.new w _ _
 have hs : W.heap.size = w.heap.size + 1 := by rw [← hW]; simp
 have s0 : W.cell? ⟨w.heap.size, 0, none⟩ = some (vl) := hx.cell 0
 have s1 : W.cell? ⟨w.heap.size, 1, none⟩ = some (vr) := hx.cell 1
 have hcvl := cells_one hovl
 simp only [Value.cells] at hcvl
 have hcvr := cells_one hovr
 simp only [Value.cells] at hcvr
 have HX := h_ hx
 have HS := h_ hs
 clear hx hs
 go_enter Tryz.func77, Tryz.ntmps77
 go_wp2
 clear hW
 go_ret
 exact sub_new [vl, vr] _ 49 rfl HX.out.below (by have := HS.out; omega)
theorem subs_Mul (vl vr : Value) (w : World) (hovl : vl.oneCell' = true) (hovr : vr.oneCell' = true) : Calls Tryz.prog 77 #[.iface 139 (.agg #[vl, vr])] w (SubPost [vl, vr] w) := by
 obtain ⟨W, hW⟩ : ∃ W, w.alloc (.cells #[vl, vr] 139) = W := ⟨_, rfl⟩
 have hx : Box w W w.heap.size #[vl, vr] 139 := by rw [← hW]; exact Box.new w _ _
 have hs : W.heap.size = w.heap.size + 1 := by rw [← hW]; simp
 have s0 : W.cell? ⟨w.heap.size, 0, none⟩ = some (vl) := hx.cell 0
 have s1 : W.cell? ⟨w.heap.size, 1, none⟩ = some (vr) := hx.cell 1
 have hcvl := cells_one hovl
 simp only [Value.cells] at hcvl
 have hcvr := cells_one hovr
 simp only [Value.cells] at hcvr
 have HX := h_ hx
 have HS := h_ hs
 clear hx hs
 go_enter Tryz.func77, Tryz.ntmps77
 go_wp2
 clear hW
 go_ret
 exact sub_new [vl, vr] _ 49 rfl HX.out.below (by have := HS.out; omega)
theorem subs_Neg (vl : Value) (w : World) (hovl : vl.oneCell' = true) : Calls Tryz.prog 77 #[.iface 141 (.agg #[vl])] w (SubPost [vl] w) := by
 obtain ⟨W, hW⟩ : ∃ W, w.alloc (.cells #[vl] 141) = W := ⟨_, rfl⟩
 have hx : Box w W w.heap.size #[vl] 141 := by rw [← hW]; exact Box.new w _ _
 have hs : W.heap.size = w.heap.size + 1 := by rw [← hW]; simp
 have s0 : W.cell? ⟨w.heap.size, 0, none⟩ = some (vl) := hx.cell 0
 have hcvl := cells_one hovl
 simp only [Value.cells] at hcvl
 have HX := h_ hx
 have HS := h_ hs
 clear hx hs
 go_enter Tryz.func77, Tryz.ntmps77
 go_wp2
 clear hW
 go_ret
 exact sub_new [vl] _ 49 rfl HX.out.below (by have := HS.out; omega)
theorem subs_Pow (vl : Value) (e : Int) (w : World) (hovl : vl.oneCell' = true) : Calls Tryz.prog 77 #[.iface 143 (.agg #[vl, .int .i64 e])] w (SubPost [vl] w) := by
 obtain ⟨W, hW⟩ : ∃ W, w.alloc (.cells #[vl, .int .i64 e] 143) = W := ⟨_, rfl⟩
 have hx : Box w W w.heap.size #[vl, .int .i64 e] 143 := by rw [← hW]; exact Box.new w _ _
 have hs : W.heap.size = w.heap.size + 1 := by rw [← hW]; simp
 have s0 : W.cell? ⟨w.heap.size, 0, none⟩ = some (vl) := hx.cell 0
 have hcvl := cells_one hovl
 simp only [Value.cells] at hcvl
 have HX := h_ hx
 have HS := h_ hs
 clear hx hs
 go_enter Tryz.func77, Tryz.ntmps77
 go_wp2
 clear hW
 go_ret
 exact sub_new [vl] _ 49 rfl HX.out.below (by have := HS.out; omega)
theorem subs_Num (b : Bool) (A : Option Addr) (n c : Nat) (w : World) : Calls Tryz.prog 77 #[.iface 135 (.agg #[.bool b, .slice A n c])] w (SubPost [] w) := by
 go_enter Tryz.func77, Tryz.ntmps77
 go_wp2
 go_ret
 exact sub_nil w
theorem subs_Name (s : ByteArray) (w : World) : Calls Tryz.prog 77 #[.iface 47 (.agg #[.string s])] w (SubPost [] w) := by
 go_enter Tryz.func77, Tryz.ntmps77
 go_wp2
 go_ret
 exact sub_nil w
theorem parts_And (vl vr : Value) (w : World) (hovl : vl.oneCell' = true) (hovr : vr.oneCell' = true) : Calls Tryz.prog 54 #[.iface 94 (.agg #[vl, vr])] w (SubPost [vl, vr] w) := by
 obtain ⟨W, hW⟩ : ∃ W, w.alloc (.cells #[vl, vr] 94) = W := ⟨_, rfl⟩
 have hx : Box w W w.heap.size #[vl, vr] 94 := by rw [← hW]; exact Box.new w _ _
 have hs : W.heap.size = w.heap.size + 1 := by rw [← hW]; simp
 have s0 : W.cell? ⟨w.heap.size, 0, none⟩ = some (vl) := hx.cell 0
 have s1 : W.cell? ⟨w.heap.size, 1, none⟩ = some (vr) := hx.cell 1
 have hcvl := cells_one hovl
 simp only [Value.cells] at hcvl
 have hcvr := cells_one hovr
 simp only [Value.cells] at hcvr
 have HX := h_ hx
 have HS := h_ hs
 clear hx hs
 go_enter Tryz.func54, Tryz.ntmps54
 go_wp2
 clear hW
 go_ret
 exact sub_new [vl, vr] _ 24 rfl HX.out.below (by have := HS.out; omega)
theorem parts_Or (vl vr : Value) (w : World) (hovl : vl.oneCell' = true) (hovr : vr.oneCell' = true) : Calls Tryz.prog 54 #[.iface 95 (.agg #[vl, vr])] w (SubPost [vl, vr] w) := by
 obtain ⟨W, hW⟩ : ∃ W, w.alloc (.cells #[vl, vr] 95) = W := ⟨_, rfl⟩
 have hx : Box w W w.heap.size #[vl, vr] 95 := by rw [← hW]; exact Box.new w _ _
 have hs : W.heap.size = w.heap.size + 1 := by rw [← hW]; simp
 have s0 : W.cell? ⟨w.heap.size, 0, none⟩ = some (vl) := hx.cell 0
 have s1 : W.cell? ⟨w.heap.size, 1, none⟩ = some (vr) := hx.cell 1
 have hcvl := cells_one hovl
 simp only [Value.cells] at hcvl
 have hcvr := cells_one hovr
 simp only [Value.cells] at hcvr
 have HX := h_ hx
 have HS := h_ hs
 clear hx hs
 go_enter Tryz.func54, Tryz.ntmps54
 go_wp2
 clear hW
 go_ret
 exact sub_new [vl, vr] _ 24 rfl HX.out.below (by have := HS.out; omega)
theorem parts_Implies (vl vr : Value) (w : World) (hovl : vl.oneCell' = true) (hovr : vr.oneCell' = true) : Calls Tryz.prog 54 #[.iface 96 (.agg #[vl, vr])] w (SubPost [vl, vr] w) := by
 obtain ⟨W, hW⟩ : ∃ W, w.alloc (.cells #[vl, vr] 96) = W := ⟨_, rfl⟩
 have hx : Box w W w.heap.size #[vl, vr] 96 := by rw [← hW]; exact Box.new w _ _
 have hs : W.heap.size = w.heap.size + 1 := by rw [← hW]; simp
 have s0 : W.cell? ⟨w.heap.size, 0, none⟩ = some (vl) := hx.cell 0
 have s1 : W.cell? ⟨w.heap.size, 1, none⟩ = some (vr) := hx.cell 1
 have hcvl := cells_one hovl
 simp only [Value.cells] at hcvl
 have hcvr := cells_one hovr
 simp only [Value.cells] at hcvr
 have HX := h_ hx
 have HS := h_ hs
 clear hx hs
 go_enter Tryz.func54, Tryz.ntmps54
 go_wp2
 clear hW
 go_ret
 exact sub_new [vl, vr] _ 24 rfl HX.out.below (by have := HS.out; omega)
theorem parts_Iff (vl vr : Value) (w : World) (hovl : vl.oneCell' = true) (hovr : vr.oneCell' = true) : Calls Tryz.prog 54 #[.iface 97 (.agg #[vl, vr])] w (SubPost [vl, vr] w) := by
 obtain ⟨W, hW⟩ : ∃ W, w.alloc (.cells #[vl, vr] 97) = W := ⟨_, rfl⟩
 have hx : Box w W w.heap.size #[vl, vr] 97 := by rw [← hW]; exact Box.new w _ _
 have hs : W.heap.size = w.heap.size + 1 := by rw [← hW]; simp
 have s0 : W.cell? ⟨w.heap.size, 0, none⟩ = some (vl) := hx.cell 0
 have s1 : W.cell? ⟨w.heap.size, 1, none⟩ = some (vr) := hx.cell 1
 have hcvl := cells_one hovl
 simp only [Value.cells] at hcvl
 have hcvr := cells_one hovr
 simp only [Value.cells] at hcvr
 have HX := h_ hx
 have HS := h_ hs
 clear hx hs
 go_enter Tryz.func54, Tryz.ntmps54
 go_wp2
 clear hW
 go_ret
 exact sub_new [vl, vr] _ 24 rfl HX.out.below (by have := HS.out; omega)
theorem parts_Not (vl : Value) (w : World) (hovl : vl.oneCell' = true) : Calls Tryz.prog 54 #[.iface 53 (.agg #[vl])] w (SubPost [vl] w) := by
 obtain ⟨W, hW⟩ : ∃ W, w.alloc (.cells #[vl] 53) = W := ⟨_, rfl⟩
 have hx : Box w W w.heap.size #[vl] 53 := by rw [← hW]; exact Box.new w _ _
 have hs : W.heap.size = w.heap.size + 1 := by rw [← hW]; simp
 have s0 : W.cell? ⟨w.heap.size, 0, none⟩ = some (vl) := hx.cell 0
 have hcvl := cells_one hovl
 simp only [Value.cells] at hcvl
 have HX := h_ hx
 have HS := h_ hs
 clear hx hs
 go_enter Tryz.func54, Tryz.ntmps54
 go_wp2
 clear hW
 go_ret
 exact sub_new [vl] _ 24 rfl HX.out.below (by have := HS.out; omega)
theorem parts_Quant (b : Bool) (s : ByteArray) (vl : Value) (w : World) (hovl : vl.oneCell' = true) : Calls Tryz.prog 54 #[.iface 99 (.agg #[.bool b, .string s, vl])] w (SubPost [vl] w) := by
 obtain ⟨W, hW⟩ : ∃ W, w.alloc (.cells #[.bool b, .string s, vl] 99) = W := ⟨_, rfl⟩
 have hx : Box w W w.heap.size #[.bool b, .string s, vl] 99 := by rw [← hW]; exact Box.new w _ _
 have hs : W.heap.size = w.heap.size + 1 := by rw [← hW]; simp
 have s2 : W.cell? ⟨w.heap.size, 2, none⟩ = some (vl) := hx.cell 2
 have hcvl := cells_one hovl
 simp only [Value.cells] at hcvl
 have HX := h_ hx
 have HS := h_ hs
 clear hx hs
 go_enter Tryz.func54, Tryz.ntmps54
 go_wp2
 clear hW
 go_ret
 exact sub_new [vl] _ 24 rfl HX.out.below (by have := HS.out; omega)
theorem parts_Truth (b : Bool) (w : World) : Calls Tryz.prog 54 #[.iface 75 (.agg #[.bool b])] w (SubPost [] w) := by
 go_enter Tryz.func54, Tryz.ntmps54
 go_wp2
 go_ret
 exact sub_nil w
theorem parts_Atom (vl vr : Value) (e : Int) (w : World) : Calls Tryz.prog 54 #[.iface 51 (.agg #[vl, .int .i64 e, vr])] w (SubPost [] w) := by
 go_enter Tryz.func54, Tryz.ntmps54
 go_wp2
 go_ret
 exact sub_nil w
theorem subs_odd (v : Value) (w : World) (h : OddV v) : Calls Tryz.prog 77 #[v] w (SubPost [] w) := by
 rcases h with rfl | ⟨u, a, rfl, hu⟩
 ·go_enter Tryz.func77, Tryz.ntmps77
  go_wp2
  go_ret
  exact sub_nil w
 ·simp only [List.mem_cons, List.not_mem_nil, or_false, not_or] at hu
  obtain ⟨u1, u2, u3, u4, u5, u6, u7, u8, u9, u10, u11, u12, u13, u14, u15⟩ := hu
  go_enter Tryz.func77, Tryz.ntmps77
  go_wp2
  go_ret
  exact sub_nil w
theorem parts_odd (v : Value) (w : World) (h : OddV v) : Calls Tryz.prog 54 #[v] w (SubPost [] w) := by
 rcases h with rfl | ⟨u, a, rfl, hu⟩
 ·go_enter Tryz.func54, Tryz.ntmps54
  go_wp2
  go_ret
  exact sub_nil w
 ·simp only [List.mem_cons, List.not_mem_nil, or_false, not_or] at hu
  obtain ⟨u1, u2, u3, u4, u5, u6, u7, u8, u9, u10, u11, u12, u13, u14, u15⟩ := hu
  go_enter Tryz.func54, Tryz.ntmps54
  go_wp2
  go_ret
  exact sub_nil w
def subT : Tm → List Tm
 | .add l r => [l, r]
 | .sub l r => [l, r]
 | .mul l r => [l, r]
 | .neg t => [t]
 | .pow t _ => [t]
 | _ => []
def subF : Fo → List Fo
 | .not f => [f]
 | .and l r => [l, r]
 | .or l r => [l, r]
 | .implies l r => [l, r]
 | .iff l r => [l, r]
 | .quant _ _ f => [f]
 | _ => []
def TmsAt (w : World) (S : Nat → Prop) (ts : List Tm) (vs : List Value) : Prop := vs.length = ts.length ∧ ∀ (i : Nat) (t : Tm), ts[i]? = some t → ∃ v, vs[i]? = some v ∧ TmAt w S t v
def FosAt (w : World) (S : Nat → Prop) (ts : List Fo) (vs : List Value) : Prop := vs.length = ts.length ∧ ∀ (i : Nat) (t : Fo), ts[i]? = some t → ∃ v, vs[i]? = some v ∧ FoAt w S t v
theorem TmsAt.nil {w : World} {S : Nat → Prop} : TmsAt w S [] [] := ⟨rfl, fun i t h => by simp at h⟩
theorem TmsAt.one {w : World} {S : Nat → Prop} {t : Tm} {v : Value} (h : TmAt w S t v) : TmsAt w S [t] [v] := ⟨rfl, fun i t' h' => by
 match i with
 | 0 => simp at h'; subst h'; exact ⟨v, rfl, h⟩
 | i + 1 => simp at h'⟩
theorem TmsAt.two {w : World} {S : Nat → Prop} {t u : Tm} {v x : Value} (h : TmAt w S t v) (k : TmAt w S u x) : TmsAt w S [t, u] [v, x] := ⟨rfl, fun i t' h' => by
 match i with
 | 0 => simp at h'; subst h'; exact ⟨v, rfl, h⟩
 | 1 => simp at h'; subst h'; exact ⟨x, rfl, k⟩
 | i + 2 => simp at h'⟩
theorem FosAt.nil {w : World} {S : Nat → Prop} : FosAt w S [] [] := ⟨rfl, fun i t h => by simp at h⟩
theorem FosAt.one {w : World} {S : Nat → Prop} {t : Fo} {v : Value} (h : FoAt w S t v) : FosAt w S [t] [v] := ⟨rfl, fun i t' h' => by
 match i with
 | 0 => simp at h'; subst h'; exact ⟨v, rfl, h⟩
 | i + 1 => simp at h'⟩
theorem FosAt.two {w : World} {S : Nat → Prop} {t u : Fo} {v x : Value} (h : FoAt w S t v) (k : FoAt w S u x) : FosAt w S [t, u] [v, x] := ⟨rfl, fun i t' h' => by
 match i with
 | 0 => simp at h'; subst h'; exact ⟨v, rfl, h⟩
 | 1 => simp at h'; subst h'; exact ⟨x, rfl, k⟩
 | i + 2 => simp at h'⟩
theorem subs_any (t : Tm) (v : Value) (S : Nat → Prop) (w : World) (h : TmAt w S t v) : ∃ vs, TmsAt w S (subT t) vs ∧ Calls Tryz.prog 77 #[v] w (SubPost vs w) := by
 cases t with
 | odd => exact ⟨[], TmsAt.nil, subs_odd v w h⟩
 | num neg abs => obtain ⟨A, n, c, rfl, _⟩ := h; exact ⟨[], TmsAt.nil, subs_Num neg A n c w⟩
 | name s => obtain ⟨rfl, _⟩ := h; exact ⟨[], TmsAt.nil, subs_Name s w⟩
 | add l r => obtain ⟨vl, vr, rfl, h1, h2⟩ := h; exact ⟨[vl, vr], TmsAt.two h1 h2, subs_Add vl vr w h1.one h2.one⟩
 | sub l r => obtain ⟨vl, vr, rfl, h1, h2⟩ := h; exact ⟨[vl, vr], TmsAt.two h1 h2, subs_Sub vl vr w h1.one h2.one⟩
 | mul l r => obtain ⟨vl, vr, rfl, h1, h2⟩ := h; exact ⟨[vl, vr], TmsAt.two h1 h2, subs_Mul vl vr w h1.one h2.one⟩
 | neg t => obtain ⟨vt, rfl, h1⟩ := h; exact ⟨[vt], TmsAt.one h1, subs_Neg vt w h1.one⟩
 | pow t e => obtain ⟨vt, rfl, h1⟩ := h; exact ⟨[vt], TmsAt.one h1, subs_Pow vt e w h1.one⟩
theorem parts_any (t : Fo) (v : Value) (S : Nat → Prop) (w : World) (h : FoAt w S t v) : ∃ vs, FosAt w S (subF t) vs ∧ Calls Tryz.prog 54 #[v] w (SubPost vs w) := by
 cases t with
 | odd => exact ⟨[], FosAt.nil, parts_odd v w h⟩
 | truth b => cases h; exact ⟨[], FosAt.nil, parts_Truth b w⟩
 | atom l rel r => obtain ⟨vl, vr, rfl, _⟩ := h; exact ⟨[], FosAt.nil, parts_Atom vl vr rel w⟩
 | not f => obtain ⟨vf, rfl, h1⟩ := h; exact ⟨[vf], FosAt.one h1, parts_Not vf w h1.one⟩
 | and l r => obtain ⟨vl, vr, rfl, h1, h2⟩ := h; exact ⟨[vl, vr], FosAt.two h1 h2, parts_And vl vr w h1.one h2.one⟩
 | or l r => obtain ⟨vl, vr, rfl, h1, h2⟩ := h; exact ⟨[vl, vr], FosAt.two h1 h2, parts_Or vl vr w h1.one h2.one⟩
 | implies l r => obtain ⟨vl, vr, rfl, h1, h2⟩ := h; exact ⟨[vl, vr], FosAt.two h1 h2, parts_Implies vl vr w h1.one h2.one⟩
 | iff l r => obtain ⟨vl, vr, rfl, h1, h2⟩ := h; exact ⟨[vl, vr], FosAt.two h1 h2, parts_Iff vl vr w h1.one h2.one⟩
 | quant all name f => obtain ⟨vf, rfl, h0, h1⟩ := h; exact ⟨[vf], FosAt.one h1, parts_Quant all name vf w h1.one⟩
end Fm
end Go.Proofs.YteneobpacobpdaaGreatDoor
namespace Go.Proofs.YteneobpacobpdaaGreatDoor
open Go.RowKit
namespace Fm
attribute [local go_sem] run_store taName_yes taName_no taName_nil
structure Owns (W W' : World) (F F' : Nat → Prop) : Prop where
 os : W'.os = W.os
 tape : W'.tape = W.tape
 output : W'.output = W.output
 size : W.heap.size ≤ W'.heap.size
 same : ∀ b, b < W.heap.size → ¬ F b → W'.heap[b]? = W.heap[b]?
 foot : ∀ b, F' b → F b ∨ W.heap.size ≤ b
section
variable {W W' W2 : World} {F F' F2 : Nat → Prop}
theorem Owns.refl (W : World) (F : Nat → Prop) : Owns W W F F := ⟨rfl, rfl, rfl, Nat.le_refl _, fun _ _ _ => rfl, fun _ h => .inl h⟩
theorem Owns.trans (h : Owns W W' F F') (k : Owns W' W2 F' F2) : Owns W W2 F F2 :=
 ⟨k.os.trans h.os, k.tape.trans h.tape, k.output.trans h.output, Nat.le_trans h.size k.size,
  fun b hb hF => (k.same b (Nat.lt_of_lt_of_le hb h.size) (fun hF' => by rcases h.foot b hF' with h1 | h1; exact hF h1; omega)).trans (h.same b hb hF),
  fun b hb => by
   have := h.size
   rcases k.foot b hb with h1 | h1
   ·exact h.foot b h1
   ·right; omega⟩
theorem Owns.of_below (h : Below W.heap.size W W') (F : Nat → Prop) : Owns W W' F F := ⟨h.os, h.tape, h.output, h.size, fun b hb _ => h.block b hb, fun _ h => .inl h⟩
theorem Owns.below (h : Owns W W' F F') {B : Nat} (hB : B ≤ W.heap.size) (hF : ∀ b, F b → B ≤ b) : Below B W W' := ⟨h.os, h.tape, h.output, h.size, fun b hb => h.same b (by omega) (fun h => by have := hF b h; omega)⟩
theorem Owns.cell (h : Owns W W' F F') {p : Addr} (hp : p.block < W.heap.size) (hF : ¬ F p.block) : W'.cell? p = W.cell? p := World.cell?_of_block (h.same _ hp hF)
theorem Owns.fz (h : Owns W W' F F') {p : Addr} (hp : p.block < W.heap.size) (hF : ¬ F p.block) : W'.frozen? p = W.frozen? p := by
 unfold World.frozen?; rw [h.same _ hp hF]
theorem Owns.foot' (h : Owns W W' F F') {b : Nat} (hb : b < W.heap.size) (hF : ¬ F b) : ¬ F' b := fun h' => by rcases h.foot b h' with h1 | h1; exact hF h1; omega
end
structure UseOk {σ : Type} (fid : FuncId) (caps : Array Value) (J : σ → (Nat → Prop) → World → Prop) (step : σ → ByteArray → σ) (cnt : σ → Nat) : Prop where
 le : ∀ s nm, cnt (step s nm) ≤ cnt s + 1
 lt : ∀ {s F W}, J s F W → ∀ b, F b → b < W.heap.size
 below : ∀ {s F W W'}, J s F W → Below W.heap.size W W' → J s F W'
 cf : ∀ args w, (callFunc fid args).run Tryz.prog w = .ok (.enter fid args) w
 call : ∀ s F W nm, nm.size ≤ 9223372036854775807 → cnt s < 900000 → J s F W → Calls Tryz.prog fid (#[.string nm] ++ caps) W fun e W' => e = .returned (.tuple #[]) ∧ ∃ F', J (step s nm) F' W' ∧ Owns W W' F F'
def UPost {σ : Type} (J : σ → (Nat → Prop) → World → Prop) (s' : σ) (F : Nat → Prop) (W : World) (e : Ending) (W' : World) : Prop := e = .returned (.tuple #[]) ∧ ∃ F', J s' F' W' ∧ Owns W W' F F'
def URel {σ : Type} (J : σ → (Nat → Prop) → World → Prop) (s' : σ) (F : Nat → Prop) (W W' : World) : Prop := ∃ F', J s' F' W' ∧ Owns W W' F F'
theorem Tm.ind {P : Tm → Prop} (h : ∀ t, (∀ k ∈ subT t, P k) → P t) : ∀ t, P t := by
 intro t
 induction t with
 | odd => exact h _ (fun k hk => by cases hk)
 | num neg abs => exact h _ (fun k hk => by cases hk)
 | name s => exact h _ (fun k hk => by cases hk)
 | add l r il ir => exact h _ (fun k hk => by simp [subT] at hk; rcases hk with rfl | rfl; exact il; exact ir)
 | sub l r il ir => exact h _ (fun k hk => by simp [subT] at hk; rcases hk with rfl | rfl; exact il; exact ir)
 | mul l r il ir => exact h _ (fun k hk => by simp [subT] at hk; rcases hk with rfl | rfl; exact il; exact ir)
 | neg t it => exact h _ (fun k hk => by simp [subT] at hk; rcases hk with rfl; exact it)
 | pow t e it => exact h _ (fun k hk => by simp [subT] at hk; rcases hk with rfl; exact it)
theorem Fo.ind {P : Fo → Prop} (h : ∀ t, (∀ k ∈ subF t, P k) → P t) : ∀ t, P t := by
 intro t
 induction t with
 | odd => exact h _ (fun k hk => by cases hk)
 | truth b => exact h _ (fun k hk => by cases hk)
 | atom l rel r => exact h _ (fun k hk => by cases hk)
 | not f it => exact h _ (fun k hk => by simp [subF] at hk; rcases hk with rfl; exact it)
 | and l r il ir => exact h _ (fun k hk => by simp [subF] at hk; rcases hk with rfl | rfl; exact il; exact ir)
 | or l r il ir => exact h _ (fun k hk => by simp [subF] at hk; rcases hk with rfl | rfl; exact il; exact ir)
 | implies l r il ir => exact h _ (fun k hk => by simp [subF] at hk; rcases hk with rfl | rfl; exact il; exact ir)
 | iff l r il ir => exact h _ (fun k hk => by simp [subF] at hk; rcases hk with rfl | rfl; exact il; exact ir)
 | quant all name f it => exact h _ (fun k hk => by simp [subF] at hk; rcases hk with rfl; exact it)
def namesT : Tm → List ByteArray
 | .name s => [s]
 | .add l r => namesT l ++ namesT r
 | .sub l r => namesT l ++ namesT r
 | .mul l r => namesT l ++ namesT r
 | .neg t => namesT t
 | .pow t _ => namesT t
 | _ => []
theorem namesT_sub (t : Tm) (h : ∀ s, t ≠ .name s) : namesT t = (subT t).flatMap namesT := by
 cases t <;> first | (exact absurd rfl (h _)) | simp [namesT, subT]
theorem flat_take {α β : Type} (f : α → List β) {l : List α} {i : Nat} {x : α} (h : l[i]? = some x) : (l.take (i + 1)).flatMap f = (l.take i).flatMap f ++ f x := by
 obtain ⟨hi, rfl⟩ := List.getElem?_eq_some_iff.1 h
 rw [List.take_succ_eq_append_getElem hi, List.flatMap_append]; simp
theorem foldl_take {α β σ : Type} (step : σ → β → σ) (f : α → List β) (s : σ) {l : List α} {i : Nat} {x : α} (h : l[i]? = some x) : ((l.take (i + 1)).flatMap f).foldl step s = (f x).foldl step (((l.take i).flatMap f).foldl step s) := by
 rw [flat_take f h, List.foldl_append]
theorem sub_at {W w1 wr : World} {F F' : Nat → Prop} {S : Nat → Prop} {A : Option Addr} {n c : Nat} {vs : List Value} {ts : List Tm} (hss : SS w1 (Fr W w1) 1 (.slice A n c) n vs) (hts : TmsAt W S ts vs) (hF : ∀ b, F b → b < W.heap.size) (ho : Owns w1 wr F F') (i : Nat) (hi : i < n) (hn : n = vs.length) :
  ∃ t v b o, ts[i]? = some t ∧ TmAt W S t v ∧ A = some ⟨b, o, none⟩ ∧ wr.cell? ⟨b, o + i, none⟩ = some v := by
 have hi2 : i < ts.length := by rw [← hts.1]; omega
 obtain ⟨v, hv, hT⟩ := hts.2 i _ (List.getElem?_eq_getElem hi2)
 obtain ⟨b, o, rfl, hb, hx⟩ := hss.at_ (by omega)
 refine ⟨_, v, b, o, List.getElem?_eq_getElem hi2, hT, rfl, ?_⟩
 rw [ho.cell (p := ⟨b, o + i, none⟩) hb.2 (fun h => by have := hF b h; have := hb.1; simp at *; omega)]
 exact hx i v hv
theorem subF_at {W w1 wr : World} {F F' : Nat → Prop} {S : Nat → Prop} {A : Option Addr} {n c : Nat} {vs : List Value} {ts : List Fo} (hss : SS w1 (Fr W w1) 1 (.slice A n c) n vs) (hts : FosAt W S ts vs) (hF : ∀ b, F b → b < W.heap.size) (ho : Owns w1 wr F F') (i : Nat) (hi : i < n) (hn : n = vs.length) :
  ∃ t v b o, ts[i]? = some t ∧ FoAt W S t v ∧ A = some ⟨b, o, none⟩ ∧ wr.cell? ⟨b, o + i, none⟩ = some v := by
 have hi2 : i < ts.length := by rw [← hts.1]; omega
 obtain ⟨v, hv, hT⟩ := hts.2 i _ (List.getElem?_eq_getElem hi2)
 obtain ⟨b, o, rfl, hb, hx⟩ := hss.at_ (by omega)
 refine ⟨_, v, b, o, List.getElem?_eq_getElem hi2, hT, rfl, ?_⟩
 rw [ho.cell (p := ⟨b, o + i, none⟩) hb.2 (fun h => by have := hF b h; have := hb.1; simp at *; omega)]
 exact hx i v hv
theorem TmAt.owns {W W' : World} {F F' S : Nat → Prop} {t : Tm} {v : Value} (h : TmAt W S t v) (ho : Owns W W' F F') (hS : ∀ b, S b → b < W.heap.size ∧ ¬ F b) : TmAt W' S t v :=
 TmAt.keep (fun p hp => ho.cell (hS _ hp).1 (hS _ hp).2) t v h
theorem FoAt.owns {W W' : World} {F F' S : Nat → Prop} {t : Fo} {v : Value} (h : FoAt W S t v) (ho : Owns W W' F F') (hS : ∀ b, S b → b < W.heap.size ∧ ¬ F b) : FoAt W' S t v :=
 FoAt.keep (fun p hp => ho.cell (hS _ hp).1 (hS _ hp).2) t v h
theorem S_owns {W W' : World} {F F' S : Nat → Prop} (ho : Owns W W' F F') (hS : ∀ b, S b → b < W.heap.size ∧ ¬ F b) : ∀ b, S b → b < W'.heap.size ∧ ¬ F' b :=
 fun b hb => ⟨Nat.lt_of_lt_of_le (hS b hb).1 ho.size, ho.foot' (hS b hb).1 (hS b hb).2⟩
section
variable {σ : Type} {fid : FuncId} {caps : Array Value} {J : σ → (Nat → Prop) → World → Prop} {step : σ → ByteArray → σ} {cnt : σ → Nat}
theorem cnt_fold (U : UseOk fid caps J step cnt) (l : List ByteArray) (s : σ) : cnt (l.foldl step s) ≤ cnt s + l.length := by
 induction l generalizing s with
 | nil => simp
 | cons a l ih => rw [List.foldl_cons, List.length_cons]; have := ih (step s a); have := U.le s a; omega
theorem flat_len {α β : Type} (f : α → List β) (l : List α) (i : Nat) : ((l.take i).flatMap f).length ≤ (l.flatMap f).length := by
 conv => rhs; rw [← List.take_append_drop i l, List.flatMap_append, List.length_append]
 omega
def OccOk (fid : FuncId) (caps : Array Value) (J : σ → (Nat → Prop) → World → Prop) (step : σ → ByteArray → σ) (cnt : σ → Nat) (t : Tm) : Prop := ∀ (v : Value) (S F : Nat → Prop) (s : σ) (w : World), (∀ b, S b → b < w.heap.size ∧ ¬ F b) → TmAt w S t v → J s F w → cnt s + (namesT t).length ≤ 900000 →
  Calls Tryz.prog 53 #[v, .func (.func fid) #[] caps] w (UPost J ((namesT t).foldl step s) F w)
theorem occ_name (U : UseOk fid caps J step cnt) (nm : ByteArray) : OccOk fid caps J step cnt (.name nm) := by
 intro v S F s w hS hT hJ hcn
 have hcn1 : cnt s < 900000 := by unfold namesT at hcn; simp at hcn; omega
 clear hcn
 obtain ⟨rfl, hnm⟩ := hT
 obtain ⟨W, hW⟩ : ∃ W, w.alloc (.cells #[.string nm] 47) = W := ⟨_, rfl⟩
 have hx : Box w W w.heap.size #[.string nm] 47 := by rw [← hW]; exact Box.new w _ _
 have s0 : W.cell? ⟨w.heap.size, 0, none⟩ = some (.string nm) := hx.cell 0
 have HX := h_ hx
 have HC := h_ (U.call s F W nm hnm hcn1 (U.below hJ hx.below))
 have HU := h_ U
 have hcf := U.cf
 clear hx hJ hS
 go_enter Tryz.func53, Tryz.ntmps53
 go_wp2_with (first
  |(go_at_call 77; refine (subs_Name nm _).mono ?_; intro e w2 hp; obtain ⟨A, c, rfl, _, hb2⟩ := hp)
  |((with_reducible refine HC.out.mono ?_); intro e w1 hp; obtain ⟨rfl, hp⟩ := hp; have HP := h_ hp; clear hp hW))
 refine wp_loop_rounds 1 ?_
 rw [rounds_succ]
 go_wp2
 go_end0
 obtain ⟨F', hJ', ho⟩ := HP.out
 refine ⟨rfl, F', HU.out.below hJ' hb2, ((Owns.of_below HX.out.below F).trans ho).trans (Owns.of_below hb2 F')⟩
theorem occ_other (U : UseOk fid caps J step cnt) (t : Tm) (hne : ∀ nm, t ≠ .name nm) (ih : ∀ k ∈ subT t, OccOk fid caps J step cnt k) : OccOk fid caps J step cnt t := by
 intro v S F s w hS hT hJ hcn
 have HCN := h_ hcn
 clear hcn
 obtain ⟨W, hW⟩ : ∃ W, w.alloc (.cells #[.string ⟨#[]⟩] 47) = W := ⟨_, rfl⟩
 have hbW : Below w.heap.size w W := by rw [← hW]; exact (Below.refl _ w).alloc (Nat.le_refl _) _
 have hta : ∀ w, (Instr.typeAssert v 49 47 true).run Tryz.prog w = .ok (.tuple #[.agg #[.string ⟨#[]⟩], .bool false]) w := by
  intro w'
  have hv : v = .nilIface ∨ ∃ u x, v = .iface u x ∧ u ≠ 47 := by
   cases t with
   | odd =>
    rcases hT with rfl | ⟨u, a, rfl, hu⟩
    ·exact .inl rfl
    ·refine .inr ⟨u, _, rfl, fun e => hu (by rw [e]; decide)⟩
   | num neg abs => obtain ⟨A, n, c, rfl, _⟩ := hT; exact .inr ⟨_, _, rfl, by decide⟩
   | name s => exact absurd rfl (hne s)
   | add l r => obtain ⟨vl, vr, rfl, _⟩ := hT; exact .inr ⟨_, _, rfl, by decide⟩
   | sub l r => obtain ⟨vl, vr, rfl, _⟩ := hT; exact .inr ⟨_, _, rfl, by decide⟩
   | mul l r => obtain ⟨vl, vr, rfl, _⟩ := hT; exact .inr ⟨_, _, rfl, by decide⟩
   | neg t => obtain ⟨vt, rfl, _⟩ := hT; exact .inr ⟨_, _, rfl, by decide⟩
   | pow t e => obtain ⟨vt, rfl, _⟩ := hT; exact .inr ⟨_, _, rfl, by decide⟩
  rcases hv with rfl | ⟨u, x, rfl, hu⟩
  ·exact taName_nil w'
  ·exact taName_no u x w' hu
 have hTW : TmAt W S t v := hT.below (fun b hb => (hS b hb).1) hbW
 have hJW := U.below hJ hbW
 obtain ⟨vs, hvs, hsub⟩ := subs_any t v S W hTW
 obtain ⟨n, hn⟩ : ∃ n, n = vs.length := ⟨_, rfl⟩
 have hlt := U.lt hJW
 have hFS : ∀ b, S b → b < W.heap.size ∧ ¬ F b := S_owns (Owns.of_below hbW F) hS
 have IH := h_ ih
 have HU := h_ U
 have HVS := h_ hvs
 have HSUB := h_ hsub
 have HN := h_ hn
 have HLT := h_ hlt
 have HFS := h_ hFS
 have HJ := h_ hJW
 have HBW := h_ hbW
 have HW := h_ hW
 have hcf := U.cf
 have hnames := namesT_sub t hne
 have HNM := h_ hnames
 have hn64 : n ≤ 2 := by rw [hn, hvs.1]; cases t <;> simp [subT]
 clear hW ih hbW hTW hJW hvs hsub hn hlt hFS hJ hS hT hnames
 go_enter Tryz.func53, Tryz.ntmps53
 go_wp2_with (first
  |(go_at_call 77; rw [HW.out]; refine HSUB.out.mono ?_; intro e w1 hp; obtain ⟨A, c, he, hss, hb1⟩ := hp; rw [← HN.out] at he hss; subst he; have HSS := h_ hss; have HB1 := h_ hb1; clear hss hb1 hta))
 go_loopw [21] (fun a_ wr => ∃ (i : Nat), i ≤ n ∧ a_ = .int .i64 i ∧ URel J ((((subT t).take i).flatMap namesT).foldl step s) F w1 wr) (fun a_ _ => n - (intOf a_).toNat)
 case atStart => exact ⟨0, Nat.zero_le _, rfl, F, by simpa using HU.out.below HJ.out HB1.out, Owns.refl _ _⟩
 case round =>
  obtain ⟨i, hi, rfl, hrel⟩ := hrel
  obtain ⟨F', hJ', ho⟩ := hrel
  by_cases hlt : i < n
  ·obtain ⟨k, x, b, o, hk, hTk, rfl, hcell⟩ := sub_at HSS.out HVS.out HLT.out ho i hlt HN.out
   have hTk2 : TmAt wr S k x := (hTk.below (fun b hb => (HFS.out b hb).1) HB1.out).owns ho (S_owns (Owns.of_below HB1.out F) HFS.out)
   have hcn2 := cnt_fold HU.out (((subT t).take i).flatMap namesT) s
   have hcn3 := flat_len namesT (subT t) (i + 1)
   rw [flat_take namesT hk, List.length_append, ← HNM.out] at hcn3
   have hC := IH.out k (mem_at hk) x S F' _ wr (S_owns ho (S_owns (Owns.of_below HB1.out F) HFS.out)) hTk2 hJ' (by have := HCN.out; omega)
   clear hcn2 hcn3
   have HC := h_ hC
   have HF := h_ (foldl_take step namesT s hk)
   have HO := h_ ho
   clear hC hTk hTk2 hJ' ho hk
   go_wp2_with (first | (go_at_call 53; refine HC.out.mono ?_; intro e w2 hp; obtain ⟨rfl, hp⟩ := hp; have HP := h_ hp; clear hp))
   go_roundw
   case rel =>
    obtain ⟨F2, hJ2, ho2⟩ := HP.out
    exact ⟨i + 1, by omega, by go_num, F2, by rw [HF.out]; exact hJ2, HO.out.trans ho2⟩
   case measure => simp [intOf]; omega
  ·have HP := h_ (show URel J ((((subT t).take i).flatMap namesT).foldl step s) F w1 wr from ⟨F', hJ', ho⟩)
   have HI := h_ (show (subT t).take i = subT t from List.take_of_length_le (by rw [← HVS.out.1, ← HN.out]; omega))
   clear hJ' ho
   go_wp2
   go_end0
   obtain ⟨F2, hJ2, ho2⟩ := HP.out
   rw [HI.out, ← HNM.out] at hJ2
   exact ⟨rfl, F2, hJ2, ((Owns.of_below HBW.out F).trans (Owns.of_below HB1.out F)).trans ho2⟩
theorem occ_any (U : UseOk fid caps J step cnt) : ∀ t, OccOk fid caps J step cnt t := by
 refine Tm.ind fun t ih => ?_
 by_cases h : ∃ nm, t = .name nm
 ·obtain ⟨nm, rfl⟩ := h; exact occ_name U nm
 ·exact occ_other U t (fun nm e => h ⟨nm, e⟩) ih
end
end Fm
end Go.Proofs.YteneobpacobpdaaGreatDoor
