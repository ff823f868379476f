/-
  FormulaParts: for every tree and every number the law returns true: Parts hands on the subformulas in order, with their depths, and stops when the loop stops; Atoms and Nodes count. No condition.
-/
import Derived.Test.YtjbgdaojhdobkaaVsB
import Derived.Test.YtjbgdaojhdobkaaVsP
import Derived.Test.YtjbgdaojhdobkaaFmAw
import Derived.Test.YtjbgdaojhdobkaaFmX
import Derived.Test.YtjbgdaojhdobkaaFmY
import Derived.Test.YtjbgdaojhdobkaaFmZn
import Derived.Test.YtjbgdaojhdobkaaFmOpn
import Derived.Test.YtjbgdaojhdobkaaRows
import Derived.ProofKit
import Derived.OpenShut
import Derived.ShutString
import Derived.Carry
namespace Go.Proofs.Ytjbgdaojhdobkaa.formulaParts
open Go.ChangeShapes Go.WideShapes Go.ChangeAt Go.RowKit Go.Sort Go.Shelf Go.Proofs.Ytjbgdaojhdobkaa Go.Proofs.Ytjbgdaojhdobkaa.Fm Go.Proofs.Ytjbgdaojhdobkaa.Vs
set_option linter.unusedVariables false
set_option linter.unusedSimpArgs false
attribute [local go_sem] run_store Oper.semAt_some

theorem hgt_nn {t : Tr} {f : Fo} (h : RF t f) : hgt f ≤ nn t := by
  have : ∀ f : Fo, hgt f ≤ fnn f := by
    intro f
    induction f <;> simp [hgt, fnn] <;> omega
  rw [← fnn_eq h]; exact this f

mutual
theorem nn_mem : ∀ {t : Tr} {d : Int} {p : Tr × Int}, p ∈ flatF t d → nn p.1 ≤ nn t
  | .mk h ks, d, p, hp => by
    rw [flatF_mk, List.mem_cons] at hp
    rcases hp with rfl | hp
    · exact Nat.le_refl _
    · have h1 := nnL_mem hp
      have h2 : nn (.mk h ks) = nnL ks + 1 := by conv => lhs; unfold nn
      omega
theorem nnL_mem : ∀ {ks : List Tr} {d : Int} {p : Tr × Int}, p ∈ flatL ks d → nn p.1 ≤ nnL ks
  | [], d, p, hp => by unfold flatL at hp; cases hp
  | k :: ks, d, p, hp => by
    unfold flatL at hp
    rw [List.mem_append] at hp
    unfold nnL
    rcases hp with hp | hp
    · have := nn_mem hp; omega
    · have := nnL_mem hp; omega
end
/-- a result in a cell -/
theorem results_cell {fn : Func} {p : Tmp} {ty : TypeId} (h : fn.results = #[.cell p ty]) (tmps : Array Value) (P : Program) (w : World) :
    (results fn tmps).run P w = ((asAddr (tmps.getD p undef)).run P w).andThen fun a w₁ => (loadVar ty a).run P w₁ := by
  simp only [results, h]
  simp [Sem.run_bind, Result.andThen]
theorem addr_add (g i : Nat) : (⟨g, 0, none⟩ : Addr).add i = ⟨g, i, none⟩ := by
  unfold Addr.add; split
  · rename_i h; simp [h]
  · simp
/-- three boxes, one behind the other -/
structure B3 (w wr : World) (a : Array Value) (A : TypeId) (b : Array Value) (B : TypeId) (c : Array Value) (C : TypeId) : Prop where
  below : Below w.heap.size w wr
  h0 : wr.heap[w.heap.size]? = some (.cells a A (0, 0))
  h1 : wr.heap[w.heap.size + 1]? = some (.cells b B (0, 0))
  h2 : wr.heap[w.heap.size + 1 + 1]? = some (.cells c C (0, 0))
section
variable {w wr w2 : World} {a b c : Array Value} {A B C : TypeId}
theorem B3.new (w : World) (a b c : Array Value) (A B C : TypeId) : B3 w (((w.alloc (.cells a A)).alloc (.cells b B)).alloc (.cells c C)) a A b B c C := by
  have a0 := World.alloc_heap_new w (.cells a A)
  have a1 := World.alloc_heap_new (w.alloc (.cells a A)) (.cells b B)
  have a2 := World.alloc_heap_new ((w.alloc (.cells a A)).alloc (.cells b B)) (.cells c C)
  rw [World.size_alloc] at a1 a2
  rw [World.size_alloc] at a2
  refine ⟨(((Below.refl _ w).alloc (Nat.le_refl _) _).alloc (by simp) _).alloc (by simp only [World.size_alloc]; omega) _, ?_, ?_, a2⟩
  · exact (Below.heap_alloc _ _ _ (by simp only [World.size_alloc]; omega)).trans ((Below.heap_alloc _ _ _ (by simp)).trans a0)
  · exact (Below.heap_alloc _ _ _ (by simp)).trans a1
theorem B3.step (h : B3 w wr a A b B c C) (hb : Below wr.heap.size wr w2) : B3 w w2 a A b B c C :=
  ⟨h.below.trans (hb.mono h.below.size), (hb.block _ (Array.getElem?_eq_some_iff.1 h.h0).1).trans h.h0, (hb.block _ (Array.getElem?_eq_some_iff.1 h.h1).1).trans h.h1, (hb.block _ (Array.getElem?_eq_some_iff.1 h.h2).1).trans h.h2⟩
theorem B3.box (h : B3 w wr a A b B c C) : Box w wr w.heap.size a A := ⟨h.below, h.h0⟩
theorem B3.c0 {v : Value} (h : B3 w wr #[v] A b B c C) : wr.cell? ⟨w.heap.size, 0, none⟩ = some v := by simp [World.cell?, h.h0]
theorem B3.c1 {v : Value} (h : B3 w wr a A #[v] B c C) : wr.cell? ⟨w.heap.size + 1, 0, none⟩ = some v := by simp [World.cell?, h.h1]
theorem B3.c2 {v : Value} (h : B3 w wr a A b B #[v] C) : wr.cell? ⟨w.heap.size + 1 + 1, 0, none⟩ = some v ∧ wr.frozen? ⟨w.heap.size + 1 + 1, 0, none⟩ = false := by constructor <;> simp [World.cell?, World.frozen?, h.h2]
theorem B3.lt (h : B3 w wr a A b B c C) : w.heap.size + 1 + 1 < wr.heap.size := (Array.getElem?_eq_some_iff.1 h.h2).1
end
abbrev Boxes (w wr : World) (cs : Array Value) (s : Int) (b : Bool) : Prop := B3 w wr cs TT #[.int .u8 s] 5 #[.bool b] 4

/-- what holds between two rounds: the counter's box; all else as it was where the loop began -/
def PI {α : Type} (X : Nat) (wL : World) (s : Int) (pre : List α) (W : World) : Prop :=
  W.heap[X]? = some (.cells #[.int .i64 (pre.length : Int)] 3 (0, 0)) ∧ Owns wL W (fun b => b = X) (fun b => b = X) ∧ (pre.length : Int) ≤ s
def PX {α : Type} (X : Nat) (wL : World) (s : Int) (its : List α) (c : Code) (pre : List α) (W : World) : Prop :=
  (c = .exit 0 ∧ W.heap[X]? = some (.cells #[.int .i64 (pre.length : Int)] 3 (0, 0)) ∧ Owns wL W (fun b => b = X) (fun b => b = X) ∧ (pre.length : Int) = s + 1) ∨ (c = .ret ∧ ¬ pre <+: its)
theorem owns_from {X : Nat} {wL W W' : World} {row : Option Nat} (h : Owns wL W (fun b => b = X) (fun b => b = X)) (hg : W.grownBy W' row) (hr : ∀ r, row = some r → wL.heap.size ≤ r ∧ ∃ o : Obj, W.heap[r]? = some o ∧ o.isCells = false) : Owns wL W' (fun b => b = X) (fun b => b = X) :=
  ⟨hg.os.trans h.os, hg.tape.trans h.tape, hg.output.trans h.output, Nat.le_trans h.size hg.size, fun b hb hF => (hg.block b (Nat.lt_of_lt_of_le hb h.size) (fun e => by have := (hr b e.symm).1; omega)).trans (h.same b hb hF), fun b hb => .inl hb⟩
theorem box_from {X : Nat} {wL W W' : World} {row : Option Nat} {cs : Array Value} {T : TypeId} (hX : X < wL.heap.size) (h : W.heap[X]? = some (.cells cs T (0, 0))) (hg : W.grownBy W' row) (hr : ∀ r, row = some r → wL.heap.size ≤ r ∧ ∃ o : Obj, W.heap[r]? = some o ∧ o.isCells = false) : W'.heap[X]? = some (.cells cs T (0, 0)) :=
  (hg.block X (Array.getElem?_eq_some_iff.1 h).1 (fun e => by have := (hr X e.symm).1; omega)).trans h
theorem pi_own {α : Type} {X : Nat} {wL : World} (s : Int) (hX : X < wL.heap.size) : OwnFrom wL.heap.size (PI (α := α) X wL s) := fun pre W W' row h hg hr =>
  ⟨box_from hX h.1 hg hr, owns_from h.2.1 hg hr, h.2.2⟩
theorem px_own {α : Type} {X : Nat} {wL : World} (s : Int) (its : List α) (hX : X < wL.heap.size) (c : Code) : OwnFrom wL.heap.size (PX X wL s its c) := fun pre W W' row h hg hr => by
  rcases h with ⟨h1, h2, h3, h4⟩ | h
  · exact .inl ⟨h1, box_from hX h2 hg hr, owns_from h3 hg hr, h4⟩
  · exact .inr h
theorem keepsB {W W' : World} (hb : Below W.heap.size W W') : KeepsOthers W W' := ⟨hb.size, fun k o hk _ => (hb.block k (Array.getElem?_eq_some_iff.1 hk).1).trans hk⟩
theorem keepsO {X : Nat} {W W' : World} {cs : Array Value} {T : TypeId} (h : Owns W W' (fun b => b = X) (fun b => b = X)) (hX : W.heap[X]? = some (.cells cs T (0, 0))) : KeepsOthers W W' :=
  ⟨h.size, fun k o hk ho => (h.same k (Array.getElem?_eq_some_iff.1 hk).1 (fun e => by subst e; rw [hX] at hk; cases hk; cases ho)).trans hk⟩
theorem owns_set {X b : Nat} (W : World) (j : Nat) (v : Value) (hb : X = b) : Owns W (W.setCell ⟨b, j, none⟩ v) (fun b => b = X) (fun b => b = X) :=
  ⟨rfl, rfl, rfl, by simp [World.setCell], fun k _ hk => Below.heap_setCell _ _ _ _ (fun e => hk (by rw [hb]; exact e)), fun _ h => .inl h⟩
def S13 (W : World) (R : Nat) (w' : World) : Prop := Owns W w' (fun b => b = R) (fun b => b = R) ∧ ∃ b, w'.heap[R]? = some (.cells #[.bool b] 4 (0, 0))
theorem S13.step {W w1 w2 : World} {R : Nat} (h : S13 W R w1) (hb : Below w1.heap.size w1 w2) : S13 W R w2 :=
  ⟨h.1.trans (Owns.of_below hb _), by obtain ⟨b, hb2⟩ := h.2; exact ⟨b, (hb.block _ (Array.getElem?_eq_some_iff.1 hb2).1).trans hb2⟩⟩
theorem keep_turn {F : Nat → Prop} (W : World) (l : Nat) (o o' : Obj) (hl : W.heap[l]? = some o) (ho : o.isCells = false) : KeepC F W (W.putObj l o') :=
  ⟨by simp, fun b ob hb hc _ => (World.putObj_heap_other (fun e => by subst e; rw [hl] at hb; cases hb; rw [ho] at hc; cases hc)).trans hb⟩

set_option maxHeartbeats 8000000 in
set_option maxRecDepth 100000 in
theorem no (t0 : Tr) (cs0 : List Value) (s : Int) (hbad : rightB t0 = false) (w : World) (hT0 : TreeAt w (fun b => b < w.heap.size) t0 cs0) :
    Calls Try.prog 8 #[.agg cs0.toArray, .int .u8 s] w fun e w' => e = .returned (.bool true) ∧ Below w.heap.size w w' := by
  obtain ⟨A1, n1, c1, A2, n2, c2, k, neg, nm, ex, rl, tr, al, rfl⟩ := hT0.nine
  have hx : Boxes w (((w.alloc (.cells #[.int .i64 k, .bool neg, .slice A1 n1 c1, .string nm, .int .i64 ex, .int .i64 rl, .bool tr, .bool al, .slice A2 n2 c2] TT)).alloc (.cells #[.int .u8 s] 5)).alloc (.cells #[.bool false] 4)) #[.int .i64 k, .bool neg, .slice A1 n1 c1, .string nm, .int .i64 ex, .int .i64 rl, .bool tr, .bool al, .slice A2 n2 c2] s false := B3.new w _ _ _ _ _ _
  have HX := Lib.hid hx
  have HT := Lib.hid hT0
  have HR := Lib.hid hbad
  clear hx hT0 hbad
  go_enter Try.func8, Try.ntmps8
  go_wp2_with fail
  refine (awake_any _).mono ?_
  rintro e w1 ⟨rfl, hb1⟩
  have hX1 := HX.out.step hb1
  obtain ⟨g0, g1, g2, g3, g4, g5, g6, g7, g8⟩ := hX1.box.c9
  have HB1 := Lib.hid hX1
  clear hb1 hX1
  go_wp2_with (first
    | (go_at_call 24; refine (right_any t0 _ _ _ (fun b h => Nat.lt_of_lt_of_le h HB1.out.below.size) (HT.out.below (fun b h => h) HB1.out.below)).mono ?_; rintro e w2 ⟨rfl, hb2⟩; rw [HR.out]; have HB2 := Lib.hid hb2; clear hb2)
    | (go_at_call 15; refine (awake_any _).mono ?_; rintro e w3 ⟨rfl, hb3⟩; have hX3 := (HB1.out.step HB2.out).step hb3; obtain ⟨r1, r2⟩ := hX3.c2; have HB3 := Lib.hid hX3; clear hX3 hb3))
  have hres : (w3.setCell ⟨w.heap.size + 1 + 1, 0, none⟩ (.bool true)).cell? ⟨w.heap.size + 1 + 1, 0, none⟩ = some (.bool true) := World.cell?_setCell_same' _ _ _ (by rw [r1]; rfl)
  refine bodyPost_ret (v := .bool true) ?_ rfl ⟨rfl, ?_⟩
  · rw [results_cell rfl]
    go_simp
  · exact HB3.out.below.setCell (p := ⟨w.heap.size + 1 + 1, 0, none⟩) (by simp; omega) _

set_option maxHeartbeats 16000000 in
set_option maxRecDepth 100000 in
theorem yes (t0 : Tr) (cs0 : List Value) (s : Int) (hs0 : 0 ≤ s) (hs1 : s < 256) (hgood : rightB t0 = true) (w : World) (hT0 : TreeAt w (fun b => b < w.heap.size) t0 cs0) :
    Calls Try.prog 8 #[.agg cs0.toArray, .int .u8 s] w fun e w' => e = .returned (.bool true) ∧ Below w.heap.size w w' := by
  obtain ⟨A1, n1, c1, A2, n2, c2, k, neg, nm, ex, rl, tr, al, rfl⟩ := hT0.nine
  have hx : Boxes w (((w.alloc (.cells #[.int .i64 k, .bool neg, .slice A1 n1 c1, .string nm, .int .i64 ex, .int .i64 rl, .bool tr, .bool al, .slice A2 n2 c2] TT)).alloc (.cells #[.int .u8 s] 5)).alloc (.cells #[.bool false] 4)) #[.int .i64 k, .bool neg, .slice A1 n1 c1, .string nm, .int .i64 ex, .int .i64 rl, .bool tr, .bool al, .slice A2 n2 c2] s false := B3.new w _ _ _ _ _ _
  have hgood2 := hgood
  unfold rightB at hgood2
  obtain ⟨hfew, his⟩ : fewB t0 300 = true ∧ isF t0 false = true := by simpa using hgood2
  have hsm := fewB_sm hfew
  have hnn := fewB_nn hfew
  obtain ⟨f, hof⟩ : ∃ f, ofF t0 = some f := by rw [isF_ofF] at his; exact Option.isSome_iff_exists.1 his
  have hrf := rf_of t0 f hof
  have hlt : ∀ w', Below (((w.alloc (.cells #[.int .i64 k, .bool neg, .slice A1 n1 c1, .string nm, .int .i64 ex, .int .i64 rl, .bool tr, .bool al, .slice A2 n2 c2] TT)).alloc (.cells #[.int .u8 s] 5)).alloc (.cells #[.bool false] 4)).heap.size (((w.alloc (.cells #[.int .i64 k, .bool neg, .slice A1 n1 c1, .string nm, .int .i64 ex, .int .i64 rl, .bool tr, .bool al, .slice A2 n2 c2] TT)).alloc (.cells #[.int .u8 s] 5)).alloc (.cells #[.bool false] 4)) w' → ∀ b, b < w.heap.size → b < w'.heap.size := fun w' h b hb => Nat.lt_of_lt_of_le hb (hx.step h).below.size
  have htb : ∀ w', Below (((w.alloc (.cells #[.int .i64 k, .bool neg, .slice A1 n1 c1, .string nm, .int .i64 ex, .int .i64 rl, .bool tr, .bool al, .slice A2 n2 c2] TT)).alloc (.cells #[.int .u8 s] 5)).alloc (.cells #[.bool false] 4)).heap.size (((w.alloc (.cells #[.int .i64 k, .bool neg, .slice A1 n1 c1, .string nm, .int .i64 ex, .int .i64 rl, .bool tr, .bool al, .slice A2 n2 c2] TT)).alloc (.cells #[.int .u8 s] 5)).alloc (.cells #[.bool false] 4)) w' → TreeAt w' (fun b => b < w.heap.size) t0 _ := fun w' h => hT0.below (fun b h => h) (hx.step h).below
  have HXB := Lib.hid (show ∀ w', Below (((w.alloc (.cells #[.int .i64 k, .bool neg, .slice A1 n1 c1, .string nm, .int .i64 ex, .int .i64 rl, .bool tr, .bool al, .slice A2 n2 c2] TT)).alloc (.cells #[.int .u8 s] 5)).alloc (.cells #[.bool false] 4)).heap.size (((w.alloc (.cells #[.int .i64 k, .bool neg, .slice A1 n1 c1, .string nm, .int .i64 ex, .int .i64 rl, .bool tr, .bool al, .slice A2 n2 c2] TT)).alloc (.cells #[.int .u8 s] 5)).alloc (.cells #[.bool false] 4)) w' → Boxes w w' #[.int .i64 k, .bool neg, .slice A1 n1 c1, .string nm, .int .i64 ex, .int .i64 rl, .bool tr, .bool al, .slice A2 n2 c2] s false from fun w' h => hx.step h)
  have hstep := Lib.hid (show ∀ w' wn, Below (((w.alloc (.cells #[.int .i64 k, .bool neg, .slice A1 n1 c1, .string nm, .int .i64 ex, .int .i64 rl, .bool tr, .bool al, .slice A2 n2 c2] TT)).alloc (.cells #[.int .u8 s] 5)).alloc (.cells #[.bool false] 4)).heap.size (((w.alloc (.cells #[.int .i64 k, .bool neg, .slice A1 n1 c1, .string nm, .int .i64 ex, .int .i64 rl, .bool tr, .bool al, .slice A2 n2 c2] TT)).alloc (.cells #[.int .u8 s] 5)).alloc (.cells #[.bool false] 4)) w' → Below w'.heap.size w' wn → Below (((w.alloc (.cells #[.int .i64 k, .bool neg, .slice A1 n1 c1, .string nm, .int .i64 ex, .int .i64 rl, .bool tr, .bool al, .slice A2 n2 c2] TT)).alloc (.cells #[.int .u8 s] 5)).alloc (.cells #[.bool false] 4)).heap.size (((w.alloc (.cells #[.int .i64 k, .bool neg, .slice A1 n1 c1, .string nm, .int .i64 ex, .int .i64 rl, .bool tr, .bool al, .slice A2 n2 c2] TT)).alloc (.cells #[.int .u8 s] 5)).alloc (.cells #[.bool false] 4)) wn from fun wc wn h1 h2 => h1.trans (h2.mono h1.size))
  have HRT := Lib.hid (show ∀ w', Below (((w.alloc (.cells #[.int .i64 k, .bool neg, .slice A1 n1 c1, .string nm, .int .i64 ex, .int .i64 rl, .bool tr, .bool al, .slice A2 n2 c2] TT)).alloc (.cells #[.int .u8 s] 5)).alloc (.cells #[.bool false] 4)).heap.size (((w.alloc (.cells #[.int .i64 k, .bool neg, .slice A1 n1 c1, .string nm, .int .i64 ex, .int .i64 rl, .bool tr, .bool al, .slice A2 n2 c2] TT)).alloc (.cells #[.int .u8 s] 5)).alloc (.cells #[.bool false] 4)) w' → Calls Try.prog 24 #[.agg #[.int .i64 k, .bool neg, .slice A1 n1 c1, .string nm, .int .i64 ex, .int .i64 rl, .bool tr, .bool al, .slice A2 n2 c2]] w' fun e w2 => e = .returned (.bool true) ∧ Below w'.heap.size w' w2 from fun w' hb => by rw [← hgood]; exact right_any t0 _ _ w' (hlt w' hb) (htb w' hb))
  have HOT := Lib.hid (show ∀ w', Below (((w.alloc (.cells #[.int .i64 k, .bool neg, .slice A1 n1 c1, .string nm, .int .i64 ex, .int .i64 rl, .bool tr, .bool al, .slice A2 n2 c2] TT)).alloc (.cells #[.int .u8 s] 5)).alloc (.cells #[.bool false] 4)).heap.size (((w.alloc (.cells #[.int .i64 k, .bool neg, .slice A1 n1 c1, .string nm, .int .i64 ex, .int .i64 rl, .bool tr, .bool al, .slice A2 n2 c2] TT)).alloc (.cells #[.int .u8 s] 5)).alloc (.cells #[.bool false] 4)) w' → Calls Try.prog 22 #[.agg #[.int .i64 k, .bool neg, .slice A1 n1 c1, .string nm, .int .i64 ex, .int .i64 rl, .bool tr, .bool al, .slice A2 n2 c2]] w' (OfPost t0 w') from fun w' hb => of_any t0 _ _ w' (hlt w' hb) (htb w' hb) hsm)
  obtain ⟨LL, hLL⟩ : ∃ l, l = partsL (flatF t0 0) := ⟨_, rfl⟩
  obtain ⟨N, hN⟩ : ∃ n, n = LL.length := ⟨_, rfl⟩
  have HPR := Lib.hid (show ∀ w', Below (((w.alloc (.cells #[.int .i64 k, .bool neg, .slice A1 n1 c1, .string nm, .int .i64 ex, .int .i64 rl, .bool tr, .bool al, .slice A2 n2 c2] TT)).alloc (.cells #[.int .u8 s] 5)).alloc (.cells #[.bool false] 4)).heap.size (((w.alloc (.cells #[.int .i64 k, .bool neg, .slice A1 n1 c1, .string nm, .int .i64 ex, .int .i64 rl, .bool tr, .bool al, .slice A2 n2 c2] TT)).alloc (.cells #[.int .u8 s] 5)).alloc (.cells #[.bool false] 4)) w' → Calls Try.prog 36 #[.agg #[.int .i64 k, .bool neg, .slice A1 n1 c1, .string nm, .int .i64 ex, .int .i64 rl, .bool tr, .bool al, .slice A2 n2 c2]] w' (PartsPost LL (fun b => b < w.heap.size) w') from fun w' hb => by rw [hLL]; exact parts_ref t0 _ _ w' (hlt w' hb) (htb w' hb) (by omega))
  have HN := Lib.hid hN
  have HLL := Lib.hid hLL
  have HOF := Lib.hid hof
  have HNE := Lib.hid (ofF_ne hof)
  have HRF := Lib.hid hrf
  have HSM := Lib.hid hsm
  have HNN := Lib.hid hnn
  have HT0 := Lib.hid htb
  clear hx hT0 hgood hgood2 hfew his hsm hnn hof hrf hlt htb hN hLL
  refine (callsIn_wide (n := 3)).1 (callsIn_of_wp_marks Try.func8 rfl trivial ?_ rfl)
  simp only [Try.ntmps8, List.size_toArray, List.length_cons, List.length_nil, Nat.reduceAdd, Nat.reduceSub, Array.replicate_succ, Array.replicate_zero, List.push_toArray, List.append_toArray, List.nil_append, List.cons_append]
  refine wpIn_wide.2 ?_
  go_wp2_with fail
  refine (awake_any _).mono ?_
  rintro e w1 ⟨rfl, k1⟩
  obtain ⟨p0, p1, p2, p3, p4, p5, p6, p7, p8⟩ := (HXB.out _ k1).box.c9
  go_wp2_with (first | (go_at_call 24; (with_reducible refine (HRT.out _ k1).mono ?_); rintro e w2 ⟨rfl, hb2⟩; have k2 := hstep.out _ _ k1 hb2; obtain ⟨f0, f1, f2, f3, f4, f5, f6, f7, f8⟩ := (HXB.out _ k2).box.c9; clear hb2) | (go_at_call 22; (with_reducible refine (HOT.out _ k2).mono ?_); intro e w3 hp; obtain ⟨v0, rfl, hv0, hb3⟩ := hp.yes HOF.out; obtain ⟨u0, z0, rfl⟩ := hv0.iface HNE.out; have HV0 := Lib.hid hv0; have k3 := hstep.out _ _ k2 hb3; obtain ⟨d0, d1, d2, d3, d4, d5, d6, d7, d8⟩ := (HXB.out _ k3).box.c9; clear hb3 hv0 hp) | (go_at_call 36; (with_reducible refine (HPR.out _ k3).mono ?_); intro e w4 hp; obtain ⟨v1, v2, xs, rfl, hoA, htA, hoB, hb4⟩ := hp; obtain ⟨r1, q1, rfl⟩ := row_form (by omega) hoA; obtain ⟨r2, q2, rfl⟩ := row_form (by omega) hoB; rw [← HN.out] at hoA hoB ⊢; have HOA := Lib.hid hoA; have HOB := Lib.hid hoB; have HTA := Lib.hid htA; have HB4 := Lib.hid hb4; have k4 := hstep.out _ _ k3 hb4; clear hoA htA hoB hb4))
  have HX4 := HXB.out _ k4
  obtain ⟨W5, hW5⟩ : ∃ W5, ((w4.alloc (Obj.cells #[Value.slice r1 N q1] 27)).alloc (Obj.cells #[Value.slice r2 N q2] 60)).alloc (Obj.cells #[Value.int IntKind.i64 0] 3) = W5 := ⟨_, rfl⟩
  have hb5 : B3 w4 W5 #[Value.slice r1 N q1] 27 #[Value.slice r2 N q2] 60 #[Value.int IntKind.i64 0] 3 := by rw [← hW5]; exact B3.new w4 _ _ _ _ _ _
  rw [hW5]
  have HV5 := Lib.hid ((HV0.out.below (fun b h => h.2) HB4.out).below (B := w4.heap.size) (fun b h => Nat.lt_of_lt_of_le h.2 HB4.out.size) hb5.below)
  have HB5 := Lib.hid hb5
  clear hW5 hb5
  refine (parts_fo t0 f _ _ W5 (fun b h => Nat.lt_of_lt_of_le h.2 (Nat.le_trans HB4.out.size HB5.out.below.size)) HV5.out HRF.out HSM.out).mono ?_
  intro e w6 hp
  obtain ⟨Bt, v6, rfl, hBt, hBt6, hc6, hf6, hb6⟩ := hp
  obtain ⟨X, hX⟩ : ∃ X, X = w4.heap.size + 1 + 1 := ⟨_, rfl⟩
  have HX6 := Lib.hid (HB5.out.step hb6)
  obtain ⟨hpl, hst⟩ := plainF_of HRF.out HSM.out
  obtain ⟨its, hits, hseq⟩ := parts1_stops (w0 := w6) (S := Fr W5 w6) (fun b => b = X) (fun b hb => by have := HX6.out.lt; omega) Bt hBt6 f v6 hc6 hf6 hst (by have := hgt_nn HRF.out; have := HNN.out; omega) (3 - 1)
  have HITN := Lib.hid (show its.length = N by rw [HN.out, HLL.out, (par_fo HRF.out HSM.out 0).1, ← hits, List.length_map])
  have hNpos : 0 < N := by rw [← HITN.out]; have h := congrArg List.length hits; rw [flatO_sub] at h; simp at h; omega
  obtain ⟨g1, cp1, hv1, _, _⟩ := HOA.out.form hNpos
  obtain ⟨g2, cp2, hv2, _, _⟩ := HOB.out.form hNpos
  injection hv1 with hv1a hv1b hv1c
  injection hv2 with hv2a hv2b hv2c
  subst hv1a hv1c hv2a hv2c
  have HB6 := Lib.hid hb6
  have hb6' := hb6
  have HITS := Lib.hid hits
  have HR2 := Lib.hid (show w.heap.size + 1 + 1 < w2.heap.size from (HXB.out _ k2).lt)
  have HT6 := Lib.hid (((HT0.out _ k4).below (B := w4.heap.size) (fun b hb => by have h1 := HX4.below.size; omega) HB5.out.below).below (B := W5.heap.size) (fun b hb => by have h1 := HX4.below.size; have h2 := HB5.out.below.size; omega) hb6')
  have HXB6 := Lib.hid ((HX4.step HB5.out.below).step hb6')
  have HB4L := Lib.hid (show w.heap.size + 1 + 1 < w4.heap.size from HX4.lt)
  have HSZ := Lib.hid (show w.heap.size ≤ w4.heap.size from HX4.below.size)
  clear hv1b hv2b hits hb6 hb6'
  go_wp2_with fail
  refine (wpIn_wide (n := 3)).1 ?_
  refine' wpIn_rangeFunc_ownF (F := Fence.wide) (n := 3) rfl (by omega) (gf := 69) (lb := #[.pointer (some ⟨Bt, 0, none⟩)]) rfl trivial (enters_of Try.func69 (by kernel_rfl) rfl)
    hseq (fun h k => h.trans k) (fun W l o o' _ h1 h2 _ => keep_turn W l o o' h1 h2) (Below.refl _ _) (fun _ => rfl) (PI X w6 s) (PX X w6 s its) (pi_own s (by have := HX6.out.lt; omega)) (px_own s its (by have := HX6.out.lt; omega))
    ⟨by rw [hX]; exact HX6.out.h2, Owns.refl _ _, hs0⟩ _ ?assign ?body ?done ?stop
  case assign =>
    intro l x W K hK
    simp only [itE]
    gi_wp2
    exact hK
  case body =>
    rintro l pre x W ⟨hcell, hO, hle⟩ hlen
    obtain ⟨n, hn⟩ : ∃ n, n = pre.length := ⟨_, rfl⟩
    rw [← hn] at hcell hle hlen
    have hnN : n < N := by rw [← HITN.out]; exact hlen
    have hbW : Below w4.heap.size w4 W := (HB5.out.below.trans (HB6.out.mono HB5.out.below.size)).trans (hO.below (by have := HX6.out.below.size; omega) (fun b hb => by rw [hb, hX]; omega))
    obtain ⟨td, B1, m1, e1, B2, m2, e2, k', neg', nm', ex', rl', tr', al', htd, hTd, hk', hnm', t0', t1', t2', t3', t4', t5', t6', t7', t8'⟩ := row_tree HOA.out HTA.out (by rw [List.length_map]; exact HN.out) hbW n hnN
    obtain ⟨p, hp⟩ : ∃ p, LL[n]? = some p := ⟨_, List.getElem?_eq_getElem (by have := HN.out; omega)⟩
    obtain rfl : p.1 = td := by rw [List.getElem?_map, hp] at htd; simpa using htd
    have hdc : W.cell? ⟨g2, n, none⟩ = some (.int .i64 p.2) := by
      have h3 := HOB.out.cells (g := g2) rfl n (.int .i64 p.2) (by simp [depC, hp])
      rw [addr_add] at h3
      exact (hbW.cell (p := ⟨g2, n, none⟩) (HOB.out.lt g2 rfl).2).trans h3
    obtain ⟨y7, y8, y9, y9f⟩ : W.cell? ⟨w4.heap.size, 0, none⟩ = some (Value.slice (some ⟨g1, 0, none⟩) N q1) ∧ W.cell? ⟨w4.heap.size + 1, 0, none⟩ = some (Value.slice (some ⟨g2, 0, none⟩) N q2) ∧ W.cell? ⟨w4.heap.size + 1 + 1, 0, none⟩ = some (.int .i64 n) ∧ W.frozen? ⟨w4.heap.size + 1 + 1, 0, none⟩ = false := by
      have hX6 := HX6.out
      have hl := hX6.lt
      refine ⟨(hO.cell (p := ⟨w4.heap.size, 0, none⟩) (by show w4.heap.size < _; omega) (by rw [hX]; show ¬ w4.heap.size = _; omega)).trans hX6.c0, (hO.cell (p := ⟨w4.heap.size + 1, 0, none⟩) (by show w4.heap.size + 1 < _; omega) (by rw [hX]; show ¬ w4.heap.size + 1 = _; omega)).trans hX6.c1, ?_, ?_⟩
      · rw [hX] at hcell; simp [World.cell?, hcell]
      · rw [hX] at hcell; simp [World.frozen?, hcell]
    have hxs : TreeAt W (fun b => b < w.heap.size) p.1 [.int .i64 k', .bool neg', .slice B1 m1 e1, .string nm', .int .i64 ex', .int .i64 rl', .bool tr', .bool al', .slice B2 m2 e2] := hTd.below (fun b hb => Nat.lt_of_lt_of_le hb HSZ.out) hbW
    have hxf : FoAt W (Fr W5 w6) x.1.f x.1.v := x.2.1.owns hO (fun b hb => ⟨hb.2, fun e => by have h1 := hb.1; have h2 := HB5.out.lt; omega⟩)
    obtain ⟨td, htd2⟩ : ∃ td, td = p.1 := ⟨_, rfl⟩
    obtain ⟨dp, hdp⟩ : ∃ d, d = p.2 := ⟨_, rfl⟩
    obtain ⟨xd, hxd⟩ : ∃ d, d = x.1.d := ⟨_, rfl⟩
    obtain ⟨xf, hxf2⟩ : ∃ f, f = x.1.f := ⟨_, rfl⟩
    obtain ⟨xv, hxv⟩ : ∃ v, v = x.1.v := ⟨_, rfl⟩
    have hpar := (par_fo HRF.out HSM.out 0)
    rw [← HLL.out] at hpar
    have hsmd : Sm p.1 := by
      have h1 : n < (flatO f 0).length := by rw [← hpar.1, ← HN.out]; exact hnN
      exact (hpar.get hp (List.getElem?_eq_getElem h1)).2.1
    have hnnd : nn p.1 ≤ 100000 := by
      have h1 : p ∈ flatF t0 0 := by
        have h2 := List.mem_of_getElem? hp
        rw [HLL.out] at h2
        exact (List.mem_filter.1 h2).1
      have := nn_mem h1
      have := HNN.out
      omega
    -- where the round agrees with the reference
    have hgood : pre ++ [x] <+: its → x.1.d = p.2 ∧ plainF x.1.f = canonT p.1 := by
      rintro ⟨r, hr⟩
      have h1 : its[n]? = some x := by rw [← hr, hn]; simp
      have h2 : (flatO f 0)[n]? = some (x.1.d, x.1.f) := by rw [← HITS.out, List.getElem?_map, h1]; rfl
      obtain ⟨h3, h4, h5⟩ := hpar.get hp h2
      exact ⟨h5.symm, (plainF_of h3 h4).1⟩
    rw [← htd2, ← hdp, ← hxd, ← hxf2] at hgood
    rw [← htd2] at hxs hsmd hnnd
    rw [← hdp] at hdc
    rw [← hxf2, ← hxv] at hxf
    have hxsm : SmF xf := by rw [hxf2]; exact x.2.2
    have hn2 : (n : Int) < N := by omega
    have hd1 : decide (N ≤ n) = false := by simp; omega
    have FACTS := Lib.hid (show ∀ wq, Below W.heap.size W wq → wq.cell? ⟨w4.heap.size, 0, none⟩ = some (Value.slice (some ⟨g1, 0, none⟩) N q1) ∧ wq.cell? ⟨w4.heap.size + 1, 0, none⟩ = some (Value.slice (some ⟨g2, 0, none⟩) N q2) ∧ wq.cell? ⟨w4.heap.size + 1 + 1, 0, none⟩ = some (.int .i64 n) ∧ wq.cell? ⟨g2, n, none⟩ = some (.int .i64 dp) ∧
      wq.cell? ⟨g1, n * 9, none⟩ = some (.int .i64 k') ∧ wq.cell? ⟨g1, n * 9 + 1, none⟩ = some (.bool neg') ∧ wq.cell? ⟨g1, n * 9 + 2, none⟩ = some (.slice B1 m1 e1) ∧ wq.cell? ⟨g1, n * 9 + 3, none⟩ = some (.string nm') ∧ wq.cell? ⟨g1, n * 9 + 4, none⟩ = some (.int .i64 ex') ∧ wq.cell? ⟨g1, n * 9 + 5, none⟩ = some (.int .i64 rl') ∧ wq.cell? ⟨g1, n * 9 + 6, none⟩ = some (.bool tr') ∧ wq.cell? ⟨g1, n * 9 + 7, none⟩ = some (.bool al') ∧ wq.cell? ⟨g1, n * 9 + 8, none⟩ = some (.slice B2 m2 e2)
      from fun wq hb => by
        have kk : ∀ (q : Addr) (u : Value), W.cell? q = some u → wq.cell? q = some u := fun q u h => (hb.cell (World.block_lt_of_cell? W q h)).trans h
        exact ⟨kk _ _ y7, kk _ _ y8, kk _ _ y9, kk _ _ hdc, kk _ _ t0', kk _ _ t1', kk _ _ t2', kk _ _ t3', kk _ _ t4', kk _ _ t5', kk _ _ t6', kk _ _ t7', kk _ _ t8'⟩)
    have HPL := Lib.hid (show ∀ wq, Below W.heap.size W wq → Calls Try.prog 23 #[xv] wq (TreePost (plainF xf) wq) from fun wq hb => plain_any xf xv (Fr W5 w6) wq (fun b h => by have h1 := h.2; have h2 := hO.size; have h3 := hb.size; omega) (hxf.below (B := W.heap.size) (fun b h => Nat.lt_of_lt_of_le h.2 hO.size) hb) hxsm)
    have HCN := Lib.hid (show ∀ wq, Below W.heap.size W wq → Calls Try.prog 21 #[.agg #[.int .i64 k', .bool neg', .slice B1 m1 e1, .string nm', .int .i64 ex', .int .i64 rl', .bool tr', .bool al', .slice B2 m2 e2]] wq (TreePost (canonT td) wq) from fun wq hb => canon_any td _ (fun b => b < w.heap.size) wq (fun b h => by have h1 := HSZ.out; have h2 := hbW.size; have h3 := hb.size; omega) (hxs.below (B := W.heap.size) (fun b h => by have h1 := HSZ.out; have h2 := hbW.size; omega) hb) hsmd hnnd)
    have FACT2 := Lib.hid (show ∀ wq, Below W.heap.size W wq → wq.cell? ⟨w.heap.size + 1 + 1, 0, none⟩ = some (.bool false) ∧ wq.frozen? ⟨w.heap.size + 1 + 1, 0, none⟩ = false ∧ wq.cell? ⟨w.heap.size + 1, 0, none⟩ = some (.int .u8 s) ∧ wq.frozen? ⟨w.heap.size + 1, 0, none⟩ = false
      from fun wq hb => by
        have hx6 := HXB6.out
        have hl := hx6.lt
        have hsz := HSZ.out
        have hB : ∀ b, b < w.heap.size + 1 + 1 + 1 → wq.heap[b]? = w6.heap[b]? := fun b hbl => (hb.block b (by have := hO.size; omega)).trans (hO.same b (by omega) (by show ¬ b = X; have := HB4L.out; omega))
        refine ⟨?_, ?_, ?_, ?_⟩ <;> simp [World.cell?, World.frozen?, hB _ (Nat.lt_succ_self _), hB (w.heap.size + 1) (by omega), hx6.h2, hx6.h1])
    have HY9 := Lib.hid y9
    have HGOOD := Lib.hid hgood
    have HXD := Lib.hid hxd
    have HXV := Lib.hid hxv
    have HO := Lib.hid hO
    have HCELL := Lib.hid hcell
    have HNP := Lib.hid hn
    have HLE := Lib.hid hle
    have HBW := Lib.hid hbW
    try dsimp only
    rw [← hxd, ← hxv]
    clear hgood hxd hxv hxf2 hdp htd2 hO hcell hn hle hbW hpar hsmd hnnd hxs hxf hxsm hTd hk' hnm' t0' t1' t2' t3' t4' t5' t6' t7' t8' htd hp hdc y7 y8
    have hcase : xd ≠ dp ∨ (xd = dp ∧ ¬ plainF xf = canonT td) ∨ (xd = dp ∧ plainF xf = canonT td) := by
      by_cases e1 : xd = dp
      · by_cases e2 : plainF xf = canonT td
        · exact .inr (.inr ⟨e1, e2⟩)
        · exact .inr (.inl ⟨e1, e2⟩)
      · exact .inl e1
    rcases hcase with hne | ⟨rfl, hne⟩ | ⟨rfl, heq⟩
    · have HBAD := Lib.hid (show ¬ pre ++ [x] <+: its from fun h => hne (HGOOD.out h).1)
      have hne1 : (xd != dp) = true := by simpa using hne
      gi_wp2
      refine wpIn_round_held (S := fun w' => Below W.heap.size W w') (by kernel_rfl) (by kernel_rfl) (by rintro ⟨_, _, h⟩; exact h) (Below.refl _ W).drew (fun hHeld => ?_)
      refine wpAnyH_take (i := 0) (oi := _) (v := ?_) rfl (by kernel_rfl) (by kernel_rfl) (by kernel_rfl) (fun _ _ _ h => h) (Or.inl ⟨by rfl, ?_⟩) hHeld ?_
      rotate_left
      · (intro wq hSw; obtain ⟨m7, m8, m9, md, j0, j1, j2, j3, j4, j5, j6, j7, j8⟩ := FACTS.out wq hSw; (try simp only [List.getElem_toArray, List.getElem_cons_zero, List.getElem_cons_succ]); (try go_simp); with_reducible rfl)
      try simp only [List.getElem_toArray, List.getElem_cons_zero, List.getElem_cons_succ, Act.put, List.setIfInBounds_toArray, List.set_cons_zero, List.set_cons_succ]
      refine wpAnyH_take (i := 1) (oi := _) (v := ?_) rfl (by kernel_rfl) (by kernel_rfl) (by kernel_rfl) (fun _ _ _ h => h) (Or.inl ⟨by rfl, ?_⟩) hHeld ?_
      rotate_left
      · (intro wq hSw; obtain ⟨m7, m8, m9, md, j0, j1, j2, j3, j4, j5, j6, j7, j8⟩ := FACTS.out wq hSw; (try simp only [List.getElem_toArray, List.getElem_cons_zero, List.getElem_cons_succ]); (try go_simp); with_reducible rfl)
      try simp only [List.getElem_toArray, List.getElem_cons_zero, List.getElem_cons_succ, Act.put, List.setIfInBounds_toArray, List.set_cons_zero, List.set_cons_succ]
      refine wpAnyH_take (i := 2) (oi := _) (v := ?_) rfl (by kernel_rfl) (by kernel_rfl) (by kernel_rfl) (fun _ _ _ h => h) (Or.inl ⟨by rfl, ?_⟩) hHeld ?_
      rotate_left
      · (intro wq hSw; obtain ⟨m7, m8, m9, md, j0, j1, j2, j3, j4, j5, j6, j7, j8⟩ := FACTS.out wq hSw; (try simp only [List.getElem_toArray, List.getElem_cons_zero, List.getElem_cons_succ]); (try go_simp); with_reducible rfl)
      try simp only [List.getElem_toArray, List.getElem_cons_zero, List.getElem_cons_succ, Act.put, List.setIfInBounds_toArray, List.set_cons_zero, List.set_cons_succ]
      refine wpAnyH_take (i := 3) (oi := _) (v := ?_) rfl (by kernel_rfl) (by kernel_rfl) (by kernel_rfl) (fun _ _ _ h => h) (Or.inl ⟨by rfl, ?_⟩) hHeld ?_
      rotate_left
      · (intro wq hSw; obtain ⟨m7, m8, m9, md, j0, j1, j2, j3, j4, j5, j6, j7, j8⟩ := FACTS.out wq hSw; (try simp only [List.getElem_toArray, List.getElem_cons_zero, List.getElem_cons_succ]); (try go_simp); with_reducible rfl)
      try simp only [List.getElem_toArray, List.getElem_cons_zero, List.getElem_cons_succ, Act.put, List.setIfInBounds_toArray, List.set_cons_zero, List.set_cons_succ]
      refine wpAnyH_take (i := 4) (oi := _) (v := ?_) rfl (by kernel_rfl) (by kernel_rfl) (by kernel_rfl) (fun _ _ _ h => h) (Or.inl ⟨by rfl, ?_⟩) hHeld ?_
      rotate_left
      · (intro wq hSw; obtain ⟨m7, m8, m9, md, j0, j1, j2, j3, j4, j5, j6, j7, j8⟩ := FACTS.out wq hSw; (try simp only [List.getElem_toArray, List.getElem_cons_zero, List.getElem_cons_succ]); (try go_simp); with_reducible rfl)
      try simp only [List.getElem_toArray, List.getElem_cons_zero, List.getElem_cons_succ, Act.put, List.setIfInBounds_toArray, List.set_cons_zero, List.set_cons_succ]
      refine wpAnyH_take (i := 5) (oi := _) (v := ?_) rfl (by kernel_rfl) (by kernel_rfl) (by kernel_rfl) (fun _ _ _ h => h) (Or.inl ⟨by rfl, ?_⟩) hHeld ?_
      rotate_left
      · (intro wq hSw; obtain ⟨m7, m8, m9, md, j0, j1, j2, j3, j4, j5, j6, j7, j8⟩ := FACTS.out wq hSw; (try simp only [List.getElem_toArray, List.getElem_cons_zero, List.getElem_cons_succ]); (try go_simp); with_reducible rfl)
      try simp only [List.getElem_toArray, List.getElem_cons_zero, List.getElem_cons_succ, Act.put, List.setIfInBounds_toArray, List.set_cons_zero, List.set_cons_succ]
      refine wpAnyH_take (i := 6) (oi := _) (v := ?_) rfl (by kernel_rfl) (by kernel_rfl) (by kernel_rfl) (fun _ _ _ h => h) (Or.inl ⟨by rfl, ?_⟩) hHeld ?_
      rotate_left
      · (intro wq hSw; obtain ⟨m7, m8, m9, md, j0, j1, j2, j3, j4, j5, j6, j7, j8⟩ := FACTS.out wq hSw; (try simp only [List.getElem_toArray, List.getElem_cons_zero, List.getElem_cons_succ]); (try go_simp); with_reducible rfl)
      try simp only [List.getElem_toArray, List.getElem_cons_zero, List.getElem_cons_succ, Act.put, List.setIfInBounds_toArray, List.set_cons_zero, List.set_cons_succ]
      refine wpAnyH_take (i := 7) (oi := _) (v := ?_) rfl (by kernel_rfl) (by kernel_rfl) (by kernel_rfl) (fun _ _ _ h => h) (Or.inl ⟨by rfl, ?_⟩) hHeld ?_
      rotate_left
      · (intro wq hSw; obtain ⟨m7, m8, m9, md, j0, j1, j2, j3, j4, j5, j6, j7, j8⟩ := FACTS.out wq hSw; (try simp only [List.getElem_toArray, List.getElem_cons_zero, List.getElem_cons_succ]); (try go_simp); with_reducible rfl)
      try simp only [List.getElem_toArray, List.getElem_cons_zero, List.getElem_cons_succ, Act.put, List.setIfInBounds_toArray, List.set_cons_zero, List.set_cons_succ]
      refine wpAnyH_take (i := 8) (oi := _) (v := ?_) rfl (by kernel_rfl) (by kernel_rfl) (by kernel_rfl) (fun _ _ _ h => h) (Or.inl ⟨by rfl, ?_⟩) hHeld ?_
      rotate_left
      · (intro wq hSw; obtain ⟨m7, m8, m9, md, j0, j1, j2, j3, j4, j5, j6, j7, j8⟩ := FACTS.out wq hSw; (try simp only [List.getElem_toArray, List.getElem_cons_zero, List.getElem_cons_succ]); (try go_simp); with_reducible rfl)
      try simp only [List.getElem_toArray, List.getElem_cons_zero, List.getElem_cons_succ, Act.put, List.setIfInBounds_toArray, List.set_cons_zero, List.set_cons_succ]
      refine wpAnyH_take (i := 9) (oi := _) (v := ?_) rfl (by kernel_rfl) (by kernel_rfl) (by kernel_rfl) (fun _ _ _ h => h) (Or.inl ⟨by rfl, ?_⟩) hHeld ?_
      rotate_left
      · (intro wq hSw; obtain ⟨m7, m8, m9, md, j0, j1, j2, j3, j4, j5, j6, j7, j8⟩ := FACTS.out wq hSw; (try simp only [List.getElem_toArray, List.getElem_cons_zero, List.getElem_cons_succ]); (try go_simp); with_reducible rfl)
      try simp only [List.getElem_toArray, List.getElem_cons_zero, List.getElem_cons_succ, Act.put, List.setIfInBounds_toArray, List.set_cons_zero, List.set_cons_succ]
      refine wpAnyH_take (i := 10) (oi := _) (v := ?_) rfl (by kernel_rfl) (by kernel_rfl) (by kernel_rfl) (fun _ _ _ h => h) (Or.inl ⟨by rfl, ?_⟩) hHeld ?_
      rotate_left
      · (intro wq hSw; obtain ⟨m7, m8, m9, md, j0, j1, j2, j3, j4, j5, j6, j7, j8⟩ := FACTS.out wq hSw; (try simp only [List.getElem_toArray, List.getElem_cons_zero, List.getElem_cons_succ]); (try go_simp); with_reducible rfl)
      try simp only [List.getElem_toArray, List.getElem_cons_zero, List.getElem_cons_succ, Act.put, List.setIfInBounds_toArray, List.set_cons_zero, List.set_cons_succ]
      refine wpAnyH_take (i := 11) (oi := _) (v := ?_) rfl (by kernel_rfl) (by kernel_rfl) (by kernel_rfl) (fun _ _ _ h => h) (Or.inl ⟨by rfl, ?_⟩) hHeld ?_
      rotate_left
      · (intro wq hSw; obtain ⟨m7, m8, m9, md, j0, j1, j2, j3, j4, j5, j6, j7, j8⟩ := FACTS.out wq hSw; (try simp only [List.getElem_toArray, List.getElem_cons_zero, List.getElem_cons_succ]); (try go_simp); with_reducible rfl)
      try simp only [List.getElem_toArray, List.getElem_cons_zero, List.getElem_cons_succ, Act.put, List.setIfInBounds_toArray, List.set_cons_zero, List.set_cons_succ]
      refine wpAnyH_take (i := 12) (oi := _) (v := ?_) rfl (by kernel_rfl) (by kernel_rfl) (by kernel_rfl) (fun _ _ _ h => h) (Or.inl ⟨by rfl, ?_⟩) hHeld ?_
      rotate_left
      · (intro wq hSw; obtain ⟨m7, m8, m9, md, j0, j1, j2, j3, j4, j5, j6, j7, j8⟩ := FACTS.out wq hSw; (try simp only [List.getElem_toArray, List.getElem_cons_zero, List.getElem_cons_succ]); (try go_simp); with_reducible rfl)
      try simp only [List.getElem_toArray, List.getElem_cons_zero, List.getElem_cons_succ, Act.put, List.setIfInBounds_toArray, List.set_cons_zero, List.set_cons_succ]
      refine wpAnyH_take (i := 13) (oi := _) (v := undef) rfl (by kernel_rfl) (by kernel_rfl) (by kernel_rfl) (fun _ _ _ h => h) (Or.inr ⟨by rfl, rfl⟩) hHeld ?_
      try simp only [List.getElem_toArray, List.getElem_cons_zero, List.getElem_cons_succ, Act.put, List.setIfInBounds_toArray, List.set_cons_zero, List.set_cons_succ]
      refine wpAnyH_take (i := 14) (oi := _) (v := undef) rfl (by kernel_rfl) (by kernel_rfl) (by kernel_rfl) (fun _ _ _ h => h) (Or.inr ⟨by rfl, rfl⟩) hHeld ?_
      try simp only [List.getElem_toArray, List.getElem_cons_zero, List.getElem_cons_succ, Act.put, List.setIfInBounds_toArray, List.set_cons_zero, List.set_cons_succ]
      refine wpAnyH_take (i := 15) (oi := _) (v := undef) rfl (by kernel_rfl) (by kernel_rfl) (by kernel_rfl) (fun _ _ _ h => h) (Or.inr ⟨by rfl, rfl⟩) hHeld ?_
      try simp only [List.getElem_toArray, List.getElem_cons_zero, List.getElem_cons_succ, Act.put, List.setIfInBounds_toArray, List.set_cons_zero, List.set_cons_succ]
      refine wpAnyH_take (i := 16) (oi := _) (v := undef) rfl (by kernel_rfl) (by kernel_rfl) (by kernel_rfl) (fun _ _ _ h => h) (Or.inr ⟨by rfl, rfl⟩) hHeld ?_
      try simp only [List.getElem_toArray, List.getElem_cons_zero, List.getElem_cons_succ, Act.put, List.setIfInBounds_toArray, List.set_cons_zero, List.set_cons_succ]
      refine wpAnyH_take (i := 17) (oi := _) (v := undef) rfl (by kernel_rfl) (by kernel_rfl) (by kernel_rfl) (fun _ _ _ h => h) (Or.inr ⟨by rfl, rfl⟩) hHeld ?_
      try simp only [List.getElem_toArray, List.getElem_cons_zero, List.getElem_cons_succ, Act.put, List.setIfInBounds_toArray, List.set_cons_zero, List.set_cons_succ]
      refine wpAnyH_take (i := 18) (oi := _) (v := undef) rfl (by kernel_rfl) (by kernel_rfl) (by kernel_rfl) (fun _ _ _ h => h) (Or.inr ⟨by rfl, rfl⟩) hHeld ?_
      try simp only [List.getElem_toArray, List.getElem_cons_zero, List.getElem_cons_succ, Act.put, List.setIfInBounds_toArray, List.set_cons_zero, List.set_cons_succ]
      refine wpAnyH_take (i := 19) (oi := _) (v := undef) rfl (by kernel_rfl) (by kernel_rfl) (by kernel_rfl) (fun _ _ _ h => h) (Or.inr ⟨by rfl, rfl⟩) hHeld ?_
      try simp only [List.getElem_toArray, List.getElem_cons_zero, List.getElem_cons_succ, Act.put, List.setIfInBounds_toArray, List.set_cons_zero, List.set_cons_succ]
      refine wpAnyH_take (i := 20) (oi := _) (v := undef) rfl (by kernel_rfl) (by kernel_rfl) (by kernel_rfl) (fun _ _ _ h => h) (Or.inr ⟨by rfl, rfl⟩) hHeld ?_
      try simp only [List.getElem_toArray, List.getElem_cons_zero, List.getElem_cons_succ, Act.put, List.setIfInBounds_toArray, List.set_cons_zero, List.set_cons_succ]
      refine wpAnyH_take (i := 21) (oi := _) (v := undef) rfl (by kernel_rfl) (by kernel_rfl) (by kernel_rfl) (fun _ _ _ h => h) (Or.inr ⟨by rfl, rfl⟩) hHeld ?_
      try simp only [List.getElem_toArray, List.getElem_cons_zero, List.getElem_cons_succ, Act.put, List.setIfInBounds_toArray, List.set_cons_zero, List.set_cons_succ]
      refine wpAnyH_take (i := 22) (oi := _) (v := ?_) rfl (by kernel_rfl) (by kernel_rfl) (by kernel_rfl) (fun _ _ _ h => h) (Or.inl ⟨by rfl, ?_⟩) hHeld ?_
      rotate_left
      · (intro wq hSw; obtain ⟨m7, m8, m9, md, j0, j1, j2, j3, j4, j5, j6, j7, j8⟩ := FACTS.out wq hSw; (try simp only [List.getElem_toArray, List.getElem_cons_zero, List.getElem_cons_succ]); (try go_simp); with_reducible rfl)
      try simp only [List.getElem_toArray, List.getElem_cons_zero, List.getElem_cons_succ, Act.put, List.setIfInBounds_toArray, List.set_cons_zero, List.set_cons_succ]
      refine wpAnyH_done (by kernel_rfl) ?_ _
      obtain ⟨z1, z2, z3, z4⟩ := FACT2.out _ hHeld
      have HH := Lib.hid hHeld
      clear hHeld hne hne1
      gi_wp2
      exact ⟨(keepsB HH.out).trans (KeepsOthers.setCell _ _ _), .inr ⟨rfl, HBAD.out⟩⟩
    · have HBAD := Lib.hid (show ¬ pre ++ [x] <+: its from fun h => hne (HGOOD.out h).2)
      have HSM9 := Lib.hid hne
      clear hne
      gi_wp2
      refine wpIn_round_held (S := fun w' => Below W.heap.size W w') (by kernel_rfl) (by kernel_rfl) (by rintro ⟨_, _, h⟩; exact h) (Below.refl _ W).drew (fun hHeld => ?_)
      refine wpAnyH_take (i := 0) (oi := _) (v := ?_) rfl (by kernel_rfl) (by kernel_rfl) (by kernel_rfl) (fun _ _ _ h => h) (Or.inl ⟨by rfl, ?_⟩) hHeld ?_
      rotate_left
      · (intro wq hSw; obtain ⟨m7, m8, m9, md, j0, j1, j2, j3, j4, j5, j6, j7, j8⟩ := FACTS.out wq hSw; (try simp only [List.getElem_toArray, List.getElem_cons_zero, List.getElem_cons_succ]); (try go_simp); with_reducible rfl)
      try simp only [List.getElem_toArray, List.getElem_cons_zero, List.getElem_cons_succ, Act.put, List.setIfInBounds_toArray, List.set_cons_zero, List.set_cons_succ]
      refine wpAnyH_take (i := 1) (oi := _) (v := ?_) rfl (by kernel_rfl) (by kernel_rfl) (by kernel_rfl) (fun _ _ _ h => h) (Or.inl ⟨by rfl, ?_⟩) hHeld ?_
      rotate_left
      · (intro wq hSw; obtain ⟨m7, m8, m9, md, j0, j1, j2, j3, j4, j5, j6, j7, j8⟩ := FACTS.out wq hSw; (try simp only [List.getElem_toArray, List.getElem_cons_zero, List.getElem_cons_succ]); (try go_simp); with_reducible rfl)
      try simp only [List.getElem_toArray, List.getElem_cons_zero, List.getElem_cons_succ, Act.put, List.setIfInBounds_toArray, List.set_cons_zero, List.set_cons_succ]
      refine wpAnyH_take (i := 2) (oi := _) (v := ?_) rfl (by kernel_rfl) (by kernel_rfl) (by kernel_rfl) (fun _ _ _ h => h) (Or.inl ⟨by rfl, ?_⟩) hHeld ?_
      rotate_left
      · (intro wq hSw; obtain ⟨m7, m8, m9, md, j0, j1, j2, j3, j4, j5, j6, j7, j8⟩ := FACTS.out wq hSw; (try simp only [List.getElem_toArray, List.getElem_cons_zero, List.getElem_cons_succ]); (try go_simp); with_reducible rfl)
      try simp only [List.getElem_toArray, List.getElem_cons_zero, List.getElem_cons_succ, Act.put, List.setIfInBounds_toArray, List.set_cons_zero, List.set_cons_succ]
      refine wpAnyH_take (i := 3) (oi := _) (v := ?_) rfl (by kernel_rfl) (by kernel_rfl) (by kernel_rfl) (fun _ _ _ h => h) (Or.inl ⟨by rfl, ?_⟩) hHeld ?_
      rotate_left
      · (intro wq hSw; obtain ⟨m7, m8, m9, md, j0, j1, j2, j3, j4, j5, j6, j7, j8⟩ := FACTS.out wq hSw; (try simp only [List.getElem_toArray, List.getElem_cons_zero, List.getElem_cons_succ]); (try go_simp); with_reducible rfl)
      try simp only [List.getElem_toArray, List.getElem_cons_zero, List.getElem_cons_succ, Act.put, List.setIfInBounds_toArray, List.set_cons_zero, List.set_cons_succ]
      refine wpAnyH_take (i := 4) (oi := _) (v := ?_) rfl (by kernel_rfl) (by kernel_rfl) (by kernel_rfl) (fun _ _ _ h => h) (Or.inl ⟨by rfl, ?_⟩) hHeld ?_
      rotate_left
      · (intro wq hSw; obtain ⟨m7, m8, m9, md, j0, j1, j2, j3, j4, j5, j6, j7, j8⟩ := FACTS.out wq hSw; (try simp only [List.getElem_toArray, List.getElem_cons_zero, List.getElem_cons_succ]); (try go_simp); with_reducible rfl)
      try simp only [List.getElem_toArray, List.getElem_cons_zero, List.getElem_cons_succ, Act.put, List.setIfInBounds_toArray, List.set_cons_zero, List.set_cons_succ]
      refine wpAnyH_take (i := 5) (oi := _) (v := ?_) rfl (by kernel_rfl) (by kernel_rfl) (by kernel_rfl) (fun _ _ _ h => h) (Or.inl ⟨by rfl, ?_⟩) hHeld ?_
      rotate_left
      · (intro wq hSw; obtain ⟨m7, m8, m9, md, j0, j1, j2, j3, j4, j5, j6, j7, j8⟩ := FACTS.out wq hSw; (try simp only [List.getElem_toArray, List.getElem_cons_zero, List.getElem_cons_succ]); (try go_simp); with_reducible rfl)
      try simp only [List.getElem_toArray, List.getElem_cons_zero, List.getElem_cons_succ, Act.put, List.setIfInBounds_toArray, List.set_cons_zero, List.set_cons_succ]
      refine wpAnyH_take (i := 6) (oi := _) (v := ?_) rfl (by kernel_rfl) (by kernel_rfl) (by kernel_rfl) (fun _ _ _ h => h) (Or.inl ⟨by rfl, ?_⟩) hHeld ?_
      rotate_left
      · (intro wq hSw; obtain ⟨m7, m8, m9, md, j0, j1, j2, j3, j4, j5, j6, j7, j8⟩ := FACTS.out wq hSw; (try simp only [List.getElem_toArray, List.getElem_cons_zero, List.getElem_cons_succ]); (try go_simp); with_reducible rfl)
      try simp only [List.getElem_toArray, List.getElem_cons_zero, List.getElem_cons_succ, Act.put, List.setIfInBounds_toArray, List.set_cons_zero, List.set_cons_succ]
      refine wpAnyH_take (i := 7) (oi := _) (v := ?_) rfl (by kernel_rfl) (by kernel_rfl) (by kernel_rfl) (fun _ _ _ h => h) (Or.inl ⟨by rfl, ?_⟩) hHeld ?_
      rotate_left
      · (intro wq hSw; obtain ⟨m7, m8, m9, md, j0, j1, j2, j3, j4, j5, j6, j7, j8⟩ := FACTS.out wq hSw; (try simp only [List.getElem_toArray, List.getElem_cons_zero, List.getElem_cons_succ]); (try go_simp); with_reducible rfl)
      try simp only [List.getElem_toArray, List.getElem_cons_zero, List.getElem_cons_succ, Act.put, List.setIfInBounds_toArray, List.set_cons_zero, List.set_cons_succ]
      refine wpAnyH_take (i := 8) (oi := _) (v := ?_) rfl (by kernel_rfl) (by kernel_rfl) (by kernel_rfl) (fun _ _ _ h => h) (Or.inl ⟨by rfl, ?_⟩) hHeld ?_
      rotate_left
      · (intro wq hSw; obtain ⟨m7, m8, m9, md, j0, j1, j2, j3, j4, j5, j6, j7, j8⟩ := FACTS.out wq hSw; (try simp only [List.getElem_toArray, List.getElem_cons_zero, List.getElem_cons_succ]); (try go_simp); with_reducible rfl)
      try simp only [List.getElem_toArray, List.getElem_cons_zero, List.getElem_cons_succ, Act.put, List.setIfInBounds_toArray, List.set_cons_zero, List.set_cons_succ]
      refine wpAnyH_take (i := 9) (oi := _) (v := ?_) rfl (by kernel_rfl) (by kernel_rfl) (by kernel_rfl) (fun _ _ _ h => h) (Or.inl ⟨by rfl, ?_⟩) hHeld ?_
      rotate_left
      · (intro wq hSw; obtain ⟨m7, m8, m9, md, j0, j1, j2, j3, j4, j5, j6, j7, j8⟩ := FACTS.out wq hSw; (try simp only [List.getElem_toArray, List.getElem_cons_zero, List.getElem_cons_succ]); (try go_simp); with_reducible rfl)
      try simp only [List.getElem_toArray, List.getElem_cons_zero, List.getElem_cons_succ, Act.put, List.setIfInBounds_toArray, List.set_cons_zero, List.set_cons_succ]
      refine wpAnyH_take (i := 10) (oi := _) (v := ?_) rfl (by kernel_rfl) (by kernel_rfl) (by kernel_rfl) (fun _ _ _ h => h) (Or.inl ⟨by rfl, ?_⟩) hHeld ?_
      rotate_left
      · (intro wq hSw; obtain ⟨m7, m8, m9, md, j0, j1, j2, j3, j4, j5, j6, j7, j8⟩ := FACTS.out wq hSw; (try simp only [List.getElem_toArray, List.getElem_cons_zero, List.getElem_cons_succ]); (try go_simp); with_reducible rfl)
      try simp only [List.getElem_toArray, List.getElem_cons_zero, List.getElem_cons_succ, Act.put, List.setIfInBounds_toArray, List.set_cons_zero, List.set_cons_succ]
      refine wpAnyH_take (i := 11) (oi := _) (v := ?_) rfl (by kernel_rfl) (by kernel_rfl) (by kernel_rfl) (fun _ _ _ h => h) (Or.inl ⟨by rfl, ?_⟩) hHeld ?_
      rotate_left
      · (intro wq hSw; obtain ⟨m7, m8, m9, md, j0, j1, j2, j3, j4, j5, j6, j7, j8⟩ := FACTS.out wq hSw; (try simp only [List.getElem_toArray, List.getElem_cons_zero, List.getElem_cons_succ]); (try go_simp); with_reducible rfl)
      try simp only [List.getElem_toArray, List.getElem_cons_zero, List.getElem_cons_succ, Act.put, List.setIfInBounds_toArray, List.set_cons_zero, List.set_cons_succ]
      refine wpAnyH_take (i := 12) (oi := _) (v := ?_) rfl (by kernel_rfl) (by kernel_rfl) (by kernel_rfl) (fun _ _ _ h => h) (Or.inl ⟨by rfl, ?_⟩) hHeld ?_
      rotate_left
      · (intro wq hSw; obtain ⟨m7, m8, m9, md, j0, j1, j2, j3, j4, j5, j6, j7, j8⟩ := FACTS.out wq hSw; (try simp only [List.getElem_toArray, List.getElem_cons_zero, List.getElem_cons_succ]); (try go_simp); with_reducible rfl)
      try simp only [List.getElem_toArray, List.getElem_cons_zero, List.getElem_cons_succ, Act.put, List.setIfInBounds_toArray, List.set_cons_zero, List.set_cons_succ]
      refine wpAnyH_take (i := 13) (oi := _) (v := ?_) rfl (by kernel_rfl) (by kernel_rfl) (by kernel_rfl) (fun _ _ _ h => h) (Or.inl ⟨by rfl, ?_⟩) hHeld ?_
      rotate_left
      · (intro wq hSw; obtain ⟨m7, m8, m9, md, j0, j1, j2, j3, j4, j5, j6, j7, j8⟩ := FACTS.out wq hSw; (try simp only [List.getElem_toArray, List.getElem_cons_zero, List.getElem_cons_succ]); (try go_simp); with_reducible rfl)
      try simp only [List.getElem_toArray, List.getElem_cons_zero, List.getElem_cons_succ, Act.put, List.setIfInBounds_toArray, List.set_cons_zero, List.set_cons_succ]
      refine wpAnyH_take (i := 15) (oi := _) (v := ?_) rfl (by kernel_rfl) (by kernel_rfl) (by kernel_rfl) (fun _ _ _ h => h) (Or.inl ⟨by rfl, ?_⟩) hHeld ?_
      rotate_left
      · (intro wq hSw; obtain ⟨m7, m8, m9, md, j0, j1, j2, j3, j4, j5, j6, j7, j8⟩ := FACTS.out wq hSw; (try simp only [List.getElem_toArray, List.getElem_cons_zero, List.getElem_cons_succ]); (try go_simp); with_reducible rfl)
      try simp only [List.getElem_toArray, List.getElem_cons_zero, List.getElem_cons_succ, Act.put, List.setIfInBounds_toArray, List.set_cons_zero, List.set_cons_succ]
      refine wpAnyH_take (i := 16) (oi := _) (v := ?_) rfl (by kernel_rfl) (by kernel_rfl) (by kernel_rfl) (fun _ _ _ h => h) (Or.inl ⟨by rfl, ?_⟩) hHeld ?_
      rotate_left
      · (intro wq hSw; obtain ⟨m7, m8, m9, md, j0, j1, j2, j3, j4, j5, j6, j7, j8⟩ := FACTS.out wq hSw; (try simp only [List.getElem_toArray, List.getElem_cons_zero, List.getElem_cons_succ]); (try go_simp); with_reducible rfl)
      try simp only [List.getElem_toArray, List.getElem_cons_zero, List.getElem_cons_succ, Act.put, List.setIfInBounds_toArray, List.set_cons_zero, List.set_cons_succ]
      refine wpAnyH_take (i := 17) (oi := _) (v := ?_) rfl (by kernel_rfl) (by kernel_rfl) (by kernel_rfl) (fun _ _ _ h => h) (Or.inl ⟨by rfl, ?_⟩) hHeld ?_
      rotate_left
      · (intro wq hSw; obtain ⟨m7, m8, m9, md, j0, j1, j2, j3, j4, j5, j6, j7, j8⟩ := FACTS.out wq hSw; (try simp only [List.getElem_toArray, List.getElem_cons_zero, List.getElem_cons_succ]); (try go_simp); with_reducible rfl)
      try simp only [List.getElem_toArray, List.getElem_cons_zero, List.getElem_cons_succ, Act.put, List.setIfInBounds_toArray, List.set_cons_zero, List.set_cons_succ]
      refine wpAnyH_take (i := 18) (oi := _) (v := ?_) rfl (by kernel_rfl) (by kernel_rfl) (by kernel_rfl) (fun _ _ _ h => h) (Or.inl ⟨by rfl, ?_⟩) hHeld ?_
      rotate_left
      · (intro wq hSw; obtain ⟨m7, m8, m9, md, j0, j1, j2, j3, j4, j5, j6, j7, j8⟩ := FACTS.out wq hSw; (try simp only [List.getElem_toArray, List.getElem_cons_zero, List.getElem_cons_succ]); (try go_simp); with_reducible rfl)
      try simp only [List.getElem_toArray, List.getElem_cons_zero, List.getElem_cons_succ, Act.put, List.setIfInBounds_toArray, List.set_cons_zero, List.set_cons_succ]
      refine wpAnyH_ready (rs := [14]) (by kernel_rfl) (by simp) ?_
      refine AllReadyH.cons (o := _) rfl (fun K hK => ?_) AllReadyH.nil
      (try simp only [List.getElem_toArray, List.getElem_cons_zero, List.getElem_cons_succ])
      go_simp
      (go_at_call 23; refine (HPL.out _ hHeld).mono ?_; rintro e w7 ⟨e1, e2, e3, e4, e5, e6, rfl, htA, hbA⟩; have hNew : Below W.heap.size W w7 := Below.trans hHeld (hbA.mono (Below.size hHeld)); have HTA := Lib.hid htA; clear htA hbA)
      clear hHeld
      refine hK.out _ _ hNew (fun hHeld => ?_)
      clear hK K hNew
      try simp only [List.getElem_toArray, List.getElem_cons_zero, List.getElem_cons_succ, Act.put, List.setIfInBounds_toArray, List.set_cons_zero, List.set_cons_succ]
      refine wpAnyH_ready (rs := [19]) (by kernel_rfl) (by simp) ?_
      refine AllReadyH.cons (o := _) rfl (fun K hK => ?_) AllReadyH.nil
      (try simp only [List.getElem_toArray, List.getElem_cons_zero, List.getElem_cons_succ])
      go_simp
      (go_at_call 21; refine (HCN.out _ hHeld).mono ?_; rintro e w8 ⟨f1, f2, f3, f4, f5, f6, rfl, htB, hbB⟩; have hNew : Below W.heap.size W w8 := Below.trans hHeld (hbB.mono (Below.size hHeld)); have HTB := Lib.hid htB; have HTC := Lib.hid (HTA.out.below (B := w7.heap.size) (fun b h => h.2) hbB); have HSZ8 := Lib.hid hbB.size; clear htB hbB)
      clear hHeld
      refine hK.out _ _ hNew (fun hHeld => ?_)
      clear hK K hNew
      try simp only [List.getElem_toArray, List.getElem_cons_zero, List.getElem_cons_succ, Act.put, List.setIfInBounds_toArray, List.set_cons_zero, List.set_cons_succ]
      refine wpAnyH_ready (rs := [20]) (by kernel_rfl) (by simp) ?_
      refine AllReadyH.cons (o := _) rfl (fun K hK => ?_) AllReadyH.nil
      (try simp only [List.getElem_toArray, List.getElem_cons_zero, List.getElem_cons_succ])
      go_simp
      (go_at_call 19; refine (same_any (plainF xf) (canonT td) (hdC (plainF xf).h (.slice e1 e2 e3) (.slice e4 e5 e6)) (hdC (canonT td).h (.slice f1 f2 f3) (.slice f4 f5 f6)) (fun b => b < w8.heap.size) false w8 (fun b h => h) (TreeAt.more (fun b h => Nat.lt_of_lt_of_le h.2 HSZ8.out) _ _ HTC.out) (TreeAt.more (fun b h => h.2) _ _ HTB.out) ⟨fun h => Bool.noConfusion h, fun h => (HSM9.out h).elim⟩).mono ?_; rintro e w9 ⟨rfl, hb9⟩; have hNew : Below W.heap.size W w9 := Below.trans hHeld (hb9.mono (Below.size hHeld)); clear hb9)
      clear hHeld
      refine hK.out _ _ hNew (fun hHeld => ?_)
      clear hK K hNew
      try simp only [List.getElem_toArray, List.getElem_cons_zero, List.getElem_cons_succ, Act.put, List.setIfInBounds_toArray, List.set_cons_zero, List.set_cons_succ]
      refine wpAnyH_take (i := 21) (oi := _) (v := ?_) rfl (by kernel_rfl) (by kernel_rfl) (by kernel_rfl) (fun _ _ _ h => h) (Or.inl ⟨by rfl, ?_⟩) hHeld ?_
      rotate_left
      · (intro wq hSw; obtain ⟨m7, m8, m9, md, j0, j1, j2, j3, j4, j5, j6, j7, j8⟩ := FACTS.out wq hSw; (try simp only [List.getElem_toArray, List.getElem_cons_zero, List.getElem_cons_succ]); (try go_simp); with_reducible rfl)
      try simp only [List.getElem_toArray, List.getElem_cons_zero, List.getElem_cons_succ, Act.put, List.setIfInBounds_toArray, List.set_cons_zero, List.set_cons_succ]
      refine wpAnyH_take (i := 22) (oi := _) (v := ?_) rfl (by kernel_rfl) (by kernel_rfl) (by kernel_rfl) (fun _ _ _ h => h) (Or.inl ⟨by rfl, ?_⟩) hHeld ?_
      rotate_left
      · (intro wq hSw; obtain ⟨m7, m8, m9, md, j0, j1, j2, j3, j4, j5, j6, j7, j8⟩ := FACTS.out wq hSw; (try simp only [List.getElem_toArray, List.getElem_cons_zero, List.getElem_cons_succ]); (try go_simp); with_reducible rfl)
      try simp only [List.getElem_toArray, List.getElem_cons_zero, List.getElem_cons_succ, Act.put, List.setIfInBounds_toArray, List.set_cons_zero, List.set_cons_succ]
      refine wpAnyH_done (by kernel_rfl) ?_ _
      obtain ⟨z1, z2, z3, z4⟩ := FACT2.out _ hHeld
      have HH := Lib.hid hHeld
      clear hHeld
      gi_wp2
      exact ⟨(keepsB HH.out).trans (KeepsOthers.setCell _ _ _), .inr ⟨rfl, HBAD.out⟩⟩
    · have HSM9 := Lib.hid heq
      clear heq
      gi_wp2
      refine wpIn_round_held (S := fun w' => Below W.heap.size W w') (by kernel_rfl) (by kernel_rfl) (by rintro ⟨_, _, h⟩; exact h) (Below.refl _ W).drew (fun hHeld => ?_)
      refine wpAnyH_take (i := 0) (oi := _) (v := ?_) rfl (by kernel_rfl) (by kernel_rfl) (by kernel_rfl) (fun _ _ _ h => h) (Or.inl ⟨by rfl, ?_⟩) hHeld ?_
      rotate_left
      · (intro wq hSw; obtain ⟨m7, m8, m9, md, j0, j1, j2, j3, j4, j5, j6, j7, j8⟩ := FACTS.out wq hSw; (try simp only [List.getElem_toArray, List.getElem_cons_zero, List.getElem_cons_succ]); (try go_simp); with_reducible rfl)
      try simp only [List.getElem_toArray, List.getElem_cons_zero, List.getElem_cons_succ, Act.put, List.setIfInBounds_toArray, List.set_cons_zero, List.set_cons_succ]
      refine wpAnyH_take (i := 1) (oi := _) (v := ?_) rfl (by kernel_rfl) (by kernel_rfl) (by kernel_rfl) (fun _ _ _ h => h) (Or.inl ⟨by rfl, ?_⟩) hHeld ?_
      rotate_left
      · (intro wq hSw; obtain ⟨m7, m8, m9, md, j0, j1, j2, j3, j4, j5, j6, j7, j8⟩ := FACTS.out wq hSw; (try simp only [List.getElem_toArray, List.getElem_cons_zero, List.getElem_cons_succ]); (try go_simp); with_reducible rfl)
      try simp only [List.getElem_toArray, List.getElem_cons_zero, List.getElem_cons_succ, Act.put, List.setIfInBounds_toArray, List.set_cons_zero, List.set_cons_succ]
      refine wpAnyH_take (i := 2) (oi := _) (v := ?_) rfl (by kernel_rfl) (by kernel_rfl) (by kernel_rfl) (fun _ _ _ h => h) (Or.inl ⟨by rfl, ?_⟩) hHeld ?_
      rotate_left
      · (intro wq hSw; obtain ⟨m7, m8, m9, md, j0, j1, j2, j3, j4, j5, j6, j7, j8⟩ := FACTS.out wq hSw; (try simp only [List.getElem_toArray, List.getElem_cons_zero, List.getElem_cons_succ]); (try go_simp); with_reducible rfl)
      try simp only [List.getElem_toArray, List.getElem_cons_zero, List.getElem_cons_succ, Act.put, List.setIfInBounds_toArray, List.set_cons_zero, List.set_cons_succ]
      refine wpAnyH_take (i := 3) (oi := _) (v := ?_) rfl (by kernel_rfl) (by kernel_rfl) (by kernel_rfl) (fun _ _ _ h => h) (Or.inl ⟨by rfl, ?_⟩) hHeld ?_
      rotate_left
      · (intro wq hSw; obtain ⟨m7, m8, m9, md, j0, j1, j2, j3, j4, j5, j6, j7, j8⟩ := FACTS.out wq hSw; (try simp only [List.getElem_toArray, List.getElem_cons_zero, List.getElem_cons_succ]); (try go_simp); with_reducible rfl)
      try simp only [List.getElem_toArray, List.getElem_cons_zero, List.getElem_cons_succ, Act.put, List.setIfInBounds_toArray, List.set_cons_zero, List.set_cons_succ]
      refine wpAnyH_take (i := 4) (oi := _) (v := ?_) rfl (by kernel_rfl) (by kernel_rfl) (by kernel_rfl) (fun _ _ _ h => h) (Or.inl ⟨by rfl, ?_⟩) hHeld ?_
      rotate_left
      · (intro wq hSw; obtain ⟨m7, m8, m9, md, j0, j1, j2, j3, j4, j5, j6, j7, j8⟩ := FACTS.out wq hSw; (try simp only [List.getElem_toArray, List.getElem_cons_zero, List.getElem_cons_succ]); (try go_simp); with_reducible rfl)
      try simp only [List.getElem_toArray, List.getElem_cons_zero, List.getElem_cons_succ, Act.put, List.setIfInBounds_toArray, List.set_cons_zero, List.set_cons_succ]
      refine wpAnyH_take (i := 5) (oi := _) (v := ?_) rfl (by kernel_rfl) (by kernel_rfl) (by kernel_rfl) (fun _ _ _ h => h) (Or.inl ⟨by rfl, ?_⟩) hHeld ?_
      rotate_left
      · (intro wq hSw; obtain ⟨m7, m8, m9, md, j0, j1, j2, j3, j4, j5, j6, j7, j8⟩ := FACTS.out wq hSw; (try simp only [List.getElem_toArray, List.getElem_cons_zero, List.getElem_cons_succ]); (try go_simp); with_reducible rfl)
      try simp only [List.getElem_toArray, List.getElem_cons_zero, List.getElem_cons_succ, Act.put, List.setIfInBounds_toArray, List.set_cons_zero, List.set_cons_succ]
      refine wpAnyH_take (i := 6) (oi := _) (v := ?_) rfl (by kernel_rfl) (by kernel_rfl) (by kernel_rfl) (fun _ _ _ h => h) (Or.inl ⟨by rfl, ?_⟩) hHeld ?_
      rotate_left
      · (intro wq hSw; obtain ⟨m7, m8, m9, md, j0, j1, j2, j3, j4, j5, j6, j7, j8⟩ := FACTS.out wq hSw; (try simp only [List.getElem_toArray, List.getElem_cons_zero, List.getElem_cons_succ]); (try go_simp); with_reducible rfl)
      try simp only [List.getElem_toArray, List.getElem_cons_zero, List.getElem_cons_succ, Act.put, List.setIfInBounds_toArray, List.set_cons_zero, List.set_cons_succ]
      refine wpAnyH_take (i := 7) (oi := _) (v := ?_) rfl (by kernel_rfl) (by kernel_rfl) (by kernel_rfl) (fun _ _ _ h => h) (Or.inl ⟨by rfl, ?_⟩) hHeld ?_
      rotate_left
      · (intro wq hSw; obtain ⟨m7, m8, m9, md, j0, j1, j2, j3, j4, j5, j6, j7, j8⟩ := FACTS.out wq hSw; (try simp only [List.getElem_toArray, List.getElem_cons_zero, List.getElem_cons_succ]); (try go_simp); with_reducible rfl)
      try simp only [List.getElem_toArray, List.getElem_cons_zero, List.getElem_cons_succ, Act.put, List.setIfInBounds_toArray, List.set_cons_zero, List.set_cons_succ]
      refine wpAnyH_take (i := 8) (oi := _) (v := ?_) rfl (by kernel_rfl) (by kernel_rfl) (by kernel_rfl) (fun _ _ _ h => h) (Or.inl ⟨by rfl, ?_⟩) hHeld ?_
      rotate_left
      · (intro wq hSw; obtain ⟨m7, m8, m9, md, j0, j1, j2, j3, j4, j5, j6, j7, j8⟩ := FACTS.out wq hSw; (try simp only [List.getElem_toArray, List.getElem_cons_zero, List.getElem_cons_succ]); (try go_simp); with_reducible rfl)
      try simp only [List.getElem_toArray, List.getElem_cons_zero, List.getElem_cons_succ, Act.put, List.setIfInBounds_toArray, List.set_cons_zero, List.set_cons_succ]
      refine wpAnyH_take (i := 9) (oi := _) (v := ?_) rfl (by kernel_rfl) (by kernel_rfl) (by kernel_rfl) (fun _ _ _ h => h) (Or.inl ⟨by rfl, ?_⟩) hHeld ?_
      rotate_left
      · (intro wq hSw; obtain ⟨m7, m8, m9, md, j0, j1, j2, j3, j4, j5, j6, j7, j8⟩ := FACTS.out wq hSw; (try simp only [List.getElem_toArray, List.getElem_cons_zero, List.getElem_cons_succ]); (try go_simp); with_reducible rfl)
      try simp only [List.getElem_toArray, List.getElem_cons_zero, List.getElem_cons_succ, Act.put, List.setIfInBounds_toArray, List.set_cons_zero, List.set_cons_succ]
      refine wpAnyH_take (i := 10) (oi := _) (v := ?_) rfl (by kernel_rfl) (by kernel_rfl) (by kernel_rfl) (fun _ _ _ h => h) (Or.inl ⟨by rfl, ?_⟩) hHeld ?_
      rotate_left
      · (intro wq hSw; obtain ⟨m7, m8, m9, md, j0, j1, j2, j3, j4, j5, j6, j7, j8⟩ := FACTS.out wq hSw; (try simp only [List.getElem_toArray, List.getElem_cons_zero, List.getElem_cons_succ]); (try go_simp); with_reducible rfl)
      try simp only [List.getElem_toArray, List.getElem_cons_zero, List.getElem_cons_succ, Act.put, List.setIfInBounds_toArray, List.set_cons_zero, List.set_cons_succ]
      refine wpAnyH_take (i := 11) (oi := _) (v := ?_) rfl (by kernel_rfl) (by kernel_rfl) (by kernel_rfl) (fun _ _ _ h => h) (Or.inl ⟨by rfl, ?_⟩) hHeld ?_
      rotate_left
      · (intro wq hSw; obtain ⟨m7, m8, m9, md, j0, j1, j2, j3, j4, j5, j6, j7, j8⟩ := FACTS.out wq hSw; (try simp only [List.getElem_toArray, List.getElem_cons_zero, List.getElem_cons_succ]); (try go_simp); with_reducible rfl)
      try simp only [List.getElem_toArray, List.getElem_cons_zero, List.getElem_cons_succ, Act.put, List.setIfInBounds_toArray, List.set_cons_zero, List.set_cons_succ]
      refine wpAnyH_take (i := 12) (oi := _) (v := ?_) rfl (by kernel_rfl) (by kernel_rfl) (by kernel_rfl) (fun _ _ _ h => h) (Or.inl ⟨by rfl, ?_⟩) hHeld ?_
      rotate_left
      · (intro wq hSw; obtain ⟨m7, m8, m9, md, j0, j1, j2, j3, j4, j5, j6, j7, j8⟩ := FACTS.out wq hSw; (try simp only [List.getElem_toArray, List.getElem_cons_zero, List.getElem_cons_succ]); (try go_simp); with_reducible rfl)
      try simp only [List.getElem_toArray, List.getElem_cons_zero, List.getElem_cons_succ, Act.put, List.setIfInBounds_toArray, List.set_cons_zero, List.set_cons_succ]
      refine wpAnyH_take (i := 13) (oi := _) (v := ?_) rfl (by kernel_rfl) (by kernel_rfl) (by kernel_rfl) (fun _ _ _ h => h) (Or.inl ⟨by rfl, ?_⟩) hHeld ?_
      rotate_left
      · (intro wq hSw; obtain ⟨m7, m8, m9, md, j0, j1, j2, j3, j4, j5, j6, j7, j8⟩ := FACTS.out wq hSw; (try simp only [List.getElem_toArray, List.getElem_cons_zero, List.getElem_cons_succ]); (try go_simp); with_reducible rfl)
      try simp only [List.getElem_toArray, List.getElem_cons_zero, List.getElem_cons_succ, Act.put, List.setIfInBounds_toArray, List.set_cons_zero, List.set_cons_succ]
      refine wpAnyH_take (i := 15) (oi := _) (v := ?_) rfl (by kernel_rfl) (by kernel_rfl) (by kernel_rfl) (fun _ _ _ h => h) (Or.inl ⟨by rfl, ?_⟩) hHeld ?_
      rotate_left
      · (intro wq hSw; obtain ⟨m7, m8, m9, md, j0, j1, j2, j3, j4, j5, j6, j7, j8⟩ := FACTS.out wq hSw; (try simp only [List.getElem_toArray, List.getElem_cons_zero, List.getElem_cons_succ]); (try go_simp); with_reducible rfl)
      try simp only [List.getElem_toArray, List.getElem_cons_zero, List.getElem_cons_succ, Act.put, List.setIfInBounds_toArray, List.set_cons_zero, List.set_cons_succ]
      refine wpAnyH_take (i := 16) (oi := _) (v := ?_) rfl (by kernel_rfl) (by kernel_rfl) (by kernel_rfl) (fun _ _ _ h => h) (Or.inl ⟨by rfl, ?_⟩) hHeld ?_
      rotate_left
      · (intro wq hSw; obtain ⟨m7, m8, m9, md, j0, j1, j2, j3, j4, j5, j6, j7, j8⟩ := FACTS.out wq hSw; (try simp only [List.getElem_toArray, List.getElem_cons_zero, List.getElem_cons_succ]); (try go_simp); with_reducible rfl)
      try simp only [List.getElem_toArray, List.getElem_cons_zero, List.getElem_cons_succ, Act.put, List.setIfInBounds_toArray, List.set_cons_zero, List.set_cons_succ]
      refine wpAnyH_take (i := 17) (oi := _) (v := ?_) rfl (by kernel_rfl) (by kernel_rfl) (by kernel_rfl) (fun _ _ _ h => h) (Or.inl ⟨by rfl, ?_⟩) hHeld ?_
      rotate_left
      · (intro wq hSw; obtain ⟨m7, m8, m9, md, j0, j1, j2, j3, j4, j5, j6, j7, j8⟩ := FACTS.out wq hSw; (try simp only [List.getElem_toArray, List.getElem_cons_zero, List.getElem_cons_succ]); (try go_simp); with_reducible rfl)
      try simp only [List.getElem_toArray, List.getElem_cons_zero, List.getElem_cons_succ, Act.put, List.setIfInBounds_toArray, List.set_cons_zero, List.set_cons_succ]
      refine wpAnyH_take (i := 18) (oi := _) (v := ?_) rfl (by kernel_rfl) (by kernel_rfl) (by kernel_rfl) (fun _ _ _ h => h) (Or.inl ⟨by rfl, ?_⟩) hHeld ?_
      rotate_left
      · (intro wq hSw; obtain ⟨m7, m8, m9, md, j0, j1, j2, j3, j4, j5, j6, j7, j8⟩ := FACTS.out wq hSw; (try simp only [List.getElem_toArray, List.getElem_cons_zero, List.getElem_cons_succ]); (try go_simp); with_reducible rfl)
      try simp only [List.getElem_toArray, List.getElem_cons_zero, List.getElem_cons_succ, Act.put, List.setIfInBounds_toArray, List.set_cons_zero, List.set_cons_succ]
      refine wpAnyH_ready (rs := [14]) (by kernel_rfl) (by simp) ?_
      refine AllReadyH.cons (o := _) rfl (fun K hK => ?_) AllReadyH.nil
      (try simp only [List.getElem_toArray, List.getElem_cons_zero, List.getElem_cons_succ])
      go_simp
      (go_at_call 23; refine (HPL.out _ hHeld).mono ?_; rintro e w7 ⟨e1, e2, e3, e4, e5, e6, rfl, htA, hbA⟩; have hNew : Below W.heap.size W w7 := Below.trans hHeld (hbA.mono (Below.size hHeld)); have HTA := Lib.hid htA; clear htA hbA)
      clear hHeld
      refine hK.out _ _ hNew (fun hHeld => ?_)
      clear hK K hNew
      try simp only [List.getElem_toArray, List.getElem_cons_zero, List.getElem_cons_succ, Act.put, List.setIfInBounds_toArray, List.set_cons_zero, List.set_cons_succ]
      refine wpAnyH_ready (rs := [19]) (by kernel_rfl) (by simp) ?_
      refine AllReadyH.cons (o := _) rfl (fun K hK => ?_) AllReadyH.nil
      (try simp only [List.getElem_toArray, List.getElem_cons_zero, List.getElem_cons_succ])
      go_simp
      (go_at_call 21; refine (HCN.out _ hHeld).mono ?_; rintro e w8 ⟨f1, f2, f3, f4, f5, f6, rfl, htB, hbB⟩; have hNew : Below W.heap.size W w8 := Below.trans hHeld (hbB.mono (Below.size hHeld)); have HTB := Lib.hid htB; have HTC := Lib.hid (HTA.out.below (B := w7.heap.size) (fun b h => h.2) hbB); have HSZ8 := Lib.hid hbB.size; clear htB hbB)
      clear hHeld
      refine hK.out _ _ hNew (fun hHeld => ?_)
      clear hK K hNew
      try simp only [List.getElem_toArray, List.getElem_cons_zero, List.getElem_cons_succ, Act.put, List.setIfInBounds_toArray, List.set_cons_zero, List.set_cons_succ]
      refine wpAnyH_ready (rs := [20]) (by kernel_rfl) (by simp) ?_
      refine AllReadyH.cons (o := _) rfl (fun K hK => ?_) AllReadyH.nil
      (try simp only [List.getElem_toArray, List.getElem_cons_zero, List.getElem_cons_succ])
      go_simp
      (go_at_call 19; refine (same_any (plainF xf) (canonT td) (hdC (plainF xf).h (.slice e1 e2 e3) (.slice e4 e5 e6)) (hdC (canonT td).h (.slice f1 f2 f3) (.slice f4 f5 f6)) (fun b => b < w8.heap.size) true w8 (fun b h => h) (TreeAt.more (fun b h => Nat.lt_of_lt_of_le h.2 HSZ8.out) _ _ HTC.out) (TreeAt.more (fun b h => h.2) _ _ HTB.out) ⟨fun _ => HSM9.out, fun _ => rfl⟩).mono ?_; rintro e w9 ⟨rfl, hb9⟩; have hNew : Below W.heap.size W w9 := Below.trans hHeld (hb9.mono (Below.size hHeld)); clear hb9)
      clear hHeld
      refine hK.out _ _ hNew (fun hHeld => ?_)
      clear hK K hNew
      try simp only [List.getElem_toArray, List.getElem_cons_zero, List.getElem_cons_succ, Act.put, List.setIfInBounds_toArray, List.set_cons_zero, List.set_cons_succ]
      refine wpAnyH_take (i := 21) (oi := _) (v := ?_) rfl (by kernel_rfl) (by kernel_rfl) (by kernel_rfl) (fun _ _ _ h => h) (Or.inl ⟨by rfl, ?_⟩) hHeld ?_
      rotate_left
      · (intro wq hSw; obtain ⟨m7, m8, m9, md, j0, j1, j2, j3, j4, j5, j6, j7, j8⟩ := FACTS.out wq hSw; (try simp only [List.getElem_toArray, List.getElem_cons_zero, List.getElem_cons_succ]); (try go_simp); with_reducible rfl)
      try simp only [List.getElem_toArray, List.getElem_cons_zero, List.getElem_cons_succ, Act.put, List.setIfInBounds_toArray, List.set_cons_zero, List.set_cons_succ]
      refine wpAnyH_take (i := 22) (oi := _) (v := ?_) rfl (by kernel_rfl) (by kernel_rfl) (by kernel_rfl) (fun _ _ _ h => h) (Or.inl ⟨by rfl, ?_⟩) hHeld ?_
      rotate_left
      · (intro wq hSw; obtain ⟨m7, m8, m9, md, j0, j1, j2, j3, j4, j5, j6, j7, j8⟩ := FACTS.out wq hSw; (try simp only [List.getElem_toArray, List.getElem_cons_zero, List.getElem_cons_succ]); (try go_simp); with_reducible rfl)
      try simp only [List.getElem_toArray, List.getElem_cons_zero, List.getElem_cons_succ, Act.put, List.setIfInBounds_toArray, List.set_cons_zero, List.set_cons_succ]
      refine wpAnyH_done (by kernel_rfl) ?_ _
      obtain ⟨z1, z2, z3, z4⟩ := FACT2.out _ hHeld
      obtain ⟨m7, m8, m9, md, j0, j1, j2, j3, j4, j5, j6, j7, j8⟩ := FACTS.out _ hHeld
      have hwf := (hHeld.frozen (p := ⟨w4.heap.size + 1 + 1, 0, none⟩) (World.block_lt_of_cell? W _ HY9.out)).trans y9f
      have q1 : (w9.setCell ⟨w4.heap.size + 1 + 1, 0, none⟩ (.int .i64 ((n : Int) + 1))).cell? ⟨w4.heap.size + 1 + 1, 0, none⟩ = some (.int .i64 ((n : Int) + 1)) := World.cell?_setCell_same' _ _ _ (by rw [m9]; rfl)
      have q2 : (w9.setCell ⟨w4.heap.size + 1 + 1, 0, none⟩ (.int .i64 ((n : Int) + 1))).cell? ⟨w.heap.size + 1, 0, none⟩ = some (.int .u8 s) := (World.cell?_setCell_far _ _ _ _ (by show w4.heap.size + 1 + 1 ≠ w.heap.size + 1; have := HSZ.out; omega)).trans z3
      have hle := HLE.out
      have hw1 : IntKind.i64.wrap ((n : Int) + 1) = (n : Int) + 1 := IntWalk.i64_in _ (by omega)
      have hw2 : IntKind.i64.wrap s = s := IntWalk.i64_in _ (by omega)
      have HH := Lib.hid hHeld
      have hO2 : Owns W (w9.setCell ⟨w4.heap.size + 1 + 1, 0, none⟩ (.int .i64 ((n : Int) + 1))) (fun b => b = X) (fun b => b = X) := (Owns.of_below HH.out _).trans (owns_set _ _ _ hX)
      have hblk : (w9.setCell ⟨w4.heap.size + 1 + 1, 0, none⟩ (.int .i64 ((n : Int) + 1))).heap[X]? = some (.cells #[.int .i64 ((pre ++ [x]).length : Int)] 3 (0, 0)) := by
        have h1 := HCELL.out
        have h2 := (HH.out.block X (Array.getElem?_eq_some_iff.1 h1).1).trans h1
        rw [hX] at h2 ⊢
        rw [setCell_block _ _ _ _ _ _ h2, List.length_append, ← HNP.out]
        simp
      have HO2 := Lib.hid hO2
      have HBLK := Lib.hid hblk
      clear hO2 hblk hHeld
      by_cases hgt : s < (n : Int) + 1
      · have hgt1 : decide (s < (n : Int) + 1) = true := by simpa using hgt
        gi_wp2
        exact ⟨keepsO HO2.out HCELL.out, .inl ⟨rfl, HBLK.out, HO.out.trans HO2.out, by rw [List.length_append, ← HNP.out, List.length_singleton]; omega⟩⟩
      · have hgt1 : decide (s < (n : Int) + 1) = false := by simpa using hgt
        gi_wp2
        have a1 := HO2.out
        have a2 := HBLK.out
        have a3 := HO.out
        have a4 := HCELL.out
        rw [hX] at a1 a2 a3 a4
        exact ⟨keepsO a1 a4, KeepC.of_owns a1, a2, a3.trans a1, by rw [List.length_append, ← HNP.out, List.length_singleton]; omega⟩
  case done =>
    rintro D xs W hD rfl ⟨hcell, hO, hle⟩ hK
    obtain ⟨n, hn⟩ : ∃ n : Nat, n = xs.length := ⟨_, rfl⟩
    rw [← hn] at hcell hle
    go_wp2_with fail
    have HO := Lib.hid hO
    have HSZW := Lib.hid (show w6.heap.size ≤ W.heap.size from hO.size)
    have FACT3 := Lib.hid (show ∀ wq, S13 W (w.heap.size + 1 + 1) wq → wq.cell? ⟨w4.heap.size, 0, none⟩ = some (Value.slice (some ⟨g1, 0, none⟩) N q1) ∧ wq.cell? ⟨w4.heap.size + 1 + 1, 0, none⟩ = some (.int .i64 n) ∧ wq.cell? ⟨w.heap.size + 1, 0, none⟩ = some (.int .u8 s) ∧ wq.cell? ⟨w.heap.size, 0, none⟩ = some (.int .i64 k) ∧ wq.cell? ⟨w.heap.size, 1, none⟩ = some (.bool neg) ∧ wq.cell? ⟨w.heap.size, 2, none⟩ = some (.slice A1 n1 c1) ∧ wq.cell? ⟨w.heap.size, 3, none⟩ = some (.string nm) ∧ wq.cell? ⟨w.heap.size, 4, none⟩ = some (.int .i64 ex) ∧ wq.cell? ⟨w.heap.size, 5, none⟩ = some (.int .i64 rl) ∧ wq.cell? ⟨w.heap.size, 6, none⟩ = some (.bool tr) ∧ wq.cell? ⟨w.heap.size, 7, none⟩ = some (.bool al) ∧ wq.cell? ⟨w.heap.size, 8, none⟩ = some (.slice A2 n2 c2)
      from fun wq hq => by
        have hx6 := HXB6.out
        have hl := HX6.out.lt
        have hl4 := HB4L.out
        have e0 : ∀ b, b < w6.heap.size → b ≠ X → b ≠ w.heap.size + 1 + 1 → wq.heap[b]? = w6.heap[b]? := fun b h1 h2 h3 => (hq.1.same b (Nat.lt_of_lt_of_le h1 HSZW.out) h3).trans (HO.out.same b h1 h2)
        have b0 := (e0 w.heap.size (by omega) (by omega) (by omega)).trans hx6.h0
        have b1 := (e0 (w.heap.size + 1) (by omega) (by omega) (by omega)).trans hx6.h1
        have b4 := (e0 w4.heap.size (by omega) (by omega) (by omega)).trans HX6.out.h0
        have bX := (hq.1.same X (Array.getElem?_eq_some_iff.1 hcell).1 (by omega)).trans hcell
        rw [hX] at bX
        refine ⟨?_, ?_, ?_, ?_, ?_, ?_, ?_, ?_, ?_, ?_, ?_, ?_⟩ <;> simp [World.cell?, b0, b1, b4, bX])
    have hsz3 : w3.heap.size ≤ w4.heap.size := HB4.out.size
    have HFO := Lib.hid (show ∀ wq, S13 W (w.heap.size + 1 + 1) wq → FoAt wq (Fr w2 w3) f (.iface u0 z0) from fun wq hq =>
      (((HV5.out.below (B := W5.heap.size) (fun b h => by have h1 := h.2; have h2 := HB5.out.below.size; omega) HB6.out).owns HO.out (fun b h => ⟨by have h1 := h.2; have h2 := HX6.out.lt; omega, by have h1 := h.2; show ¬ b = X; omega⟩)).owns hq.1 (fun b h => ⟨by have h1 := h.2; have h2 := HX6.out.lt; have h3 := HSZW.out; omega, by have h1 := h.1; have h2 := HR2.out; show ¬ b = _; omega⟩)))
    have HTQ := Lib.hid (show ∀ wq, S13 W (w.heap.size + 1 + 1) wq → TreeAt wq (fun b => b < w.heap.size) t0 [.int .i64 k, .bool neg, .slice A1 n1 c1, .string nm, .int .i64 ex, .int .i64 rl, .bool tr, .bool al, .slice A2 n2 c2] from fun wq hq =>
      TreeAt.keep (fun q (hq2 : q.block < w.heap.size) => (hq.1.cell (by have h1 := HSZW.out; have h2 := HX6.out.lt; have h3 := HB4L.out; omega) (by show ¬ q.block = _; omega)).trans (HO.out.cell (by have h2 := HX6.out.lt; have h3 := HB4L.out; omega) (by have h3 := HB4L.out; show ¬ q.block = X; omega))) _ _ HT6.out)
    obtain ⟨M, hM⟩ : ∃ m, m = atomsF f := ⟨_, rfl⟩
    obtain ⟨K, hK2⟩ : ∃ m, m = nn t0 := ⟨_, rfl⟩
    have hfn := fnn_eq HRF.out
    have hnn := HNN.out
    have HS1 := Lib.hid (show ∀ wq, S13 W (w.heap.size + 1 + 1) wq → W.heap.size ≤ wq.heap.size from fun wq hq => hq.1.size)
    have HA1 := Lib.hid (show ∀ wq, S13 W (w.heap.size + 1 + 1) wq → Calls Try.prog 31 #[.iface u0 z0] wq (fun e w' => e = .returned (.int .i64 (M : Int)) ∧ Below wq.heap.size wq w') from fun wq hq => by rw [hM]; exact atoms_any f _ _ wq (fun b h => by have h1 := h.2; have h2 := HX6.out.lt; have h3 := HSZW.out; have h4 := HS1.out _ hq; omega) (HFO.out wq hq) (by omega))
    have HA2 := Lib.hid (show ∀ wq, S13 W (w.heap.size + 1 + 1) wq → Calls Try.prog 38 #[.agg #[.int .i64 k, .bool neg, .slice A1 n1 c1, .string nm, .int .i64 ex, .int .i64 rl, .bool tr, .bool al, .slice A2 n2 c2]] wq (fun e w' => e = .returned (.int .i64 (M : Int)) ∧ Below wq.heap.size wq w') from fun wq hq => by rw [hM, ← at_eq HRF.out 0]; exact atoms_ref t0 _ _ wq (fun b h => by have h2 := HX6.out.lt; have h3 := HSZW.out; have h4 := HS1.out _ hq; have h5 := HB4L.out; omega) (HTQ.out wq hq) (by omega))
    have HN1 := Lib.hid (show ∀ wq, S13 W (w.heap.size + 1 + 1) wq → Calls Try.prog 30 #[.iface u0 z0] wq (fun e w' => e = .returned (.int .i64 (K : Int)) ∧ Below wq.heap.size wq w') from fun wq hq => by rw [hK2, ← hfn]; exact nodes_any f _ _ wq (fun b h => by have h1 := h.2; have h2 := HX6.out.lt; have h3 := HSZW.out; have h4 := HS1.out _ hq; omega) (HFO.out wq hq) (by omega))
    have HN2 := Lib.hid (show ∀ wq, S13 W (w.heap.size + 1 + 1) wq → Calls Try.prog 39 #[.agg #[.int .i64 k, .bool neg, .slice A1 n1 c1, .string nm, .int .i64 ex, .int .i64 rl, .bool tr, .bool al, .slice A2 n2 c2]] wq (fun e w' => e = .returned (.int .i64 (K : Int)) ∧ Below wq.heap.size wq w') from fun wq hq => by rw [hK2]; exact nodes_ref t0 _ _ wq (fun b h => by have h2 := HX6.out.lt; have h3 := HSZW.out; have h4 := HS1.out _ hq; have h5 := HB4L.out; omega) (HTQ.out wq hq) (by omega))
    have hw2 : IntKind.i64.wrap s = s := IntWalk.i64_in _ (by omega)
    have hw1 : IntKind.i64.wrap (s + 1) = s + 1 := IntWalk.i64_in _ (by omega)
    have hmin : (if s + 1 < (N : Int) then s + 1 else (N : Int)) = (n : Int) := by have h1 := HITN.out; split <;> omega
    have hbR : W.heap[w.heap.size + 1 + 1]? = some (.cells #[.bool false] 4 (0, 0)) := (hO.same _ (by have h2 := HX6.out.lt; have h3 := HB4L.out; omega) (by have h3 := HB4L.out; show ¬ _ = X; omega)).trans HXB6.out.h2
    have HCELL := Lib.hid hcell
    have HNP := Lib.hid hn
    have HK := Lib.hid hK
    clear hcell hO hn hK hM hK2 hfn hnn
    refine wp_region_noPanic ?_
    refine wp_region_held_drew (S := S13 W (w.heap.size + 1 + 1)) (by kernel_rfl) ⟨Owns.of_below (Below.refl _ W).drew _, false, hbR⟩ (fun hHeld => ?_)
    refine wpAnyH_take (i := 0) (oi := _) (v := ?_) rfl (by kernel_rfl) (by kernel_rfl) (by kernel_rfl) (fun _ _ _ h => h) (Or.inl ⟨by rfl, ?_⟩) hHeld ?_
    rotate_left
    · (intro wq hSw; obtain ⟨m7, m9, ms, j0, j1, j2, j3, j4, j5, j6, j7, j8⟩ := FACT3.out wq hSw; (try simp only [List.getElem_toArray, List.getElem_cons_zero, List.getElem_cons_succ]); (try go_simp); with_reducible rfl)
    try simp only [List.getElem_toArray, List.getElem_cons_zero, List.getElem_cons_succ, Act.put, List.setIfInBounds_toArray, List.set_cons_zero, List.set_cons_succ]
    refine wpAnyH_take (i := 1) (oi := _) (v := ?_) rfl (by kernel_rfl) (by kernel_rfl) (by kernel_rfl) (fun _ _ _ h => h) (Or.inl ⟨by rfl, ?_⟩) hHeld ?_
    rotate_left
    · (intro wq hSw; obtain ⟨m7, m9, ms, j0, j1, j2, j3, j4, j5, j6, j7, j8⟩ := FACT3.out wq hSw; (try simp only [List.getElem_toArray, List.getElem_cons_zero, List.getElem_cons_succ]); (try go_simp); with_reducible rfl)
    try simp only [List.getElem_toArray, List.getElem_cons_zero, List.getElem_cons_succ, Act.put, List.setIfInBounds_toArray, List.set_cons_zero, List.set_cons_succ]
    refine wpAnyH_take (i := 2) (oi := _) (v := ?_) rfl (by kernel_rfl) (by kernel_rfl) (by kernel_rfl) (fun _ _ _ h => h) (Or.inl ⟨by rfl, ?_⟩) hHeld ?_
    rotate_left
    · (intro wq hSw; obtain ⟨m7, m9, ms, j0, j1, j2, j3, j4, j5, j6, j7, j8⟩ := FACT3.out wq hSw; (try simp only [List.getElem_toArray, List.getElem_cons_zero, List.getElem_cons_succ]); (try go_simp); with_reducible rfl)
    try simp only [List.getElem_toArray, List.getElem_cons_zero, List.getElem_cons_succ, Act.put, List.setIfInBounds_toArray, List.set_cons_zero, List.set_cons_succ]
    refine wpAnyH_take (i := 3) (oi := _) (v := ?_) rfl (by kernel_rfl) (by kernel_rfl) (by kernel_rfl) (fun _ _ _ h => h) (Or.inl ⟨by rfl, ?_⟩) hHeld ?_
    rotate_left
    · (intro wq hSw; obtain ⟨m7, m9, ms, j0, j1, j2, j3, j4, j5, j6, j7, j8⟩ := FACT3.out wq hSw; (try simp only [List.getElem_toArray, List.getElem_cons_zero, List.getElem_cons_succ]); (try go_simp); with_reducible rfl)
    try simp only [List.getElem_toArray, List.getElem_cons_zero, List.getElem_cons_succ, Act.put, List.setIfInBounds_toArray, List.set_cons_zero, List.set_cons_succ]
    refine wpAnyH_take (i := 4) (oi := _) (v := ?_) rfl (by kernel_rfl) (by kernel_rfl) (by kernel_rfl) (fun _ _ _ h => h) (Or.inl ⟨by rfl, ?_⟩) hHeld ?_
    rotate_left
    · (intro wq hSw; obtain ⟨m7, m9, ms, j0, j1, j2, j3, j4, j5, j6, j7, j8⟩ := FACT3.out wq hSw; (try simp only [List.getElem_toArray, List.getElem_cons_zero, List.getElem_cons_succ]); (try go_simp); with_reducible rfl)
    try simp only [List.getElem_toArray, List.getElem_cons_zero, List.getElem_cons_succ, Act.put, List.setIfInBounds_toArray, List.set_cons_zero, List.set_cons_succ]
    refine wpAnyH_take (i := 5) (oi := _) (v := ?_) rfl (by kernel_rfl) (by kernel_rfl) (by kernel_rfl) (fun _ _ _ h => h) (Or.inl ⟨by rfl, ?_⟩) hHeld ?_
    rotate_left
    · (intro wq hSw; obtain ⟨m7, m9, ms, j0, j1, j2, j3, j4, j5, j6, j7, j8⟩ := FACT3.out wq hSw; (try simp only [List.getElem_toArray, List.getElem_cons_zero, List.getElem_cons_succ]); (try go_simp); with_reducible rfl)
    try simp only [List.getElem_toArray, List.getElem_cons_zero, List.getElem_cons_succ, Act.put, List.setIfInBounds_toArray, List.set_cons_zero, List.set_cons_succ]
    refine wpAnyH_take (i := 6) (oi := _) (v := ?_) rfl (by kernel_rfl) (by kernel_rfl) (by kernel_rfl) (fun _ _ _ h => h) (Or.inl ⟨by rfl, ?_⟩) hHeld ?_
    rotate_left
    · (intro wq hSw; obtain ⟨m7, m9, ms, j0, j1, j2, j3, j4, j5, j6, j7, j8⟩ := FACT3.out wq hSw; (try simp only [List.getElem_toArray, List.getElem_cons_zero, List.getElem_cons_succ]); (try go_simp); with_reducible rfl)
    try simp only [List.getElem_toArray, List.getElem_cons_zero, List.getElem_cons_succ, Act.put, List.setIfInBounds_toArray, List.set_cons_zero, List.set_cons_succ]
    refine wpAnyH_take (i := 7) (oi := _) (v := ?_) rfl (by kernel_rfl) (by kernel_rfl) (by kernel_rfl) (fun _ _ _ h => h) (Or.inl ⟨by rfl, ?_⟩) hHeld ?_
    rotate_left
    · (intro wq hSw; obtain ⟨m7, m9, ms, j0, j1, j2, j3, j4, j5, j6, j7, j8⟩ := FACT3.out wq hSw; (try simp only [List.getElem_toArray, List.getElem_cons_zero, List.getElem_cons_succ]); (try go_simp); with_reducible rfl)
    try simp only [List.getElem_toArray, List.getElem_cons_zero, List.getElem_cons_succ, Act.put, List.setIfInBounds_toArray, List.set_cons_zero, List.set_cons_succ]
    refine wpAnyH_take (i := 8) (oi := _) (v := ?_) rfl (by kernel_rfl) (by kernel_rfl) (by kernel_rfl) (fun _ _ _ h => h) (Or.inl ⟨by rfl, ?_⟩) hHeld ?_
    rotate_left
    · (intro wq hSw; obtain ⟨m7, m9, ms, j0, j1, j2, j3, j4, j5, j6, j7, j8⟩ := FACT3.out wq hSw; (try simp only [List.getElem_toArray, List.getElem_cons_zero, List.getElem_cons_succ]); (try go_simp); with_reducible rfl)
    try simp only [List.getElem_toArray, List.getElem_cons_zero, List.getElem_cons_succ, Act.put, List.setIfInBounds_toArray, List.set_cons_zero, List.set_cons_succ]
    refine wpAnyH_take (i := 9) (oi := _) (v := ?_) rfl (by kernel_rfl) (by kernel_rfl) (by kernel_rfl) (fun _ _ _ h => h) (Or.inl ⟨by rfl, ?_⟩) hHeld ?_
    rotate_left
    · (intro wq hSw; obtain ⟨m7, m9, ms, j0, j1, j2, j3, j4, j5, j6, j7, j8⟩ := FACT3.out wq hSw; (try simp only [List.getElem_toArray, List.getElem_cons_zero, List.getElem_cons_succ]); (try go_simp); with_reducible rfl)
    try simp only [List.getElem_toArray, List.getElem_cons_zero, List.getElem_cons_succ, Act.put, List.setIfInBounds_toArray, List.set_cons_zero, List.set_cons_succ]
    refine wpAnyH_take (i := 11) (oi := _) (v := ?_) rfl (by kernel_rfl) (by kernel_rfl) (by kernel_rfl) (fun _ _ _ h => h) (Or.inl ⟨by rfl, ?_⟩) hHeld ?_
    rotate_left
    · (intro wq hSw; obtain ⟨m7, m9, ms, j0, j1, j2, j3, j4, j5, j6, j7, j8⟩ := FACT3.out wq hSw; (try simp only [List.getElem_toArray, List.getElem_cons_zero, List.getElem_cons_succ]); (try go_simp); with_reducible rfl)
    try simp only [List.getElem_toArray, List.getElem_cons_zero, List.getElem_cons_succ, Act.put, List.setIfInBounds_toArray, List.set_cons_zero, List.set_cons_succ]
    refine wpAnyH_ready (rs := [10]) (by kernel_rfl) (by simp) ?_
    refine AllReadyH.cons (o := _) rfl (fun K hK => ?_) AllReadyH.nil
    (try simp only [List.getElem_toArray, List.getElem_cons_zero, List.getElem_cons_succ])
    go_simp
    (go_at_call 31; refine (HA1.out _ hHeld).mono ?_; rintro e x1 ⟨rfl, hb9⟩; have hNew : S13 W (w.heap.size + 1 + 1) x1 := S13.step hHeld hb9; clear hb9)
    clear hHeld
    refine hK.out _ _ hNew (fun hHeld => ?_)
    clear hK K hNew
    try simp only [List.getElem_toArray, List.getElem_cons_zero, List.getElem_cons_succ, Act.put, List.setIfInBounds_toArray, List.set_cons_zero, List.set_cons_succ]
    refine wpAnyH_ready (rs := [12]) (by kernel_rfl) (by simp) ?_
    refine AllReadyH.cons (o := _) rfl (fun K hK => ?_) AllReadyH.nil
    (try simp only [List.getElem_toArray, List.getElem_cons_zero, List.getElem_cons_succ])
    go_simp
    (go_at_call 38; refine (HA2.out _ hHeld).mono ?_; rintro e x2 ⟨rfl, hb9⟩; have hNew : S13 W (w.heap.size + 1 + 1) x2 := S13.step hHeld hb9; clear hb9)
    clear hHeld
    refine hK.out _ _ hNew (fun hHeld => ?_)
    clear hK K hNew
    try simp only [List.getElem_toArray, List.getElem_cons_zero, List.getElem_cons_succ, Act.put, List.setIfInBounds_toArray, List.set_cons_zero, List.set_cons_succ]
    refine wpAnyH_take (i := 13) (oi := _) (v := ?_) rfl (by kernel_rfl) (by kernel_rfl) (by kernel_rfl) (fun _ _ _ h => h) (Or.inl ⟨by rfl, ?_⟩) hHeld ?_
    rotate_left
    · (intro wq hSw; obtain ⟨m7, m9, ms, j0, j1, j2, j3, j4, j5, j6, j7, j8⟩ := FACT3.out wq hSw; (try simp only [List.getElem_toArray, List.getElem_cons_zero, List.getElem_cons_succ]); (try go_simp); with_reducible rfl)
    try simp only [List.getElem_toArray, List.getElem_cons_zero, List.getElem_cons_succ, Act.put, List.setIfInBounds_toArray, List.set_cons_zero, List.set_cons_succ]
    refine wpAnyH_take (i := 14) (oi := _) (v := ?_) rfl (by kernel_rfl) (by kernel_rfl) (by kernel_rfl) (fun _ _ _ h => h) (Or.inl ⟨by rfl, ?_⟩) hHeld ?_
    rotate_left
    · (intro wq hSw; obtain ⟨m7, m9, ms, j0, j1, j2, j3, j4, j5, j6, j7, j8⟩ := FACT3.out wq hSw; (try simp only [List.getElem_toArray, List.getElem_cons_zero, List.getElem_cons_succ]); (try go_simp); with_reducible rfl)
    try simp only [List.getElem_toArray, List.getElem_cons_zero, List.getElem_cons_succ, Act.put, List.setIfInBounds_toArray, List.set_cons_zero, List.set_cons_succ]
    refine wpAnyH_take (i := 15) (oi := _) (v := ?_) rfl (by kernel_rfl) (by kernel_rfl) (by kernel_rfl) (fun _ _ _ h => h) (Or.inl ⟨by rfl, ?_⟩) hHeld ?_
    rotate_left
    · (intro wq hSw; obtain ⟨m7, m9, ms, j0, j1, j2, j3, j4, j5, j6, j7, j8⟩ := FACT3.out wq hSw; (try simp only [List.getElem_toArray, List.getElem_cons_zero, List.getElem_cons_succ]); (try go_simp); with_reducible rfl)
    try simp only [List.getElem_toArray, List.getElem_cons_zero, List.getElem_cons_succ, Act.put, List.setIfInBounds_toArray, List.set_cons_zero, List.set_cons_succ]
    refine wpAnyH_take (i := 16) (oi := _) (v := ?_) rfl (by kernel_rfl) (by kernel_rfl) (by kernel_rfl) (fun _ _ _ h => h) (Or.inl ⟨by rfl, ?_⟩) hHeld ?_
    rotate_left
    · (intro wq hSw; obtain ⟨m7, m9, ms, j0, j1, j2, j3, j4, j5, j6, j7, j8⟩ := FACT3.out wq hSw; (try simp only [List.getElem_toArray, List.getElem_cons_zero, List.getElem_cons_succ]); (try go_simp); with_reducible rfl)
    try simp only [List.getElem_toArray, List.getElem_cons_zero, List.getElem_cons_succ, Act.put, List.setIfInBounds_toArray, List.set_cons_zero, List.set_cons_succ]
    refine wpAnyH_take (i := 18) (oi := _) (v := ?_) rfl (by kernel_rfl) (by kernel_rfl) (by kernel_rfl) (fun _ _ _ h => h) (Or.inl ⟨by rfl, ?_⟩) hHeld ?_
    rotate_left
    · (intro wq hSw; obtain ⟨m7, m9, ms, j0, j1, j2, j3, j4, j5, j6, j7, j8⟩ := FACT3.out wq hSw; (try simp only [List.getElem_toArray, List.getElem_cons_zero, List.getElem_cons_succ]); (try go_simp); with_reducible rfl)
    try simp only [List.getElem_toArray, List.getElem_cons_zero, List.getElem_cons_succ, Act.put, List.setIfInBounds_toArray, List.set_cons_zero, List.set_cons_succ]
    refine wpAnyH_ready (rs := [17]) (by kernel_rfl) (by simp) ?_
    refine AllReadyH.cons (o := _) rfl (fun K hK => ?_) AllReadyH.nil
    (try simp only [List.getElem_toArray, List.getElem_cons_zero, List.getElem_cons_succ])
    go_simp
    (go_at_call 30; refine (HN1.out _ hHeld).mono ?_; rintro e x3 ⟨rfl, hb9⟩; have hNew : S13 W (w.heap.size + 1 + 1) x3 := S13.step hHeld hb9; clear hb9)
    clear hHeld
    refine hK.out _ _ hNew (fun hHeld => ?_)
    clear hK K hNew
    try simp only [List.getElem_toArray, List.getElem_cons_zero, List.getElem_cons_succ, Act.put, List.setIfInBounds_toArray, List.set_cons_zero, List.set_cons_succ]
    refine wpAnyH_ready (rs := [19]) (by kernel_rfl) (by simp) ?_
    refine AllReadyH.cons (o := _) rfl (fun K hK => ?_) AllReadyH.nil
    (try simp only [List.getElem_toArray, List.getElem_cons_zero, List.getElem_cons_succ])
    go_simp
    (go_at_call 39; refine (HN2.out _ hHeld).mono ?_; rintro e x4 ⟨rfl, hb9⟩; have hNew : S13 W (w.heap.size + 1 + 1) x4 := S13.step hHeld hb9; clear hb9)
    clear hHeld
    refine hK.out _ _ hNew (fun hHeld => ?_)
    clear hK K hNew
    try simp only [List.getElem_toArray, List.getElem_cons_zero, List.getElem_cons_succ, Act.put, List.setIfInBounds_toArray, List.set_cons_zero, List.set_cons_succ]
    refine wpAnyH_take (i := 20) (oi := _) (v := ?_) rfl (by kernel_rfl) (by kernel_rfl) (by kernel_rfl) (fun _ _ _ h => h) (Or.inl ⟨by rfl, ?_⟩) hHeld ?_
    rotate_left
    · (intro wq hSw; obtain ⟨m7, m9, ms, j0, j1, j2, j3, j4, j5, j6, j7, j8⟩ := FACT3.out wq hSw; (try simp only [List.getElem_toArray, List.getElem_cons_zero, List.getElem_cons_succ]); (try go_simp); with_reducible rfl)
    try simp only [List.getElem_toArray, List.getElem_cons_zero, List.getElem_cons_succ, Act.put, List.setIfInBounds_toArray, List.set_cons_zero, List.set_cons_succ]
    refine wpAnyH_take (i := 21) (oi := _) (v := ?_) rfl (by kernel_rfl) (by kernel_rfl) (by kernel_rfl) (fun _ _ _ h => h) (Or.inl ⟨by rfl, ?_⟩) hHeld ?_
    rotate_left
    · (intro wq hSw; obtain ⟨m7, m9, ms, j0, j1, j2, j3, j4, j5, j6, j7, j8⟩ := FACT3.out wq hSw; (try simp only [List.getElem_toArray, List.getElem_cons_zero, List.getElem_cons_succ]); (try go_simp); with_reducible rfl)
    try simp only [List.getElem_toArray, List.getElem_cons_zero, List.getElem_cons_succ, Act.put, List.setIfInBounds_toArray, List.set_cons_zero, List.set_cons_succ]
    obtain ⟨bb, hbb⟩ : ∃ b, x4.heap[w.heap.size + 1 + 1]? = some (.cells #[.bool b] 4 (0, 0)) := hHeld.2
    have hcR : x4.cell? ⟨w.heap.size + 1 + 1, 0, none⟩ = some (.bool bb) := by simp [World.cell?, hbb]
    have hfR : x4.frozen? ⟨w.heap.size + 1 + 1, 0, none⟩ = false := by simp [World.frozen?, hbb]
    have HX4S := Lib.hid (show S13 W (w.heap.size + 1 + 1) x4 from hHeld)
    have HBB := Lib.hid (setCell_block x4 (w.heap.size + 1 + 1) 0 _ _ (.bool true) hbb)
    clear hbb
    refine wpAnyH_ready (rs := [22]) (by kernel_rfl) (by simp) ?_
    refine AllReadyH.cons (o := _) rfl (fun K hK => ?_) AllReadyH.nil
    (try simp only [List.getElem_toArray, List.getElem_cons_zero, List.getElem_cons_succ])
    go_simp
    refine hK.out _ _ ⟨HX4S.out.1.trans (owns_set _ _ _ rfl), true, HBB.out⟩ (fun hHeld2 => ?_)
    clear hK K hHeld hHeld2 hcR hfR
    try simp only [List.getElem_toArray, List.getElem_cons_zero, List.getElem_cons_succ, Act.put, List.setIfInBounds_toArray, List.set_cons_zero, List.set_cons_succ]
    refine wpAnyH_done (by kernel_rfl) ?_ _
    refine NoPanic.normal ?_
    go_wp2_with fail
    have hbF := HBB.out
    simp only [List.setIfInBounds_toArray, List.set_cons_zero] at hbF
    have hO5 := HO.out
    have hl6 := HX6.out.lt
    have hl4 := HB4L.out
    have hDW : D < W.heap.size := (Array.getElem?_eq_some_iff.1 HK.out).1
    have hDF : (x4.setCell ⟨w.heap.size + 1 + 1, 0, none⟩ (.bool true)).heap[D]? = some (.deferred (some [])) := (Below.heap_setCell _ _ _ _ (by show D ≠ w.heap.size + 1 + 1; omega)).trans ((HX4S.out.1.same D hDW (by show ¬ D = _; omega)).trans HK.out)
    have hfin : ((x4.setCell ⟨w.heap.size + 1 + 1, 0, none⟩ (.bool true)).putObj D (.deferred none)).cell? ⟨w.heap.size + 1 + 1, 0, none⟩ = some (.bool true) := by
      have h1 := (World.putObj_heap_other (w := x4.setCell ⟨w.heap.size + 1 + 1, 0, none⟩ (.bool true)) (r := D) (o := .deferred none) (k := w.heap.size + 1 + 1) (by omega)).trans hbF
      simp [World.cell?, h1]
    have hbel : Below w.heap.size w ((x4.setCell ⟨w.heap.size + 1 + 1, 0, none⟩ (.bool true)).putObj D (.deferred none)) :=
      ((HXB6.out.below.trans (hO5.below (by have := HXB6.out.below.size; omega) (fun b hb => by rw [hb]; omega))).trans ((HX4S.out.1.trans (owns_set _ _ _ rfl)).below (by have := HSZW.out; omega) (fun b hb => by rw [hb]; omega))).trans (belowK_b (w := w) (Nat.le_refl _) _ D _ _ (by omega) hDF rfl rfl)
    clear hbF
    refine ⟨by simp, .inl ⟨_, _, rfl, run_takeDeferred hDF, ?_⟩⟩
    refine ⟨.bool true, ?_, rfl, hbel⟩
    rw [results_cell rfl]
    go_simp
  case stop =>
    rintro D c pre W hD hSp hIx hK
    rcases hIx with ⟨rfl, hcell, hO, hle⟩ | ⟨rfl, hbad⟩
    · obtain ⟨n, hn⟩ : ∃ n : Nat, n = pre.length := ⟨_, rfl⟩
      rw [← hn] at hcell hle
      refine wpIn_wide.2 ?_
      go_wp2_with fail
      have HO := Lib.hid hO
      have HSZW := Lib.hid (show w6.heap.size ≤ W.heap.size from hO.size)
      have FACT3 := Lib.hid (show ∀ wq, S13 W (w.heap.size + 1 + 1) wq → wq.cell? ⟨w4.heap.size, 0, none⟩ = some (Value.slice (some ⟨g1, 0, none⟩) N q1) ∧ wq.cell? ⟨w4.heap.size + 1 + 1, 0, none⟩ = some (.int .i64 n) ∧ wq.cell? ⟨w.heap.size + 1, 0, none⟩ = some (.int .u8 s) ∧ wq.cell? ⟨w.heap.size, 0, none⟩ = some (.int .i64 k) ∧ wq.cell? ⟨w.heap.size, 1, none⟩ = some (.bool neg) ∧ wq.cell? ⟨w.heap.size, 2, none⟩ = some (.slice A1 n1 c1) ∧ wq.cell? ⟨w.heap.size, 3, none⟩ = some (.string nm) ∧ wq.cell? ⟨w.heap.size, 4, none⟩ = some (.int .i64 ex) ∧ wq.cell? ⟨w.heap.size, 5, none⟩ = some (.int .i64 rl) ∧ wq.cell? ⟨w.heap.size, 6, none⟩ = some (.bool tr) ∧ wq.cell? ⟨w.heap.size, 7, none⟩ = some (.bool al) ∧ wq.cell? ⟨w.heap.size, 8, none⟩ = some (.slice A2 n2 c2)
        from fun wq hq => by
          have hx6 := HXB6.out
          have hl := HX6.out.lt
          have hl4 := HB4L.out
          have e0 : ∀ b, b < w6.heap.size → b ≠ X → b ≠ w.heap.size + 1 + 1 → wq.heap[b]? = w6.heap[b]? := fun b h1 h2 h3 => (hq.1.same b (Nat.lt_of_lt_of_le h1 HSZW.out) h3).trans (HO.out.same b h1 h2)
          have b0 := (e0 w.heap.size (by omega) (by omega) (by omega)).trans hx6.h0
          have b1 := (e0 (w.heap.size + 1) (by omega) (by omega) (by omega)).trans hx6.h1
          have b4 := (e0 w4.heap.size (by omega) (by omega) (by omega)).trans HX6.out.h0
          have bX := (hq.1.same X (Array.getElem?_eq_some_iff.1 hcell).1 (by omega)).trans hcell
          rw [hX] at bX
          refine ⟨?_, ?_, ?_, ?_, ?_, ?_, ?_, ?_, ?_, ?_, ?_, ?_⟩ <;> simp [World.cell?, b0, b1, b4, bX])
      have hsz3 : w3.heap.size ≤ w4.heap.size := HB4.out.size
      have HFO := Lib.hid (show ∀ wq, S13 W (w.heap.size + 1 + 1) wq → FoAt wq (Fr w2 w3) f (.iface u0 z0) from fun wq hq =>
        (((HV5.out.below (B := W5.heap.size) (fun b h => by have h1 := h.2; have h2 := HB5.out.below.size; omega) HB6.out).owns HO.out (fun b h => ⟨by have h1 := h.2; have h2 := HX6.out.lt; omega, by have h1 := h.2; show ¬ b = X; omega⟩)).owns hq.1 (fun b h => ⟨by have h1 := h.2; have h2 := HX6.out.lt; have h3 := HSZW.out; omega, by have h1 := h.1; have h2 := HR2.out; show ¬ b = _; omega⟩)))
      have HTQ := Lib.hid (show ∀ wq, S13 W (w.heap.size + 1 + 1) wq → TreeAt wq (fun b => b < w.heap.size) t0 [.int .i64 k, .bool neg, .slice A1 n1 c1, .string nm, .int .i64 ex, .int .i64 rl, .bool tr, .bool al, .slice A2 n2 c2] from fun wq hq =>
        TreeAt.keep (fun q (hq2 : q.block < w.heap.size) => (hq.1.cell (by have h1 := HSZW.out; have h2 := HX6.out.lt; have h3 := HB4L.out; omega) (by show ¬ q.block = _; omega)).trans (HO.out.cell (by have h2 := HX6.out.lt; have h3 := HB4L.out; omega) (by have h3 := HB4L.out; show ¬ q.block = X; omega))) _ _ HT6.out)
      obtain ⟨M, hM⟩ : ∃ m, m = atomsF f := ⟨_, rfl⟩
      obtain ⟨K, hK2⟩ : ∃ m, m = nn t0 := ⟨_, rfl⟩
      have hfn := fnn_eq HRF.out
      have hnn := HNN.out
      have HS1 := Lib.hid (show ∀ wq, S13 W (w.heap.size + 1 + 1) wq → W.heap.size ≤ wq.heap.size from fun wq hq => hq.1.size)
      have HA1 := Lib.hid (show ∀ wq, S13 W (w.heap.size + 1 + 1) wq → Calls Try.prog 31 #[.iface u0 z0] wq (fun e w' => e = .returned (.int .i64 (M : Int)) ∧ Below wq.heap.size wq w') from fun wq hq => by rw [hM]; exact atoms_any f _ _ wq (fun b h => by have h1 := h.2; have h2 := HX6.out.lt; have h3 := HSZW.out; have h4 := HS1.out _ hq; omega) (HFO.out wq hq) (by omega))
      have HA2 := Lib.hid (show ∀ wq, S13 W (w.heap.size + 1 + 1) wq → Calls Try.prog 38 #[.agg #[.int .i64 k, .bool neg, .slice A1 n1 c1, .string nm, .int .i64 ex, .int .i64 rl, .bool tr, .bool al, .slice A2 n2 c2]] wq (fun e w' => e = .returned (.int .i64 (M : Int)) ∧ Below wq.heap.size wq w') from fun wq hq => by rw [hM, ← at_eq HRF.out 0]; exact atoms_ref t0 _ _ wq (fun b h => by have h2 := HX6.out.lt; have h3 := HSZW.out; have h4 := HS1.out _ hq; have h5 := HB4L.out; omega) (HTQ.out wq hq) (by omega))
      have HN1 := Lib.hid (show ∀ wq, S13 W (w.heap.size + 1 + 1) wq → Calls Try.prog 30 #[.iface u0 z0] wq (fun e w' => e = .returned (.int .i64 (K : Int)) ∧ Below wq.heap.size wq w') from fun wq hq => by rw [hK2, ← hfn]; exact nodes_any f _ _ wq (fun b h => by have h1 := h.2; have h2 := HX6.out.lt; have h3 := HSZW.out; have h4 := HS1.out _ hq; omega) (HFO.out wq hq) (by omega))
      have HN2 := Lib.hid (show ∀ wq, S13 W (w.heap.size + 1 + 1) wq → Calls Try.prog 39 #[.agg #[.int .i64 k, .bool neg, .slice A1 n1 c1, .string nm, .int .i64 ex, .int .i64 rl, .bool tr, .bool al, .slice A2 n2 c2]] wq (fun e w' => e = .returned (.int .i64 (K : Int)) ∧ Below wq.heap.size wq w') from fun wq hq => by rw [hK2]; exact nodes_ref t0 _ _ wq (fun b h => by have h2 := HX6.out.lt; have h3 := HSZW.out; have h4 := HS1.out _ hq; have h5 := HB4L.out; omega) (HTQ.out wq hq) (by omega))
      have hw2 : IntKind.i64.wrap s = s := IntWalk.i64_in _ (by omega)
      have hw1 : IntKind.i64.wrap (s + 1) = s + 1 := IntWalk.i64_in _ (by omega)
      have hmin : (if s + 1 < (N : Int) then s + 1 else (N : Int)) = (n : Int) := by have h1 := HITN.out; have h2 := hSp.length_le; split <;> omega
      have hbR : W.heap[w.heap.size + 1 + 1]? = some (.cells #[.bool false] 4 (0, 0)) := (hO.same _ (by have h2 := HX6.out.lt; have h3 := HB4L.out; omega) (by have h3 := HB4L.out; show ¬ _ = X; omega)).trans HXB6.out.h2
      have HCELL := Lib.hid hcell
      have HNP := Lib.hid hn
      have HK := Lib.hid hK
      clear hcell hO hn hK hM hK2 hfn hnn
      refine wp_region_noPanic ?_
      refine wp_region_held_drew (S := S13 W (w.heap.size + 1 + 1)) (by kernel_rfl) ⟨Owns.of_below (Below.refl _ W).drew _, false, hbR⟩ (fun hHeld => ?_)
      refine wpAnyH_take (i := 0) (oi := _) (v := ?_) rfl (by kernel_rfl) (by kernel_rfl) (by kernel_rfl) (fun _ _ _ h => h) (Or.inl ⟨by rfl, ?_⟩) hHeld ?_
      rotate_left
      · (intro wq hSw; obtain ⟨m7, m9, ms, j0, j1, j2, j3, j4, j5, j6, j7, j8⟩ := FACT3.out wq hSw; (try simp only [List.getElem_toArray, List.getElem_cons_zero, List.getElem_cons_succ]); (try go_simp); with_reducible rfl)
      try simp only [List.getElem_toArray, List.getElem_cons_zero, List.getElem_cons_succ, Act.put, List.setIfInBounds_toArray, List.set_cons_zero, List.set_cons_succ]
      refine wpAnyH_take (i := 1) (oi := _) (v := ?_) rfl (by kernel_rfl) (by kernel_rfl) (by kernel_rfl) (fun _ _ _ h => h) (Or.inl ⟨by rfl, ?_⟩) hHeld ?_
      rotate_left
      · (intro wq hSw; obtain ⟨m7, m9, ms, j0, j1, j2, j3, j4, j5, j6, j7, j8⟩ := FACT3.out wq hSw; (try simp only [List.getElem_toArray, List.getElem_cons_zero, List.getElem_cons_succ]); (try go_simp); with_reducible rfl)
      try simp only [List.getElem_toArray, List.getElem_cons_zero, List.getElem_cons_succ, Act.put, List.setIfInBounds_toArray, List.set_cons_zero, List.set_cons_succ]
      refine wpAnyH_take (i := 2) (oi := _) (v := ?_) rfl (by kernel_rfl) (by kernel_rfl) (by kernel_rfl) (fun _ _ _ h => h) (Or.inl ⟨by rfl, ?_⟩) hHeld ?_
      rotate_left
      · (intro wq hSw; obtain ⟨m7, m9, ms, j0, j1, j2, j3, j4, j5, j6, j7, j8⟩ := FACT3.out wq hSw; (try simp only [List.getElem_toArray, List.getElem_cons_zero, List.getElem_cons_succ]); (try go_simp); with_reducible rfl)
      try simp only [List.getElem_toArray, List.getElem_cons_zero, List.getElem_cons_succ, Act.put, List.setIfInBounds_toArray, List.set_cons_zero, List.set_cons_succ]
      refine wpAnyH_take (i := 3) (oi := _) (v := ?_) rfl (by kernel_rfl) (by kernel_rfl) (by kernel_rfl) (fun _ _ _ h => h) (Or.inl ⟨by rfl, ?_⟩) hHeld ?_
      rotate_left
      · (intro wq hSw; obtain ⟨m7, m9, ms, j0, j1, j2, j3, j4, j5, j6, j7, j8⟩ := FACT3.out wq hSw; (try simp only [List.getElem_toArray, List.getElem_cons_zero, List.getElem_cons_succ]); (try go_simp); with_reducible rfl)
      try simp only [List.getElem_toArray, List.getElem_cons_zero, List.getElem_cons_succ, Act.put, List.setIfInBounds_toArray, List.set_cons_zero, List.set_cons_succ]
      refine wpAnyH_take (i := 4) (oi := _) (v := ?_) rfl (by kernel_rfl) (by kernel_rfl) (by kernel_rfl) (fun _ _ _ h => h) (Or.inl ⟨by rfl, ?_⟩) hHeld ?_
      rotate_left
      · (intro wq hSw; obtain ⟨m7, m9, ms, j0, j1, j2, j3, j4, j5, j6, j7, j8⟩ := FACT3.out wq hSw; (try simp only [List.getElem_toArray, List.getElem_cons_zero, List.getElem_cons_succ]); (try go_simp); with_reducible rfl)
      try simp only [List.getElem_toArray, List.getElem_cons_zero, List.getElem_cons_succ, Act.put, List.setIfInBounds_toArray, List.set_cons_zero, List.set_cons_succ]
      refine wpAnyH_take (i := 5) (oi := _) (v := ?_) rfl (by kernel_rfl) (by kernel_rfl) (by kernel_rfl) (fun _ _ _ h => h) (Or.inl ⟨by rfl, ?_⟩) hHeld ?_
      rotate_left
      · (intro wq hSw; obtain ⟨m7, m9, ms, j0, j1, j2, j3, j4, j5, j6, j7, j8⟩ := FACT3.out wq hSw; (try simp only [List.getElem_toArray, List.getElem_cons_zero, List.getElem_cons_succ]); (try go_simp); with_reducible rfl)
      try simp only [List.getElem_toArray, List.getElem_cons_zero, List.getElem_cons_succ, Act.put, List.setIfInBounds_toArray, List.set_cons_zero, List.set_cons_succ]
      refine wpAnyH_take (i := 6) (oi := _) (v := ?_) rfl (by kernel_rfl) (by kernel_rfl) (by kernel_rfl) (fun _ _ _ h => h) (Or.inl ⟨by rfl, ?_⟩) hHeld ?_
      rotate_left
      · (intro wq hSw; obtain ⟨m7, m9, ms, j0, j1, j2, j3, j4, j5, j6, j7, j8⟩ := FACT3.out wq hSw; (try simp only [List.getElem_toArray, List.getElem_cons_zero, List.getElem_cons_succ]); (try go_simp); with_reducible rfl)
      try simp only [List.getElem_toArray, List.getElem_cons_zero, List.getElem_cons_succ, Act.put, List.setIfInBounds_toArray, List.set_cons_zero, List.set_cons_succ]
      refine wpAnyH_take (i := 7) (oi := _) (v := ?_) rfl (by kernel_rfl) (by kernel_rfl) (by kernel_rfl) (fun _ _ _ h => h) (Or.inl ⟨by rfl, ?_⟩) hHeld ?_
      rotate_left
      · (intro wq hSw; obtain ⟨m7, m9, ms, j0, j1, j2, j3, j4, j5, j6, j7, j8⟩ := FACT3.out wq hSw; (try simp only [List.getElem_toArray, List.getElem_cons_zero, List.getElem_cons_succ]); (try go_simp); with_reducible rfl)
      try simp only [List.getElem_toArray, List.getElem_cons_zero, List.getElem_cons_succ, Act.put, List.setIfInBounds_toArray, List.set_cons_zero, List.set_cons_succ]
      refine wpAnyH_take (i := 8) (oi := _) (v := ?_) rfl (by kernel_rfl) (by kernel_rfl) (by kernel_rfl) (fun _ _ _ h => h) (Or.inl ⟨by rfl, ?_⟩) hHeld ?_
      rotate_left
      · (intro wq hSw; obtain ⟨m7, m9, ms, j0, j1, j2, j3, j4, j5, j6, j7, j8⟩ := FACT3.out wq hSw; (try simp only [List.getElem_toArray, List.getElem_cons_zero, List.getElem_cons_succ]); (try go_simp); with_reducible rfl)
      try simp only [List.getElem_toArray, List.getElem_cons_zero, List.getElem_cons_succ, Act.put, List.setIfInBounds_toArray, List.set_cons_zero, List.set_cons_succ]
      refine wpAnyH_take (i := 9) (oi := _) (v := ?_) rfl (by kernel_rfl) (by kernel_rfl) (by kernel_rfl) (fun _ _ _ h => h) (Or.inl ⟨by rfl, ?_⟩) hHeld ?_
      rotate_left
      · (intro wq hSw; obtain ⟨m7, m9, ms, j0, j1, j2, j3, j4, j5, j6, j7, j8⟩ := FACT3.out wq hSw; (try simp only [List.getElem_toArray, List.getElem_cons_zero, List.getElem_cons_succ]); (try go_simp); with_reducible rfl)
      try simp only [List.getElem_toArray, List.getElem_cons_zero, List.getElem_cons_succ, Act.put, List.setIfInBounds_toArray, List.set_cons_zero, List.set_cons_succ]
      refine wpAnyH_take (i := 11) (oi := _) (v := ?_) rfl (by kernel_rfl) (by kernel_rfl) (by kernel_rfl) (fun _ _ _ h => h) (Or.inl ⟨by rfl, ?_⟩) hHeld ?_
      rotate_left
      · (intro wq hSw; obtain ⟨m7, m9, ms, j0, j1, j2, j3, j4, j5, j6, j7, j8⟩ := FACT3.out wq hSw; (try simp only [List.getElem_toArray, List.getElem_cons_zero, List.getElem_cons_succ]); (try go_simp); with_reducible rfl)
      try simp only [List.getElem_toArray, List.getElem_cons_zero, List.getElem_cons_succ, Act.put, List.setIfInBounds_toArray, List.set_cons_zero, List.set_cons_succ]
      refine wpAnyH_ready (rs := [10]) (by kernel_rfl) (by simp) ?_
      refine AllReadyH.cons (o := _) rfl (fun K hK => ?_) AllReadyH.nil
      (try simp only [List.getElem_toArray, List.getElem_cons_zero, List.getElem_cons_succ])
      go_simp
      (go_at_call 31; refine (HA1.out _ hHeld).mono ?_; rintro e x1 ⟨rfl, hb9⟩; have hNew : S13 W (w.heap.size + 1 + 1) x1 := S13.step hHeld hb9; clear hb9)
      clear hHeld
      refine hK.out _ _ hNew (fun hHeld => ?_)
      clear hK K hNew
      try simp only [List.getElem_toArray, List.getElem_cons_zero, List.getElem_cons_succ, Act.put, List.setIfInBounds_toArray, List.set_cons_zero, List.set_cons_succ]
      refine wpAnyH_ready (rs := [12]) (by kernel_rfl) (by simp) ?_
      refine AllReadyH.cons (o := _) rfl (fun K hK => ?_) AllReadyH.nil
      (try simp only [List.getElem_toArray, List.getElem_cons_zero, List.getElem_cons_succ])
      go_simp
      (go_at_call 38; refine (HA2.out _ hHeld).mono ?_; rintro e x2 ⟨rfl, hb9⟩; have hNew : S13 W (w.heap.size + 1 + 1) x2 := S13.step hHeld hb9; clear hb9)
      clear hHeld
      refine hK.out _ _ hNew (fun hHeld => ?_)
      clear hK K hNew
      try simp only [List.getElem_toArray, List.getElem_cons_zero, List.getElem_cons_succ, Act.put, List.setIfInBounds_toArray, List.set_cons_zero, List.set_cons_succ]
      refine wpAnyH_take (i := 13) (oi := _) (v := ?_) rfl (by kernel_rfl) (by kernel_rfl) (by kernel_rfl) (fun _ _ _ h => h) (Or.inl ⟨by rfl, ?_⟩) hHeld ?_
      rotate_left
      · (intro wq hSw; obtain ⟨m7, m9, ms, j0, j1, j2, j3, j4, j5, j6, j7, j8⟩ := FACT3.out wq hSw; (try simp only [List.getElem_toArray, List.getElem_cons_zero, List.getElem_cons_succ]); (try go_simp); with_reducible rfl)
      try simp only [List.getElem_toArray, List.getElem_cons_zero, List.getElem_cons_succ, Act.put, List.setIfInBounds_toArray, List.set_cons_zero, List.set_cons_succ]
      refine wpAnyH_take (i := 14) (oi := _) (v := ?_) rfl (by kernel_rfl) (by kernel_rfl) (by kernel_rfl) (fun _ _ _ h => h) (Or.inl ⟨by rfl, ?_⟩) hHeld ?_
      rotate_left
      · (intro wq hSw; obtain ⟨m7, m9, ms, j0, j1, j2, j3, j4, j5, j6, j7, j8⟩ := FACT3.out wq hSw; (try simp only [List.getElem_toArray, List.getElem_cons_zero, List.getElem_cons_succ]); (try go_simp); with_reducible rfl)
      try simp only [List.getElem_toArray, List.getElem_cons_zero, List.getElem_cons_succ, Act.put, List.setIfInBounds_toArray, List.set_cons_zero, List.set_cons_succ]
      refine wpAnyH_take (i := 15) (oi := _) (v := ?_) rfl (by kernel_rfl) (by kernel_rfl) (by kernel_rfl) (fun _ _ _ h => h) (Or.inl ⟨by rfl, ?_⟩) hHeld ?_
      rotate_left
      · (intro wq hSw; obtain ⟨m7, m9, ms, j0, j1, j2, j3, j4, j5, j6, j7, j8⟩ := FACT3.out wq hSw; (try simp only [List.getElem_toArray, List.getElem_cons_zero, List.getElem_cons_succ]); (try go_simp); with_reducible rfl)
      try simp only [List.getElem_toArray, List.getElem_cons_zero, List.getElem_cons_succ, Act.put, List.setIfInBounds_toArray, List.set_cons_zero, List.set_cons_succ]
      refine wpAnyH_take (i := 16) (oi := _) (v := ?_) rfl (by kernel_rfl) (by kernel_rfl) (by kernel_rfl) (fun _ _ _ h => h) (Or.inl ⟨by rfl, ?_⟩) hHeld ?_
      rotate_left
      · (intro wq hSw; obtain ⟨m7, m9, ms, j0, j1, j2, j3, j4, j5, j6, j7, j8⟩ := FACT3.out wq hSw; (try simp only [List.getElem_toArray, List.getElem_cons_zero, List.getElem_cons_succ]); (try go_simp); with_reducible rfl)
      try simp only [List.getElem_toArray, List.getElem_cons_zero, List.getElem_cons_succ, Act.put, List.setIfInBounds_toArray, List.set_cons_zero, List.set_cons_succ]
      refine wpAnyH_take (i := 18) (oi := _) (v := ?_) rfl (by kernel_rfl) (by kernel_rfl) (by kernel_rfl) (fun _ _ _ h => h) (Or.inl ⟨by rfl, ?_⟩) hHeld ?_
      rotate_left
      · (intro wq hSw; obtain ⟨m7, m9, ms, j0, j1, j2, j3, j4, j5, j6, j7, j8⟩ := FACT3.out wq hSw; (try simp only [List.getElem_toArray, List.getElem_cons_zero, List.getElem_cons_succ]); (try go_simp); with_reducible rfl)
      try simp only [List.getElem_toArray, List.getElem_cons_zero, List.getElem_cons_succ, Act.put, List.setIfInBounds_toArray, List.set_cons_zero, List.set_cons_succ]
      refine wpAnyH_ready (rs := [17]) (by kernel_rfl) (by simp) ?_
      refine AllReadyH.cons (o := _) rfl (fun K hK => ?_) AllReadyH.nil
      (try simp only [List.getElem_toArray, List.getElem_cons_zero, List.getElem_cons_succ])
      go_simp
      (go_at_call 30; refine (HN1.out _ hHeld).mono ?_; rintro e x3 ⟨rfl, hb9⟩; have hNew : S13 W (w.heap.size + 1 + 1) x3 := S13.step hHeld hb9; clear hb9)
      clear hHeld
      refine hK.out _ _ hNew (fun hHeld => ?_)
      clear hK K hNew
      try simp only [List.getElem_toArray, List.getElem_cons_zero, List.getElem_cons_succ, Act.put, List.setIfInBounds_toArray, List.set_cons_zero, List.set_cons_succ]
      refine wpAnyH_ready (rs := [19]) (by kernel_rfl) (by simp) ?_
      refine AllReadyH.cons (o := _) rfl (fun K hK => ?_) AllReadyH.nil
      (try simp only [List.getElem_toArray, List.getElem_cons_zero, List.getElem_cons_succ])
      go_simp
      (go_at_call 39; refine (HN2.out _ hHeld).mono ?_; rintro e x4 ⟨rfl, hb9⟩; have hNew : S13 W (w.heap.size + 1 + 1) x4 := S13.step hHeld hb9; clear hb9)
      clear hHeld
      refine hK.out _ _ hNew (fun hHeld => ?_)
      clear hK K hNew
      try simp only [List.getElem_toArray, List.getElem_cons_zero, List.getElem_cons_succ, Act.put, List.setIfInBounds_toArray, List.set_cons_zero, List.set_cons_succ]
      refine wpAnyH_take (i := 20) (oi := _) (v := ?_) rfl (by kernel_rfl) (by kernel_rfl) (by kernel_rfl) (fun _ _ _ h => h) (Or.inl ⟨by rfl, ?_⟩) hHeld ?_
      rotate_left
      · (intro wq hSw; obtain ⟨m7, m9, ms, j0, j1, j2, j3, j4, j5, j6, j7, j8⟩ := FACT3.out wq hSw; (try simp only [List.getElem_toArray, List.getElem_cons_zero, List.getElem_cons_succ]); (try go_simp); with_reducible rfl)
      try simp only [List.getElem_toArray, List.getElem_cons_zero, List.getElem_cons_succ, Act.put, List.setIfInBounds_toArray, List.set_cons_zero, List.set_cons_succ]
      refine wpAnyH_take (i := 21) (oi := _) (v := ?_) rfl (by kernel_rfl) (by kernel_rfl) (by kernel_rfl) (fun _ _ _ h => h) (Or.inl ⟨by rfl, ?_⟩) hHeld ?_
      rotate_left
      · (intro wq hSw; obtain ⟨m7, m9, ms, j0, j1, j2, j3, j4, j5, j6, j7, j8⟩ := FACT3.out wq hSw; (try simp only [List.getElem_toArray, List.getElem_cons_zero, List.getElem_cons_succ]); (try go_simp); with_reducible rfl)
      try simp only [List.getElem_toArray, List.getElem_cons_zero, List.getElem_cons_succ, Act.put, List.setIfInBounds_toArray, List.set_cons_zero, List.set_cons_succ]
      obtain ⟨bb, hbb⟩ : ∃ b, x4.heap[w.heap.size + 1 + 1]? = some (.cells #[.bool b] 4 (0, 0)) := hHeld.2
      have hcR : x4.cell? ⟨w.heap.size + 1 + 1, 0, none⟩ = some (.bool bb) := by simp [World.cell?, hbb]
      have hfR : x4.frozen? ⟨w.heap.size + 1 + 1, 0, none⟩ = false := by simp [World.frozen?, hbb]
      have HX4S := Lib.hid (show S13 W (w.heap.size + 1 + 1) x4 from hHeld)
      have HBB := Lib.hid (setCell_block x4 (w.heap.size + 1 + 1) 0 _ _ (.bool true) hbb)
      clear hbb
      refine wpAnyH_ready (rs := [22]) (by kernel_rfl) (by simp) ?_
      refine AllReadyH.cons (o := _) rfl (fun K hK => ?_) AllReadyH.nil
      (try simp only [List.getElem_toArray, List.getElem_cons_zero, List.getElem_cons_succ])
      go_simp
      refine hK.out _ _ ⟨HX4S.out.1.trans (owns_set _ _ _ rfl), true, HBB.out⟩ (fun hHeld2 => ?_)
      clear hK K hHeld hHeld2 hcR hfR
      try simp only [List.getElem_toArray, List.getElem_cons_zero, List.getElem_cons_succ, Act.put, List.setIfInBounds_toArray, List.set_cons_zero, List.set_cons_succ]
      refine wpAnyH_done (by kernel_rfl) ?_ _
      refine NoPanic.normal ?_
      go_wp2_with fail
      have hbF := HBB.out
      simp only [List.setIfInBounds_toArray, List.set_cons_zero] at hbF
      have hO5 := HO.out
      have hl6 := HX6.out.lt
      have hl4 := HB4L.out
      have hDW : D < W.heap.size := (Array.getElem?_eq_some_iff.1 HK.out).1
      have hDF : (x4.setCell ⟨w.heap.size + 1 + 1, 0, none⟩ (.bool true)).heap[D]? = some (.deferred (some [])) := (Below.heap_setCell _ _ _ _ (by show D ≠ w.heap.size + 1 + 1; omega)).trans ((HX4S.out.1.same D hDW (by show ¬ D = _; omega)).trans HK.out)
      have hfin : ((x4.setCell ⟨w.heap.size + 1 + 1, 0, none⟩ (.bool true)).putObj D (.deferred none)).cell? ⟨w.heap.size + 1 + 1, 0, none⟩ = some (.bool true) := by
        have h1 := (World.putObj_heap_other (w := x4.setCell ⟨w.heap.size + 1 + 1, 0, none⟩ (.bool true)) (r := D) (o := .deferred none) (k := w.heap.size + 1 + 1) (by omega)).trans hbF
        simp [World.cell?, h1]
      have hbel : Below w.heap.size w ((x4.setCell ⟨w.heap.size + 1 + 1, 0, none⟩ (.bool true)).putObj D (.deferred none)) :=
        ((HXB6.out.below.trans (hO5.below (by have := HXB6.out.below.size; omega) (fun b hb => by rw [hb]; omega))).trans ((HX4S.out.1.trans (owns_set _ _ _ rfl)).below (by have := HSZW.out; omega) (fun b hb => by rw [hb]; omega))).trans (belowK_b (w := w) (Nat.le_refl _) _ D _ _ (by omega) hDF rfl rfl)
      clear hbF
      refine ⟨by simp, .inl ⟨_, _, rfl, run_takeDeferred hDF, ?_⟩⟩
      refine ⟨.bool true, ?_, rfl, hbel⟩
      rw [results_cell rfl]
      go_simp
    · exact (hbad hSp).elim

theorem walk (t0 : Tr) (cs0 : List Value) (a1 : Int) (w1 : (Lit.int .u8 a1).wf = true) (w : World) (hT0 : TreeAt w (fun b => b < w.heap.size) t0 cs0) :
    Calls Try.prog 8 #[.agg cs0.toArray, .int .u8 a1] w fun e w' => e = .returned (.bool true) ∧ Below w.heap.size w w' := by
  have hr : 0 ≤ a1 ∧ a1 < 256 := by
    simp [Lit.wf] at w1
    have e1 : IntKind.u8.min = 0 := by decide
    have e2 : IntKind.u8.max = 255 := by decide
    omega
  by_cases h1 : rightB t0 = true
  · exact yes t0 cs0 a1 hr.1 hr.2 h1 w hT0
  · exact no t0 cs0 a1 (by simpa using h1) w hT0

theorem laidOut : laidOutB Try.prog = true := by kernel_rfl

theorem own : ownKnob Try.prog.godebug = none := by kernel_rfl

set_option maxRecDepth 100000 in
theorem lifted (os : Os) (started : os.Started) (H : Type) (enc : TypeId × Value → H) :
    ReturnsInHanded {} Try.checked os 8 .any (Rows.formulaPartsSpec.pre6 enc Try.prog Try.f8 Rows.formulaPartsRow.domain false) (Rows.formulaPartsSpec.post enc Try.prog Try.f8 false true false false) := by
  refine returnsInHanded_of_change (C := Try.checked) own started (by kernel_rfl) Try.func8
    (ChangeSpec.witness6 (enc := enc) (C := Try.checked) false ⟨#[], #[.agg #[.int .i64 0, .bool false, .slice none 0 0, .string ByteArray.empty, .int .i64 0, .int .i64 0, .bool false, .bool false, .slice none 0 0], .int .u8 0], []⟩ 8 (by kernel_rfl) (by kernel_rfl) (by kernel_rfl) (by kernel_rfl)) ?_
  intro W base args ds gs before hval0 hW hcnd _
  have hval : ∀ (j : Nat) t v, Try.f8.params[j]? = some t → args[j]? = some v → Value.okWide Try.prog W .any base t v := hval0
  have hW' := hW
  obtain ⟨p, q, hA0, hV, rfl, hfz, hnd⟩ := hW
  have hA : DataW.TrodAll enc Try.prog W 0 (fun _ => true) true Try.f8.params.toList args.toList ds p := hA0
  rw [Try.params8] at hA hval
  obtain ⟨v0, vs0, d0, ds0, p0, q0, hargs, rfl, rfl, h0, r0⟩ := trodAll_cons hA
  obtain ⟨v1, vs1, d1, ds1, p1, q1, rfl, rfl, rfl, h1, r1⟩ := trodAll_cons r0
  obtain ⟨rfl, rfl, rfl⟩ := trodAll_nil r1
  obtain rfl : args = #[v0, v1] := by cases args; simp_all
  obtain ⟨rfl, rfl⟩ := trodVars_none hV
  obtain ⟨cs0, rfl, hl0⟩ := okWide_struct Try.underlying29 (hval 0 29 v0 rfl rfl)
  have hl0' : cs0.toList.length = 9 := by rw [show Try.prog.cellsOf 29 = 9 by kernel_rfl] at hl0; simpa using hl0
  have h0k := h0
  obtain ⟨fuel0, hf0⟩ := h0
  obtain ⟨t0, hT0⟩ := open_tree fuel0 fuel0 (Nat.le_refl _) _ _ hl0' hf0
  obtain ⟨a1, rfl, rfl, rfl, w1⟩ := open_int Try.underlying5 (hval 1 5 v1 rfl rfl) h1
  clear hA0 hval0
  simp only [List.append_nil] at hW'
  have hlt0 : ∀ x ∈ p0, x.block < W.heap.size := fun x hx => by simpa using hW'.lt x (by simp [hx])
  refine (walk t0 cs0.toList a1 w1 W hT0).mono fun e W' ⟨he, bel⟩ => ?_
  subst he
  exact ⟨_, rfl, _, _, _, [], _, [], hW', trodAll_mk1 (shut_bool Try.underlying4 _), (trodAll_cons_mk (Below.trod laidOut (by kernel_rfl) (of_decide_eq_true (by kernel_rfl)) h0k bel hlt0) (trodAll_cons_mk (shut_int Try.underlying5 w1) trodAll_mk0)), rfl, bel.frame _, fun h => by cases h⟩

theorem over : Rows.formulaPartsRow.holds Try.pinned (OpenSpec.ofChange Rows.formulaPartsSpec) :=
  OpenClaim.holds_of_wide 8 Try.f8 rfl rfl rfl rfl rfl rfl rfl ⟨rfl, rfl, rfl, rfl, rfl⟩ rfl rfl rfl rfl rfl (by kernel_rfl) Try.func8 (by kernel_rfl)
    (of_decide_eq_true (by kernel_rfl)) (by unfold Func.isWrapper; first | (rw [if_pos (by decide +kernel)]; kernel_rfl) | (rw [if_neg (by decide +kernel)]; exact ⟨rfl, rfl⟩))
    (fun os started H enc _ => lifted os started H enc)

/-- THE STATEMENT -/
theorem proved : Rows.FormulaPartsSaid := over
end Go.Proofs.Ytjbgdaojhdobkaa.formulaParts
