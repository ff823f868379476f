/-
  formula.Parts: the iterator over a formula's subformulas: its contract.
-/
import Derived.Test.YtjbgdaojhdobkaaVsA
import Derived.Test.YtjbgdaojhdobkaaFmFr
namespace Go.Proofs.Ytjbgdaojhdobkaa
open Go.RowKit Go.Shelf
set_option linter.unusedSimpArgs false
set_option linter.unusedVariables false
namespace Vs
open Fm
attribute [local go_sem] run_store Oper.semAt_some
theorem roundAny {F : Fence} (hd : F.depth = none) {m m' : Nat} {P : Program} {l : Nat} {f : FuncId} {tmps : Array Value} {assign body : Code} {w : World} {R : Ending → World → Prop}
    (h : RoundIn F m P l f tmps assign body w R) : RoundIn F m' P l f tmps assign body w R := ⟨h.1, fun c cs _ => h.2 c cs (fun d h => by rw [hd] at h; cases h)⟩
theorem yieldAny {F : Fence} (hd : F.depth = none) {m : Nat} (m' : Nat) {P : Program} {l : Nat} {args : Array Value} {W : World} {R : Ending → World → Prop} (h : YieldAt F m P l args W R) : YieldAt F m' P l args W R := by
  obtain ⟨fn, tmps, assign, body, hy, hR⟩ := h
  exact ⟨fn, tmps, assign, body, hy, roundAny hd hR⟩
section
variable {w0 : World} {S : Nat → Prop}
def itE (x : It w0 S) : Array Value := #[.int .i64 x.1.d, x.1.v]
set_option maxRecDepth 100000 in
set_option maxHeartbeats 4000000 in
/-- the closure that Parts hands back: the subformulas of f come, in order; or some of them, a round having said no more -/
theorem parts1_stops (F : Nat → Prop) (hF : ∀ b, F b → b < w0.heap.size) (Bt : Nat) (hBt : Bt < w0.heap.size) (f : Fo) (v : Value) (hc : w0.cell? ⟨Bt, 0, none⟩ = some v) (hf : FoAt w0 S f v) (hs : SmF f) (hh : hgt f ≤ 900000) (n : Nat) :
    ∃ its : List (It w0 S), its.map It.pr = flatO f 0 ∧
      SeqStopsK Fence.wide n Try.prog 69 #[.pointer (some ⟨Bt, 0, none⟩)] (itE (w0 := w0) (S := S)) (KeepC F) (fun ys => ys = its) (fun pre => pre <+: its) its.length w0 := by
  obtain ⟨its, hits, hV⟩ := visit_any w0 S f v 0 hf hs (Int.le_refl _) (by omega)
  refine ⟨its, hits, fun l J Jx W hW hJ hJx hY h0 => ?_⟩
  have hC := hV J Jx F l its.length (fun s W W' h hb => hJ s W W' none h ⟨hb.os, hb.tape, hb.output, hb.size, fun k hk _ => hb.block k hk⟩ (fun r e => by cases e)) hF (fun m pre x W hj hl => yieldAny rfl m (hY pre x W hj hl)) (n - 1) [] W hW.size h0 (by simp)
  have hcell : W.cell? ⟨Bt, 0, none⟩ = some v := (hW.cell (p := ⟨Bt, 0, none⟩) hBt).trans hc
  have HC := Lib.hid hC
  have hdd : ∀ k : Nat, (Fence.wide.depth.isSome = true → 1 ≤ k) := fun k h => by cases h
  have hone := hf.one
  clear hC hV hY hJ hJx hits hF hf hc hs hh
  show CallsIn Fence.wide n Try.prog 69 #[.func (.yield l) #[] #[], .pointer (some ⟨Bt, 0, none⟩)] W _
  refine callsIn_of_wp Try.func69 rfl trivial ?_ rfl
  simp only [Try.ntmps69, List.size_toArray, List.length_cons, List.length_nil, Nat.reduceAdd, Nat.reduceSub, Array.replicate_succ, Array.replicate_zero, List.push_toArray, List.append_toArray, List.nil_append, List.cons_append]
  gi_wp2_with (refine ⟨trivial, hdd _, ?_⟩; gi_at_call 70; refine HC.out.mono ?_; rintro e W1 (⟨rfl, hJ1, _⟩ | ⟨rfl, q, hq, hx⟩))
  · go_end0
    exact ⟨⟨_, rfl⟩, .inl ⟨_, rfl, by simpa using hJ1⟩⟩
  · go_end0
    exact ⟨⟨_, rfl⟩, .inr ⟨q, hq, by simpa using hx⟩⟩
end
def PtPost (f : Fo) (w : World) (e : Ending) (w' : World) : Prop :=
  ∃ Bt v', e = .returned (.func (.func 69) #[] #[.pointer (some ⟨Bt, 0, none⟩)]) ∧ w.heap.size ≤ Bt ∧ Bt < w'.heap.size ∧ w'.cell? ⟨Bt, 0, none⟩ = some v' ∧ FoAt w' (Fr w w') f v' ∧ Below w.heap.size w w'
set_option maxRecDepth 100000 in
set_option maxHeartbeats 4000000 in
theorem parts_fo (t : Tr) (f : Fo) (v : Value) (S : Nat → Prop) (w : World) (hS : ∀ b, S b → b < w.heap.size) (hf : FoAt w S f v) (hrf : RF t f) (hsm : Sm t) :
    Calls Try.prog 37 #[v] w (PtPost f w) := by
  have hne : f ≠ .odd := by cases hrf <;> exact Fo.noConfusion
  obtain ⟨u, z, rfl⟩ := hf.iface hne
  obtain ⟨W, hW⟩ : ∃ W, w.alloc (.cells #[.iface u z] 43) = W := ⟨_, rfl⟩
  have hbW : Below w.heap.size w W := by rw [← hW]; exact (Below.refl _ w).alloc (Nat.le_refl _) _
  have hs1 : W.heap.size = w.heap.size + 1 := by rw [← hW]; simp
  have hone := hf.one
  have hnew : W.heap[w.heap.size]? = some (.cells #[.iface u z] 43 (0, 0)) := by rw [← hW]; exact World.alloc_heap_new w _
  have hfz : W.frozen? ⟨w.heap.size, 0, none⟩ = false := by simp [World.frozen?, hnew]
  have hc0 : W.cell? ⟨w.heap.size, 0, none⟩ = some (.iface u z) := by rw [← hW, cell_new]; rfl
  have HC := Lib.hid (fresh_any t f (.iface u z) S W (fun b hb => by have := hS b hb; omega) (hf.below hS hbW) hrf hsm)
  have HBW := Lib.hid hbW
  have HW := Lib.hid hW
  have HNE := Lib.hid hne
  have HC0 := Lib.hid hc0
  have HFZ := Lib.hid hfz
  have HS1 := Lib.hid hs1
  clear hne hf hrf hsm hbW hs1 hS hnew hW hc0 hfz
  go_enter Try.func37, Try.ntmps37
  go_wp2_with (go_at_call 68; rw [HW.out]; refine HC.out.mono ?_; intro e w2 hp; obtain ⟨v', rfl, hf', hb2⟩ := hp; obtain ⟨u', z', rfl⟩ := hf'.iface HNE.out; have HF' := Lib.hid hf'; have HB2 := Lib.hid hb2; have hc2 := (hb2.cell (p := ⟨w.heap.size, 0, none⟩) (by have := HS1.out; show w.heap.size < W.heap.size; omega)).trans HC0.out; have hfz2 := (hb2.frozen (p := ⟨w.heap.size, 0, none⟩) (by have := HS1.out; show w.heap.size < W.heap.size; omega)).trans HFZ.out; clear hf' hb2)
  go_ret
  refine ⟨w.heap.size, .iface u' z', rfl, Nat.le_refl _, ?_, ?_, ?_, ?_⟩
  · have h1 := HB2.out.size; have h2 := HS1.out; simp [World.setCell]; omega
  · exact World.cell?_setCell_same' _ _ _ (by rw [hc2]; rfl)
  · refine FoAt.more (fun b h => ?_) _ _ (FoAt.setCell HF'.out (.iface u' z') (fun h => by have := h.1; have := HS1.out; omega))
    have h1 := h.1; have h2 := h.2; have h3 := HS1.out
    refine ⟨by omega, ?_⟩
    simpa [World.setCell] using h2
  · exact (HBW.out.trans (HB2.out.mono HBW.out.size)).setCell (p := ⟨w.heap.size, 0, none⟩) (Nat.le_refl _) _
end Vs
end Go.Proofs.Ytjbgdaojhdobkaa
