/-
  formula.subterms, formula.parts: what a term, a formula consists of.
-/
import Derived.Test.YtkjbfomokdjbnaaDoorTa
import Derived.Test.YtkjbfomokdjbnaaDoorFmO
namespace Go.Proofs.YtkjbfomokdjbnaaDoor
open Go.RowKit
set_option linter.unusedSimpArgs false
set_option linter.unusedVariables false
namespace Fm
attribute [local go_sem] run_store taNum_yes taNum_no taNum_nil taName_yes taName_no taName_nil taAdd_yes taAdd_no taAdd_nil taSub_yes taSub_no taSub_nil taMul_yes taMul_no taMul_nil taNeg_yes taNeg_no taNeg_nil taPow_yes taPow_no taPow_nil taTruth_yes taTruth_no taTruth_nil taAtom_yes taAtom_no taAtom_nil taNot_yes taNot_no taNot_nil taAnd_yes taAnd_no taAnd_nil taOr_yes taOr_no taOr_nil taImplies_yes taImplies_no taImplies_nil taIff_yes taIff_no taIff_nil taQuant_yes taQuant_no taQuant_nil

/-- values of terms, of formulas -/
def TmsAt (w : World) (S : Nat → Prop) (ts : List Tm) (vs : List Value) : Prop := vs.length = ts.length ∧ ∀ (i : Nat) (t : Tm), ts[i]? = some t → ∃ v, vs[i]? = some v ∧ TmAt w S t v
def FosAt (w : World) (S : Nat → Prop) (ts : List Fo) (vs : List Value) : Prop := vs.length = ts.length ∧ ∀ (i : Nat) (t : Fo), ts[i]? = some t → ∃ v, vs[i]? = some v ∧ FoAt w S t v
theorem TmsAt.nil {w : World} {S : Nat → Prop} : TmsAt w S [] [] := ⟨rfl, fun i t h => by simp at h⟩
theorem TmsAt.one {w : World} {S : Nat → Prop} {t : Tm} {v : Value} (h : TmAt w S t v) : TmsAt w S [t] [v] := ⟨rfl, fun i t' h' => by
  match i with
  | 0 => simp at h'; subst h'; exact ⟨v, rfl, h⟩
  | i + 1 => simp at h'⟩
theorem TmsAt.two {w : World} {S : Nat → Prop} {t u : Tm} {v x : Value} (h : TmAt w S t v) (k : TmAt w S u x) : TmsAt w S [t, u] [v, x] := ⟨rfl, fun i t' h' => by
  match i with
  | 0 => simp at h'; subst h'; exact ⟨v, rfl, h⟩
  | 1 => simp at h'; subst h'; exact ⟨x, rfl, k⟩
  | i + 2 => simp at h'⟩
theorem FosAt.nil {w : World} {S : Nat → Prop} : FosAt w S [] [] := ⟨rfl, fun i t h => by simp at h⟩
theorem FosAt.one {w : World} {S : Nat → Prop} {t : Fo} {v : Value} (h : FoAt w S t v) : FosAt w S [t] [v] := ⟨rfl, fun i t' h' => by
  match i with
  | 0 => simp at h'; subst h'; exact ⟨v, rfl, h⟩
  | i + 1 => simp at h'⟩
theorem FosAt.two {w : World} {S : Nat → Prop} {t u : Fo} {v x : Value} (h : FoAt w S t v) (k : FoAt w S u x) : FosAt w S [t, u] [v, x] := ⟨rfl, fun i t' h' => by
  match i with
  | 0 => simp at h'; subst h'; exact ⟨v, rfl, h⟩
  | 1 => simp at h'; subst h'; exact ⟨x, rfl, k⟩
  | i + 2 => simp at h'⟩
end Fm
end Go.Proofs.YtkjbfomokdjbnaaDoor

/-
  formula.occurrences: it calls use for each name of a term, from left to right.
-/
namespace Go.Proofs.YtkjbfomokdjbnaaDoor
open Go.RowKit
set_option linter.unusedSimpArgs false
set_option linter.unusedVariables false
namespace Fm
attribute [local go_sem] run_store taName_yes taName_no taName_nil

/-- what a call may do that owns the blocks F, and owns F' behind it -/
structure Owns (W W' : World) (F F' : Nat → Prop) : Prop where
  os : W'.os = W.os
  tape : W'.tape = W.tape
  output : W'.output = W.output
  size : W.heap.size ≤ W'.heap.size
  same : ∀ b, b < W.heap.size → ¬ F b → W'.heap[b]? = W.heap[b]?
  foot : ∀ b, F' b → F b ∨ W.heap.size ≤ b
section
variable {W W' W2 : World} {F F' F2 : Nat → Prop}
theorem Owns.refl (W : World) (F : Nat → Prop) : Owns W W F F := ⟨rfl, rfl, rfl, Nat.le_refl _, fun _ _ _ => rfl, fun _ h => .inl h⟩
theorem Owns.trans (h : Owns W W' F F') (k : Owns W' W2 F' F2) : Owns W W2 F F2 :=
  ⟨k.os.trans h.os, k.tape.trans h.tape, k.output.trans h.output, Nat.le_trans h.size k.size,
    fun b hb hF => (k.same b (Nat.lt_of_lt_of_le hb h.size) (fun hF' => by rcases h.foot b hF' with h1 | h1; exact hF h1; omega)).trans (h.same b hb hF),
    fun b hb => by
      have := h.size
      rcases k.foot b hb with h1 | h1
      · exact h.foot b h1
      · right; omega⟩
theorem Owns.of_below (h : Below W.heap.size W W') (F : Nat → Prop) : Owns W W' F F := ⟨h.os, h.tape, h.output, h.size, fun b hb _ => h.block b hb, fun _ h => .inl h⟩
theorem Owns.below (h : Owns W W' F F') {B : Nat} (hB : B ≤ W.heap.size) (hF : ∀ b, F b → B ≤ b) : Below B W W' := ⟨h.os, h.tape, h.output, h.size, fun b hb => h.same b (by omega) (fun h => by have := hF b h; omega)⟩
theorem Owns.cell (h : Owns W W' F F') {p : Addr} (hp : p.block < W.heap.size) (hF : ¬ F p.block) : W'.cell? p = W.cell? p := World.cell?_of_block (h.same _ hp hF)
theorem Owns.fz (h : Owns W W' F F') {p : Addr} (hp : p.block < W.heap.size) (hF : ¬ F p.block) : W'.frozen? p = W.frozen? p := by
  unfold World.frozen?; rw [h.same _ hp hF]
theorem Owns.foot' (h : Owns W W' F F') {b : Nat} (hb : b < W.heap.size) (hF : ¬ F b) : ¬ F' b := fun h' => by rcases h.foot b h' with h1 | h1; exact hF h1; omega
end

/-- a function value that may be called with a name: what it keeps, and how its state turns -/
structure UseOk {σ : Type} (fid : FuncId) (caps : Array Value) (J : σ → (Nat → Prop) → World → Prop) (step : σ → ByteArray → σ) (cnt : σ → Nat) : Prop where
  le : ∀ s nm, cnt (step s nm) ≤ cnt s + 1
  lt : ∀ {s F W}, J s F W → ∀ b, F b → b < W.heap.size
  below : ∀ {s F W W'}, J s F W → Below W.heap.size W W' → J s F W'
  cf : ∀ args w, (callFunc fid args).run Tryd.prog w = .ok (.enter fid args) w
  call : ∀ s F W nm, nm.size ≤ 9223372036854775807 → cnt s < 900000 → J s F W → Calls Tryd.prog fid (#[.string nm] ++ caps) W fun e W' => e = .returned (.tuple #[]) ∧ ∃ F', J (step s nm) F' W' ∧ Owns W W' F F'

theorem TmAt.owns {W W' : World} {F F' S : Nat → Prop} {t : Tm} {v : Value} (h : TmAt W S t v) (ho : Owns W W' F F') (hS : ∀ b, S b → b < W.heap.size ∧ ¬ F b) : TmAt W' S t v :=
  TmAt.keep (fun p hp => ho.cell (hS _ hp).1 (hS _ hp).2) t v h
theorem FoAt.owns {W W' : World} {F F' S : Nat → Prop} {t : Fo} {v : Value} (h : FoAt W S t v) (ho : Owns W W' F F') (hS : ∀ b, S b → b < W.heap.size ∧ ¬ F b) : FoAt W' S t v :=
  FoAt.keep (fun p hp => ho.cell (hS _ hp).1 (hS _ hp).2) t v h
theorem S_owns {W W' : World} {F F' S : Nat → Prop} (ho : Owns W W' F F') (hS : ∀ b, S b → b < W.heap.size ∧ ¬ F b) : ∀ b, S b → b < W'.heap.size ∧ ¬ F' b :=
  fun b hb => ⟨Nat.lt_of_lt_of_le (hS b hb).1 ho.size, ho.foot' (hS b hb).1 (hS b hb).2⟩

section
variable {σ : Type} {fid : FuncId} {caps : Array Value} {J : σ → (Nat → Prop) → World → Prop} {step : σ → ByteArray → σ} {cnt : σ → Nat}
end
end Fm
end Go.Proofs.YtkjbfomokdjbnaaDoor
