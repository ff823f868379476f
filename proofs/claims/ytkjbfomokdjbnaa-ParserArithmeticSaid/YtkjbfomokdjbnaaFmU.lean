/-
  formula.occurrences: it calls use for each name of a term, from left to right.
-/
import Derived.Test.YtkjbfomokdjbnaaFmK
namespace Go.Proofs.Ytkjbfomokdjbnaa
open Go.RowKit
set_option linter.unusedSimpArgs false
set_option linter.unusedVariables false
namespace Fm
attribute [local go_sem] run_store taName_yes taName_no taName_nil

/-- what a call may do that owns the blocks F, and owns F' behind it -/
structure Owns (W W' : World) (F F' : Nat → Prop) : Prop where
  os : W'.os = W.os
  tape : W'.tape = W.tape
  output : W'.output = W.output
  size : W.heap.size ≤ W'.heap.size
  same : ∀ b, b < W.heap.size → ¬ F b → W'.heap[b]? = W.heap[b]?
  foot : ∀ b, F' b → F b ∨ W.heap.size ≤ b
section
variable {W W' W2 : World} {F F' F2 : Nat → Prop}
theorem Owns.refl (W : World) (F : Nat → Prop) : Owns W W F F := ⟨rfl, rfl, rfl, Nat.le_refl _, fun _ _ _ => rfl, fun _ h => .inl h⟩
theorem Owns.trans (h : Owns W W' F F') (k : Owns W' W2 F' F2) : Owns W W2 F F2 :=
  ⟨k.os.trans h.os, k.tape.trans h.tape, k.output.trans h.output, Nat.le_trans h.size k.size,
    fun b hb hF => (k.same b (Nat.lt_of_lt_of_le hb h.size) (fun hF' => by rcases h.foot b hF' with h1 | h1; exact hF h1; omega)).trans (h.same b hb hF),
    fun b hb => by
      have := h.size
      rcases k.foot b hb with h1 | h1
      · exact h.foot b h1
      · right; omega⟩
theorem Owns.of_below (h : Below W.heap.size W W') (F : Nat → Prop) : Owns W W' F F := ⟨h.os, h.tape, h.output, h.size, fun b hb _ => h.block b hb, fun _ h => .inl h⟩
theorem Owns.below (h : Owns W W' F F') {B : Nat} (hB : B ≤ W.heap.size) (hF : ∀ b, F b → B ≤ b) : Below B W W' := ⟨h.os, h.tape, h.output, h.size, fun b hb => h.same b (by omega) (fun h => by have := hF b h; omega)⟩
theorem Owns.cell (h : Owns W W' F F') {p : Addr} (hp : p.block < W.heap.size) (hF : ¬ F p.block) : W'.cell? p = W.cell? p := World.cell?_of_block (h.same _ hp hF)
theorem Owns.fz (h : Owns W W' F F') {p : Addr} (hp : p.block < W.heap.size) (hF : ¬ F p.block) : W'.frozen? p = W.frozen? p := by
  unfold World.frozen?; rw [h.same _ hp hF]
theorem Owns.foot' (h : Owns W W' F F') {b : Nat} (hb : b < W.heap.size) (hF : ¬ F b) : ¬ F' b := fun h' => by rcases h.foot b h' with h1 | h1; exact hF h1; omega
end

/-- a function value that may be called with a name: what it keeps, and how its state turns -/
structure UseOk {σ : Type} (fid : FuncId) (caps : Array Value) (J : σ → (Nat → Prop) → World → Prop) (step : σ → ByteArray → σ) (cnt : σ → Nat) : Prop where
  le : ∀ s nm, cnt (step s nm) ≤ cnt s + 1
  lt : ∀ {s F W}, J s F W → ∀ b, F b → b < W.heap.size
  below : ∀ {s F W W'}, J s F W → Below W.heap.size W W' → J s F W'
  cf : ∀ args w, (callFunc fid args).run Try.prog w = .ok (.enter fid args) w
  call : ∀ s F W nm, nm.size ≤ 9223372036854775807 → cnt s < 900000 → J s F W → Calls Try.prog fid (#[.string nm] ++ caps) W fun e W' => e = .returned (.tuple #[]) ∧ ∃ F', J (step s nm) F' W' ∧ Owns W W' F F'

def UPost {σ : Type} (J : σ → (Nat → Prop) → World → Prop) (s' : σ) (F : Nat → Prop) (W : World) (e : Ending) (W' : World) : Prop := e = .returned (.tuple #[]) ∧ ∃ F', J s' F' W' ∧ Owns W W' F F'
/-- the state of a loop -/
def URel {σ : Type} (J : σ → (Nat → Prop) → World → Prop) (s' : σ) (F : Nat → Prop) (W W' : World) : Prop := ∃ F', J s' F' W' ∧ Owns W W' F F'

theorem Tm.ind {P : Tm → Prop} (h : ∀ t, (∀ k ∈ subT t, P k) → P t) : ∀ t, P t := by
  intro t
  induction t with
  | odd => exact h _ (fun k hk => by cases hk)
  | num neg abs => exact h _ (fun k hk => by cases hk)
  | name s => exact h _ (fun k hk => by cases hk)
  | add l r il ir => exact h _ (fun k hk => by simp [subT] at hk; rcases hk with rfl | rfl; exact il; exact ir)
  | sub l r il ir => exact h _ (fun k hk => by simp [subT] at hk; rcases hk with rfl | rfl; exact il; exact ir)
  | mul l r il ir => exact h _ (fun k hk => by simp [subT] at hk; rcases hk with rfl | rfl; exact il; exact ir)
  | neg t it => exact h _ (fun k hk => by simp [subT] at hk; rcases hk with rfl; exact it)
  | pow t e it => exact h _ (fun k hk => by simp [subT] at hk; rcases hk with rfl; exact it)
theorem Fo.ind {P : Fo → Prop} (h : ∀ t, (∀ k ∈ subF t, P k) → P t) : ∀ t, P t := by
  intro t
  induction t with
  | odd => exact h _ (fun k hk => by cases hk)
  | truth b => exact h _ (fun k hk => by cases hk)
  | atom l rel r => exact h _ (fun k hk => by cases hk)
  | not f it => exact h _ (fun k hk => by simp [subF] at hk; rcases hk with rfl; exact it)
  | and l r il ir => exact h _ (fun k hk => by simp [subF] at hk; rcases hk with rfl | rfl; exact il; exact ir)
  | or l r il ir => exact h _ (fun k hk => by simp [subF] at hk; rcases hk with rfl | rfl; exact il; exact ir)
  | implies l r il ir => exact h _ (fun k hk => by simp [subF] at hk; rcases hk with rfl | rfl; exact il; exact ir)
  | iff l r il ir => exact h _ (fun k hk => by simp [subF] at hk; rcases hk with rfl | rfl; exact il; exact ir)
  | quant all name f it => exact h _ (fun k hk => by simp [subF] at hk; rcases hk with rfl; exact it)

/-- the names of a term, from left to right -/
def namesT : Tm → List ByteArray
  | .name s => [s]
  | .add l r => namesT l ++ namesT r
  | .sub l r => namesT l ++ namesT r
  | .mul l r => namesT l ++ namesT r
  | .neg t => namesT t
  | .pow t _ => namesT t
  | _ => []
theorem namesT_sub (t : Tm) (h : ∀ s, t ≠ .name s) : namesT t = (subT t).flatMap namesT := by
  cases t <;> first | (exact absurd rfl (h _)) | simp [namesT, subT]
theorem flat_take {α β : Type} (f : α → List β) {l : List α} {i : Nat} {x : α} (h : l[i]? = some x) : (l.take (i + 1)).flatMap f = (l.take i).flatMap f ++ f x := by
  obtain ⟨hi, rfl⟩ := List.getElem?_eq_some_iff.1 h
  rw [List.take_succ_eq_append_getElem hi, List.flatMap_append]; simp
theorem foldl_take {α β σ : Type} (step : σ → β → σ) (f : α → List β) (s : σ) {l : List α} {i : Nat} {x : α} (h : l[i]? = some x) : ((l.take (i + 1)).flatMap f).foldl step s = (f x).foldl step (((l.take i).flatMap f).foldl step s) := by
  rw [flat_take f h, List.foldl_append]

/-- value i of a list of values -/
theorem sub_at {W w1 wr : World} {F F' : Nat → Prop} {S : Nat → Prop} {A : Option Addr} {n c : Nat} {vs : List Value} {ts : List Tm} (hss : SS w1 (Fr W w1) 1 (.slice A n c) n vs) (hts : TmsAt W S ts vs) (hF : ∀ b, F b → b < W.heap.size) (ho : Owns w1 wr F F') (i : Nat) (hi : i < n) (hn : n = vs.length) :
    ∃ t v b o, ts[i]? = some t ∧ TmAt W S t v ∧ A = some ⟨b, o, none⟩ ∧ wr.cell? ⟨b, o + i, none⟩ = some v := by
  have hi2 : i < ts.length := by rw [← hts.1]; omega
  obtain ⟨v, hv, hT⟩ := hts.2 i _ (List.getElem?_eq_getElem hi2)
  obtain ⟨b, o, rfl, hb, hx⟩ := hss.at_ (by omega)
  refine ⟨_, v, b, o, List.getElem?_eq_getElem hi2, hT, rfl, ?_⟩
  rw [ho.cell (p := ⟨b, o + i, none⟩) hb.2 (fun h => by have := hF b h; have := hb.1; simp at *; omega)]
  exact hx i v hv
theorem subF_at {W w1 wr : World} {F F' : Nat → Prop} {S : Nat → Prop} {A : Option Addr} {n c : Nat} {vs : List Value} {ts : List Fo} (hss : SS w1 (Fr W w1) 1 (.slice A n c) n vs) (hts : FosAt W S ts vs) (hF : ∀ b, F b → b < W.heap.size) (ho : Owns w1 wr F F') (i : Nat) (hi : i < n) (hn : n = vs.length) :
    ∃ t v b o, ts[i]? = some t ∧ FoAt W S t v ∧ A = some ⟨b, o, none⟩ ∧ wr.cell? ⟨b, o + i, none⟩ = some v := by
  have hi2 : i < ts.length := by rw [← hts.1]; omega
  obtain ⟨v, hv, hT⟩ := hts.2 i _ (List.getElem?_eq_getElem hi2)
  obtain ⟨b, o, rfl, hb, hx⟩ := hss.at_ (by omega)
  refine ⟨_, v, b, o, List.getElem?_eq_getElem hi2, hT, rfl, ?_⟩
  rw [ho.cell (p := ⟨b, o + i, none⟩) hb.2 (fun h => by have := hF b h; have := hb.1; simp at *; omega)]
  exact hx i v hv
theorem TmAt.owns {W W' : World} {F F' S : Nat → Prop} {t : Tm} {v : Value} (h : TmAt W S t v) (ho : Owns W W' F F') (hS : ∀ b, S b → b < W.heap.size ∧ ¬ F b) : TmAt W' S t v :=
  TmAt.keep (fun p hp => ho.cell (hS _ hp).1 (hS _ hp).2) t v h
theorem FoAt.owns {W W' : World} {F F' S : Nat → Prop} {t : Fo} {v : Value} (h : FoAt W S t v) (ho : Owns W W' F F') (hS : ∀ b, S b → b < W.heap.size ∧ ¬ F b) : FoAt W' S t v :=
  FoAt.keep (fun p hp => ho.cell (hS _ hp).1 (hS _ hp).2) t v h
theorem S_owns {W W' : World} {F F' S : Nat → Prop} (ho : Owns W W' F F') (hS : ∀ b, S b → b < W.heap.size ∧ ¬ F b) : ∀ b, S b → b < W'.heap.size ∧ ¬ F' b :=
  fun b hb => ⟨Nat.lt_of_lt_of_le (hS b hb).1 ho.size, ho.foot' (hS b hb).1 (hS b hb).2⟩

section
variable {σ : Type} {fid : FuncId} {caps : Array Value} {J : σ → (Nat → Prop) → World → Prop} {step : σ → ByteArray → σ} {cnt : σ → Nat}
theorem cnt_fold (U : UseOk fid caps J step cnt) (l : List ByteArray) (s : σ) : cnt (l.foldl step s) ≤ cnt s + l.length := by
  induction l generalizing s with
  | nil => simp
  | cons a l ih => rw [List.foldl_cons, List.length_cons]; have := ih (step s a); have := U.le s a; omega
theorem flat_len {α β : Type} (f : α → List β) (l : List α) (i : Nat) : ((l.take i).flatMap f).length ≤ (l.flatMap f).length := by
  conv => rhs; rw [← List.take_append_drop i l, List.flatMap_append, List.length_append]
  omega
end
end Fm
end Go.Proofs.Ytkjbfomokdjbnaa
