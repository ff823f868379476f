/-
  Small laws on memory: rows that the call owns, kept over a callee that leaves old blocks alone; slices read as lists.
-/
import Derived.Test.YtkjbfomokdjbnaaLxPlain
import Derived.WalkKit
import Derived.WalkSpells
import Derived.WalkLawsBesides
import Derived.Lib.Hide
namespace Go.Proofs.Ytkjbfomokdjbnaa
open Go.RowKit
set_option linter.unusedSimpArgs false
set_option linter.unusedVariables false

theorem grown_of_below {a w : World} (h : Below a.heap.size a w) (row : Option Nat) : a.grownBy w row :=
  ⟨h.os, h.tape, h.output, h.size, fun i hi _ => h.block i hi⟩
theorem own_below {a w : World} {base : Nat} {e : TypeId} {size : Nat} {v : Value} {n : Nat} {xs : List Value} (h : a.ownsRow base e size v n xs) (hb : Below a.heap.size a w) : w.ownsRow base e size v n xs := by
  refine h.kept (grown_of_below hb none) ?_
  cases v.ownBlock <;> simp
theorem own_row_ge {a : World} {base : Nat} {e : TypeId} {size : Nat} {v : Value} {n : Nat} {xs : List Value} (h : a.ownsRow base e size v n xs) : ∀ k, v.ownBlock = some k → base ≤ k := fun k hk => (h.lt k hk).1
theorem own_row_lt {a : World} {base : Nat} {e : TypeId} {size : Nat} {v : Value} {n : Nat} {xs : List Value} (h : a.ownsRow base e size v n xs) : ∀ k, v.ownBlock = some k → k < a.heap.size := fun k hk => (h.lt k hk).2
/-- a cell in a block past the owned row's world is kept by what grew the row -/
theorem cell_grown {a b w : World} {base : Nat} {e : TypeId} {size : Nat} {v : Value} {n : Nat} {xs : List Value} (h : a.ownsRow base e size v n xs) (hg : b.grownBy w v.ownBlock) {p : Addr} {u : Value} (hp : a.heap.size ≤ p.block) (hc : b.cell? p = some u) : w.cell? p = some u := by
  refine hg.cell hc ?_
  intro he
  have := own_row_lt h _ he.symm
  omega
theorem below_size {B : Nat} {a w : World} (h : Below B a w) : a.heap.size ≤ w.heap.size := h.size
theorem add_block (a : Addr) (n : Nat) : (a.add n).block = a.block := by unfold Addr.add; split <;> rfl
theorem add_add (a : Addr) (i j : Nat) : (a.add i).add j = a.add (i + j) := by
  unfold Addr.add
  by_cases hi : i = 0 <;> by_cases hj : j = 0 <;> simp [hi, hj, Nat.add_assoc]

/-- The slice value v of n elements (size cells each) reads as the cells xs, below block B. -/
def Sl (w : World) (B size : Nat) (v : Value) (n : Nat) (xs : List Value) : Prop :=
  ∃ A c, v = .slice A n c ∧ n ≤ c ∧ xs.length = n * size ∧ (0 < n → ∃ b o, A = some ⟨b, o, none⟩ ∧ b < B ∧ ∀ j u, xs[j]? = some u → w.cell? ⟨b, o + j, none⟩ = some u)
section
variable {w w' : World} {B B' size n : Nat} {v : Value} {xs : List Value}
theorem Sl.keep (h : Sl w B size v n xs) (hk : ∀ p : Addr, p.block < B → w'.cell? p = w.cell? p) : Sl w' B size v n xs := by
  obtain ⟨A, c, rfl, hc, hl, hn⟩ := h
  refine ⟨A, c, rfl, hc, hl, fun h0 => ?_⟩
  obtain ⟨b, o, e, hb, hx⟩ := hn h0
  exact ⟨b, o, e, hb, fun j u hu => (hk _ hb).trans (hx j u hu)⟩
theorem Sl.more (h : Sl w B size v n xs) (hB : B ≤ B') : Sl w B' size v n xs := by
  obtain ⟨A, c, rfl, hc, hl, hn⟩ := h
  refine ⟨A, c, rfl, hc, hl, fun h0 => ?_⟩
  obtain ⟨b, o, e, hb, hx⟩ := hn h0
  exact ⟨b, o, e, by omega, hx⟩
theorem Sl.below (h : Sl w B size v n xs) (hb : Below B w w') : Sl w' B size v n xs := h.keep fun _ hp => hb.cell hp
theorem Sl.belowM (h : Sl w B size v n xs) (hb : Below B' w w') (hB : B ≤ B') : Sl w' B size v n xs := h.keep fun _ hp => hb.cell (by omega)
theorem Sl.drew (h : Sl w B size v n xs) : Sl w.drew B size v n xs := h
theorem Sl.drewN (h : Sl w B size v n xs) (k : Nat) : Sl (w.drewN k) B size v n xs := h
theorem Sl.alloc (h : Sl w B size v n xs) (hB : B ≤ w.heap.size) (o : Obj) : Sl (w.alloc o) B size v n xs := h.keep fun p hp => World.cell?_alloc_lt w o p (by omega)
theorem Sl.setCell (h : Sl w B size v n xs) {p : Addr} (hB : B ≤ p.block) (u : Value) : Sl (w.setCell p u) B size v n xs :=
  h.keep fun q hq => World.cell?_setCell_other w p q u (fun e => by subst e; omega)
theorem Sl.grown (h : Sl w B size v n xs) {row : Option Nat} (hg : w.grownBy w' row) (hB : B ≤ w.heap.size) (hr : ∀ g, row = some g → B ≤ g) : Sl w' B size v n xs :=
  h.keep fun p hp => World.cell?_of_block (hg.block p.block (by omega) (fun e => by have := hr _ e.symm; omega))
theorem Sl.of_own {base : Nat} {e : TypeId} (h : w.ownsRow base e size v n xs) : Sl w w.heap.size size v n xs := by
  have hlen := h.1
  rcases h.2 with ⟨rfl, rfl⟩ | ⟨g, cap, cur, rfl, hb, hg, hnc, _⟩
  · exact ⟨none, 0, rfl, Nat.le_refl _, hlen, fun h => absurd h (by omega)⟩
  · refine ⟨some ⟨g, 0, none⟩, cap, rfl, hnc, hlen, fun _ => ⟨g, 0, rfl, (h.lt g rfl).2, fun j u hu => ?_⟩⟩
    have hj : j < n * size := by rw [← hlen]; exact (List.getElem?_eq_some_iff.1 hu).1
    rw [Nat.zero_add, h.cellAt j hj, hu]
theorem Sl.nil : Sl w B size (.slice none 0 0) 0 [] := ⟨none, 0, rfl, Nat.le_refl _, by simp, fun h => absurd h (by omega)⟩
theorem Sl.form (h : Sl w B size v n xs) : ∃ A c, v = .slice A n c := by
  obtain ⟨A, c, rfl, _⟩ := h; exact ⟨A, c, rfl⟩
theorem Sl.len (h : Sl w B size v n xs) : xs.length = n * size := by
  obtain ⟨A, c, rfl, _, h, _⟩ := h; exact h
theorem Sl.at_ {A : Option Addr} {c : Nat} (h : Sl w B size (.slice A n c) n xs) (hn : 0 < n) : ∃ b o, A = some ⟨b, o, none⟩ ∧ b < B ∧ ∀ j u, xs[j]? = some u → w.cell? ⟨b, o + j, none⟩ = some u := by
  obtain ⟨A', c', e, _, _, h⟩ := h
  injection e with e1 e2 e3
  subst e1
  exact h hn
end

/-- the cells of the last new block -/
theorem cells_new (w : World) (cs : Array Value) (e : TypeId) (b : Nat) (hb : b = w.heap.size) : ∀ j u, cs.toList[j]? = some u → (w.alloc (.cells cs e)).cell? ((⟨b, 0, none⟩ : Addr).add j) = some u := by
  intro j u hu
  subst hb
  have hadd : (⟨w.heap.size, 0, none⟩ : Addr).add j = ⟨w.heap.size, j, none⟩ := by unfold Addr.add; split <;> simp_all
  rw [hadd, cell_of_row _ w.heap.size j cs e (0, 0) (heap_alloc_new w _)]
  simpa using hu
theorem cell_new (w : World) (cs : Array Value) (e : TypeId) (j : Nat) : (w.alloc (.cells cs e)).cell? ⟨w.heap.size, j, none⟩ = cs[j]? :=
  cell_of_row _ w.heap.size j cs e (0, 0) (heap_alloc_new w _)
theorem size_alloc (w : World) (o : Obj) : (w.alloc o).heap.size = w.heap.size + 1 := by simp

theorem bcell {W w1 : World} (hb : Below W.heap.size W w1) : (∀ b o, b < W.heap.size → w1.cell? ⟨b, o, none⟩ = W.cell? ⟨b, o, none⟩) ∧ (∀ b o, b < W.heap.size → w1.frozen? ⟨b, o, none⟩ = W.frozen? ⟨b, o, none⟩) :=
  ⟨fun b o h => hb.cell (p := ⟨b, o, none⟩) h, fun b o h => hb.frozen (p := ⟨b, o, none⟩) h⟩
end Go.Proofs.Ytkjbfomokdjbnaa
