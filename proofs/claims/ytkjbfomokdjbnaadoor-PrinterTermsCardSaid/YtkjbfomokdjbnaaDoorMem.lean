/-
  Small laws on memory: rows that the call owns, kept over a callee that leaves old blocks alone; slices read as lists.
-/
import Derived.Test.YtkjbfomokdjbnaaDoorLxPlain
import Derived.WalkKit
import Derived.WalkSpells
import Derived.WalkLawsBesides
import Derived.Lib.Hide
import Derived.Deep.AppendLies
import Derived.Deep.RegionHeld3
import Derived.ChangeArms
import Derived.Deep.Fields
import Derived.ChangeShapes
import Derived.WideShapes
import Derived.OpenShut
namespace Go.Proofs.YtkjbfomokdjbnaaDoor
open Go.RowKit
set_option linter.unusedSimpArgs false
set_option linter.unusedVariables false

theorem grown_of_below {a w : World} (h : Below a.heap.size a w) (row : Option Nat) : a.grownBy w row :=
  ⟨h.os, h.tape, h.output, h.size, fun i hi _ => h.block i hi⟩
theorem own_below {a w : World} {base : Nat} {e : TypeId} {size : Nat} {v : Value} {n : Nat} {xs : List Value} (h : a.ownsRow base e size v n xs) (hb : Below a.heap.size a w) : w.ownsRow base e size v n xs := by
  refine h.kept (grown_of_below hb none) ?_
  cases v.ownBlock <;> simp
theorem own_row_lt {a : World} {base : Nat} {e : TypeId} {size : Nat} {v : Value} {n : Nat} {xs : List Value} (h : a.ownsRow base e size v n xs) : ∀ k, v.ownBlock = some k → k < a.heap.size := fun k hk => (h.lt k hk).2
theorem add_add (a : Addr) (i j : Nat) : (a.add i).add j = a.add (i + j) := by
  unfold Addr.add
  by_cases hi : i = 0 <;> by_cases hj : j = 0 <;> simp [hi, hj, Nat.add_assoc]

/-- The slice value v of n elements (size cells each) reads as the cells xs, below block B. -/
def Sl (w : World) (B size : Nat) (v : Value) (n : Nat) (xs : List Value) : Prop :=
  ∃ A c, v = .slice A n c ∧ n ≤ c ∧ xs.length = n * size ∧ (0 < n → ∃ b o, A = some ⟨b, o, none⟩ ∧ b < B ∧ ∀ j u, xs[j]? = some u → w.cell? ⟨b, o + j, none⟩ = some u)
section
variable {w w' : World} {B B' size n : Nat} {v : Value} {xs : List Value}
theorem Sl.keep (h : Sl w B size v n xs) (hk : ∀ p : Addr, p.block < B → w'.cell? p = w.cell? p) : Sl w' B size v n xs := by
  obtain ⟨A, c, rfl, hc, hl, hn⟩ := h
  refine ⟨A, c, rfl, hc, hl, fun h0 => ?_⟩
  obtain ⟨b, o, e, hb, hx⟩ := hn h0
  exact ⟨b, o, e, hb, fun j u hu => (hk _ hb).trans (hx j u hu)⟩
theorem Sl.more (h : Sl w B size v n xs) (hB : B ≤ B') : Sl w B' size v n xs := by
  obtain ⟨A, c, rfl, hc, hl, hn⟩ := h
  refine ⟨A, c, rfl, hc, hl, fun h0 => ?_⟩
  obtain ⟨b, o, e, hb, hx⟩ := hn h0
  exact ⟨b, o, e, by omega, hx⟩
theorem Sl.below (h : Sl w B size v n xs) (hb : Below B w w') : Sl w' B size v n xs := h.keep fun _ hp => hb.cell hp
theorem Sl.drew (h : Sl w B size v n xs) : Sl w.drew B size v n xs := h
theorem Sl.drewN (h : Sl w B size v n xs) (k : Nat) : Sl (w.drewN k) B size v n xs := h
theorem Sl.alloc (h : Sl w B size v n xs) (hB : B ≤ w.heap.size) (o : Obj) : Sl (w.alloc o) B size v n xs := h.keep fun p hp => World.cell?_alloc_lt w o p (by omega)
theorem Sl.setCell (h : Sl w B size v n xs) {p : Addr} (hB : B ≤ p.block) (u : Value) : Sl (w.setCell p u) B size v n xs :=
  h.keep fun q hq => World.cell?_setCell_other w p q u (fun e => by subst e; omega)
theorem Sl.grown (h : Sl w B size v n xs) {row : Option Nat} (hg : w.grownBy w' row) (hB : B ≤ w.heap.size) (hr : ∀ g, row = some g → B ≤ g) : Sl w' B size v n xs :=
  h.keep fun p hp => World.cell?_of_block (hg.block p.block (by omega) (fun e => by have := hr _ e.symm; omega))
theorem Sl.of_own {base : Nat} {e : TypeId} (h : w.ownsRow base e size v n xs) : Sl w w.heap.size size v n xs := by
  have hlen := h.1
  rcases h.2 with ⟨rfl, rfl⟩ | ⟨g, cap, cur, rfl, hb, hg, hnc, _⟩
  · exact ⟨none, 0, rfl, Nat.le_refl _, hlen, fun h => absurd h (by omega)⟩
  · refine ⟨some ⟨g, 0, none⟩, cap, rfl, hnc, hlen, fun _ => ⟨g, 0, rfl, (h.lt g rfl).2, fun j u hu => ?_⟩⟩
    have hj : j < n * size := by rw [← hlen]; exact (List.getElem?_eq_some_iff.1 hu).1
    rw [Nat.zero_add, h.cellAt j hj, hu]
theorem Sl.nil : Sl w B size (.slice none 0 0) 0 [] := ⟨none, 0, rfl, Nat.le_refl _, by simp, fun h => absurd h (by omega)⟩
theorem Sl.form (h : Sl w B size v n xs) : ∃ A c, v = .slice A n c := by
  obtain ⟨A, c, rfl, _⟩ := h; exact ⟨A, c, rfl⟩
theorem Sl.len (h : Sl w B size v n xs) : xs.length = n * size := by
  obtain ⟨A, c, rfl, _, h, _⟩ := h; exact h
theorem Sl.at_ {A : Option Addr} {c : Nat} (h : Sl w B size (.slice A n c) n xs) (hn : 0 < n) : ∃ b o, A = some ⟨b, o, none⟩ ∧ b < B ∧ ∀ j u, xs[j]? = some u → w.cell? ⟨b, o + j, none⟩ = some u := by
  obtain ⟨A', c', e, _, _, h⟩ := h
  injection e with e1 e2 e3
  subst e1
  exact h hn
end

/-- the cells of the last new block -/
theorem cells_new (w : World) (cs : Array Value) (e : TypeId) (b : Nat) (hb : b = w.heap.size) : ∀ j u, cs.toList[j]? = some u → (w.alloc (.cells cs e)).cell? ((⟨b, 0, none⟩ : Addr).add j) = some u := by
  intro j u hu
  subst hb
  have hadd : (⟨w.heap.size, 0, none⟩ : Addr).add j = ⟨w.heap.size, j, none⟩ := by unfold Addr.add; split <;> simp_all
  rw [hadd, cell_of_row _ w.heap.size j cs e (0, 0) (heap_alloc_new w _)]
  simpa using hu
theorem cell_new (w : World) (cs : Array Value) (e : TypeId) (j : Nat) : (w.alloc (.cells cs e)).cell? ⟨w.heap.size, j, none⟩ = cs[j]? :=
  cell_of_row _ w.heap.size j cs e (0, 0) (heap_alloc_new w _)
end Go.Proofs.YtkjbfomokdjbnaaDoor

/-
  Trees as data, and how they lie in memory.
-/
namespace Go.Proofs.YtkjbfomokdjbnaaDoor
open Go.RowKit
set_option linter.unusedSimpArgs false
set_option linter.unusedVariables false
namespace Fm

/-- a tree's own fields -/
structure Hd where
  k : Int
  neg : Bool
  abs : List Nat
  name : ByteArray
  exp : Int
  rel : Int
  truth : Bool
  all : Bool

inductive Tr where
  | mk (h : Hd) (kids : List Tr)

def Tr.h : Tr → Hd
  | .mk h _ => h
def Tr.kids : Tr → List Tr
  | .mk _ ks => ks

mutual
theorem Tr.ind {P : Tr → Prop} (h : ∀ hd ks, (∀ k ∈ ks, P k) → P (.mk hd ks)) : ∀ t, P t
  | .mk hd ks => h hd ks (Tr.indL h ks)
theorem Tr.indL {P : Tr → Prop} (h : ∀ hd ks, (∀ k ∈ ks, P k) → P (.mk hd ks)) : ∀ (l : List Tr), ∀ k ∈ l, P k
  | [], k, hk => by cases hk
  | t :: ts, k, hk => by
    rcases List.mem_cons.1 hk with e | hk
    · rw [e]; exact Tr.ind h t
    · exact Tr.indL h ts k hk
end

/-- The slice value v of n elements (size cells each) reads as the cells xs; it lies in a block that S admits. -/
def SS (w : World) (S : Nat → Prop) (size : Nat) (v : Value) (n : Nat) (xs : List Value) : Prop :=
  ∃ A c, v = .slice A n c ∧ n ≤ c ∧ xs.length = n * size ∧ (0 < n → ∃ b o, A = some ⟨b, o, none⟩ ∧ S b ∧ ∀ j u, xs[j]? = some u → w.cell? ⟨b, o + j, none⟩ = some u)
section
variable {w w' : World} {S S' : Nat → Prop} {size n : Nat} {v : Value} {xs : List Value}
theorem SS.keep (h : SS w S size v n xs) (hk : ∀ p : Addr, S p.block → w'.cell? p = w.cell? p) : SS w' S size v n xs := by
  obtain ⟨A, c, rfl, hc, hl, hn⟩ := h
  refine ⟨A, c, rfl, hc, hl, fun h0 => ?_⟩
  obtain ⟨b, o, e, hb, hx⟩ := hn h0
  exact ⟨b, o, e, hb, fun j u hu => (hk ⟨b, o + j, none⟩ hb).trans (hx j u hu)⟩
theorem SS.more (h : SS w S size v n xs) (hS : ∀ b, S b → S' b) : SS w S' size v n xs := by
  obtain ⟨A, c, rfl, hc, hl, hn⟩ := h
  refine ⟨A, c, rfl, hc, hl, fun h0 => ?_⟩
  obtain ⟨b, o, e, hb, hx⟩ := hn h0
  exact ⟨b, o, e, hS b hb, hx⟩
theorem SS.form (h : SS w S size v n xs) : ∃ A c, v = .slice A n c := by
  obtain ⟨A, c, rfl, _⟩ := h; exact ⟨A, c, rfl⟩
theorem SS.len (h : SS w S size v n xs) : xs.length = n * size := by
  obtain ⟨A, c, rfl, _, h, _⟩ := h; exact h
theorem SS.at_ {A : Option Addr} {c : Nat} (h : SS w S size (.slice A n c) n xs) (hn : 0 < n) : ∃ b o, A = some ⟨b, o, none⟩ ∧ S b ∧ ∀ j u, xs[j]? = some u → w.cell? ⟨b, o + j, none⟩ = some u := by
  obtain ⟨A', c', e, _, _, h⟩ := h
  injection e with e1 e2 e3
  subst e1
  exact h hn
theorem SS.nil : SS w S size (.slice none 0 0) 0 [] := ⟨none, 0, rfl, Nat.le_refl _, by simp, fun h => absurd h (by omega)⟩
/-- the row that a call made itself -/
theorem SS.of_own {base : Nat} {e : TypeId} (h : w.ownsRow base e size v n xs) : SS w (fun b => base ≤ b ∧ b < w.heap.size) size v n xs := by
  have hlen := h.1
  rcases h.2 with ⟨rfl, rfl⟩ | ⟨g, cap, cur, rfl, hb, hg, hnc, _⟩
  · exact ⟨none, 0, rfl, Nat.le_refl _, hlen, fun h => absurd h (by omega)⟩
  · refine ⟨some ⟨g, 0, none⟩, cap, rfl, hnc, hlen, fun _ => ⟨g, 0, rfl, ⟨hb, (h.lt g rfl).2⟩, fun j u hu => ?_⟩⟩
    have hj : j < n * size := by rw [← hlen]; exact (List.getElem?_eq_some_iff.1 hu).1
    rw [Nat.zero_add, h.cellAt j hj, hu]
theorem SS.take {A : Option Addr} {m c : Nat} (h : SS w S size (.slice A n c) n xs) (hm : m ≤ n) : SS w S size (.slice A m c) m (xs.take (m * size)) := by
  obtain ⟨A', c', e, hc, hl, hn⟩ := h
  injection e with e1 e2 e3
  subst e1; subst e3
  refine ⟨A, c, rfl, by omega, ?_, fun h0 => ?_⟩
  · rw [List.length_take, hl]; exact Nat.min_eq_left (Nat.mul_le_mul_right _ hm)
  · obtain ⟨b, o, rfl, hb, hx⟩ := hn (by omega)
    refine ⟨b, o, rfl, hb, fun j u hj => hx j u ?_⟩
    rw [List.getElem?_take] at hj
    split at hj
    · exact hj
    · cases hj
end
/-- the blocks that were made between two worlds -/
abbrev Fr (w w' : World) : Nat → Prop := fun b => w.heap.size ≤ b ∧ b < w'.heap.size

def u32V (n : Nat) : Value := .int .u32 (n : Int)
/-- a slice of uint32 that reads as these numbers -/
def AbsAt (w : World) (S : Nat → Prop) (v : Value) (l : List Nat) : Prop := SS w S 1 v l.length (l.map u32V) ∧ (∀ x ∈ l, x < 4294967296) ∧ l.length ≤ 9223372036854775807

/-- the nine cells of a tree -/
def hdC (h : Hd) (va vk : Value) : List Value :=
  [.int .i64 h.k, .bool h.neg, va, .string h.name, .int .i64 h.exp, .int .i64 h.rel, .bool h.truth, .bool h.all, vk]

mutual
def TreeAt (w : World) (S : Nat → Prop) : Tr → List Value → Prop
  | .mk h ks, cs => ∃ va vk xs, cs = hdC h va vk ∧ AbsAt w S va h.abs ∧ h.name.size ≤ 9223372036854775807 ∧ ks.length ≤ 9223372036854775807 ∧ SS w S 9 vk ks.length xs ∧ TrsC w S ks xs
def TrsC (w : World) (S : Nat → Prop) : List Tr → List Value → Prop
  | [], xs => xs = []
  | t :: ts, xs => ∃ cs rest, xs = cs ++ rest ∧ TreeAt w S t cs ∧ TrsC w S ts rest
end

theorem TreeAt.len {w : World} {S : Nat → Prop} {t : Tr} {cs : List Value} (h : TreeAt w S t cs) : cs.length = 9 := by
  cases t with
  | mk hd ks =>
    unfold TreeAt at h
    obtain ⟨va, vk, xs, rfl, _⟩ := h
    rfl
theorem AbsAt.keep {w w' : World} {S : Nat → Prop} {v : Value} {l : List Nat} (h : AbsAt w S v l) (hk : ∀ p : Addr, S p.block → w'.cell? p = w.cell? p) : AbsAt w' S v l := ⟨h.1.keep hk, h.2⟩
theorem AbsAt.more {w : World} {S S' : Nat → Prop} {v : Value} {l : List Nat} (h : AbsAt w S v l) (hS : ∀ b, S b → S' b) : AbsAt w S' v l := ⟨h.1.more hS, h.2⟩

mutual
theorem TreeAt.keep {w w' : World} {S : Nat → Prop} (hk : ∀ p : Addr, S p.block → w'.cell? p = w.cell? p) : ∀ (t : Tr) (cs : List Value), TreeAt w S t cs → TreeAt w' S t cs
  | .mk h ks, cs, hh => by
    unfold TreeAt at hh ⊢
    obtain ⟨va, vk, xs, e, ha, hn, hl, hs, ht⟩ := hh
    exact ⟨va, vk, xs, e, ha.keep hk, hn, hl, hs.keep hk, TrsC.keep hk ks xs ht⟩
theorem TrsC.keep {w w' : World} {S : Nat → Prop} (hk : ∀ p : Addr, S p.block → w'.cell? p = w.cell? p) : ∀ (ts : List Tr) (xs : List Value), TrsC w S ts xs → TrsC w' S ts xs
  | [], xs, hh => by unfold TrsC at hh ⊢; exact hh
  | t :: ts, xs, hh => by
    unfold TrsC at hh ⊢
    obtain ⟨cs, rest, e, h1, h2⟩ := hh
    exact ⟨cs, rest, e, TreeAt.keep hk t cs h1, TrsC.keep hk ts rest h2⟩
end
mutual
theorem TreeAt.more {w : World} {S S' : Nat → Prop} (hS : ∀ b, S b → S' b) : ∀ (t : Tr) (cs : List Value), TreeAt w S t cs → TreeAt w S' t cs
  | .mk h ks, cs, hh => by
    unfold TreeAt at hh ⊢
    obtain ⟨va, vk, xs, e, ha, hn, hl, hs, ht⟩ := hh
    exact ⟨va, vk, xs, e, ha.more hS, hn, hl, hs.more hS, TrsC.more hS ks xs ht⟩
theorem TrsC.more {w : World} {S S' : Nat → Prop} (hS : ∀ b, S b → S' b) : ∀ (ts : List Tr) (xs : List Value), TrsC w S ts xs → TrsC w S' ts xs
  | [], xs, hh => by unfold TrsC at hh ⊢; exact hh
  | t :: ts, xs, hh => by
    unfold TrsC at hh ⊢
    obtain ⟨cs, rest, e, h1, h2⟩ := hh
    exact ⟨cs, rest, e, TreeAt.more hS t cs h1, TrsC.more hS ts rest h2⟩
end
section
variable {w w' : World} {S : Nat → Prop} {B : Nat}
theorem AbsAt.below {v : Value} {l : List Nat} (h : AbsAt w S v l) (hS : ∀ b, S b → b < B) (hb : Below B w w') : AbsAt w' S v l := h.keep (fun _ hp => hb.cell (hS _ hp))
theorem TreeAt.below {t : Tr} {cs : List Value} (h : TreeAt w S t cs) (hS : ∀ b, S b → b < B) (hb : Below B w w') : TreeAt w' S t cs := TreeAt.keep (fun _ hp => hb.cell (hS _ hp)) t cs h
theorem TrsC.below {ts : List Tr} {xs : List Value} (h : TrsC w S ts xs) (hS : ∀ b, S b → b < B) (hb : Below B w w') : TrsC w' S ts xs := TrsC.keep (fun _ hp => hb.cell (hS _ hp)) ts xs h
theorem SS.below {size n : Nat} {v : Value} {xs : List Value} (h : SS w S size v n xs) (hS : ∀ b, S b → b < B) (hb : Below B w w') : SS w' S size v n xs := h.keep (fun _ hp => hb.cell (hS _ hp))
end
theorem TreeAt.drewN {w : World} {S : Nat → Prop} {t : Tr} {cs : List Value} (h : TreeAt w S t cs) (k : Nat) : TreeAt (w.drewN k) S t cs := TreeAt.keep (w := w) (w' := w.drewN k) (fun _ _ => rfl) t cs h
theorem TrsC.drewN {w : World} {S : Nat → Prop} {t : List Tr} {cs : List Value} (h : TrsC w S t cs) (k : Nat) : TrsC (w.drewN k) S t cs := TrsC.keep (w := w) (w' := w.drewN k) (fun _ _ => rfl) t cs h

theorem TrsC.append {w : World} {S : Nat → Prop} : ∀ {ts us : List Tr} {xs ys : List Value}, TrsC w S ts xs → TrsC w S us ys → TrsC w S (ts ++ us) (xs ++ ys)
  | [], us, xs, ys, h, k => by unfold TrsC at h; subst h; exact k
  | t :: ts, us, xs, ys, h, k => by
    unfold TrsC at h
    obtain ⟨cs, rest, rfl, h1, h2⟩ := h
    show TrsC w S (t :: (ts ++ us)) _
    unfold TrsC
    exact ⟨cs, rest ++ ys, by rw [List.append_assoc], h1, TrsC.append h2 k⟩
theorem TrsC.one {w : World} {S : Nat → Prop} {t : Tr} {cs : List Value} (h : TreeAt w S t cs) : TrsC w S [t] cs := by
  unfold TrsC TrsC
  exact ⟨cs, [], by simp, h, rfl⟩
theorem TrsC.nil {w : World} {S : Nat → Prop} : TrsC w S [] [] := by unfold TrsC; rfl
theorem TrsC.len {w : World} {S : Nat → Prop} : ∀ {ts : List Tr} {xs : List Value}, TrsC w S ts xs → xs.length = ts.length * 9
  | [], xs, h => by unfold TrsC at h; subst h; rfl
  | t :: ts, xs, h => by
    unfold TrsC at h
    obtain ⟨cs, rest, rfl, h1, h2⟩ := h
    rw [List.length_append, h1.len, TrsC.len h2, List.length_cons]; omega
theorem TrsC.get {w : World} {S : Nat → Prop} : ∀ {ts : List Tr} {xs : List Value}, TrsC w S ts xs → ∀ (i : Nat) (hi : i < ts.length), ∃ cs, TreeAt w S ts[i] cs ∧ ∀ j u, cs[j]? = some u → xs[i * 9 + j]? = some u
  | [], xs, h, i, hi => absurd hi (by simp)
  | t :: ts, xs, h, i, hi => by
    unfold TrsC at h
    obtain ⟨cs, rest, rfl, h1, h2⟩ := h
    match i with
    | 0 =>
      refine ⟨cs, h1, fun j u hj => ?_⟩
      have hl := (List.getElem?_eq_some_iff.1 hj).1
      rw [Nat.zero_mul, Nat.zero_add, List.getElem?_append_left hl]; exact hj
    | i + 1 =>
      obtain ⟨cs', h3, h4⟩ := TrsC.get h2 i (by simpa using hi)
      refine ⟨cs', h3, fun j u hj => ?_⟩
      rw [List.getElem?_append_right (by rw [h1.len]; omega), h1.len]
      have := h4 j u hj
      rw [show (i + 1) * 9 + j - 9 = i * 9 + j by omega]; exact this
theorem TrsC.take {w : World} {S : Nat → Prop} : ∀ {ts : List Tr} {xs : List Value} (n : Nat), TrsC w S ts xs → TrsC w S (ts.take n) (xs.take (n * 9))
  | [], xs, n, h => by unfold TrsC at h; subst h; simp; exact TrsC.nil
  | t :: ts, xs, 0, h => by simp; exact TrsC.nil
  | t :: ts, xs, n + 1, h => by
    unfold TrsC at h
    obtain ⟨cs, rest, rfl, h1, h2⟩ := h
    rw [List.take_succ_cons]
    unfold TrsC
    refine ⟨cs, rest.take (n * 9), ?_, h1, TrsC.take n h2⟩
    rw [show (n + 1) * 9 = cs.length + n * 9 by rw [h1.len]; omega, List.take_length_add_append]

/-- a tree, its cells written out -/
theorem TreeAt.cells {w : World} {S : Nat → Prop} {t : Tr} {cs : List Value} (h : TreeAt w S t cs) :
    ∃ va vk xs, cs = hdC t.h va vk ∧ AbsAt w S va t.h.abs ∧ t.h.name.size ≤ 9223372036854775807 ∧ t.kids.length ≤ 9223372036854775807 ∧ SS w S 9 vk t.kids.length xs ∧ TrsC w S t.kids xs := by
  cases t with
  | mk hd ks => unfold TreeAt at h; exact h
theorem TreeAt.of {w : World} {S : Nat → Prop} {h : Hd} {ks : List Tr} {va vk : Value} {xs : List Value} (ha : AbsAt w S va h.abs) (hn : h.name.size ≤ 9223372036854775807) (hl : ks.length ≤ 9223372036854775807) (hs : SS w S 9 vk ks.length xs) (ht : TrsC w S ks xs) :
    TreeAt w S (.mk h ks) (hdC h va vk) := by unfold TreeAt; exact ⟨va, vk, xs, rfl, ha, hn, hl, hs, ht⟩

/-- kid i of a tree whose kids lie there: its nine cells in memory -/
theorem kid_at {w : World} {S : Nat → Prop} {ks : List Tr} {A : Option Addr} {n c : Nat} {xs : List Value} (hs : SS w S 9 (.slice A n c) n xs) (ht : TrsC w S ks xs) (hn : n = ks.length) (i : Nat) (hi : i < ks.length) :
    ∃ b o va vk, A = some ⟨b, o, none⟩ ∧ S b ∧ TreeAt w S ks[i] (hdC ks[i].h va vk) ∧
      w.cell? ⟨b, o + i * 9, none⟩ = some (.int .i64 ks[i].h.k) ∧ w.cell? ⟨b, o + i * 9 + 1, none⟩ = some (.bool ks[i].h.neg) ∧ w.cell? ⟨b, o + i * 9 + 2, none⟩ = some va ∧
      w.cell? ⟨b, o + i * 9 + 3, none⟩ = some (.string ks[i].h.name) ∧ w.cell? ⟨b, o + i * 9 + 4, none⟩ = some (.int .i64 ks[i].h.exp) ∧ w.cell? ⟨b, o + i * 9 + 5, none⟩ = some (.int .i64 ks[i].h.rel) ∧
      w.cell? ⟨b, o + i * 9 + 6, none⟩ = some (.bool ks[i].h.truth) ∧ w.cell? ⟨b, o + i * 9 + 7, none⟩ = some (.bool ks[i].h.all) ∧ w.cell? ⟨b, o + i * 9 + 8, none⟩ = some vk := by
  obtain ⟨b, o, rfl, hb, hc⟩ := hs.at_ (by omega)
  obtain ⟨cs, h1, h2⟩ := ht.get i hi
  obtain ⟨va, vk, ys, rfl, _⟩ := h1.cells
  have g : ∀ j u, (hdC ks[i].h va vk)[j]? = some u → w.cell? ⟨b, o + i * 9 + j, none⟩ = some u := fun j u hj => by
    rw [Nat.add_assoc]; exact hc _ _ (h2 j u hj)
  exact ⟨b, o, va, vk, rfl, hb, h1, g 0 _ rfl, g 1 _ rfl, g 2 _ rfl, g 3 _ rfl, g 4 _ rfl, g 5 _ rfl, g 6 _ rfl, g 7 _ rfl, g 8 _ rfl⟩

/-! ### a box that a call made first, and what the call leaves alone -/
structure Box (w wr : World) (b : Nat) (cs : Array Value) (T : TypeId) : Prop where
  below : Below w.heap.size w wr
  cells : wr.heap[b]? = some (.cells cs T (0, 0))
theorem Box.lt {w wr : World} {b : Nat} {cs : Array Value} {T : TypeId} (h : Box w wr b cs T) : b < wr.heap.size := (Array.getElem?_eq_some_iff.1 h.cells).1
theorem Box.step {w wr w2 : World} {b : Nat} {cs : Array Value} {T : TypeId} (h : Box w wr b cs T) (hb : Below wr.heap.size wr w2) : Box w w2 b cs T :=
  ⟨h.below.trans (hb.mono h.below.size), (hb.block _ h.lt).trans h.cells⟩
theorem Box.new (w : World) (cs : Array Value) (T : TypeId) : Box w (w.alloc (.cells cs T)) w.heap.size cs T :=
  ⟨(Below.refl _ w).alloc (Nat.le_refl _) _, heap_alloc_new w _⟩
theorem Box.alloc {w wr : World} {b : Nat} {cs : Array Value} {T : TypeId} (h : Box w wr b cs T) (o : Obj) : Box w (wr.alloc o) b cs T :=
  ⟨h.below.alloc h.below.size _, (Below.heap_alloc wr o _ h.lt).trans h.cells⟩
theorem Box.drewN {w wr : World} {b : Nat} {cs : Array Value} {T : TypeId} (h : Box w wr b cs T) (k : Nat) : Box w (wr.drewN k) b cs T := ⟨⟨h.below.os, h.below.tape, h.below.output, h.below.size, h.below.block⟩, h.cells⟩
theorem Box.cell {w wr : World} {b : Nat} {cs : Array Value} {T : TypeId} (h : Box w wr b cs T) (j : Nat) : wr.cell? ⟨b, j, none⟩ = cs[j]? := by simp [World.cell?, h.cells]
theorem Box.fz {w wr : World} {b : Nat} {cs : Array Value} {T : TypeId} (h : Box w wr b cs T) : ∀ j, wr.frozen? ⟨b, j, none⟩ = false := fun j => by simp [World.frozen?, h.cells]
theorem Box.c2 {w wr : World} {b : Nat} {x0 x1 : Value} {T : TypeId} (h : Box w wr b #[x0, x1] T) : wr.cell? ⟨b, 0, none⟩ = some x0 ∧ wr.cell? ⟨b, 1, none⟩ = some x1 := ⟨h.cell 0, h.cell 1⟩
theorem Box.c9 {w wr : World} {b : Nat} {x0 x1 x2 x3 x4 x5 x6 x7 x8 : Value} {T : TypeId} (h : Box w wr b #[x0, x1, x2, x3, x4, x5, x6, x7, x8] T) :
    wr.cell? ⟨b, 0, none⟩ = some x0 ∧ wr.cell? ⟨b, 1, none⟩ = some x1 ∧ wr.cell? ⟨b, 2, none⟩ = some x2 ∧ wr.cell? ⟨b, 3, none⟩ = some x3 ∧ wr.cell? ⟨b, 4, none⟩ = some x4 ∧ wr.cell? ⟨b, 5, none⟩ = some x5 ∧ wr.cell? ⟨b, 6, none⟩ = some x6 ∧ wr.cell? ⟨b, 7, none⟩ = some x7 ∧ wr.cell? ⟨b, 8, none⟩ = some x8 :=
  ⟨h.cell 0, h.cell 1, h.cell 2, h.cell 3, h.cell 4, h.cell 5, h.cell 6, h.cell 7, h.cell 8⟩
theorem setCell_keep {w : World} {X j : Nat} {u : Value} {S : Nat → Prop} (hX : ¬ S X) : ∀ p : Addr, S p.block → (w.setCell ⟨X, j, none⟩ u).cell? p = w.cell? p := fun p hp =>
  World.cell?_setCell_other w ⟨X, j, none⟩ p u (fun e => hX (by rw [← e] at hp; exact hp))
theorem AbsAt.setCell {w : World} {S : Nat → Prop} {v : Value} {l : List Nat} (h : AbsAt w S v l) {X j : Nat} (u : Value) (hX : ¬ S X) : AbsAt (w.setCell ⟨X, j, none⟩ u) S v l := h.keep (setCell_keep hX)
theorem TreeAt.setCell {w : World} {S : Nat → Prop} {t : Tr} {cs : List Value} (h : TreeAt w S t cs) {X j : Nat} (u : Value) (hX : ¬ S X) : TreeAt (w.setCell ⟨X, j, none⟩ u) S t cs := TreeAt.keep (setCell_keep hX) t cs h
theorem TrsC.setCell {w : World} {S : Nat → Prop} {t : List Tr} {cs : List Value} (h : TrsC w S t cs) {X j : Nat} (u : Value) (hX : ¬ S X) : TrsC (w.setCell ⟨X, j, none⟩ u) S t cs := TrsC.keep (setCell_keep hX) t cs h
/-- kid i in memory, with names -/
theorem kid_cells {w : World} {S : Nat → Prop} {ks : List Tr} {A : Option Addr} {n c : Nat} {xs : List Value} (hs : SS w S 9 (.slice A n c) n xs) (ht : TrsC w S ks xs) (hn : n = ks.length) (i : Nat) (hi : i < n) :
    ∃ kd b o A1 n1 c1 A2 n2 c2, ks[i]? = some kd ∧ A = some ⟨b, o, none⟩ ∧ S b ∧ TreeAt w S kd (hdC kd.h (.slice A1 n1 c1) (.slice A2 n2 c2)) ∧
      w.cell? ⟨b, o + i * 9, none⟩ = some (.int .i64 kd.h.k) ∧ w.cell? ⟨b, o + i * 9 + 1, none⟩ = some (.bool kd.h.neg) ∧ w.cell? ⟨b, o + i * 9 + 2, none⟩ = some (.slice A1 n1 c1) ∧
      w.cell? ⟨b, o + i * 9 + 3, none⟩ = some (.string kd.h.name) ∧ w.cell? ⟨b, o + i * 9 + 4, none⟩ = some (.int .i64 kd.h.exp) ∧ w.cell? ⟨b, o + i * 9 + 5, none⟩ = some (.int .i64 kd.h.rel) ∧
      w.cell? ⟨b, o + i * 9 + 6, none⟩ = some (.bool kd.h.truth) ∧ w.cell? ⟨b, o + i * 9 + 7, none⟩ = some (.bool kd.h.all) ∧ w.cell? ⟨b, o + i * 9 + 8, none⟩ = some (.slice A2 n2 c2) := by
  obtain ⟨b, o, va, vk, e, hb, h1, g0, g1, g2, g3, g4, g5, g6, g7, g8⟩ := kid_at hs ht hn i (by omega)
  obtain ⟨va', vk', ys, e2, ha, _, _, hk, _⟩ := h1.cells
  have e3 := e2
  simp only [hdC, List.cons.injEq, and_true, true_and] at e3
  obtain ⟨rfl, rfl⟩ := e3
  obtain ⟨A1, c1, rfl⟩ := ha.1.form
  obtain ⟨A2, c2, rfl⟩ := hk.form
  exact ⟨_, b, o, A1, _, c1, A2, _, c2, List.getElem?_eq_getElem (by omega), e, hb, h1, g0, g1, g2, g3, g4, g5, g6, g7, g8⟩
/-- a tree that is handed over, its cells with names -/
theorem TreeAt.named {w : World} {S : Nat → Prop} {t : Tr} {cs : List Value} (h : TreeAt w S t cs) :
    ∃ A1 n1 c1 A2 n c xs, cs = hdC t.h (.slice A1 n1 c1) (.slice A2 n c) ∧ n = t.kids.length ∧ n ≤ c ∧ n ≤ 9223372036854775807 ∧ n1 = t.h.abs.length ∧ t.h.name.size ≤ 9223372036854775807 ∧ AbsAt w S (.slice A1 n1 c1) t.h.abs ∧ SS w S 9 (.slice A2 n c) n xs ∧ TrsC w S t.kids xs := by
  obtain ⟨va, vk, xs, rfl, ha, hn, hl, hs, ht⟩ := h.cells
  obtain ⟨A1, c1, rfl⟩ := ha.1.form
  obtain ⟨A2, c2, rfl⟩ := hs.form
  have hc : t.kids.length ≤ c2 := by
    obtain ⟨_, _, e, hc, _⟩ := hs
    injection e with _ _ e3; omega
  exact ⟨A1, _, c1, A2, _, c2, xs, rfl, rfl, hc, hl, rfl, hn, ha, hs, ht⟩
theorem TreeAt.mkN {w : World} {S : Nat → Prop} {h : Hd} {ks : List Tr} {cs : List Value} (hT : TreeAt w S (.mk h ks) cs) :
    ∃ A1 n1 c1 A2 n c xs, cs = hdC h (.slice A1 n1 c1) (.slice A2 n c) ∧ n = ks.length ∧ n ≤ c ∧ n ≤ 9223372036854775807 ∧ n1 = h.abs.length ∧ h.name.size ≤ 9223372036854775807 ∧ AbsAt w S (.slice A1 n1 c1) h.abs ∧ SS w S 9 (.slice A2 n c) n xs ∧ TrsC w S ks xs := hT.named
theorem Box.second (w : World) (o : Obj) (cs : Array Value) (T : TypeId) : Box w ((w.alloc o).alloc (.cells cs T)) (w.heap.size + 1) cs T := by
  have h := heap_alloc_new (w.alloc o) (.cells cs T)
  have e : (w.alloc o).heap.size = w.heap.size + 1 := by simp
  rw [e] at h
  exact ⟨((Below.refl _ w).alloc (Nat.le_refl _) _).alloc (by omega) _, h⟩
theorem Box.setOther {w wr : World} {b X j : Nat} {cs : Array Value} {T : TypeId} (h : Box w wr b cs T) (hX : w.heap.size ≤ X ∧ b ≠ X) (u : Value) : Box w (wr.setCell ⟨X, j, none⟩ u) b cs T :=
  ⟨h.below.setCell (p := ⟨X, j, none⟩) hX.1 u, (Below.heap_setCell wr ⟨X, j, none⟩ u b hX.2).trans h.cells⟩
theorem Box.set0 {w wr : World} {b : Nat} {x0 x1 : Value} {T : TypeId} (h : Box w wr b #[x0, x1] T) (hb : w.heap.size ≤ b) (u : Value) : Box w (wr.setCell ⟨b, 0, none⟩ u) b #[u, x1] T :=
  ⟨h.below.setCell (p := ⟨b, 0, none⟩) hb u, by simp [World.setCell, Array.getElem?_modify, h.cells]⟩
theorem Box.set1 {w wr : World} {b : Nat} {x0 x1 : Value} {T : TypeId} (h : Box w wr b #[x0, x1] T) (hb : w.heap.size ≤ b) (u : Value) : Box w (wr.setCell ⟨b, 1, none⟩ u) b #[x0, u] T :=
  ⟨h.below.setCell (p := ⟨b, 1, none⟩) hb u, by simp [World.setCell, Array.getElem?_modify, h.cells]⟩
end Fm
end Go.Proofs.YtkjbfomokdjbnaaDoor

/-
  append where the two slices' types are two names of one: what is appended lies where.
-/
namespace Go.Proofs.YtkjbfomokdjbnaaDoor
open Go.RowKit
set_option linter.unusedSimpArgs false
set_option linter.unusedVariables false
section
variable {P : Program} (w : World)
theorem append_types (t u ty e e' : TypeId) (ht : P.underlying t = some (.slice e)) (hu : P.underlying u = some (.slice e')) (ao : Option Addr) (n cap : Nat) (bo : Option Addr) (m c : Nat) :
    (Builtin.append_ #[t, u] ty #[.slice ao n cap, .slice bo m c]).run P w = (Builtin.append_ #[t, t] ty #[.slice ao n cap, .slice bo m c]).run P w := by
  simp [Builtin.append_, run_underlying ht, run_underlying hu]

theorem run_append_two (t u ty : TypeId) (base : Nat) (e : TypeId) (i : TypeInfo) (z : Value) (size bytes : Nat) (ht : P.underlying t = some (.slice e)) (hu : P.underlying u = some (.slice e)) (hi : P.info? e = some i) (hz : i.zero = some z)
    (hsize : i.size = size) (hby : i.bytes = bytes) (hzs : z.cells.size = size) (hsz : 0 < size)
    (v : Value) (n : Nat) (xs : List Value) (hown : w.ownsRow base e size v n xs)
    (ad : Addr) (m c : Nat) (news : List Value) (hl : news.length = m * size) (hnews : ∀ j u, news[j]? = some u → w.cell? (ad.add j) = some u) (h1 : ∀ u ∈ news, u.oneCell' = true)
    (hm : 0 < m) (h63 : n + m ≤ maxLen) (hbytes : (n + m) * bytes ≤ 140737488355328) (hbase : base ≤ w.heap.size) (H : Nat) (hH : w.heap.size = H) :
    ∃ g cap w', (Builtin.append_ #[t, u] ty #[v, .slice (some ad) m c]).run P w = .ok (.slice (some ⟨g, 0, none⟩) (n + m) cap) w' ∧
      w'.ownsRow base e size (.slice (some ⟨g, 0, none⟩) (n + m) cap) (n + m) (xs ++ news) ∧ w.grownBy w' v.ownBlock ∧ (v.ownBlock = some g ∨ g = H) ∧ g < w'.heap.size := by
  obtain ⟨A, k, cv, rfl⟩ : ∃ A k c, v = .slice A k c := by
    rcases hown.2 with ⟨rfl, _⟩ | ⟨g, cap, cur, rfl, _⟩
    · exact ⟨_, _, _, rfl⟩
    · exact ⟨_, _, _, rfl⟩
  rw [append_types w t u ty e e ht hu]
  exact run_append_lies w t ty base e i z size bytes ht hi hz hsize hby hzs hsz _ n xs hown ad m c news hl hnews h1 hm h63 hbytes hbase H hH

theorem wp_append_two {o : Oper} {a : Act} {K : Act → World → Prop} {Q : Exit → Act → World → Prop} (s x : Operand) (t u : TypeId)
    (ho : o.op = .call { callee := .builtin .append, args := #[s, x], argTypes := #[t, u] })
    (base : Nat) (e : TypeId) (i : TypeInfo) (z : Value) (size bytes : Nat) (ht : P.underlying t = some (.slice e)) (hu : P.underlying u = some (.slice e)) (hi : P.info? e = some i) (hz : i.zero = some z)
    (hsize : i.size = size) (hby : i.bytes = bytes) (hzs : z.cells.size = size) (hsz : 0 < size)
    (v : Value) (n : Nat) (xs : List Value) (hs : a.eval s = v) (hown : w.ownsRow base e size v n xs)
    (ad : Addr) (m c : Nat) (news : List Value) (hx : a.eval x = .slice (some ad) m c) (hl : news.length = m * size) (hnews : ∀ j u, news[j]? = some u → w.cell? (ad.add j) = some u) (h1 : ∀ u ∈ news, u.oneCell' = true)
    (hm : 0 < m) (h63 : n + m ≤ maxLen) (hbytes : (n + m) * bytes ≤ 140737488355328) (hbase : base ≤ w.heap.size) (H : Nat) (hH : w.heap.size = H)
    (h : ∀ g cap w', w'.ownsRow base e size (.slice (some ⟨g, 0, none⟩) (n + m) cap) (n + m) (xs ++ news) → w.grownBy w' v.ownBlock → (v.ownBlock = some g ∨ g = H) → g < w'.heap.size → K (a.put o.dst (.slice (some ⟨g, 0, none⟩) (n + m) cap)) w') : o.wp P a w K Q := by
  obtain ⟨g, cap, w', hr, h2, h3, h4, h5⟩ := run_append_two (P := P) w t u o.type base e i z size bytes ht hu hi hz hsize hby hzs hsz v n xs hown ad m c news hl hnews h1 hm h63 hbytes hbase H hH
  unfold Oper.wp execOp
  simp only [ho, resolve, invoke, builtin, Sem.run_bind, Sem.run_pure, Result.andThen_ok, List.map_toArray, List.map_cons, List.map_nil, hs, hx, hr]
  exact h g cap w' h2 h3 h4 h5

theorem wpList_append_two {ops : Array Oper} {rest : List Oper} {o : Oper} {a : Act} {Q : Exit → Act → World → Prop} (hgd : o.guard = none) (s x : Operand) (t u : TypeId)
    (ho : o.op = .call { callee := .builtin .append, args := #[s, x], argTypes := #[t, u] })
    (base : Nat) (e : TypeId) (i : TypeInfo) (z : Value) (size bytes : Nat) (ht : P.underlying t = some (.slice e)) (hu : P.underlying u = some (.slice e)) (hi : P.info? e = some i) (hz : i.zero = some z)
    (hsize : i.size = size) (hby : i.bytes = bytes) (hzs : z.cells.size = size) (hsz : 0 < size)
    (v : Value) (n : Nat) (xs : List Value) (hs : a.eval s = v) (hown : w.ownsRow base e size v n xs)
    (ad : Addr) (m c : Nat) (news : List Value) (hx : a.eval x = .slice (some ad) m c) (hl : news.length = m * size) (hnews : ∀ j u, news[j]? = some u → w.cell? (ad.add j) = some u) (h1 : ∀ u ∈ news, u.oneCell' = true)
    (hm : 0 < m) (h63 : n + m ≤ maxLen) (hbytes : (n + m) * bytes ≤ 140737488355328) (hbase : base ≤ w.heap.size) (H : Nat) (hH : w.heap.size = H)
    (h : ∀ g cap w', w'.ownsRow base e size (.slice (some ⟨g, 0, none⟩) (n + m) cap) (n + m) (xs ++ news) → w.grownBy w' v.ownBlock → (v.ownBlock = some g ∨ g = H) → g < w'.heap.size → wpList P ops Q rest (a.put o.dst (.slice (some ⟨g, 0, none⟩) (n + m) cap)) w') : wpList P ops Q (o :: rest) a w :=
  wpList_plain hgd fun _ hK => wp_append_two w s x t u ho base e i z size bytes ht hu hi hz hsize hby hzs hsz v n xs hs hown ad m c news hx hl hnews h1 hm h63 hbytes hbase H hH fun g cap w' h2 h3 h4 h5 => hK _ _ (h g cap w' h2 h3 h4 h5)

theorem step_append_two {ops : Array Oper} {o : Oper} {a : Act} {K : Act → World → Prop} {Q : Exit → Act → World → Prop} {E : Prop} (hgd : o.guard = none) (s x : Operand) (t u : TypeId)
    (ho : o.op = .call { callee := .builtin .append, args := #[s, x], argTypes := #[t, u] })
    (base : Nat) (e : TypeId) (i : TypeInfo) (z : Value) (size bytes : Nat) (ht : P.underlying t = some (.slice e)) (hu : P.underlying u = some (.slice e)) (hi : P.info? e = some i) (hz : i.zero = some z)
    (hsize : i.size = size) (hby : i.bytes = bytes) (hzs : z.cells.size = size) (hsz : 0 < size)
    (v : Value) (n : Nat) (xs : List Value) (hs : a.eval s = v) (hown : w.ownsRow base e size v n xs)
    (ad : Addr) (m c : Nat) (news : List Value) (hx : a.eval x = .slice (some ad) m c) (hl : news.length = m * size) (hnews : ∀ j u, news[j]? = some u → w.cell? (ad.add j) = some u) (h1 : ∀ u ∈ news, u.oneCell' = true)
    (hm : 0 < m) (h63 : n + m ≤ maxLen) (hbytes : (n + m) * bytes ≤ 140737488355328) (hbase : base ≤ w.heap.size) (H : Nat) (hH : w.heap.size = H)
    (h : ∀ g cap w', w'.ownsRow base e size (.slice (some ⟨g, 0, none⟩) (n + m) cap) (n + m) (xs ++ news) → w.grownBy w' v.ownBlock → (v.ownBlock = some g ∨ g = H) → g < w'.heap.size → K (a.put o.dst (.slice (some ⟨g, 0, none⟩) (n + m) cap)) w') :
    if Region.wanted o (yielded ops a.tmps) = true then Oper.wp P o a w K Q else E := by
  have hw : Region.wanted o (yielded ops a.tmps) = true := by simp [Region.wanted, hgd]
  rw [if_pos hw]
  exact wp_append_two w s x t u ho base e i z size bytes ht hu hi hz hsize hby hzs hsz v n xs hs hown ad m c news hx hl hnews h1 hm h63 hbytes hbase H hH h

/-- the empty literal's row -/
theorem ownsRow_empty (w : World) (base : Nat) (e : TypeId) (size : Nat) (hB : base ≤ w.heap.size) : (w.alloc (.cells #[] e)).ownsRow base e size (.slice (some ⟨w.heap.size, 0, none⟩) 0 0) 0 [] :=
  ⟨by simp, .inr ⟨w.heap.size, 0, #[], rfl, hB, heap_alloc_new w _, Nat.le_refl _, Nat.zero_le _, by simp, by simp⟩⟩
end
end Go.Proofs.YtkjbfomokdjbnaaDoor

/-
  An argument that is a slice, opened row by row: the cells of each element and its own reading.
-/
namespace Go.Proofs.YtkjbfomokdjbnaaDoor
open Go.RowKit Go.ChangeShapes Go.WideShapes
set_option linter.unusedSimpArgs false
set_option linter.unusedVariables false

theorem list_of {α : Type} {n : Nat} {P : Nat → α → Prop} (h : ∀ i, i < n → ∃ x, P i x) : ∃ l : List α, l.length = n ∧ ∀ i (hi : i < l.length), P i l[i] := by
  induction n with
  | zero => exact ⟨[], rfl, fun i hi => absurd hi (by simp)⟩
  | succ n ih =>
    obtain ⟨l, hl, hp⟩ := ih (fun i hi => h i (by omega))
    obtain ⟨x, hx⟩ := h n (by omega)
    refine ⟨l ++ [x], by simp [hl], fun i hi => ?_⟩
    by_cases hlt : i < l.length
    · rw [List.getElem_append_left hlt]; exact hp i hlt
    · have : i = n := by simp at hi; omega
      subst this
      rw [List.getElem_append_right (by omega)]
      simp only [hl, Nat.sub_self, List.getElem_cons_zero]
      exact hx

section
variable {H : Type} {enc : TypeId × Value → H} {P : Program} {w : World} {base : Nat} {spare : Nat → Bool} {held : Bool}

theorem cell_lt {a : Addr} {v : Value} (h : w.cell? a = some v) : a.block < w.heap.size := by
  unfold World.cell? at h
  split at h
  · rename_i hb; exact (Array.getElem?_eq_some_iff.1 hb).1
  · cases h

/-- a slice, row by row -/
theorem open_rows {t e : TypeId} {k fuel : Nat} {cs : List Value} {x : DataW H × List MemPlace} (ht : P.underlying t = some (.slice e)) (hc : P.cellsOf e = k) (hk : 0 < k) (h : DataW.trod enc P w base spare held fuel t cs = some x) :
    ∃ A len cap n, cs = [.slice A len cap] ∧ n < fuel ∧ len ≤ cap ∧ cap ≤ maxLen ∧ (0 < len → ∃ b o, A = some ⟨b, o, none⟩ ∧ b < w.heap.size ∧
      ∀ i, i < len → ∃ cs' x', cs'.length = k ∧ (∀ j u, cs'[j]? = some u → w.cell? ⟨b, o + i * k + j, none⟩ = some u) ∧ DataW.trod enc P w base spare held n e cs' = some x') := by
  have hf : 0 < fuel := by cases fuel with | zero => simp [DataW.trod] at h | succ n => omega
  rcases DataW.trod_slice ht h with ⟨h0, _⟩ | ⟨a, len, cap, elems, rest, n, hfu, rfl, rfl, hb, hl, hm, hlen, hel, _, _⟩
  · exact ⟨none, 0, 0, 0, h0, hf, Nat.le_refl _, by unfold maxLen; omega, fun h => absurd h (by omega)⟩
  · refine ⟨some a, len, cap, n, rfl, by omega, hl, hm, fun h0 => ?_⟩
    have row : ∀ i, i < len → ∃ cs' x', cs'.length = k ∧ (∀ j, j < k → w.cell? ((a.add (i * k)).add j) = cs'[j]?) ∧ DataW.trod enc P w base spare held n e cs' = some x' := by
      intro i hi
      have h1 := hel i hi
      rw [hc, List.getElem?_eq_getElem (by omega)] at h1
      obtain ⟨cs', h2, h3⟩ := Option.bind_eq_some_iff.1 h1
      obtain ⟨_, hcl, hat⟩ := World.cells?_some h2
      exact ⟨cs', _, hcl, hat, h3⟩
    obtain ⟨b, o, sp⟩ := a
    obtain ⟨cs0, _, hcl, hat, _⟩ := row 0 h0
    have h00 := hat 0 hk
    rw [add_add, Nat.zero_mul, List.getElem?_eq_getElem (by omega)] at h00
    have hsp : sp = none := by simpa [Addr.add] using World.cell?_spot h00
    subst hsp
    refine ⟨b, o, rfl, by simpa [Addr.add] using cell_lt h00, fun i hi => ?_⟩
    obtain ⟨cs', x', h1, h2, h3⟩ := row i hi
    refine ⟨cs', x', h1, fun j u hj => ?_, h3⟩
    have hj' : j < k := by rw [← h1]; exact (List.getElem?_eq_some_iff.1 hj).1
    have h4 := h2 j hj'
    rw [add_add, hj] at h4
    have e : (⟨b, o, none⟩ : Addr).add (i * k + j) = ⟨b, o + i * k + j, none⟩ := by
      unfold Addr.add; split
      · rename_i h5; simp [h5] <;> omega
      · simp; omega
    rw [← e]; exact h4
end
end Go.Proofs.YtkjbfomokdjbnaaDoor
