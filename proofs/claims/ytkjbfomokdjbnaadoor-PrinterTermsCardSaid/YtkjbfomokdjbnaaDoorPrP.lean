/-
  A tree changed in place: what a call leaves, and one kid after the other (the texts of RnI without formula.renamed).
-/
import Derived.Test.YtkjbfomokdjbnaaDoorSpF
import Derived.Test.YtkjbfomokdjbnaaDoorPrF
namespace Go.Proofs.YtkjbfomokdjbnaaDoor
open Go.RowKit
set_option linter.unusedSimpArgs false
set_option linter.unusedVariables false
namespace Fm

/-- a call that gives a tree back which it may have changed in place -/
def InPost (S : Nat → Prop) (T : Tr) (w : World) (e : Ending) (w' : World) : Prop :=
  ∃ A1 n1 c1 A2 n2 c2, e = .returned (.agg #[.int .i64 T.h.k, .bool T.h.neg, .slice A1 n1 c1, .string T.h.name, .int .i64 T.h.exp, .int .i64 T.h.rel, .bool T.h.truth, .bool T.h.all, .slice A2 n2 c2]) ∧
    (∃ Sn, TreeSp w' Sn T (hdC T.h (.slice A1 n1 c1) (.slice A2 n2 c2)) ∧ ∀ x, Sn x → (S x ∨ w.heap.size ≤ x) ∧ x < w'.heap.size) ∧ Only S w w'
/-- a tree whose kids are changed, one after the other -/
def InRel (S : Nat → Prop) (w wr : World) (T : Tr) (cs : List Value) : Prop :=
  (∃ Sn, TreeSp wr Sn T cs ∧ ∀ x, Sn x → (S x ∨ w.heap.size + 2 ≤ x) ∧ x < wr.heap.size) ∧ Only S w wr

theorem InRel.start {S : Nat → Prop} {w wr : World} {T : Tr} {cs : List Value} (hS : ∀ x, S x → x < w.heap.size) (h : TreeSp w S T cs) (hb : Below w.heap.size w wr) : InRel S w wr T cs :=
  ⟨⟨S, h.below hS hb, fun x hx => ⟨.inl hx, Nat.lt_of_lt_of_le (hS x hx) hb.size⟩⟩, Only.of_below hb⟩
/-- the boxes of the call lie apart from the tree -/
theorem InRel.kept {S : Nat → Prop} {w wr : World} {T : Tr} {cs : List Value} (hS : ∀ x, S x → x < w.heap.size) (h : InRel S w wr T cs) {X j : Nat} (hX : w.heap.size ≤ X ∧ X < w.heap.size + 2) (u : Value) : InRel S w (wr.setCell ⟨X, j, none⟩ u) T cs := by
  obtain ⟨⟨Sn, h1, h2⟩, h3⟩ := h
  refine ⟨⟨Sn, TreeSp.keep T Sn cs (fun b hb => Below.heap_setCell wr ⟨X, j, none⟩ u b (fun e => ?_)) h1, fun x hx => by have := h2 x hx; simpa using this⟩, h3.setCell (.inr hX.1) u⟩
  subst e
  rcases (h2 _ hb).1 with h | h
  · have := hS _ h; omega
  · omega
/-- the whole tree, opened: its row and its kids -/
theorem TreeSp.opened {w : World} {S : Nat → Prop} {H : Hd} {ts : List Tr} {va : Value} {A2 : Option Addr} {K c : Nat} (h : TreeSp w S (.mk H ts) (hdC H va (.slice A2 K c))) (hK : 0 < ts.length) :
    ∃ (b : Nat) (xs : List Value) (Sk : Nat → Prop), H.abs = [] ∧ va = .slice none 0 0 ∧ A2 = some ⟨b, 0, none⟩ ∧ K = ts.length ∧ c = ts.length ∧ S b ∧ w.heap[b]? = some (.cells xs.toArray TT (0, 0)) ∧ (∀ x, Sk x → S x ∧ x ≠ b) ∧ TrsSp w Sk ts xs := by
  unfold TreeSp at h
  obtain ⟨hn, hl, ⟨e, _⟩ | ⟨h0, ha, b, xs, Sk, e, hb, hx, hs, ht⟩⟩ := h
  · subst e; simp at hK
  · simp only [hdC, List.cons.injEq, and_true, true_and, Value.slice.injEq] at e
    obtain ⟨e1, e2, e3, e4⟩ := e
    exact ⟨b, xs, Sk, ha, e1, e2, e3, e4, hb, hx, hs, ht⟩
theorem TreeSp.name_len {w : World} {S : Nat → Prop} {H : Hd} {ts : List Tr} {cs : List Value} (h : TreeSp w S (.mk H ts) cs) : H.name.size ≤ 9223372036854775807 ∧ ts.length ≤ 9223372036854775807 := by
  unfold TreeSp at h; exact ⟨h.1, h.2.1⟩
theorem TreeSp.form {w : World} {S : Nat → Prop} {H : Hd} {ts : List Tr} {cs : List Value} (h : TreeSp w S (.mk H ts) cs) : ∃ A1 n1 c1 A2 c2, cs = hdC H (.slice A1 n1 c1) (.slice A2 ts.length c2) := by
  unfold TreeSp at h
  obtain ⟨hn, hl, ⟨rfl, va, rfl, ha⟩ | ⟨h0, ha, b, xs, Sk, rfl, hb, hx, hs, ht⟩⟩ := h
  · obtain ⟨A, c, rfl⟩ := ha.1.form
    exact ⟨A, _, c, none, 0, rfl⟩
  · exact ⟨none, 0, 0, _, _, rfl⟩
/-- one round: kid i by itself, and the tree when it has been put back -/
theorem InRel.round {S : Nat → Prop} {w wr : World} {H : Hd} {ts : List Tr} {va : Value} {A2 : Option Addr} {K c i : Nat} (hS : ∀ x, S x → x < w.heap.size) (hw2 : w.heap.size + 2 ≤ wr.heap.size) (h : InRel S w wr (.mk H ts) (hdC H va (.slice A2 K c))) (hi : i < K) (hKl : K = ts.length) :
    ∃ (kd : Tr) (b : Nat) (B1 : Option Addr) (m1 e1 : Nat) (B2 : Option Addr) (m2 e2 : Nat) (Si : Nat → Prop), ts[i]? = some kd ∧ A2 = some ⟨b, 0, none⟩ ∧ b < wr.heap.size ∧ b ≠ w.heap.size ∧ b ≠ w.heap.size + 1 ∧ ¬ Si b ∧
      TreeSp wr Si kd (hdC kd.h (.slice B1 m1 e1) (.slice B2 m2 e2)) ∧ (∀ x, Si x → x < wr.heap.size ∧ x ≠ w.heap.size ∧ x ≠ w.heap.size + 1) ∧
      (∀ j, wr.frozen? ⟨b, j, none⟩ = false) ∧
      (wr.cell? ⟨b, i * 9, none⟩ = some (.int .i64 kd.h.k) ∧ wr.cell? ⟨b, i * 9 + 1, none⟩ = some (.bool kd.h.neg) ∧ wr.cell? ⟨b, i * 9 + 2, none⟩ = some (.slice B1 m1 e1) ∧
      wr.cell? ⟨b, i * 9 + 3, none⟩ = some (.string kd.h.name) ∧ wr.cell? ⟨b, i * 9 + 4, none⟩ = some (.int .i64 kd.h.exp) ∧ wr.cell? ⟨b, i * 9 + 5, none⟩ = some (.int .i64 kd.h.rel) ∧
      wr.cell? ⟨b, i * 9 + 6, none⟩ = some (.bool kd.h.truth) ∧ wr.cell? ⟨b, i * 9 + 7, none⟩ = some (.bool kd.h.all) ∧ wr.cell? ⟨b, i * 9 + 8, none⟩ = some (.slice B2 m2 e2)) ∧
      ∀ (w1 w2 : World) (T' : Tr) (u0 u1 u2 u3 u4 u5 u6 u7 u8 : Value), Below wr.heap.size wr w1 → Only Si w1 w2 → (∃ Sn, TreeSp w2 Sn T' [u0, u1, u2, u3, u4, u5, u6, u7, u8] ∧ ∀ x, Sn x → (Si x ∨ w1.heap.size ≤ x) ∧ x < w2.heap.size) →
        InRel S w (((((((((w2.setCell ⟨b, i * 9, none⟩ u0).setCell ⟨b, i * 9 + 1, none⟩ u1).setCell ⟨b, i * 9 + 2, none⟩ u2).setCell ⟨b, i * 9 + 3, none⟩ u3).setCell ⟨b, i * 9 + 4, none⟩ u4).setCell ⟨b, i * 9 + 5, none⟩ u5).setCell ⟨b, i * 9 + 6, none⟩ u6).setCell ⟨b, i * 9 + 7, none⟩ u7).setCell ⟨b, i * 9 + 8, none⟩ u8) (.mk H (ts.set i T')) (hdC H va (.slice A2 K c)) := by
  obtain ⟨⟨Sn, h1, h2⟩, h3⟩ := h
  have hnl := h1.name_len
  obtain ⟨b, xs, Sk, ha, rfl, rfl, rfl, rfl, hb, hx, hs, ht⟩ := h1.opened (by omega)
  have hti : ts[i]? = some ts[i] := List.getElem?_eq_getElem hi
  obtain ⟨ci, Si, So, g1, g2, g3, g4, g5⟩ := TrsSp.focus ts Sk xs i ts[i] ht hti
  have hlen := TrsSp.len ts Sk xs ht
  obtain ⟨B1, m1, e1, B2, e2, rfl⟩ : ∃ A1 n1 c1 A2 c2, ci = hdC ts[i].h (.slice A1 n1 c1) (.slice A2 ts[i].kids.length c2) := by
    cases hk : ts[i] with
    | mk hh kk => rw [hk] at g1; exact g1.form
  have gc : ∀ j u, j < 9 → (hdC ts[i].h (.slice B1 m1 e1) (.slice B2 ts[i].kids.length e2))[j]? = some u → wr.cell? ⟨b, i * 9 + j, none⟩ = some u := fun j u hj hu => by rw [cell_blk hx, g2 j hj]; exact hu
  have hbl := h2 b hb
  have hbX : b ≠ w.heap.size ∧ b ≠ w.heap.size + 1 := by
    rcases hbl.1 with h | h
    · have := hS b h; omega
    · omega
  have hSn : ∀ x, Sk x → x < wr.heap.size ∧ x ≠ w.heap.size ∧ x ≠ w.heap.size + 1 := fun x hx' => by
    have h5 := h2 x (hs x hx').1
    rcases h5.1 with h | h
    · have := hS x h; omega
    · omega
  refine ⟨ts[i], b, B1, m1, e1, B2, ts[i].kids.length, e2, Si, hti, rfl, hbl.2, hbX.1, hbX.2, fun hh => (hs b (g3 b hh).1).2 rfl, g1, fun x hx' => hSn x (g3 x hx').1, fz_blk hx,
    ⟨gc 0 _ (by omega) rfl, gc 1 _ (by omega) rfl, gc 2 _ (by omega) rfl, gc 3 _ (by omega) rfl, gc 4 _ (by omega) rfl, gc 5 _ (by omega) rfl, gc 6 _ (by omega) rfl, gc 7 _ (by omega) rfl, gc 8 _ (by omega) rfl⟩, ?_⟩
  intro w1 w2 T' u0 u1 u2 u3 u4 u5 u6 u7 u8 hb1 ho ⟨Sq, hq, hq2⟩
  have hkeep : ∀ x, x < wr.heap.size → ¬ Si x → w2.heap[x]? = wr.heap[x]? := fun x hx' hn => (ho.block x (Nat.lt_of_lt_of_le hx' hb1.size) hn).trans (hb1.block x hx')
  have hs1 := hb1.size
  have hs2 := ho.size
  have hSib : ¬ Si b := fun hh => (hs b (g3 b hh).1).2 rfl
  have hxb := (hkeep b hbl.2 hSib).trans hx
  have hrow := row_set9 hxb (i := i) (by
      have : i * 9 + 9 ≤ ts.length * 9 := by omega
      omega) u0 u1 u2 u3 u4 u5 u6 u7 u8
  have hsz : ∀ (v : World) (a : Addr) (u : Value), (v.setCell a u).heap.size = v.heap.size := fun v a u => by simp
  have hbk : ∀ x, x ≠ b → (((((((((w2.setCell ⟨b, i * 9, none⟩ u0).setCell ⟨b, i * 9 + 1, none⟩ u1).setCell ⟨b, i * 9 + 2, none⟩ u2).setCell ⟨b, i * 9 + 3, none⟩ u3).setCell ⟨b, i * 9 + 4, none⟩ u4).setCell ⟨b, i * 9 + 5, none⟩ u5).setCell ⟨b, i * 9 + 6, none⟩ u6).setCell ⟨b, i * 9 + 7, none⟩ u7).setCell ⟨b, i * 9 + 8, none⟩ u8).heap[x]? = w2.heap[x]? := fun x hx' => by
    have s : ∀ (v : World) (j : Nat) (u : Value), (v.setCell ⟨b, j, none⟩ u).heap[x]? = v.heap[x]? := fun v j u => Below.heap_setCell v ⟨b, j, none⟩ u x hx'
    rw [s, s, s, s, s, s, s, s, s]
  have hO2 : Only S w w2 := (h3.step hb1).trans ho (fun x hx' => by
    have h5 := (h2 x (hs x (g3 x hx').1).1).1
    rcases h5 with h | h
    · exact .inl h
    · exact .inr (by omega))
  have hOb : S b ∨ w.heap.size ≤ b := by
    rcases hbl.1 with h | h
    · exact .inl h
    · exact .inr (by omega)
  have hSq : ∀ x, Sq x → ¬ So x ∧ x ≠ b := fun x hx' => by
    have h5 := hq2 x hx'
    rcases h5.1 with h | h
    · exact ⟨(g3 x h).2, (hs x (g3 x h).1).2⟩
    · refine ⟨fun hh => ?_, by omega⟩
      have := (h2 x (hs x (g4 x hh)).1).2
      omega
  refine ⟨⟨fun x => (So x ∨ Sq x) ∨ x = b, ?_, ?_⟩, ((((((((hO2.setCell hOb _).setCell hOb _).setCell hOb _).setCell hOb _).setCell hOb _).setCell hOb _).setCell hOb _).setCell hOb _).setCell hOb _⟩
  · unfold TreeSp
    refine ⟨hnl.1, by rw [List.length_set]; exact hnl.2, .inr ⟨by rw [List.length_set]; omega, ha, b, _, fun x => So x ∨ Sq x, by rw [List.length_set], .inr rfl, hrow, fun x hx' => ⟨.inl hx', ?_⟩, ?_⟩⟩
    · rcases hx' with hh | hh
      · exact (hs x (g4 x hh)).2
      · exact (hSq x hh).2
    · refine g5 _ T' _ Sq (fun x hx' => ?_) (TreeSp.keep T' Sq _ (fun x hx' => hbk x (hSq x hx').2) hq) (fun x hx' => (hSq x hx').1)
      have h6 := hs x (g4 x hx')
      exact (hbk x h6.2).trans (hkeep x (h2 x h6.1).2 (fun hh => (g3 x hh).2 hx'))
  · intro x hx'
    rw [hsz, hsz, hsz, hsz, hsz, hsz, hsz, hsz, hsz]
    rcases hx' with (hh | hh) | rfl
    · have h6 := h2 x (hs x (g4 x hh)).1
      exact ⟨h6.1, by omega⟩
    · have h6 := hq2 x hh
      refine ⟨?_, h6.2⟩
      rcases h6.1 with h | h
      · exact (h2 x (hs x (g3 x h).1).1).1
      · exact .inr (by omega)
    · exact ⟨hbl.1, by omega⟩
theorem take_set {ks : List Tr} {i : Nat} {kd : Tr} (g : Tr → Tr) (h : ks[i]? = some kd) : ((ks.take i).map g ++ ks.drop i).set i (g kd) = (ks.take (i + 1)).map g ++ ks.drop (i + 1) := by
  have hi := (List.getElem?_eq_some_iff.1 h).1
  have hk := (List.getElem?_eq_some_iff.1 h).2
  rw [List.set_append_right _ _ (by simp; omega), List.length_map, List.length_take, Nat.min_eq_left (by omega), Nat.sub_self]
  rw [List.drop_eq_getElem_cons hi, hk, List.set_cons_zero, List.take_succ_eq_append_getElem hi, hk, List.map_append, List.append_assoc]
  rfl
theorem take_at {ks : List Tr} {i : Nat} {kd : Tr} (g : Tr → Tr) (h : ((ks.take i).map g ++ ks.drop i)[i]? = some kd) (hi : i < ks.length) : ks[i]? = some kd := by
  rw [List.getElem?_append_right (by simp; omega), List.length_map, List.length_take, Nat.min_eq_left (by omega), Nat.sub_self, List.getElem?_drop] at h
  simpa using h
theorem InRel.kept9 {S : Nat → Prop} {w wr : World} {T : Tr} {cs : List Value} (hS : ∀ x, S x → x < w.heap.size) (h : InRel S w wr T cs) {X : Nat} (hX : w.heap.size ≤ X ∧ X < w.heap.size + 2) (u0 u1 u2 u3 u4 u5 u6 u7 u8 : Value) : InRel S w (set9 wr X u0 u1 u2 u3 u4 u5 u6 u7 u8) T cs := by
  have h0 := h.kept (j := 0) hS hX u0
  have h1 := h0.kept (j := 1) hS hX u1
  have h2 := h1.kept (j := 2) hS hX u2
  have h3 := h2.kept (j := 3) hS hX u3
  have h4 := h3.kept (j := 4) hS hX u4
  have h5 := h4.kept (j := 5) hS hX u5
  have h6 := h5.kept (j := 6) hS hX u6
  have h7 := h6.kept (j := 7) hS hX u7
  exact h7.kept (j := 8) hS hX u8
theorem InRel.done {S : Nat → Prop} {w wr : World} {T : Tr} {A1 A2 : Option Addr} {n1 c1 K c : Nat} (h : InRel S w wr T (hdC T.h (.slice A1 n1 c1) (.slice A2 K c))) : InPost S T w (.returned (.agg #[.int .i64 T.h.k, .bool T.h.neg, .slice A1 n1 c1, .string T.h.name, .int .i64 T.h.exp, .int .i64 T.h.rel, .bool T.h.truth, .bool T.h.all, .slice A2 K c])) wr := by
  obtain ⟨⟨Sn, h1, h2⟩, h3⟩ := h
  exact ⟨A1, n1, c1, A2, K, c, rfl, ⟨Sn, h1, fun x hx => ⟨by have := (h2 x hx).1; rcases this with h | h; exact .inl h; exact .inr (by omega), (h2 x hx).2⟩⟩, h3⟩
theorem kept_only {Si : Nat → Prop} {wr w1 w2 : World} (hb1 : Below wr.heap.size wr w1) (ho : Only Si w1 w2) {x : Nat} (hx : x < wr.heap.size) (hn : ¬ Si x) : w2.heap[x]? = wr.heap[x]? := (ho.block x (Nat.lt_of_lt_of_le hx hb1.size) hn).trans (hb1.block x hx)
theorem World.cell?_of_block' {w : World} {b : Nat} {cs : Array Value} {T : TypeId} {j : Nat} (h : w.heap[b]? = some (.cells cs T (0, 0))) : w.cell? ⟨b, j, none⟩ = cs[j]? := by simp [World.cell?, h]
theorem World.frozen?_of_block' {w : World} {b : Nat} {cs : Array Value} {T : TypeId} {j : Nat} (h : w.heap[b]? = some (.cells cs T (0, 0))) : w.frozen? ⟨b, j, none⟩ = false := by simp [World.frozen?, h]
theorem cells9 {wr : World} {b : Nat} {x0 x1 x2 x3 x4 x5 x6 x7 x8 : Value} {T : TypeId} (h : wr.heap[b]? = some (.cells #[x0, x1, x2, x3, x4, x5, x6, x7, x8] T (0, 0))) :
    wr.cell? ⟨b, 0, none⟩ = some x0 ∧ wr.cell? ⟨b, 1, none⟩ = some x1 ∧ wr.cell? ⟨b, 2, none⟩ = some x2 ∧ wr.cell? ⟨b, 3, none⟩ = some x3 ∧ wr.cell? ⟨b, 4, none⟩ = some x4 ∧ wr.cell? ⟨b, 5, none⟩ = some x5 ∧ wr.cell? ⟨b, 6, none⟩ = some x6 ∧ wr.cell? ⟨b, 7, none⟩ = some x7 ∧ wr.cell? ⟨b, 8, none⟩ = some x8 :=
  ⟨World.cell?_of_block' h, World.cell?_of_block' h, World.cell?_of_block' h, World.cell?_of_block' h, World.cell?_of_block' h, World.cell?_of_block' h, World.cell?_of_block' h, World.cell?_of_block' h, World.cell?_of_block' h⟩
theorem row9_block {w : World} {b o : Nat} {u0 u1 u2 u3 u4 u5 u6 u7 u8 : Value} {x : Nat} (h : x ≠ b) : (((((((((w.setCell ⟨b, o, none⟩ u0).setCell ⟨b, o + 1, none⟩ u1).setCell ⟨b, o + 2, none⟩ u2).setCell ⟨b, o + 3, none⟩ u3).setCell ⟨b, o + 4, none⟩ u4).setCell ⟨b, o + 5, none⟩ u5).setCell ⟨b, o + 6, none⟩ u6).setCell ⟨b, o + 7, none⟩ u7).setCell ⟨b, o + 8, none⟩ u8).heap[x]? = w.heap[x]? := by
  have s : ∀ (w : World) (j : Nat) (u : Value), (w.setCell ⟨b, j, none⟩ u).heap[x]? = w.heap[x]? := fun w j u => Below.heap_setCell w ⟨b, j, none⟩ u x h
  rw [s, s, s, s, s, s, s, s, s]
end Fm
end Go.Proofs.YtkjbfomokdjbnaaDoor

/-
  printer.positive: the tree changed in place.
-/
namespace Go.Proofs.YtkjbfomokdjbnaaDoor
open Go.RowKit
set_option linter.unusedSimpArgs false
set_option linter.unusedVariables false
namespace Pr
open Fm Dc
attribute [local go_sem] run_store

theorem trimLen_zero {l : List Nat} (h : ∀ x ∈ l, x = 0) : ∀ n, n ≤ l.length → trimLen l n = 0
  | 0, _ => by unfold trimLen; rfl
  | n + 1, hn => by
    unfold trimLen
    have ih := trimLen_zero h n (by omega)
    have e : l[n]? = some 0 := by
      rw [List.getElem?_eq_getElem (by omega)]
      rw [h _ (List.getElem_mem (by omega))]
    simp_all
theorem normB_val (neg : Bool) (l : List Nat) : normB neg l = (neg && decide (valN l ≠ 0)) := by
  unfold normB
  congr 1
  by_cases h : valN l = 0
  · have h0 := trimLen_zero (valN_zero l h) l.length (Nat.le_refl _)
    rw [← trimN_len] at h0
    simp [h, h0]
  · have : 0 < (trimN l).length := by
      rcases Nat.eq_zero_or_pos (trimN l).length with h1 | h1
      · have h2 := valN_trim l
        rw [List.length_eq_zero_iff.1 h1] at h2
        exact absurd h2.symm h
      · exact h1
    simp [h, this]
theorem InRel.step {S : Nat → Prop} {w wr w2 : World} {T : Tr} {cs : List Value} (h : InRel S w wr T cs) (hb : Below wr.heap.size wr w2) : InRel S w w2 T cs := by
  obtain ⟨⟨Sn, h1, h2⟩, h3⟩ := h
  exact ⟨⟨Sn, h1.below (fun x hx => (h2 x hx).2) hb, fun x hx => ⟨(h2 x hx).1, Nat.lt_of_lt_of_le (h2 x hx).2 hb.size⟩⟩, h3.step hb⟩
theorem Box.stepC {w wr w2 : World} {b : Nat} {cs : Array Value} {T : TypeId} (h : Box w wr b cs T) (hb : Below wr.heap.size wr w2) : w2.heap[b]? = some (.cells cs T (0, 0)) := (h.step hb).cells

set_option maxRecDepth 100000 in
set_option maxHeartbeats 16000000 in
theorem pos_any : ∀ (t : Tr) (cs : List Value) (S : Nat → Prop) (w : World), Sm t → (∀ x, S x → x < w.heap.size) → TreeSp w S t cs → Calls Tryd.prog 34 #[.agg cs.toArray] w (InPost S (posT t) w) := by
  refine Tr.ind fun h ks ih => ?_
  intro cs S w hsm hS hT
  have hTA := TreeSp.at_ _ _ _ hT
  obtain ⟨A1, n1, c1, A2, c2, rfl⟩ := hT.form
  have hlen := hT.name_len.2
  obtain ⟨va, vk, xs0, e0, hab, -⟩ := hTA.cells
  have hab' : AbsAt w S (.slice A1 n1 c1) h.abs := by
    simp only [hdC, List.cons.injEq, and_true, true_and] at e0
    rw [e0.2.2.1]; exact hab
  clear e0 hab hTA
  obtain ⟨K, hK⟩ : ∃ K, K = ks.length := ⟨_, rfl⟩
  rw [← hK] at hT hlen ⊢
  have hsm2 : h.abs.length ≤ 1000000 ∧ ∀ kd ∈ ks, Sm kd := by
    unfold Sm at hsm
    refine ⟨by omega, fun kd hk => ?_⟩
    obtain ⟨i, hi⟩ := List.getElem?_of_mem hk
    exact hsm.2.2.at_ hi
  obtain ⟨W, hW⟩ : ∃ W, (w.alloc (.cells #[.int .i64 h.k, .bool h.neg, .slice A1 n1 c1, .string h.name, .int .i64 h.exp, .int .i64 h.rel, .bool h.truth, .bool h.all, .slice A2 K c2] TT)).alloc (.cells #[.int .i64 0, .bool false, .slice none 0 0, .string ⟨#[]⟩, .int .i64 0, .int .i64 0, .bool false, .bool false, .slice none 0 0] TT) = W := ⟨_, rfl⟩
  have hx : Box w W w.heap.size #[.int .i64 h.k, .bool h.neg, .slice A1 n1 c1, .string h.name, .int .i64 h.exp, .int .i64 h.rel, .bool h.truth, .bool h.all, .slice A2 K c2] TT := by rw [← hW]; exact (Box.new w _ _).alloc _
  have hr : Box w W (w.heap.size + 1) #[.int .i64 0, .bool false, .slice none 0 0, .string ⟨#[]⟩, .int .i64 0, .int .i64 0, .bool false, .bool false, .slice none 0 0] TT := by rw [← hW]; exact Box.second w _ _ _
  have hsz : W.heap.size = w.heap.size + 2 := by rw [← hW]; simp
  have hin := InRel.start hS hT hx.below
  obtain ⟨d0, d1, d2, d3, d4, d5, d6, d7, d8⟩ := hx.c9
  have dfz := hx.fz
  have HS := Lib.hid hS
  have HK := Lib.hid hK
  have IH := Lib.hid ih
  have HSM := Lib.hid hsm2.2
  have HSG := Lib.hid (Dc.sign_any h.neg h.abs _ S W (fun x hx' => by have := hS x hx'; omega) (hab'.below hS hx.below))
  have HSA := Lib.hid (fun w' (hb : Below W.heap.size W w') => abs_any h.neg h.abs _ S w' (fun x hx' => by have := hS x hx'; have := hb.size; omega) (hab'.below hS (hx.below.trans (hb.mono hx.below.size))) hsm2.1)
  have HHX := Lib.hid hx
  have HHR := Lib.hid hr
  have HIN := Lib.hid hin
  have hov : (Value.slice A1 n1 c1).oneCell' = true := rfl
  unfold hdC
  have hsg : normB h.neg h.abs = decide (sgnI h.neg h.abs < 0) := by
    rw [normB_val]; unfold sgnI
    by_cases h0 : valN h.abs = 0
    · simp [h0]
    · cases h.neg <;> simp [h0]
  by_cases hq : h.k = 1 ∧ normB h.neg h.abs = true
  · rw [posT_num hq.1 hq.2]
    obtain ⟨s, hs⟩ : ∃ s, s = sgnI h.neg h.abs := ⟨_, rfl⟩
    rw [hq.2, ← hs] at hsg
    rw [← hs] at HSG
    have hsn : s < 0 := by simpa using hsg.symm
    have f1 : (h.k == 1) = true := by simpa using hq.1
    clear hx hr hsz hin ih hK hS hT hq hsg hs hsm hsm2 hab'
    go_enter Tryd.func34, Tryd.ntmps34
    go_wp2_with fail
    refine HSG.out.mono ?_
    rintro e w2 ⟨rfl, hb2⟩
    have HB2 := Lib.hid hb2
    have hx2 := HHX.out.step hb2
    have hr2 := HHR.out.step hb2
    obtain ⟨p0, p1, p2, p3, p4, p5, p6, p7, p8⟩ := hx2.c9
    have HX2 := Lib.hid hx2
    have HR2 := Lib.hid hr2
    clear hb2 hx2 hr2
    go_wp2_with fail
    refine (HSA.out _ HB2.out).mono ?_
    intro e w3 hq3
    obtain ⟨A3, n3, c3, rfl, hA3, hb3⟩ := hq3.named false (normB_false h.abs).symm
    have HA3 := Lib.hid hA3
    have hs2 := HB2.out.size
    have hs3 := hb3.size
    have HB3 := Lib.hid (HB2.out.trans (hb3.mono HB2.out.size))
    have xc := fun o o' => (((HHR.out.step HB3.out).alloc o).alloc o').cell
    have xf := fun o o' => (((HHR.out.step HB3.out).alloc o).alloc o').fz
    have hWs : W.heap.size = w.heap.size + 2 := by rw [← hW]; simp
    have HWS := Lib.hid hWs
    clear hq3 hA3 hb3 hWs
    go_wp2
    clear hW
    refine bodyPost_ret (v := .agg #[.int .i64 6, .bool false, .slice none 0 0, .string ⟨#[]⟩, .int .i64 0, .int .i64 0, .bool false, .bool false, .slice (some ⟨w3.heap.size + 1, 0, none⟩) 1 1]) (by simp [results, Tryd.results34, go_sem, xc, xf]) rfl ?_
    have hWs := HWS.out
    have hA4 : ∀ o, AbsAt (w3.alloc o) (Fr w2 w3) (.slice A3 n3 c3) (trimN h.abs) := fun o => HA3.out.below (B := w3.heap.size) (fun x hx => hx.2) ((Below.refl _ w3).alloc (Nat.le_refl _) o)
    refine ⟨none, 0, 0, some ⟨w3.heap.size + 1, 0, none⟩, 1, 1, rfl, ⟨fun x => Fr w2 w3 x ∨ x = w3.heap.size + 1, ?_, ?_⟩, ?_⟩
    · have h2 := one_sp (w2 := w3.alloc (.cells #[.int .i64 1, .bool false, .slice A3 n3 c3, .string ⟨#[]⟩, .int .i64 0, .int .i64 0, .bool false, .bool false, .slice none 0 0] TT)) (hd := hd0 6) rfl (by decide) (no_sp (hd := { hd0 1 with abs := trimN h.abs }) (hA4 _) (show (⟨#[]⟩ : ByteArray).size ≤ _ from by decide)) (fun x hx => by rw [World.alloc_size']; have := hx.2; omega) _ rfl
      rw [World.alloc_size'] at h2
      exact h2.set9 (X := w.heap.size + 1) (fun hb => by rcases hb with ⟨h5, h6⟩ | h5 <;> omega) _ _ _ _ _ _ _ _ _
    · intro x hx
      show (S x ∨ w.heap.size ≤ x) ∧ x < (set9 _ _ _ _ _ _ _ _ _ _ _).heap.size
      rw [size_set9]; simp only [World.alloc_size']
      rcases hx with ⟨h5, h6⟩ | h5
      · exact ⟨.inr (by omega), by omega⟩
      · exact ⟨.inr (by omega), by omega⟩
    · refine Only.of_below ?_
      exact below_set9 (((HHX.out.step HB3.out).below.alloc (by omega) _).alloc (by rw [World.alloc_size']; omega) _) (by omega) _ _ _ _ _ _ _ _ _
  · have e : posT (.mk h ks) = .mk h (ks.map posT) := by rw [posT_mk hq, posL_map]
    rw [e]
    have hin0 : InRel S w W (.mk h (([] : List Tr).map posT ++ ks)) (hdC h (.slice A1 n1 c1) (.slice A2 K c2)) := hin
    have HIN0 := Lib.hid hin0
    have hs0 : w.heap.size + 2 ≤ W.heap.size := by omega
    obtain ⟨s, hs⟩ : ∃ s, s = sgnI h.neg h.abs := ⟨_, rfl⟩
    rw [← hs] at HSG
    have hcase : (h.k == 1) = false ∨ ((h.k == 1) = true ∧ 0 ≤ s) := by
      by_cases e1 : h.k = 1
      · refine .inr ⟨by simpa using e1, ?_⟩
        rcases Int.lt_or_le s 0 with h3 | h3
        · exact absurd ⟨e1, by rw [hsg, ← hs]; simpa using h3⟩ hq
        · exact h3
      · exact .inl (by simpa using e1)
    clear hx hr hsz hin hin0 ih hK hS hT e hq hsg hs hsm hsm2 hab'
    rcases hcase with f1 | ⟨f1, hs0'⟩
    · go_enter Tryd.func34, Tryd.ntmps34
      go_wp2_with fail
      clear hW
      have HIN1 := HIN0
      have HX1 := Lib.hid HHX.out.cells
      have HR1 := Lib.hid HHR.out.cells
      have hs1 := hs0
      go_loopw [25] (fun a_ wr => ∃ (i : Nat), i ≤ K ∧ a_ = .int .i64 i ∧ Hid (InRel S w wr (.mk h ((ks.take i).map posT ++ ks.drop i)) (hdC h (.slice A1 n1 c1) (.slice A2 K c2))) ∧ Hid (wr.heap[w.heap.size]? = some (.cells #[.int .i64 h.k, .bool h.neg, .slice A1 n1 c1, .string h.name, .int .i64 h.exp, .int .i64 h.rel, .bool h.truth, .bool h.all, .slice A2 K c2] TT (0, 0))) ∧ Hid (wr.heap[w.heap.size + 1]? = some (.cells #[.int .i64 0, .bool false, .slice none 0 0, .string ⟨#[]⟩, .int .i64 0, .int .i64 0, .bool false, .bool false, .slice none 0 0] TT (0, 0))) ∧ w.heap.size + 2 ≤ wr.heap.size) (fun a_ _ => K - (intOf a_).toNat)
      case atStart => exact ⟨0, Nat.zero_le _, rfl, HIN1, HX1, HR1, hs1⟩
      case round =>
        obtain ⟨i, hi, rfl, hrel, hbx, hbr, hsz⟩ := hrel
        have b8w : wr.cell? ⟨w.heap.size, 8, none⟩ = some (.slice A2 K c2) := by rw [World.cell?_of_block' hbx.out]; rfl
        by_cases hlt : i < K
        · obtain ⟨kd, b, B1, m1, e1, B2, m2, e2, Si, hkd0, rfl, hbl, hbn, hbn1, hSib, hT, hSi, hfz, ⟨k0, k1, k2, k3, k4, k5, k6, k7, k8⟩, hput⟩ := InRel.round HS.out hsz hrel.out hlt (by rw [List.length_append, List.length_map, List.length_take, List.length_drop]; have := HK.out; omega)
          have hkd := take_at posT hkd0 (by have := HK.out; omega)
          obtain ⟨Tk, hTk⟩ : ∃ Tk, Tk = posT kd := ⟨_, rfl⟩
          have hC : ∀ w', Below wr.heap.size wr w' → _ := fun w' hb' => IH.out kd (mem_at hkd) _ Si w' (HSM.out kd (mem_at hkd)) (fun x hx => Nat.lt_of_lt_of_le (hSi x hx).1 hb'.size) (hT.below (fun x hx => (hSi x hx).1) hb')
          rw [← hTk] at hC
          have HDN := Lib.hid (show ((ks.take i).map posT ++ ks.drop i).set i Tk = (ks.take (i + 1)).map posT ++ ks.drop (i + 1) by rw [hTk]; exact take_set posT hkd)
          have HC := Lib.hid hC
          have HPUT := Lib.hid hput
          have HBL := Lib.hid hbl
          have HFZ := Lib.hid hfz
          have HSIB := Lib.hid hSib
          have HBN := Lib.hid hbn
          have HBN1 := Lib.hid hbn1
          have HSIX := Lib.hid (show ¬ Si w.heap.size from fun h => (hSi _ h).2.1 rfl)
          have HSIR := Lib.hid (show ¬ Si (w.heap.size + 1) from fun h => (hSi _ h).2.2 rfl)
          have HD1 : Below wr.heap.size wr (wr.alloc (.cells #[.int .i64 kd.h.k, .bool kd.h.neg, .slice B1 m1 e1, .string kd.h.name, .int .i64 kd.h.exp, .int .i64 kd.h.rel, .bool kd.h.truth, .bool kd.h.all, .slice B2 m2 e2] TT)).drew := ((Below.refl _ wr).alloc (Nat.le_refl _) _).drew
          have HD2 : Below wr.heap.size wr (wr.alloc (.cells #[.int .i64 kd.h.k, .bool kd.h.neg, .slice B1 m1 e1, .string kd.h.name, .int .i64 kd.h.exp, .int .i64 kd.h.rel, .bool kd.h.truth, .bool kd.h.all, .slice B2 m2 e2] TT)) := ((Below.refl _ wr).alloc (Nat.le_refl _) _)
          have b8a : ∀ ob, (wr.alloc ob).cell? ⟨w.heap.size, 8, none⟩ = some (.slice (some ⟨b, 0, none⟩) K c2) := fun ob => (World.cell?_alloc_lt wr ob ⟨w.heap.size, 8, none⟩ (show w.heap.size < wr.heap.size by omega)).trans b8w
          clear hC hput hkd hkd0 hT hSi hSib hTk hfz hbn hbn1 hbl
          go_wp2_with fail
          go_region_law (first | (go_simp; (go_at_call 34; refine (HC.out _ (by first | exact HD1 | exact HD2)).mono ?_; rintro e w2 ⟨a1, a2, a3, a4, a5, a6, rfl, htL, hoL⟩; have HTL := Lib.hid htL; have HOL := Lib.hid hoL; clear htL hoL; have hk2 := Lib.hid (show ∀ x, x < wr.heap.size → ¬ Si x → w2.heap[x]? = wr.heap[x]? from fun x hx hn => kept_only (by first | exact HD1 | exact HD2) HOL.out hx hn); have b8' : w2.cell? ⟨w.heap.size, 8, none⟩ = some (.slice (some ⟨b, 0, none⟩) K c2) := (World.cell?_of_block (hk2.out w.heap.size (by omega) HSIX.out)).trans b8w; have r0 : w2.cell? ⟨b, i * 9, none⟩ = some (.int .i64 kd.h.k) := (World.cell?_of_block (hk2.out b HBL.out HSIB.out)).trans k0; have r1 : w2.cell? ⟨b, i * 9 + 1, none⟩ = some (.bool kd.h.neg) := (World.cell?_of_block (hk2.out b HBL.out HSIB.out)).trans k1; have r2 : w2.cell? ⟨b, i * 9 + 2, none⟩ = some (.slice B1 m1 e1) := (World.cell?_of_block (hk2.out b HBL.out HSIB.out)).trans k2; have r3 : w2.cell? ⟨b, i * 9 + 3, none⟩ = some (.string kd.h.name) := (World.cell?_of_block (hk2.out b HBL.out HSIB.out)).trans k3; have r4 : w2.cell? ⟨b, i * 9 + 4, none⟩ = some (.int .i64 kd.h.exp) := (World.cell?_of_block (hk2.out b HBL.out HSIB.out)).trans k4; have r5 : w2.cell? ⟨b, i * 9 + 5, none⟩ = some (.int .i64 kd.h.rel) := (World.cell?_of_block (hk2.out b HBL.out HSIB.out)).trans k5; have r6 : w2.cell? ⟨b, i * 9 + 6, none⟩ = some (.bool kd.h.truth) := (World.cell?_of_block (hk2.out b HBL.out HSIB.out)).trans k6; have r7 : w2.cell? ⟨b, i * 9 + 7, none⟩ = some (.bool kd.h.all) := (World.cell?_of_block (hk2.out b HBL.out HSIB.out)).trans k7; have r8 : w2.cell? ⟨b, i * 9 + 8, none⟩ = some (.slice B2 m2 e2) := (World.cell?_of_block (hk2.out b HBL.out HSIB.out)).trans k8; have rf : ∀ j, w2.frozen? ⟨b, j, none⟩ = false := fun j => (World.frozen?_of_block (hk2.out b HBL.out HSIB.out)).trans (HFZ.out j))))
          go_wp2
          all_goals
            go_roundw
            case rel =>
              have hp := HPUT.out _ w2 Tk _ _ _ _ _ _ _ _ _ (by first | exact HD1 | exact HD2) HOL.out HTL.out
              rw [HDN.out] at hp
              refine ⟨i + 1, by omega, by go_num, Lib.hid hp, Lib.hid ((row9_block (fun e => HBN.out e.symm)).trans ((hk2.out _ (by omega) HSIX.out).trans hbx.out)), Lib.hid ((row9_block (fun e => HBN1.out e.symm)).trans ((hk2.out _ (by omega) HSIR.out).trans hbr.out)), by have := HOL.out.size; simp at this ⊢; omega⟩
            case measure => simp [intOf]; omega
        · have hiK : i = K := by omega
          subst hiK
          have xc : ∀ j, wr.cell? ⟨w.heap.size + 1, j, none⟩ = #[.int .i64 0, .bool false, .slice none 0 0, .string ⟨#[]⟩, .int .i64 0, .int .i64 0, .bool false, .bool false, .slice none 0 0][j]? := fun j => World.cell?_of_block' hbr.out
          have xf : ∀ j, wr.frozen? ⟨w.heap.size + 1, j, none⟩ = false := fun j => World.frozen?_of_block' hbr.out
          obtain ⟨g0, g1, g2, g3, g4, g5, g6, g7, g8⟩ := cells9 hbx.out
          have HREL := hrel
          clear hrel
          go_wp2_with fail
          refine bodyPost_ret (v := .agg #[.int .i64 h.k, .bool h.neg, .slice A1 n1 c1, .string h.name, .int .i64 h.exp, .int .i64 h.rel, .bool h.truth, .bool h.all, .slice A2 i c2]) (by simp [results, Tryd.results34, go_sem, xc, xf]) rfl ?_
          have h5 := HREL.out
          rw [List.take_of_length_le (by have := HK.out; omega), List.drop_eq_nil_of_le (by have := HK.out; omega), List.append_nil] at h5
          exact InRel.done (h5.kept9 HS.out ⟨by omega, by omega⟩ _ _ _ _ _ _ _ _ _)

    · go_enter Tryd.func34, Tryd.ntmps34
      go_wp2_with fail
      refine HSG.out.mono ?_
      rintro e w2 ⟨rfl, hb2⟩
      have HIN1 := Lib.hid (InRel.step HIN0.out hb2)
      have HX1 := Lib.hid (Box.stepC HHX.out hb2)
      have HR1 := Lib.hid (Box.stepC HHR.out hb2)
      have hs1 : w.heap.size + 2 ≤ w2.heap.size := Nat.le_trans hs0 hb2.size
      have p8 : w2.cell? ⟨w.heap.size, 8, none⟩ = some (.slice A2 K c2) := (HHX.out.step hb2).cell 8
      clear hb2
      go_wp2_with fail
      clear hW
      go_loopw [25] (fun a_ wr => ∃ (i : Nat), i ≤ K ∧ a_ = .int .i64 i ∧ Hid (InRel S w wr (.mk h ((ks.take i).map posT ++ ks.drop i)) (hdC h (.slice A1 n1 c1) (.slice A2 K c2))) ∧ Hid (wr.heap[w.heap.size]? = some (.cells #[.int .i64 h.k, .bool h.neg, .slice A1 n1 c1, .string h.name, .int .i64 h.exp, .int .i64 h.rel, .bool h.truth, .bool h.all, .slice A2 K c2] TT (0, 0))) ∧ Hid (wr.heap[w.heap.size + 1]? = some (.cells #[.int .i64 0, .bool false, .slice none 0 0, .string ⟨#[]⟩, .int .i64 0, .int .i64 0, .bool false, .bool false, .slice none 0 0] TT (0, 0))) ∧ w.heap.size + 2 ≤ wr.heap.size) (fun a_ _ => K - (intOf a_).toNat)
      case atStart => exact ⟨0, Nat.zero_le _, rfl, HIN1, HX1, HR1, hs1⟩
      case round =>
        obtain ⟨i, hi, rfl, hrel, hbx, hbr, hsz⟩ := hrel
        have b8w : wr.cell? ⟨w.heap.size, 8, none⟩ = some (.slice A2 K c2) := by rw [World.cell?_of_block' hbx.out]; rfl
        by_cases hlt : i < K
        · obtain ⟨kd, b, B1, m1, e1, B2, m2, e2, Si, hkd0, rfl, hbl, hbn, hbn1, hSib, hT, hSi, hfz, ⟨k0, k1, k2, k3, k4, k5, k6, k7, k8⟩, hput⟩ := InRel.round HS.out hsz hrel.out hlt (by rw [List.length_append, List.length_map, List.length_take, List.length_drop]; have := HK.out; omega)
          have hkd := take_at posT hkd0 (by have := HK.out; omega)
          obtain ⟨Tk, hTk⟩ : ∃ Tk, Tk = posT kd := ⟨_, rfl⟩
          have hC : ∀ w', Below wr.heap.size wr w' → _ := fun w' hb' => IH.out kd (mem_at hkd) _ Si w' (HSM.out kd (mem_at hkd)) (fun x hx => Nat.lt_of_lt_of_le (hSi x hx).1 hb'.size) (hT.below (fun x hx => (hSi x hx).1) hb')
          rw [← hTk] at hC
          have HDN := Lib.hid (show ((ks.take i).map posT ++ ks.drop i).set i Tk = (ks.take (i + 1)).map posT ++ ks.drop (i + 1) by rw [hTk]; exact take_set posT hkd)
          have HC := Lib.hid hC
          have HPUT := Lib.hid hput
          have HBL := Lib.hid hbl
          have HFZ := Lib.hid hfz
          have HSIB := Lib.hid hSib
          have HBN := Lib.hid hbn
          have HBN1 := Lib.hid hbn1
          have HSIX := Lib.hid (show ¬ Si w.heap.size from fun h => (hSi _ h).2.1 rfl)
          have HSIR := Lib.hid (show ¬ Si (w.heap.size + 1) from fun h => (hSi _ h).2.2 rfl)
          have HD1 : Below wr.heap.size wr (wr.alloc (.cells #[.int .i64 kd.h.k, .bool kd.h.neg, .slice B1 m1 e1, .string kd.h.name, .int .i64 kd.h.exp, .int .i64 kd.h.rel, .bool kd.h.truth, .bool kd.h.all, .slice B2 m2 e2] TT)).drew := ((Below.refl _ wr).alloc (Nat.le_refl _) _).drew
          have HD2 : Below wr.heap.size wr (wr.alloc (.cells #[.int .i64 kd.h.k, .bool kd.h.neg, .slice B1 m1 e1, .string kd.h.name, .int .i64 kd.h.exp, .int .i64 kd.h.rel, .bool kd.h.truth, .bool kd.h.all, .slice B2 m2 e2] TT)) := ((Below.refl _ wr).alloc (Nat.le_refl _) _)
          have b8a : ∀ ob, (wr.alloc ob).cell? ⟨w.heap.size, 8, none⟩ = some (.slice (some ⟨b, 0, none⟩) K c2) := fun ob => (World.cell?_alloc_lt wr ob ⟨w.heap.size, 8, none⟩ (show w.heap.size < wr.heap.size by omega)).trans b8w
          clear hC hput hkd hkd0 hT hSi hSib hTk hfz hbn hbn1 hbl
          go_wp2_with fail
          go_region_law (first | (go_simp; (go_at_call 34; refine (HC.out _ (by first | exact HD1 | exact HD2)).mono ?_; rintro e w2 ⟨a1, a2, a3, a4, a5, a6, rfl, htL, hoL⟩; have HTL := Lib.hid htL; have HOL := Lib.hid hoL; clear htL hoL; have hk2 := Lib.hid (show ∀ x, x < wr.heap.size → ¬ Si x → w2.heap[x]? = wr.heap[x]? from fun x hx hn => kept_only (by first | exact HD1 | exact HD2) HOL.out hx hn); have b8' : w2.cell? ⟨w.heap.size, 8, none⟩ = some (.slice (some ⟨b, 0, none⟩) K c2) := (World.cell?_of_block (hk2.out w.heap.size (by omega) HSIX.out)).trans b8w; have r0 : w2.cell? ⟨b, i * 9, none⟩ = some (.int .i64 kd.h.k) := (World.cell?_of_block (hk2.out b HBL.out HSIB.out)).trans k0; have r1 : w2.cell? ⟨b, i * 9 + 1, none⟩ = some (.bool kd.h.neg) := (World.cell?_of_block (hk2.out b HBL.out HSIB.out)).trans k1; have r2 : w2.cell? ⟨b, i * 9 + 2, none⟩ = some (.slice B1 m1 e1) := (World.cell?_of_block (hk2.out b HBL.out HSIB.out)).trans k2; have r3 : w2.cell? ⟨b, i * 9 + 3, none⟩ = some (.string kd.h.name) := (World.cell?_of_block (hk2.out b HBL.out HSIB.out)).trans k3; have r4 : w2.cell? ⟨b, i * 9 + 4, none⟩ = some (.int .i64 kd.h.exp) := (World.cell?_of_block (hk2.out b HBL.out HSIB.out)).trans k4; have r5 : w2.cell? ⟨b, i * 9 + 5, none⟩ = some (.int .i64 kd.h.rel) := (World.cell?_of_block (hk2.out b HBL.out HSIB.out)).trans k5; have r6 : w2.cell? ⟨b, i * 9 + 6, none⟩ = some (.bool kd.h.truth) := (World.cell?_of_block (hk2.out b HBL.out HSIB.out)).trans k6; have r7 : w2.cell? ⟨b, i * 9 + 7, none⟩ = some (.bool kd.h.all) := (World.cell?_of_block (hk2.out b HBL.out HSIB.out)).trans k7; have r8 : w2.cell? ⟨b, i * 9 + 8, none⟩ = some (.slice B2 m2 e2) := (World.cell?_of_block (hk2.out b HBL.out HSIB.out)).trans k8; have rf : ∀ j, w2.frozen? ⟨b, j, none⟩ = false := fun j => (World.frozen?_of_block (hk2.out b HBL.out HSIB.out)).trans (HFZ.out j))))
          go_wp2
          all_goals
            go_roundw
            case rel =>
              have hp := HPUT.out _ w2 Tk _ _ _ _ _ _ _ _ _ (by first | exact HD1 | exact HD2) HOL.out HTL.out
              rw [HDN.out] at hp
              refine ⟨i + 1, by omega, by go_num, Lib.hid hp, Lib.hid ((row9_block (fun e => HBN.out e.symm)).trans ((hk2.out _ (by omega) HSIX.out).trans hbx.out)), Lib.hid ((row9_block (fun e => HBN1.out e.symm)).trans ((hk2.out _ (by omega) HSIR.out).trans hbr.out)), by have := HOL.out.size; simp at this ⊢; omega⟩
            case measure => simp [intOf]; omega
        · have hiK : i = K := by omega
          subst hiK
          have xc : ∀ j, wr.cell? ⟨w.heap.size + 1, j, none⟩ = #[.int .i64 0, .bool false, .slice none 0 0, .string ⟨#[]⟩, .int .i64 0, .int .i64 0, .bool false, .bool false, .slice none 0 0][j]? := fun j => World.cell?_of_block' hbr.out
          have xf : ∀ j, wr.frozen? ⟨w.heap.size + 1, j, none⟩ = false := fun j => World.frozen?_of_block' hbr.out
          obtain ⟨g0, g1, g2, g3, g4, g5, g6, g7, g8⟩ := cells9 hbx.out
          have HREL := hrel
          clear hrel
          go_wp2_with fail
          refine bodyPost_ret (v := .agg #[.int .i64 h.k, .bool h.neg, .slice A1 n1 c1, .string h.name, .int .i64 h.exp, .int .i64 h.rel, .bool h.truth, .bool h.all, .slice A2 i c2]) (by simp [results, Tryd.results34, go_sem, xc, xf]) rfl ?_
          have h5 := HREL.out
          rw [List.take_of_length_le (by have := HK.out; omega), List.drop_eq_nil_of_le (by have := HK.out; omega), List.append_nil] at h5
          exact InRel.done (h5.kept9 HS.out ⟨by omega, by omega⟩ _ _ _ _ _ _ _ _ _)

end Pr
end Go.Proofs.YtkjbfomokdjbnaaDoor
