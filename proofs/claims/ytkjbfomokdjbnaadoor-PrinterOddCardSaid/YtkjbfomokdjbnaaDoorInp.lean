/-
  A tree changed in place: what a call leaves, and one kid after the other (the texts of RnI without formula.renamed).
-/
import Derived.Test.YtkjbfomokdjbnaaDoorSpT
namespace Go.Proofs.YtkjbfomokdjbnaaDoor
open Go.RowKit
set_option linter.unusedSimpArgs false
set_option linter.unusedVariables false
namespace Fm

/-- a call that gives a tree back which it may have changed in place -/
def InPost (S : Nat → Prop) (T : Tr) (w : World) (e : Ending) (w' : World) : Prop :=
  ∃ A1 n1 c1 A2 n2 c2, e = .returned (.agg #[.int .i64 T.h.k, .bool T.h.neg, .slice A1 n1 c1, .string T.h.name, .int .i64 T.h.exp, .int .i64 T.h.rel, .bool T.h.truth, .bool T.h.all, .slice A2 n2 c2]) ∧
    (∃ Sn, TreeSp w' Sn T (hdC T.h (.slice A1 n1 c1) (.slice A2 n2 c2)) ∧ ∀ x, Sn x → (S x ∨ w.heap.size ≤ x) ∧ x < w'.heap.size) ∧ Only S w w'
/-- a tree whose kids are changed, one after the other -/
def InRel (S : Nat → Prop) (w wr : World) (T : Tr) (cs : List Value) : Prop :=
  (∃ Sn, TreeSp wr Sn T cs ∧ ∀ x, Sn x → (S x ∨ w.heap.size + 2 ≤ x) ∧ x < wr.heap.size) ∧ Only S w wr

theorem InRel.start {S : Nat → Prop} {w wr : World} {T : Tr} {cs : List Value} (hS : ∀ x, S x → x < w.heap.size) (h : TreeSp w S T cs) (hb : Below w.heap.size w wr) : InRel S w wr T cs :=
  ⟨⟨S, h.below hS hb, fun x hx => ⟨.inl hx, Nat.lt_of_lt_of_le (hS x hx) hb.size⟩⟩, Only.of_below hb⟩
/-- the boxes of the call lie apart from the tree -/
theorem InRel.kept {S : Nat → Prop} {w wr : World} {T : Tr} {cs : List Value} (hS : ∀ x, S x → x < w.heap.size) (h : InRel S w wr T cs) {X j : Nat} (hX : w.heap.size ≤ X ∧ X < w.heap.size + 2) (u : Value) : InRel S w (wr.setCell ⟨X, j, none⟩ u) T cs := by
  obtain ⟨⟨Sn, h1, h2⟩, h3⟩ := h
  refine ⟨⟨Sn, TreeSp.keep T Sn cs (fun b hb => Below.heap_setCell wr ⟨X, j, none⟩ u b (fun e => ?_)) h1, fun x hx => by have := h2 x hx; simpa using this⟩, h3.setCell (.inr hX.1) u⟩
  subst e
  rcases (h2 _ hb).1 with h | h
  · have := hS _ h; omega
  · omega
/-- the whole tree, opened: its row and its kids -/
theorem TreeSp.opened {w : World} {S : Nat → Prop} {H : Hd} {ts : List Tr} {va : Value} {A2 : Option Addr} {K c : Nat} (h : TreeSp w S (.mk H ts) (hdC H va (.slice A2 K c))) (hK : 0 < ts.length) :
    ∃ (b : Nat) (xs : List Value) (Sk : Nat → Prop), H.abs = [] ∧ va = .slice none 0 0 ∧ A2 = some ⟨b, 0, none⟩ ∧ K = ts.length ∧ c = ts.length ∧ S b ∧ w.heap[b]? = some (.cells xs.toArray TT (0, 0)) ∧ (∀ x, Sk x → S x ∧ x ≠ b) ∧ TrsSp w Sk ts xs := by
  unfold TreeSp at h
  obtain ⟨hn, hl, ⟨e, _⟩ | ⟨h0, ha, b, xs, Sk, e, hb, hx, hs, ht⟩⟩ := h
  · subst e; simp at hK
  · simp only [hdC, List.cons.injEq, and_true, true_and, Value.slice.injEq] at e
    obtain ⟨e1, e2, e3, e4⟩ := e
    exact ⟨b, xs, Sk, ha, e1, e2, e3, e4, hb, hx, hs, ht⟩
theorem TreeSp.name_len {w : World} {S : Nat → Prop} {H : Hd} {ts : List Tr} {cs : List Value} (h : TreeSp w S (.mk H ts) cs) : H.name.size ≤ 9223372036854775807 ∧ ts.length ≤ 9223372036854775807 := by
  unfold TreeSp at h; exact ⟨h.1, h.2.1⟩
theorem TreeSp.form {w : World} {S : Nat → Prop} {H : Hd} {ts : List Tr} {cs : List Value} (h : TreeSp w S (.mk H ts) cs) : ∃ A1 n1 c1 A2 c2, cs = hdC H (.slice A1 n1 c1) (.slice A2 ts.length c2) := by
  unfold TreeSp at h
  obtain ⟨hn, hl, ⟨rfl, va, rfl, ha⟩ | ⟨h0, ha, b, xs, Sk, rfl, hb, hx, hs, ht⟩⟩ := h
  · obtain ⟨A, c, rfl⟩ := ha.1.form
    exact ⟨A, _, c, none, 0, rfl⟩
  · exact ⟨none, 0, 0, _, _, rfl⟩
/-- another name in the same place -/
theorem TreeSp.rename {w : World} {S : Nat → Prop} {H H' : Hd} {ts : List Tr} {va vk : Value} (h : TreeSp w S (.mk H ts) (hdC H va vk)) (ha : H'.abs = H.abs) (hn : H'.name.size ≤ 9223372036854775807) : TreeSp w S (.mk H' ts) (hdC H' va vk) := by
  unfold TreeSp at h ⊢
  obtain ⟨_, hl, ⟨e, va', e2, hA⟩ | ⟨h0, hh, b, xs, Sk, e, hb, hx, hs, ht⟩⟩ := h
  · simp only [hdC, List.cons.injEq, and_true, true_and] at e2
    obtain ⟨rfl, rfl⟩ := e2
    exact ⟨hn, hl, .inl ⟨e, va, rfl, by rw [ha]; exact hA⟩⟩
  · simp only [hdC, List.cons.injEq, and_true, true_and] at e
    obtain ⟨rfl, rfl⟩ := e
    exact ⟨hn, hl, .inr ⟨h0, by rw [ha]; exact hh, b, xs, Sk, rfl, hb, hx, hs, ht⟩⟩
/-- one round: kid i by itself, and the tree when it has been put back -/
theorem InRel.round {S : Nat → Prop} {w wr : World} {H : Hd} {ts : List Tr} {va : Value} {A2 : Option Addr} {K c i : Nat} (hS : ∀ x, S x → x < w.heap.size) (hw2 : w.heap.size + 2 ≤ wr.heap.size) (h : InRel S w wr (.mk H ts) (hdC H va (.slice A2 K c))) (hi : i < K) (hKl : K = ts.length) :
    ∃ (kd : Tr) (b : Nat) (B1 : Option Addr) (m1 e1 : Nat) (B2 : Option Addr) (m2 e2 : Nat) (Si : Nat → Prop), ts[i]? = some kd ∧ A2 = some ⟨b, 0, none⟩ ∧ b < wr.heap.size ∧ b ≠ w.heap.size ∧ b ≠ w.heap.size + 1 ∧ ¬ Si b ∧
      TreeSp wr Si kd (hdC kd.h (.slice B1 m1 e1) (.slice B2 m2 e2)) ∧ (∀ x, Si x → x < wr.heap.size ∧ x ≠ w.heap.size ∧ x ≠ w.heap.size + 1) ∧
      (∀ j, wr.frozen? ⟨b, j, none⟩ = false) ∧
      (wr.cell? ⟨b, i * 9, none⟩ = some (.int .i64 kd.h.k) ∧ wr.cell? ⟨b, i * 9 + 1, none⟩ = some (.bool kd.h.neg) ∧ wr.cell? ⟨b, i * 9 + 2, none⟩ = some (.slice B1 m1 e1) ∧
      wr.cell? ⟨b, i * 9 + 3, none⟩ = some (.string kd.h.name) ∧ wr.cell? ⟨b, i * 9 + 4, none⟩ = some (.int .i64 kd.h.exp) ∧ wr.cell? ⟨b, i * 9 + 5, none⟩ = some (.int .i64 kd.h.rel) ∧
      wr.cell? ⟨b, i * 9 + 6, none⟩ = some (.bool kd.h.truth) ∧ wr.cell? ⟨b, i * 9 + 7, none⟩ = some (.bool kd.h.all) ∧ wr.cell? ⟨b, i * 9 + 8, none⟩ = some (.slice B2 m2 e2)) ∧
      ∀ (w1 w2 : World) (T' : Tr) (u0 u1 u2 u3 u4 u5 u6 u7 u8 : Value), Below wr.heap.size wr w1 → Only Si w1 w2 → (∃ Sn, TreeSp w2 Sn T' [u0, u1, u2, u3, u4, u5, u6, u7, u8] ∧ ∀ x, Sn x → (Si x ∨ w1.heap.size ≤ x) ∧ x < w2.heap.size) →
        InRel S w (((((((((w2.setCell ⟨b, i * 9, none⟩ u0).setCell ⟨b, i * 9 + 1, none⟩ u1).setCell ⟨b, i * 9 + 2, none⟩ u2).setCell ⟨b, i * 9 + 3, none⟩ u3).setCell ⟨b, i * 9 + 4, none⟩ u4).setCell ⟨b, i * 9 + 5, none⟩ u5).setCell ⟨b, i * 9 + 6, none⟩ u6).setCell ⟨b, i * 9 + 7, none⟩ u7).setCell ⟨b, i * 9 + 8, none⟩ u8) (.mk H (ts.set i T')) (hdC H va (.slice A2 K c)) := by
  obtain ⟨⟨Sn, h1, h2⟩, h3⟩ := h
  have hnl := h1.name_len
  obtain ⟨b, xs, Sk, ha, rfl, rfl, rfl, rfl, hb, hx, hs, ht⟩ := h1.opened (by omega)
  have hti : ts[i]? = some ts[i] := List.getElem?_eq_getElem hi
  obtain ⟨ci, Si, So, g1, g2, g3, g4, g5⟩ := TrsSp.focus ts Sk xs i ts[i] ht hti
  have hlen := TrsSp.len ts Sk xs ht
  obtain ⟨B1, m1, e1, B2, e2, rfl⟩ : ∃ A1 n1 c1 A2 c2, ci = hdC ts[i].h (.slice A1 n1 c1) (.slice A2 ts[i].kids.length c2) := by
    cases hk : ts[i] with
    | mk hh kk => rw [hk] at g1; exact g1.form
  have gc : ∀ j u, j < 9 → (hdC ts[i].h (.slice B1 m1 e1) (.slice B2 ts[i].kids.length e2))[j]? = some u → wr.cell? ⟨b, i * 9 + j, none⟩ = some u := fun j u hj hu => by rw [cell_blk hx, g2 j hj]; exact hu
  have hbl := h2 b hb
  have hbX : b ≠ w.heap.size ∧ b ≠ w.heap.size + 1 := by
    rcases hbl.1 with h | h
    · have := hS b h; omega
    · omega
  have hSn : ∀ x, Sk x → x < wr.heap.size ∧ x ≠ w.heap.size ∧ x ≠ w.heap.size + 1 := fun x hx' => by
    have h5 := h2 x (hs x hx').1
    rcases h5.1 with h | h
    · have := hS x h; omega
    · omega
  refine ⟨ts[i], b, B1, m1, e1, B2, ts[i].kids.length, e2, Si, hti, rfl, hbl.2, hbX.1, hbX.2, fun hh => (hs b (g3 b hh).1).2 rfl, g1, fun x hx' => hSn x (g3 x hx').1, fz_blk hx,
    ⟨gc 0 _ (by omega) rfl, gc 1 _ (by omega) rfl, gc 2 _ (by omega) rfl, gc 3 _ (by omega) rfl, gc 4 _ (by omega) rfl, gc 5 _ (by omega) rfl, gc 6 _ (by omega) rfl, gc 7 _ (by omega) rfl, gc 8 _ (by omega) rfl⟩, ?_⟩
  intro w1 w2 T' u0 u1 u2 u3 u4 u5 u6 u7 u8 hb1 ho ⟨Sq, hq, hq2⟩
  have hkeep : ∀ x, x < wr.heap.size → ¬ Si x → w2.heap[x]? = wr.heap[x]? := fun x hx' hn => (ho.block x (Nat.lt_of_lt_of_le hx' hb1.size) hn).trans (hb1.block x hx')
  have hs1 := hb1.size
  have hs2 := ho.size
  have hSib : ¬ Si b := fun hh => (hs b (g3 b hh).1).2 rfl
  have hxb := (hkeep b hbl.2 hSib).trans hx
  have hrow := row_set9 hxb (i := i) (by have : i * 9 + 9 ≤ ts.length * 9 := by omega
                                         omega) u0 u1 u2 u3 u4 u5 u6 u7 u8
  have hsz : ∀ (v : World) (a : Addr) (u : Value), (v.setCell a u).heap.size = v.heap.size := fun v a u => by simp
  have hbk : ∀ x, x ≠ b → (((((((((w2.setCell ⟨b, i * 9, none⟩ u0).setCell ⟨b, i * 9 + 1, none⟩ u1).setCell ⟨b, i * 9 + 2, none⟩ u2).setCell ⟨b, i * 9 + 3, none⟩ u3).setCell ⟨b, i * 9 + 4, none⟩ u4).setCell ⟨b, i * 9 + 5, none⟩ u5).setCell ⟨b, i * 9 + 6, none⟩ u6).setCell ⟨b, i * 9 + 7, none⟩ u7).setCell ⟨b, i * 9 + 8, none⟩ u8).heap[x]? = w2.heap[x]? := fun x hx' => by
    have s : ∀ (v : World) (j : Nat) (u : Value), (v.setCell ⟨b, j, none⟩ u).heap[x]? = v.heap[x]? := fun v j u => Below.heap_setCell v ⟨b, j, none⟩ u x hx'
    rw [s, s, s, s, s, s, s, s, s]
  have hO2 : Only S w w2 := (h3.step hb1).trans ho (fun x hx' => by
    have h5 := (h2 x (hs x (g3 x hx').1).1).1
    rcases h5 with h | h
    · exact .inl h
    · exact .inr (by omega))
  have hOb : S b ∨ w.heap.size ≤ b := by
    rcases hbl.1 with h | h
    · exact .inl h
    · exact .inr (by omega)
  have hSq : ∀ x, Sq x → ¬ So x ∧ x ≠ b := fun x hx' => by
    have h5 := hq2 x hx'
    rcases h5.1 with h | h
    · exact ⟨(g3 x h).2, (hs x (g3 x h).1).2⟩
    · refine ⟨fun hh => ?_, by omega⟩
      have := (h2 x (hs x (g4 x hh)).1).2
      omega
  refine ⟨⟨fun x => (So x ∨ Sq x) ∨ x = b, ?_, ?_⟩, ((((((((hO2.setCell hOb _).setCell hOb _).setCell hOb _).setCell hOb _).setCell hOb _).setCell hOb _).setCell hOb _).setCell hOb _).setCell hOb _⟩
  · unfold TreeSp
    refine ⟨hnl.1, by rw [List.length_set]; exact hnl.2, .inr ⟨by rw [List.length_set]; omega, ha, b, _, fun x => So x ∨ Sq x, by rw [List.length_set], .inr rfl, hrow, fun x hx' => ⟨.inl hx', ?_⟩, ?_⟩⟩
    · rcases hx' with hh | hh
      · exact (hs x (g4 x hh)).2
      · exact (hSq x hh).2
    · refine g5 _ T' _ Sq (fun x hx' => ?_) (TreeSp.keep T' Sq _ (fun x hx' => hbk x (hSq x hx').2) hq) (fun x hx' => (hSq x hx').1)
      have h6 := hs x (g4 x hx')
      exact (hbk x h6.2).trans (hkeep x (h2 x h6.1).2 (fun hh => (g3 x hh).2 hx'))
  · intro x hx'
    rw [hsz, hsz, hsz, hsz, hsz, hsz, hsz, hsz, hsz]
    rcases hx' with (hh | hh) | rfl
    · have h6 := h2 x (hs x (g4 x hh)).1
      exact ⟨h6.1, by omega⟩
    · have h6 := hq2 x hh
      refine ⟨?_, h6.2⟩
      rcases h6.1 with h | h
      · exact (h2 x (hs x (g3 x h).1).1).1
      · exact .inr (by omega)
    · exact ⟨hbl.1, by omega⟩
theorem take_set {ks : List Tr} {i : Nat} {kd : Tr} (g : Tr → Tr) (h : ks[i]? = some kd) : ((ks.take i).map g ++ ks.drop i).set i (g kd) = (ks.take (i + 1)).map g ++ ks.drop (i + 1) := by
  have hi := (List.getElem?_eq_some_iff.1 h).1
  have hk := (List.getElem?_eq_some_iff.1 h).2
  rw [List.set_append_right _ _ (by simp; omega), List.length_map, List.length_take, Nat.min_eq_left (by omega), Nat.sub_self]
  rw [List.drop_eq_getElem_cons hi, hk, List.set_cons_zero, List.take_succ_eq_append_getElem hi, hk, List.map_append, List.append_assoc]
  rfl
theorem take_at {ks : List Tr} {i : Nat} {kd : Tr} (g : Tr → Tr) (h : ((ks.take i).map g ++ ks.drop i)[i]? = some kd) (hi : i < ks.length) : ks[i]? = some kd := by
  rw [List.getElem?_append_right (by simp; omega), List.length_map, List.length_take, Nat.min_eq_left (by omega), Nat.sub_self, List.getElem?_drop] at h
  simpa using h
theorem InRel.kept9 {S : Nat → Prop} {w wr : World} {T : Tr} {cs : List Value} (hS : ∀ x, S x → x < w.heap.size) (h : InRel S w wr T cs) {X : Nat} (hX : w.heap.size ≤ X ∧ X < w.heap.size + 2) (u0 u1 u2 u3 u4 u5 u6 u7 u8 : Value) : InRel S w (set9 wr X u0 u1 u2 u3 u4 u5 u6 u7 u8) T cs := by
  have h0 := h.kept (j := 0) hS hX u0
  have h1 := h0.kept (j := 1) hS hX u1
  have h2 := h1.kept (j := 2) hS hX u2
  have h3 := h2.kept (j := 3) hS hX u3
  have h4 := h3.kept (j := 4) hS hX u4
  have h5 := h4.kept (j := 5) hS hX u5
  have h6 := h5.kept (j := 6) hS hX u6
  have h7 := h6.kept (j := 7) hS hX u7
  exact h7.kept (j := 8) hS hX u8
theorem InRel.done {S : Nat → Prop} {w wr : World} {T : Tr} {A1 A2 : Option Addr} {n1 c1 K c : Nat} (h : InRel S w wr T (hdC T.h (.slice A1 n1 c1) (.slice A2 K c))) : InPost S T w (.returned (.agg #[.int .i64 T.h.k, .bool T.h.neg, .slice A1 n1 c1, .string T.h.name, .int .i64 T.h.exp, .int .i64 T.h.rel, .bool T.h.truth, .bool T.h.all, .slice A2 K c])) wr := by
  obtain ⟨⟨Sn, h1, h2⟩, h3⟩ := h
  exact ⟨A1, n1, c1, A2, K, c, rfl, ⟨Sn, h1, fun x hx => ⟨by have := (h2 x hx).1; rcases this with h | h; exact .inl h; exact .inr (by omega), (h2 x hx).2⟩⟩, h3⟩
theorem kept_only {Si : Nat → Prop} {wr w1 w2 : World} (hb1 : Below wr.heap.size wr w1) (ho : Only Si w1 w2) {x : Nat} (hx : x < wr.heap.size) (hn : ¬ Si x) : w2.heap[x]? = wr.heap[x]? := (ho.block x (Nat.lt_of_lt_of_le hx hb1.size) hn).trans (hb1.block x hx)
theorem heap_set9 {w : World} {b X : Nat} (h : b ≠ X) (j : Nat) (u : Value) : (w.setCell ⟨X, j, none⟩ u).heap[b]? = w.heap[b]? := Below.heap_setCell w ⟨X, j, none⟩ u b h
theorem World.cell?_of_block' {w : World} {b : Nat} {cs : Array Value} {T : TypeId} {j : Nat} (h : w.heap[b]? = some (.cells cs T (0, 0))) : w.cell? ⟨b, j, none⟩ = cs[j]? := by simp [World.cell?, h]
theorem World.frozen?_of_block' {w : World} {b : Nat} {cs : Array Value} {T : TypeId} {j : Nat} (h : w.heap[b]? = some (.cells cs T (0, 0))) : w.frozen? ⟨b, j, none⟩ = false := by simp [World.frozen?, h]
theorem cells9 {wr : World} {b : Nat} {x0 x1 x2 x3 x4 x5 x6 x7 x8 : Value} {T : TypeId} (h : wr.heap[b]? = some (.cells #[x0, x1, x2, x3, x4, x5, x6, x7, x8] T (0, 0))) :
    wr.cell? ⟨b, 0, none⟩ = some x0 ∧ wr.cell? ⟨b, 1, none⟩ = some x1 ∧ wr.cell? ⟨b, 2, none⟩ = some x2 ∧ wr.cell? ⟨b, 3, none⟩ = some x3 ∧ wr.cell? ⟨b, 4, none⟩ = some x4 ∧ wr.cell? ⟨b, 5, none⟩ = some x5 ∧ wr.cell? ⟨b, 6, none⟩ = some x6 ∧ wr.cell? ⟨b, 7, none⟩ = some x7 ∧ wr.cell? ⟨b, 8, none⟩ = some x8 :=
  ⟨World.cell?_of_block' h, World.cell?_of_block' h, World.cell?_of_block' h, World.cell?_of_block' h, World.cell?_of_block' h, World.cell?_of_block' h, World.cell?_of_block' h, World.cell?_of_block' h, World.cell?_of_block' h⟩
theorem row9_block {w : World} {b o : Nat} {u0 u1 u2 u3 u4 u5 u6 u7 u8 : Value} {x : Nat} (h : x ≠ b) : (((((((((w.setCell ⟨b, o, none⟩ u0).setCell ⟨b, o + 1, none⟩ u1).setCell ⟨b, o + 2, none⟩ u2).setCell ⟨b, o + 3, none⟩ u3).setCell ⟨b, o + 4, none⟩ u4).setCell ⟨b, o + 5, none⟩ u5).setCell ⟨b, o + 6, none⟩ u6).setCell ⟨b, o + 7, none⟩ u7).setCell ⟨b, o + 8, none⟩ u8).heap[x]? = w.heap[x]? := by
  have s : ∀ (w : World) (j : Nat) (u : Value), (w.setCell ⟨b, j, none⟩ u).heap[x]? = w.heap[x]? := fun w j u => Below.heap_setCell w ⟨b, j, none⟩ u x h
  rw [s, s, s, s, s, s, s, s, s]
end Fm
end Go.Proofs.YtkjbfomokdjbnaaDoor
