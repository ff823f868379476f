/-
  Trees whose rows of kids lie apart from each other: such a tree may be changed in place.
-/
import Derived.Test.YtkjbfomokdjbnaaDoorFmP
namespace Go.Proofs.YtkjbfomokdjbnaaDoor
open Go.RowKit
set_option linter.unusedSimpArgs false
set_option linter.unusedVariables false
namespace Fm

mutual
def TreeSp (w : World) (S : Nat → Prop) : Tr → List Value → Prop
  | .mk h ks, cs => h.name.size ≤ 9223372036854775807 ∧ ks.length ≤ 9223372036854775807 ∧
      ((ks = [] ∧ ∃ va, cs = hdC h va (.slice none 0 0) ∧ AbsAt w S va h.abs) ∨
       (0 < ks.length ∧ h.abs = [] ∧ ∃ (b : Nat) (xs : List Value) (Sk : Nat → Prop), cs = hdC h (.slice none 0 0) (.slice (some ⟨b, 0, none⟩) ks.length ks.length) ∧ S b ∧ w.heap[b]? = some (.cells xs.toArray TT (0, 0)) ∧ (∀ x, Sk x → S x ∧ x ≠ b) ∧ TrsSp w Sk ks xs))
def TrsSp (w : World) (S : Nat → Prop) : List Tr → List Value → Prop
  | [], xs => xs = []
  | t :: ts, xs => ∃ (cs rest : List Value) (S1 S2 : Nat → Prop), xs = cs ++ rest ∧ (∀ x, S1 x → S x ∧ ¬ S2 x) ∧ (∀ x, S2 x → S x) ∧ TreeSp w S1 t cs ∧ TrsSp w S2 ts rest
end
/-- a block that keeps its cells -/
theorem cell_blk {w : World} {b : Nat} {xs : List Value} {T : TypeId} (h : w.heap[b]? = some (.cells xs.toArray T (0, 0))) (j : Nat) : w.cell? ⟨b, j, none⟩ = xs[j]? := by simp [World.cell?, h]
theorem fz_blk {w : World} {b : Nat} {xs : List Value} {T : TypeId} (h : w.heap[b]? = some (.cells xs.toArray T (0, 0))) (j : Nat) : w.frozen? ⟨b, j, none⟩ = false := by simp [World.frozen?, h]
mutual
theorem TreeSp.len {w : World} : ∀ (S : Nat → Prop) (t : Tr) (cs : List Value), TreeSp w S t cs → cs.length = 9
  | S, .mk h ks, cs, hh => by
    unfold TreeSp at hh
    obtain ⟨_, _, ⟨_, va, rfl, _⟩ | ⟨_, _, b, xs, Sk, rfl, _⟩⟩ := hh <;> rfl
end
theorem TrsSp.len {w : World} : ∀ (ts : List Tr) (S : Nat → Prop) (xs : List Value), TrsSp w S ts xs → xs.length = ts.length * 9
  | [], S, xs, h => by unfold TrsSp at h; subst h; rfl
  | t :: ts, S, xs, h => by
    unfold TrsSp at h
    obtain ⟨cs, rest, S1, S2, rfl, _, _, h1, h2⟩ := h
    rw [List.length_append, TreeSp.len _ _ _ h1, TrsSp.len ts _ _ h2, List.length_cons]; omega
mutual
theorem TreeSp.keep {w w' : World} : ∀ (t : Tr) (S : Nat → Prop) (cs : List Value), (∀ b, S b → w'.heap[b]? = w.heap[b]?) → TreeSp w S t cs → TreeSp w' S t cs
  | .mk h ks, S, cs, hk, hh => by
    unfold TreeSp at hh ⊢
    obtain ⟨hn, hl, hh⟩ := hh
    refine ⟨hn, hl, ?_⟩
    rcases hh with ⟨e, va, e2, ha⟩ | ⟨h0, ha, b, xs, Sk, e, hb, hx, hs, ht⟩
    · exact .inl ⟨e, va, e2, ha.keep (fun p hp => World.cell?_of_block (hk _ hp))⟩
    · exact .inr ⟨h0, ha, b, xs, Sk, e, hb, (hk b hb).trans hx, hs, TrsSp.keep ks Sk xs (fun x hx => hk x (hs x hx).1) ht⟩
theorem TrsSp.keep {w w' : World} : ∀ (ts : List Tr) (S : Nat → Prop) (xs : List Value), (∀ b, S b → w'.heap[b]? = w.heap[b]?) → TrsSp w S ts xs → TrsSp w' S ts xs
  | [], S, xs, hk, hh => by unfold TrsSp at hh ⊢; exact hh
  | t :: ts, S, xs, hk, hh => by
    unfold TrsSp at hh ⊢
    obtain ⟨cs, rest, S1, S2, e, h1, h2, h3, h4⟩ := hh
    exact ⟨cs, rest, S1, S2, e, h1, h2, TreeSp.keep t S1 cs (fun b hb => hk b (h1 b hb).1) h3, TrsSp.keep ts S2 rest (fun b hb => hk b (h2 b hb)) h4⟩
end
theorem TreeSp.more {w : World} {S S' : Nat → Prop} (hS : ∀ b, S b → S' b) {t : Tr} {cs : List Value} (hh : TreeSp w S t cs) : TreeSp w S' t cs := by
  cases t with
  | mk h ks =>
    unfold TreeSp at hh ⊢
    obtain ⟨hn, hl, hh⟩ := hh
    refine ⟨hn, hl, ?_⟩
    rcases hh with ⟨e, va, e2, ha⟩ | ⟨h0, ha, b, xs, Sk, e, hb, hx, hs, ht⟩
    · exact .inl ⟨e, va, e2, ha.more hS⟩
    · exact .inr ⟨h0, ha, b, xs, Sk, e, hS _ hb, hx, fun x hx => ⟨hS _ (hs x hx).1, (hs x hx).2⟩, ht⟩
theorem TrsSp.more {w : World} {S S' : Nat → Prop} (hS : ∀ b, S b → S' b) {ts : List Tr} {xs : List Value} (hh : TrsSp w S ts xs) : TrsSp w S' ts xs := by
  cases ts with
  | nil => unfold TrsSp at hh ⊢; exact hh
  | cons t ts =>
    unfold TrsSp at hh ⊢
    obtain ⟨cs, rest, S1, S2, e, h1, h2, h3, h4⟩ := hh
    exact ⟨cs, rest, S1, S2, e, fun x hx => ⟨hS _ (h1 x hx).1, (h1 x hx).2⟩, fun x hx => hS _ (h2 x hx), h3, h4⟩
theorem TreeSp.below {w w' : World} {S : Nat → Prop} {B : Nat} {t : Tr} {cs : List Value} (h : TreeSp w S t cs) (hS : ∀ b, S b → b < B) (hb : Below B w w') : TreeSp w' S t cs := TreeSp.keep t S cs (fun b hb' => hb.block b (hS b hb')) h
theorem TrsSp.below {w w' : World} {S : Nat → Prop} {B : Nat} {t : List Tr} {cs : List Value} (h : TrsSp w S t cs) (hS : ∀ b, S b → b < B) (hb : Below B w w') : TrsSp w' S t cs := TrsSp.keep t S cs (fun b hb' => hb.block b (hS b hb')) h
mutual
theorem TreeSp.at_ {w : World} : ∀ (t : Tr) (S : Nat → Prop) (cs : List Value), TreeSp w S t cs → TreeAt w S t cs
  | .mk h ks, S, cs, hh => by
    unfold TreeSp at hh
    obtain ⟨hn, hl, hh⟩ := hh
    rcases hh with ⟨rfl, va, rfl, ha⟩ | ⟨h0, ha, b, xs, Sk, rfl, hb, hx, hs, ht⟩
    · exact no_kids ha hn
    · refine TreeAt.of (xs := xs) (by rw [ha]; exact AbsAt.empty) hn hl ⟨_, _, rfl, Nat.le_refl _, TrsSp.len ks Sk xs ht, fun _ => ⟨b, 0, rfl, hb, fun j u hj => ?_⟩⟩ (TrsC.more (fun x hx => (hs x hx).1) _ _ (TrsSp.at_ ks Sk xs ht))
      rw [Nat.zero_add, cell_blk hx]; exact hj
theorem TrsSp.at_ {w : World} : ∀ (ts : List Tr) (S : Nat → Prop) (xs : List Value), TrsSp w S ts xs → TrsC w S ts xs
  | [], S, xs, hh => by unfold TrsSp at hh; subst hh; exact TrsC.nil
  | t :: ts, S, xs, hh => by
    unfold TrsSp at hh
    obtain ⟨cs, rest, S1, S2, e, h1, h2, h3, h4⟩ := hh
    unfold TrsC
    exact ⟨cs, rest, e, TreeAt.more (fun x hx => (h1 x hx).1) _ _ (TreeSp.at_ t S1 cs h3), TrsC.more h2 _ _ (TrsSp.at_ ts S2 rest h4)⟩
end
theorem TrsSp.nil {w : World} {S : Nat → Prop} : TrsSp w S [] [] := by unfold TrsSp; rfl
theorem TrsSp.cons {w : World} {S S1 S2 : Nat → Prop} {t : Tr} {ts : List Tr} {cs rest : List Value} (h1 : TreeSp w S1 t cs) (h2 : TrsSp w S2 ts rest) (hS1 : ∀ x, S1 x → S x ∧ ¬ S2 x) (hS2 : ∀ x, S2 x → S x) : TrsSp w S (t :: ts) (cs ++ rest) := by
  unfold TrsSp; exact ⟨cs, rest, S1, S2, rfl, hS1, hS2, h1, h2⟩
/-- kid i alone, and what may be put in its place -/
theorem TrsSp.focus {w : World} : ∀ (ts : List Tr) (S : Nat → Prop) (xs : List Value) (i : Nat) (t : Tr), TrsSp w S ts xs → ts[i]? = some t →
    ∃ (cs : List Value) (Si So : Nat → Prop), TreeSp w Si t cs ∧ (∀ j, j < 9 → xs[i * 9 + j]? = cs[j]?) ∧ (∀ x, Si x → S x ∧ ¬ So x) ∧ (∀ x, So x → S x) ∧
      ∀ (w' : World) (t' : Tr) (cs' : List Value) (Sn : Nat → Prop), (∀ b, So b → w'.heap[b]? = w.heap[b]?) → TreeSp w' Sn t' cs' → (∀ x, Sn x → ¬ So x) →
        TrsSp w' (fun x => So x ∨ Sn x) (ts.set i t') (xs.take (i * 9) ++ (cs' ++ xs.drop (i * 9 + 9)))
  | [], S, xs, i, t, h, hi => by simp at hi
  | a :: ts, S, xs, 0, t, h, hi => by
    simp at hi; subst hi
    unfold TrsSp at h
    obtain ⟨cs, rest, S1, S2, rfl, h1, h2, h3, h4⟩ := h
    have hl := TreeSp.len _ _ _ h3
    refine ⟨cs, S1, S2, h3, fun j hj => ?_, h1, h2, fun w' t' cs' Sn hk ht hd => ?_⟩
    · rw [Nat.zero_mul, Nat.zero_add, List.getElem?_append_left (by omega)]
    · rw [Nat.zero_mul, Nat.zero_add, List.take_zero, List.nil_append, List.set_cons_zero, ← hl, List.drop_left]
      exact TrsSp.cons ht (TrsSp.keep ts S2 rest hk h4) (fun x hx => ⟨.inr hx, hd x hx⟩) (fun x hx => .inl hx)
  | a :: ts, S, xs, i + 1, t, h, hi => by
    unfold TrsSp at h
    obtain ⟨cs, rest, S1, S2, rfl, h1, h2, h3, h4⟩ := h
    have hl := TreeSp.len _ _ _ h3
    obtain ⟨ci, Si, So, g1, g2, g3, g4, g5⟩ := TrsSp.focus ts S2 rest i t h4 (by simpa using hi)
    refine ⟨ci, Si, fun x => S1 x ∨ So x, g1, fun j hj => ?_, fun x hx => ⟨h2 _ (g3 x hx).1, ?_⟩, ?_, fun w' t' cs' Sn hk ht hd => ?_⟩
    · rw [List.getElem?_append_right (by omega), hl, show (i + 1) * 9 + j - 9 = i * 9 + j by omega]; exact g2 j hj
    · rintro (hh | hh)
      · exact (h1 x hh).2 (g3 x hx).1
      · exact (g3 x hx).2 hh
    · rintro x (hh | hh)
      · exact (h1 x hh).1
      · exact h2 _ (g4 x hh)
    · have h5 := g5 w' t' cs' Sn (fun b hb => hk b (.inr hb)) ht (fun x hx hh => hd x hx (.inr hh))
      rw [List.set_cons_succ, show (i + 1) * 9 = cs.length + i * 9 by omega, List.take_length_add_append, show cs.length + i * 9 + 9 = cs.length + (i * 9 + 9) by omega, List.drop_append, List.append_assoc]
      rw [List.drop_eq_nil_of_le (by omega), show cs.length + (i * 9 + 9) - cs.length = i * 9 + 9 by omega, List.nil_append]
      exact TrsSp.cons (TreeSp.keep a S1 cs (fun b hb => hk b (.inl hb)) h3) h5 (fun x hx => ⟨.inl (.inl hx), fun hh => by
        rcases hh with hh | hh
        · exact (h1 x hx).2 (g4 x hh)
        · exact hd x hh (.inl hx)⟩) (fun x hx => by
        rcases hx with hh | hh
        · exact .inl (.inr hh)
        · exact .inr hh)
/-- what a call that may change the blocks of S leaves alone -/
structure Only (S : Nat → Prop) (w w' : World) : Prop where
  below : ∀ B, (∀ b, S b → B ≤ b) → B ≤ w.heap.size → Below B w w'
  block : ∀ b, b < w.heap.size → ¬ S b → w'.heap[b]? = w.heap[b]?
theorem Only.size {S : Nat → Prop} {w w' : World} (h : Only S w w') : w.heap.size ≤ w'.heap.size := (h.below 0 (fun _ _ => Nat.zero_le _) (Nat.zero_le _)).size
theorem Only.of_below {S : Nat → Prop} {w w' : World} (h : Below w.heap.size w w') : Only S w w' := ⟨fun B _ hB => h.mono hB, fun b hb _ => h.block b hb⟩
theorem Only.refl (S : Nat → Prop) (w : World) : Only S w w := Only.of_below (Below.refl _ w)
theorem Only.trans {S S' : Nat → Prop} {a b c : World} (h : Only S a b) (k : Only S' b c) (hS : ∀ x, S' x → S x ∨ a.heap.size ≤ x) : Only S a c := by
  refine ⟨fun B hB hs => (h.below B hB hs).trans (k.below B (fun x hx => ?_) (Nat.le_trans hs h.size)), fun x hx hn => ?_⟩
  · rcases hS x hx with h' | h'
    · exact hB x h'
    · omega
  · have h1 := h.size
    refine (k.block x (by omega) (fun hh => ?_)).trans (h.block x hx hn)
    rcases hS x hh with h' | h'
    · exact hn h'
    · omega
theorem Only.mono {S S' : Nat → Prop} {a b : World} (h : Only S a b) (hS : ∀ x, S x → S' x) : Only S' a b := ⟨fun B hB hs => h.below B (fun x hx => hB x (hS x hx)) hs, fun x hx hn => h.block x hx (fun hh => hn (hS x hh))⟩
theorem Only.alloc {S : Nat → Prop} {a w : World} (h : Only S a w) (o : Obj) : Only S a (w.alloc o) := h.trans (Only.of_below (S := fun _ => False) ((Below.refl _ w).alloc (Nat.le_refl _) o)) (fun x hx => hx.elim)
theorem Only.step {S : Nat → Prop} {a w w' : World} (h : Only S a w) (hb : Below w.heap.size w w') : Only S a w' := h.trans (Only.of_below (S := fun _ => False) hb) (fun x hx => hx.elim)
theorem Only.setCell {S : Nat → Prop} {a w : World} (h : Only S a w) {X j : Nat} (hX : S X ∨ a.heap.size ≤ X) (u : Value) : Only S a (w.setCell ⟨X, j, none⟩ u) := by
  refine h.trans (S' := fun x => x = X) ⟨fun B hB hs => (Below.refl B w).setCell (p := ⟨X, j, none⟩) (hB X rfl) u, fun b hb hn => Below.heap_setCell w ⟨X, j, none⟩ u b hn⟩ (fun x hx => by rw [hx]; exact hX)
theorem list_set9 (xs : List Value) (o : Nat) (h : o + 9 ≤ xs.length) (u0 u1 u2 u3 u4 u5 u6 u7 u8 : Value) :
    (((((((((xs.set o u0).set (o + 1) u1).set (o + 2) u2).set (o + 3) u3).set (o + 4) u4).set (o + 5) u5).set (o + 6) u6).set (o + 7) u7).set (o + 8) u8) = xs.take o ++ ([u0, u1, u2, u3, u4, u5, u6, u7, u8] ++ xs.drop (o + 9)) := by
  obtain ⟨l, t, rfl, rfl⟩ : ∃ l t, xs = l ++ t ∧ o = l.length := ⟨xs.take o, xs.drop o, (List.take_append_drop o xs).symm, by rw [List.length_take]; omega⟩
  have key : ∀ (s : List Value) (k : Nat) (u : Value), (l ++ s).set (l.length + k) u = l ++ s.set k u := fun s k u => by
    rw [List.set_append_right _ _ (by omega), Nat.add_sub_cancel_left]
  have key0 : ∀ (s : List Value) (u : Value), (l ++ s).set l.length u = l ++ s.set 0 u := fun s u => key s 0 u
  rw [key0, key, key, key, key, key, key, key, key, List.take_left' rfl, List.drop_append, List.drop_eq_nil_of_le (by omega), List.nil_append, Nat.add_sub_cancel_left]
  congr 1
  rw [List.length_append] at h
  match t, h with
  | a0 :: a1 :: a2 :: a3 :: a4 :: a5 :: a6 :: a7 :: a8 :: r, _ => rfl
  | [], h => exfalso; simp only [List.length_nil] at h; omega
  | [_], h => exfalso; simp only [List.length_cons, List.length_nil] at h; omega
  | [_, _], h => exfalso; simp only [List.length_cons, List.length_nil] at h; omega
  | [_, _, _], h => exfalso; simp only [List.length_cons, List.length_nil] at h; omega
  | [_, _, _, _], h => exfalso; simp only [List.length_cons, List.length_nil] at h; omega
  | [_, _, _, _, _], h => exfalso; simp only [List.length_cons, List.length_nil] at h; omega
  | [_, _, _, _, _, _], h => exfalso; simp only [List.length_cons, List.length_nil] at h; omega
  | [_, _, _, _, _, _, _], h => exfalso; simp only [List.length_cons, List.length_nil] at h; omega
  | [_, _, _, _, _, _, _, _], h => exfalso; simp only [List.length_cons, List.length_nil] at h; omega
/-- a row with the nine cells of one kid stored anew -/
theorem row_set9 {w : World} {b i : Nat} {xs : List Value} {T : TypeId} (h : w.heap[b]? = some (.cells xs.toArray T (0, 0))) (hi : i * 9 + 9 ≤ xs.length) (u0 u1 u2 u3 u4 u5 u6 u7 u8 : Value) :
    (((((((((w.setCell ⟨b, i * 9, none⟩ u0).setCell ⟨b, i * 9 + 1, none⟩ u1).setCell ⟨b, i * 9 + 2, none⟩ u2).setCell ⟨b, i * 9 + 3, none⟩ u3).setCell ⟨b, i * 9 + 4, none⟩ u4).setCell ⟨b, i * 9 + 5, none⟩ u5).setCell ⟨b, i * 9 + 6, none⟩ u6).setCell ⟨b, i * 9 + 7, none⟩ u7).setCell ⟨b, i * 9 + 8, none⟩ u8).heap[b]? = some (.cells (xs.take (i * 9) ++ ([u0, u1, u2, u3, u4, u5, u6, u7, u8] ++ xs.drop (i * 9 + 9))).toArray T (0, 0)) := by
  have one : ∀ (w : World) (ys : List Value) (j : Nat) (u : Value), w.heap[b]? = some (.cells ys.toArray T (0, 0)) → (w.setCell ⟨b, j, none⟩ u).heap[b]? = some (.cells (ys.set j u).toArray T (0, 0)) := fun w ys j u hw => by
    simp [World.setCell, Array.getElem?_modify, hw]
  have h9 := one _ _ (i * 9 + 8) u8 (one _ _ (i * 9 + 7) u7 (one _ _ (i * 9 + 6) u6 (one _ _ (i * 9 + 5) u5 (one _ _ (i * 9 + 4) u4 (one _ _ (i * 9 + 3) u3 (one _ _ (i * 9 + 2) u2 (one _ _ (i * 9 + 1) u1 (one _ _ (i * 9) u0 h))))))))
  rw [h9, list_set9 xs (i * 9) hi]
end Fm
end Go.Proofs.YtkjbfomokdjbnaaDoor
