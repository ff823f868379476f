/-
  Trees whose rows of kids lie apart from each other: such a tree may be changed in place.
-/
import Derived.Test.YtkjbfomokdjbnaaDoorFmP
import Derived.Test.YtkjbfomokdjbnaaDoorFmPF
namespace Go.Proofs.YtkjbfomokdjbnaaDoor
open Go.RowKit
set_option linter.unusedSimpArgs false
set_option linter.unusedVariables false
namespace Fm

mutual
def TreeSp (w : World) (S : Nat → Prop) : Tr → List Value → Prop
  | .mk h ks, cs => h.name.size ≤ 9223372036854775807 ∧ ks.length ≤ 9223372036854775807 ∧
      ((ks = [] ∧ ∃ va, cs = hdC h va (.slice none 0 0) ∧ AbsAt w S va h.abs) ∨
       (0 < ks.length ∧ h.abs = [] ∧ ∃ (b : Nat) (xs : List Value) (Sk : Nat → Prop), cs = hdC h (.slice none 0 0) (.slice (some ⟨b, 0, none⟩) ks.length ks.length) ∧ S b ∧ w.heap[b]? = some (.cells xs.toArray TT (0, 0)) ∧ (∀ x, Sk x → S x ∧ x ≠ b) ∧ TrsSp w Sk ks xs))
def TrsSp (w : World) (S : Nat → Prop) : List Tr → List Value → Prop
  | [], xs => xs = []
  | t :: ts, xs => ∃ (cs rest : List Value) (S1 S2 : Nat → Prop), xs = cs ++ rest ∧ (∀ x, S1 x → S x ∧ ¬ S2 x) ∧ (∀ x, S2 x → S x) ∧ TreeSp w S1 t cs ∧ TrsSp w S2 ts rest
end
/-- a block that keeps its cells -/
theorem cell_blk {w : World} {b : Nat} {xs : List Value} {T : TypeId} (h : w.heap[b]? = some (.cells xs.toArray T (0, 0))) (j : Nat) : w.cell? ⟨b, j, none⟩ = xs[j]? := by simp [World.cell?, h]
theorem fz_blk {w : World} {b : Nat} {xs : List Value} {T : TypeId} (h : w.heap[b]? = some (.cells xs.toArray T (0, 0))) (j : Nat) : w.frozen? ⟨b, j, none⟩ = false := by simp [World.frozen?, h]
mutual
theorem TreeSp.len {w : World} : ∀ (S : Nat → Prop) (t : Tr) (cs : List Value), TreeSp w S t cs → cs.length = 9
  | S, .mk h ks, cs, hh => by
    unfold TreeSp at hh
    obtain ⟨_, _, ⟨_, va, rfl, _⟩ | ⟨_, _, b, xs, Sk, rfl, _⟩⟩ := hh <;> rfl
end
theorem TrsSp.len {w : World} : ∀ (ts : List Tr) (S : Nat → Prop) (xs : List Value), TrsSp w S ts xs → xs.length = ts.length * 9
  | [], S, xs, h => by unfold TrsSp at h; subst h; rfl
  | t :: ts, S, xs, h => by
    unfold TrsSp at h
    obtain ⟨cs, rest, S1, S2, rfl, _, _, h1, h2⟩ := h
    rw [List.length_append, TreeSp.len _ _ _ h1, TrsSp.len ts _ _ h2, List.length_cons]; omega
mutual
theorem TreeSp.keep {w w' : World} : ∀ (t : Tr) (S : Nat → Prop) (cs : List Value), (∀ b, S b → w'.heap[b]? = w.heap[b]?) → TreeSp w S t cs → TreeSp w' S t cs
  | .mk h ks, S, cs, hk, hh => by
    unfold TreeSp at hh ⊢
    obtain ⟨hn, hl, hh⟩ := hh
    refine ⟨hn, hl, ?_⟩
    rcases hh with ⟨e, va, e2, ha⟩ | ⟨h0, ha, b, xs, Sk, e, hb, hx, hs, ht⟩
    · exact .inl ⟨e, va, e2, ha.keep (fun p hp => World.cell?_of_block (hk _ hp))⟩
    · exact .inr ⟨h0, ha, b, xs, Sk, e, hb, (hk b hb).trans hx, hs, TrsSp.keep ks Sk xs (fun x hx => hk x (hs x hx).1) ht⟩
theorem TrsSp.keep {w w' : World} : ∀ (ts : List Tr) (S : Nat → Prop) (xs : List Value), (∀ b, S b → w'.heap[b]? = w.heap[b]?) → TrsSp w S ts xs → TrsSp w' S ts xs
  | [], S, xs, hk, hh => by unfold TrsSp at hh ⊢; exact hh
  | t :: ts, S, xs, hk, hh => by
    unfold TrsSp at hh ⊢
    obtain ⟨cs, rest, S1, S2, e, h1, h2, h3, h4⟩ := hh
    exact ⟨cs, rest, S1, S2, e, h1, h2, TreeSp.keep t S1 cs (fun b hb => hk b (h1 b hb).1) h3, TrsSp.keep ts S2 rest (fun b hb => hk b (h2 b hb)) h4⟩
end
theorem TreeSp.more {w : World} {S S' : Nat → Prop} (hS : ∀ b, S b → S' b) {t : Tr} {cs : List Value} (hh : TreeSp w S t cs) : TreeSp w S' t cs := by
  cases t with
  | mk h ks =>
    unfold TreeSp at hh ⊢
    obtain ⟨hn, hl, hh⟩ := hh
    refine ⟨hn, hl, ?_⟩
    rcases hh with ⟨e, va, e2, ha⟩ | ⟨h0, ha, b, xs, Sk, e, hb, hx, hs, ht⟩
    · exact .inl ⟨e, va, e2, ha.more hS⟩
    · exact .inr ⟨h0, ha, b, xs, Sk, e, hS _ hb, hx, fun x hx => ⟨hS _ (hs x hx).1, (hs x hx).2⟩, ht⟩
theorem TrsSp.more {w : World} {S S' : Nat → Prop} (hS : ∀ b, S b → S' b) {ts : List Tr} {xs : List Value} (hh : TrsSp w S ts xs) : TrsSp w S' ts xs := by
  cases ts with
  | nil => unfold TrsSp at hh ⊢; exact hh
  | cons t ts =>
    unfold TrsSp at hh ⊢
    obtain ⟨cs, rest, S1, S2, e, h1, h2, h3, h4⟩ := hh
    exact ⟨cs, rest, S1, S2, e, fun x hx => ⟨hS _ (h1 x hx).1, (h1 x hx).2⟩, fun x hx => hS _ (h2 x hx), h3, h4⟩
theorem TreeSp.below {w w' : World} {S : Nat → Prop} {B : Nat} {t : Tr} {cs : List Value} (h : TreeSp w S t cs) (hS : ∀ b, S b → b < B) (hb : Below B w w') : TreeSp w' S t cs := TreeSp.keep t S cs (fun b hb' => hb.block b (hS b hb')) h
theorem TrsSp.below {w w' : World} {S : Nat → Prop} {B : Nat} {t : List Tr} {cs : List Value} (h : TrsSp w S t cs) (hS : ∀ b, S b → b < B) (hb : Below B w w') : TrsSp w' S t cs := TrsSp.keep t S cs (fun b hb' => hb.block b (hS b hb')) h
mutual
theorem TreeSp.at_ {w : World} : ∀ (t : Tr) (S : Nat → Prop) (cs : List Value), TreeSp w S t cs → TreeAt w S t cs
  | .mk h ks, S, cs, hh => by
    unfold TreeSp at hh
    obtain ⟨hn, hl, hh⟩ := hh
    rcases hh with ⟨rfl, va, rfl, ha⟩ | ⟨h0, ha, b, xs, Sk, rfl, hb, hx, hs, ht⟩
    · exact no_kids ha hn
    · refine TreeAt.of (xs := xs) (by rw [ha]; exact AbsAt.empty) hn hl ⟨_, _, rfl, Nat.le_refl _, TrsSp.len ks Sk xs ht, fun _ => ⟨b, 0, rfl, hb, fun j u hj => ?_⟩⟩ (TrsC.more (fun x hx => (hs x hx).1) _ _ (TrsSp.at_ ks Sk xs ht))
      rw [Nat.zero_add, cell_blk hx]; exact hj
theorem TrsSp.at_ {w : World} : ∀ (ts : List Tr) (S : Nat → Prop) (xs : List Value), TrsSp w S ts xs → TrsC w S ts xs
  | [], S, xs, hh => by unfold TrsSp at hh; subst hh; exact TrsC.nil
  | t :: ts, S, xs, hh => by
    unfold TrsSp at hh
    obtain ⟨cs, rest, S1, S2, e, h1, h2, h3, h4⟩ := hh
    unfold TrsC
    exact ⟨cs, rest, e, TreeAt.more (fun x hx => (h1 x hx).1) _ _ (TreeSp.at_ t S1 cs h3), TrsC.more h2 _ _ (TrsSp.at_ ts S2 rest h4)⟩
end
theorem TrsSp.nil {w : World} {S : Nat → Prop} : TrsSp w S [] [] := by unfold TrsSp; rfl
theorem TrsSp.cons {w : World} {S S1 S2 : Nat → Prop} {t : Tr} {ts : List Tr} {cs rest : List Value} (h1 : TreeSp w S1 t cs) (h2 : TrsSp w S2 ts rest) (hS1 : ∀ x, S1 x → S x ∧ ¬ S2 x) (hS2 : ∀ x, S2 x → S x) : TrsSp w S (t :: ts) (cs ++ rest) := by
  unfold TrsSp; exact ⟨cs, rest, S1, S2, rfl, hS1, hS2, h1, h2⟩
/-- kid i alone, and what may be put in its place -/
theorem TrsSp.focus {w : World} : ∀ (ts : List Tr) (S : Nat → Prop) (xs : List Value) (i : Nat) (t : Tr), TrsSp w S ts xs → ts[i]? = some t →
    ∃ (cs : List Value) (Si So : Nat → Prop), TreeSp w Si t cs ∧ (∀ j, j < 9 → xs[i * 9 + j]? = cs[j]?) ∧ (∀ x, Si x → S x ∧ ¬ So x) ∧ (∀ x, So x → S x) ∧
      ∀ (w' : World) (t' : Tr) (cs' : List Value) (Sn : Nat → Prop), (∀ b, So b → w'.heap[b]? = w.heap[b]?) → TreeSp w' Sn t' cs' → (∀ x, Sn x → ¬ So x) →
        TrsSp w' (fun x => So x ∨ Sn x) (ts.set i t') (xs.take (i * 9) ++ (cs' ++ xs.drop (i * 9 + 9)))
  | [], S, xs, i, t, h, hi => by simp at hi
  | a :: ts, S, xs, 0, t, h, hi => by
    simp at hi; subst hi
    unfold TrsSp at h
    obtain ⟨cs, rest, S1, S2, rfl, h1, h2, h3, h4⟩ := h
    have hl := TreeSp.len _ _ _ h3
    refine ⟨cs, S1, S2, h3, fun j hj => ?_, h1, h2, fun w' t' cs' Sn hk ht hd => ?_⟩
    · rw [Nat.zero_mul, Nat.zero_add, List.getElem?_append_left (by omega)]
    · rw [Nat.zero_mul, Nat.zero_add, List.take_zero, List.nil_append, List.set_cons_zero, ← hl, List.drop_left]
      exact TrsSp.cons ht (TrsSp.keep ts S2 rest hk h4) (fun x hx => ⟨.inr hx, hd x hx⟩) (fun x hx => .inl hx)
  | a :: ts, S, xs, i + 1, t, h, hi => by
    unfold TrsSp at h
    obtain ⟨cs, rest, S1, S2, rfl, h1, h2, h3, h4⟩ := h
    have hl := TreeSp.len _ _ _ h3
    obtain ⟨ci, Si, So, g1, g2, g3, g4, g5⟩ := TrsSp.focus ts S2 rest i t h4 (by simpa using hi)
    refine ⟨ci, Si, fun x => S1 x ∨ So x, g1, fun j hj => ?_, fun x hx => ⟨h2 _ (g3 x hx).1, ?_⟩, ?_, fun w' t' cs' Sn hk ht hd => ?_⟩
    · rw [List.getElem?_append_right (by omega), hl, show (i + 1) * 9 + j - 9 = i * 9 + j by omega]; exact g2 j hj
    · rintro (hh | hh)
      · exact (h1 x hh).2 (g3 x hx).1
      · exact (g3 x hx).2 hh
    · rintro x (hh | hh)
      · exact (h1 x hh).1
      · exact h2 _ (g4 x hh)
    · have h5 := g5 w' t' cs' Sn (fun b hb => hk b (.inr hb)) ht (fun x hx hh => hd x hx (.inr hh))
      rw [List.set_cons_succ, show (i + 1) * 9 = cs.length + i * 9 by omega, List.take_length_add_append, show cs.length + i * 9 + 9 = cs.length + (i * 9 + 9) by omega, List.drop_append, List.append_assoc]
      rw [List.drop_eq_nil_of_le (by omega), show cs.length + (i * 9 + 9) - cs.length = i * 9 + 9 by omega, List.nil_append]
      exact TrsSp.cons (TreeSp.keep a S1 cs (fun b hb => hk b (.inl hb)) h3) h5 (fun x hx => ⟨.inl (.inl hx), fun hh => by
        rcases hh with hh | hh
        · exact (h1 x hx).2 (g4 x hh)
        · exact hd x hh (.inl hx)⟩) (fun x hx => by
        rcases hx with hh | hh
        · exact .inl (.inr hh)
        · exact .inr hh)
/-- what a call that may change the blocks of S leaves alone -/
structure Only (S : Nat → Prop) (w w' : World) : Prop where
  below : ∀ B, (∀ b, S b → B ≤ b) → B ≤ w.heap.size → Below B w w'
  block : ∀ b, b < w.heap.size → ¬ S b → w'.heap[b]? = w.heap[b]?
theorem Only.size {S : Nat → Prop} {w w' : World} (h : Only S w w') : w.heap.size ≤ w'.heap.size := (h.below 0 (fun _ _ => Nat.zero_le _) (Nat.zero_le _)).size
theorem Only.of_below {S : Nat → Prop} {w w' : World} (h : Below w.heap.size w w') : Only S w w' := ⟨fun B _ hB => h.mono hB, fun b hb _ => h.block b hb⟩
theorem Only.refl (S : Nat → Prop) (w : World) : Only S w w := Only.of_below (Below.refl _ w)
theorem Only.trans {S S' : Nat → Prop} {a b c : World} (h : Only S a b) (k : Only S' b c) (hS : ∀ x, S' x → S x ∨ a.heap.size ≤ x) : Only S a c := by
  refine ⟨fun B hB hs => (h.below B hB hs).trans (k.below B (fun x hx => ?_) (Nat.le_trans hs h.size)), fun x hx hn => ?_⟩
  · rcases hS x hx with h' | h'
    · exact hB x h'
    · omega
  · have h1 := h.size
    refine (k.block x (by omega) (fun hh => ?_)).trans (h.block x hx hn)
    rcases hS x hh with h' | h'
    · exact hn h'
    · omega
theorem Only.mono {S S' : Nat → Prop} {a b : World} (h : Only S a b) (hS : ∀ x, S x → S' x) : Only S' a b := ⟨fun B hB hs => h.below B (fun x hx => hB x (hS x hx)) hs, fun x hx hn => h.block x hx (fun hh => hn (hS x hh))⟩
theorem Only.alloc {S : Nat → Prop} {a w : World} (h : Only S a w) (o : Obj) : Only S a (w.alloc o) := h.trans (Only.of_below (S := fun _ => False) ((Below.refl _ w).alloc (Nat.le_refl _) o)) (fun x hx => hx.elim)
theorem Only.step {S : Nat → Prop} {a w w' : World} (h : Only S a w) (hb : Below w.heap.size w w') : Only S a w' := h.trans (Only.of_below (S := fun _ => False) hb) (fun x hx => hx.elim)
theorem Only.setCell {S : Nat → Prop} {a w : World} (h : Only S a w) {X j : Nat} (hX : S X ∨ a.heap.size ≤ X) (u : Value) : Only S a (w.setCell ⟨X, j, none⟩ u) := by
  refine h.trans (S' := fun x => x = X) ⟨fun B hB hs => (Below.refl B w).setCell (p := ⟨X, j, none⟩) (hB X rfl) u, fun b hb hn => Below.heap_setCell w ⟨X, j, none⟩ u b hn⟩ (fun x hx => by rw [hx]; exact hX)
theorem list_set9 (xs : List Value) (o : Nat) (h : o + 9 ≤ xs.length) (u0 u1 u2 u3 u4 u5 u6 u7 u8 : Value) :
    (((((((((xs.set o u0).set (o + 1) u1).set (o + 2) u2).set (o + 3) u3).set (o + 4) u4).set (o + 5) u5).set (o + 6) u6).set (o + 7) u7).set (o + 8) u8) = xs.take o ++ ([u0, u1, u2, u3, u4, u5, u6, u7, u8] ++ xs.drop (o + 9)) := by
  obtain ⟨l, t, rfl, rfl⟩ : ∃ l t, xs = l ++ t ∧ o = l.length := ⟨xs.take o, xs.drop o, (List.take_append_drop o xs).symm, by rw [List.length_take]; omega⟩
  have key : ∀ (s : List Value) (k : Nat) (u : Value), (l ++ s).set (l.length + k) u = l ++ s.set k u := fun s k u => by
    rw [List.set_append_right _ _ (by omega), Nat.add_sub_cancel_left]
  have key0 : ∀ (s : List Value) (u : Value), (l ++ s).set l.length u = l ++ s.set 0 u := fun s u => key s 0 u
  rw [key0, key, key, key, key, key, key, key, key, List.take_left' rfl, List.drop_append, List.drop_eq_nil_of_le (by omega), List.nil_append, Nat.add_sub_cancel_left]
  congr 1
  rw [List.length_append] at h
  match t, h with
  | a0 :: a1 :: a2 :: a3 :: a4 :: a5 :: a6 :: a7 :: a8 :: r, _ => rfl
  | [], h => exfalso; simp only [List.length_nil] at h; omega
  | [_], h => exfalso; simp only [List.length_cons, List.length_nil] at h; omega
  | [_, _], h => exfalso; simp only [List.length_cons, List.length_nil] at h; omega
  | [_, _, _], h => exfalso; simp only [List.length_cons, List.length_nil] at h; omega
  | [_, _, _, _], h => exfalso; simp only [List.length_cons, List.length_nil] at h; omega
  | [_, _, _, _, _], h => exfalso; simp only [List.length_cons, List.length_nil] at h; omega
  | [_, _, _, _, _, _], h => exfalso; simp only [List.length_cons, List.length_nil] at h; omega
  | [_, _, _, _, _, _, _], h => exfalso; simp only [List.length_cons, List.length_nil] at h; omega
  | [_, _, _, _, _, _, _, _], h => exfalso; simp only [List.length_cons, List.length_nil] at h; omega
/-- a row with the nine cells of one kid stored anew -/
theorem row_set9 {w : World} {b i : Nat} {xs : List Value} {T : TypeId} (h : w.heap[b]? = some (.cells xs.toArray T (0, 0))) (hi : i * 9 + 9 ≤ xs.length) (u0 u1 u2 u3 u4 u5 u6 u7 u8 : Value) :
    (((((((((w.setCell ⟨b, i * 9, none⟩ u0).setCell ⟨b, i * 9 + 1, none⟩ u1).setCell ⟨b, i * 9 + 2, none⟩ u2).setCell ⟨b, i * 9 + 3, none⟩ u3).setCell ⟨b, i * 9 + 4, none⟩ u4).setCell ⟨b, i * 9 + 5, none⟩ u5).setCell ⟨b, i * 9 + 6, none⟩ u6).setCell ⟨b, i * 9 + 7, none⟩ u7).setCell ⟨b, i * 9 + 8, none⟩ u8).heap[b]? = some (.cells (xs.take (i * 9) ++ ([u0, u1, u2, u3, u4, u5, u6, u7, u8] ++ xs.drop (i * 9 + 9))).toArray T (0, 0)) := by
  have one : ∀ (w : World) (ys : List Value) (j : Nat) (u : Value), w.heap[b]? = some (.cells ys.toArray T (0, 0)) → (w.setCell ⟨b, j, none⟩ u).heap[b]? = some (.cells (ys.set j u).toArray T (0, 0)) := fun w ys j u hw => by
    simp [World.setCell, Array.getElem?_modify, hw]
  have h9 := one _ _ (i * 9 + 8) u8 (one _ _ (i * 9 + 7) u7 (one _ _ (i * 9 + 6) u6 (one _ _ (i * 9 + 5) u5 (one _ _ (i * 9 + 4) u4 (one _ _ (i * 9 + 3) u3 (one _ _ (i * 9 + 2) u2 (one _ _ (i * 9 + 1) u1 (one _ _ (i * 9) u0 h))))))))
  rw [h9, list_set9 xs (i * 9) hi]
end Fm
end Go.Proofs.YtkjbfomokdjbnaaDoor

/-
  formula.PlainTerm: its tree may be changed in place.
-/
namespace Go.Proofs.YtkjbfomokdjbnaaDoor
open Go.RowKit
set_option linter.unusedSimpArgs false
set_option linter.unusedVariables false
namespace Fm
attribute [local go_sem] run_store taNum_yes taNum_no taNum_nil taName_yes taName_no taName_nil taAdd_yes taAdd_no taAdd_nil taSub_yes taSub_no taSub_nil taMul_yes taMul_no taMul_nil taNeg_yes taNeg_no taNeg_nil taPow_yes taPow_no taPow_nil

/-- a call that gives back a new tree whose rows lie apart -/
def SpPost (T : Tr) (w : World) (e : Ending) (w' : World) : Prop :=
  ∃ A1 n1 c1 A2 n2 c2, e = .returned (.agg #[.int .i64 T.h.k, .bool T.h.neg, .slice A1 n1 c1, .string T.h.name, .int .i64 T.h.exp, .int .i64 T.h.rel, .bool T.h.truth, .bool T.h.all, .slice A2 n2 c2]) ∧ TreeSp w' (Fr w w') T (hdC T.h (.slice A1 n1 c1) (.slice A2 n2 c2)) ∧ Below w.heap.size w w'
theorem set9_block (w : World) (X : Nat) (u0 u1 u2 u3 u4 u5 u6 u7 u8 : Value) (b : Nat) (h : b ≠ X) : (set9 w X u0 u1 u2 u3 u4 u5 u6 u7 u8).heap[b]? = w.heap[b]? := by
  have s : ∀ (w : World) (j : Nat) (u : Value), (w.setCell ⟨X, j, none⟩ u).heap[b]? = w.heap[b]? := fun w j u => Below.heap_setCell w ⟨X, j, none⟩ u b h
  unfold set9
  rw [s, s, s, s, s, s, s, s, s]
theorem TreeSp.set9 {w : World} {S : Nat → Prop} {t : Tr} {cs : List Value} (h : TreeSp w S t cs) {X : Nat} (hX : ¬ S X) (u0 u1 u2 u3 u4 u5 u6 u7 u8 : Value) : TreeSp (set9 w X u0 u1 u2 u3 u4 u5 u6 u7 u8) S t cs :=
  TreeSp.keep t S cs (fun b hb => set9_block w X _ _ _ _ _ _ _ _ _ b (fun e => hX (e ▸ hb))) h
theorem World.alloc_size' (w : World) (o : Obj) : (w.alloc o).heap.size = w.heap.size + 1 := by simp
theorem no_sp {w2 : World} {S : Nat → Prop} {hd : Hd} {va : Value} (ha : AbsAt w2 S va hd.abs) (hn : hd.name.size ≤ 9223372036854775807) : TreeSp w2 S (.mk hd []) (hdC hd va (.slice none 0 0)) := by
  unfold TreeSp; exact ⟨hn, by simp, .inl ⟨rfl, va, rfl, ha⟩⟩
theorem two_sp {w2 : World} {S1 S2 : Nat → Prop} {hd : Hd} {T1 T2 : Tr} {c1 c2 : List Value} (ha : hd.abs = []) (hn : hd.name.size ≤ 9223372036854775807) (h1 : TreeSp w2 S1 T1 c1) (h2 : TreeSp w2 S2 T2 c2) (hd12 : ∀ x, S1 x → ¬ S2 x)
    (hS : ∀ x, S1 x ∨ S2 x → x < w2.heap.size) (o : Obj) (ho : o = .cells (c1 ++ c2).toArray TT) :
    TreeSp (w2.alloc o) (fun x => (S1 x ∨ S2 x) ∨ x = w2.heap.size) (.mk hd [T1, T2]) (hdC hd (.slice none 0 0) (.slice (some ⟨w2.heap.size, 0, none⟩) 2 2)) := by
  subst ho
  have hb : Below w2.heap.size w2 (w2.alloc (.cells (c1 ++ c2).toArray TT)) := (Below.refl _ _).alloc (Nat.le_refl _) _
  unfold TreeSp
  refine ⟨hn, by simp, .inr ⟨by simp, ha, w2.heap.size, c1 ++ (c2 ++ []), fun x => S1 x ∨ S2 x, rfl, .inr rfl, ?_, fun x hx => ⟨.inl hx, by have := hS x hx; omega⟩, ?_⟩⟩
  · rw [List.append_nil]; exact heap_alloc_new w2 _
  · exact TrsSp.cons (h1.below (fun x hx => hS x (.inl hx)) hb) (TrsSp.cons (S2 := fun _ => False) (h2.below (fun x hx => hS x (.inr hx)) hb) TrsSp.nil (fun x hx => ⟨hx, id⟩) (fun x hx => hx.elim)) (fun x hx => ⟨.inl hx, hd12 x hx⟩) (fun x hx => .inr hx)
theorem one_sp {w2 : World} {S1 : Nat → Prop} {hd : Hd} {T1 : Tr} {c1 : List Value} (ha : hd.abs = []) (hn : hd.name.size ≤ 9223372036854775807) (h1 : TreeSp w2 S1 T1 c1)
    (hS : ∀ x, S1 x → x < w2.heap.size) (o : Obj) (ho : o = .cells c1.toArray TT) :
    TreeSp (w2.alloc o) (fun x => S1 x ∨ x = w2.heap.size) (.mk hd [T1]) (hdC hd (.slice none 0 0) (.slice (some ⟨w2.heap.size, 0, none⟩) 1 1)) := by
  subst ho
  have hb : Below w2.heap.size w2 (w2.alloc (.cells c1.toArray TT)) := (Below.refl _ _).alloc (Nat.le_refl _) _
  unfold TreeSp
  refine ⟨hn, by simp, .inr ⟨by simp, ha, w2.heap.size, c1 ++ [], S1, rfl, .inr rfl, ?_, fun x hx => ⟨.inl hx, by have := hS x hx; omega⟩, ?_⟩⟩
  · rw [List.append_nil]; exact heap_alloc_new w2 _
  · exact TrsSp.cons (S2 := fun _ => False) (h1.below hS hb) TrsSp.nil (fun x hx => ⟨hx, id⟩) (fun x hx => hx.elim)

set_option maxRecDepth 100000 in
set_option maxHeartbeats 4000000 in
theorem sp_add (l r : Tm) (vl vr : Value) (w : World) (hol : vl.oneCell' = true) (hor : vr.oneCell' = true)
    (hl : ∀ w', Below w.heap.size w w' → Calls Tryd.prog 33 #[vl] w' (SpPost (plainT l) w')) (hr : ∀ w', Below w.heap.size w w' → Calls Tryd.prog 33 #[vr] w' (SpPost (plainT r) w')) :
    Calls Tryd.prog 33 #[.iface 89 (.agg #[vl, vr])] w (SpPost (plainT (.add l r)) w) := by
  obtain ⟨W, hW⟩ : ∃ W, (w.alloc (.cells #[.int .i64 0, .bool false, .slice none 0 0, .string ⟨#[]⟩, .int .i64 0, .int .i64 0, .bool false, .bool false, .slice none 0 0] TT)).alloc (.cells #[vl, vr] 89) = W := ⟨_, rfl⟩
  obtain ⟨Tl, hTl⟩ : ∃ T, T = plainT l := ⟨_, rfl⟩
  obtain ⟨Tr', hTr⟩ : ∃ T, T = plainT r := ⟨_, rfl⟩
  have hpl : plainT (.add l r) = .mk (hd0 3) [Tl, Tr'] := by rw [hTl, hTr]; rfl
  rw [hpl]
  rw [← hTl] at hl
  rw [← hTr] at hr
  have hx : Box w W w.heap.size #[.int .i64 0, .bool false, .slice none 0 0, .string ⟨#[]⟩, .int .i64 0, .int .i64 0, .bool false, .bool false, .slice none 0 0] TT := by rw [← hW]; exact (Box.new w _ _).alloc _
  have hy : Box w W (w.heap.size + 1) #[vl, vr] 89 := by rw [← hW]; exact Box.second w _ _ _
  have hWs : W.heap.size = w.heap.size + 2 := by rw [← hW]; simp
  have HX := Lib.hid hx
  have HY := Lib.hid hy
  have HL := Lib.hid hl
  have HR := Lib.hid hr
  have HWS := Lib.hid hWs
  have HD : Below W.heap.size W W.drew := (Below.refl _ W).drew
  obtain ⟨s0, s1⟩ := hy.c2
  have hstep := Lib.hid (show ∀ wc wn, Below W.heap.size W wc → Below wc.heap.size wc wn → Below W.heap.size W wn from fun wc wn h1 h2 => h1.trans (h2.mono h1.size))
  have hcall := Lib.hid (show ∀ wc, Below W.heap.size W wc → Below w.heap.size w wc from fun wc h => hx.below.trans (h.mono (by omega)))
  clear hl hr hx hy hWs hTl hTr hpl
  go_enter Tryd.func33, Tryd.ntmps33
  go_wp2
  clear hW
  go_region_held3 (fun w' => w'.cell? ⟨w.heap.size + 1, 0, none⟩ = some vl ∧ w'.cell? ⟨w.heap.size + 1, 1, none⟩ = some vr) (go_keep)
    (first | (go_at_call_of 33 vl; refine (HL.out _ (hcall.out _ (by first | exact HD | exact hbR))).mono ?_; rintro e wL ⟨a1, a2, a3, a4, a5, a6, rfl, htL, hbl⟩; have hbL := (by first | exact hstep.out _ _ HD hbl | exact hstep.out _ _ hbR hbl); have HTL := Lib.hid htL; have HBL := Lib.hid hbl; clear htL hbl; obtain ⟨p0, p1⟩ := (HY.out.step hbL).c2; have xc := fun o => ((HX.out.step hbL).alloc o).cell; have xf := fun o => ((HX.out.step hbL).alloc o).fz) | (go_at_call_of 33 vr; refine (HR.out _ (hcall.out _ (by first | exact HD | exact hbL))).mono ?_; rintro e wR ⟨c1, c2, c3, c4, c5, c6, rfl, htR, hbr⟩; have hbR := (by first | exact hstep.out _ _ HD hbr | exact hstep.out _ _ hbL hbr); have HTR := Lib.hid htR; have HBR := Lib.hid hbr; clear htR hbr; obtain ⟨q0, q1⟩ := (HY.out.step hbR).c2; have yc := fun o => ((HX.out.step hbR).alloc o).cell; have yf := fun o => ((HX.out.step hbR).alloc o).fz))
  go_wp2
  refine bodyPost_ret (v := .agg #[.int .i64 3, .bool false, .slice none 0 0, .string ⟨#[]⟩, .int .i64 0, .int .i64 0, .bool false, .bool false, .slice (some ⟨wR.heap.size, 0, none⟩) 2 2]) (by simp [results, Tryd.results33, go_sem, yc, yf]) rfl ?_
  have hws := HWS.out
  have sL := HBL.out.size
  have sR := HBR.out.size
  have sLd : W.drew.heap.size = W.heap.size := rfl
  have hTL2 : TreeSp wR (Fr W.drew wL) Tl _ := HTL.out.below (fun b hb => hb.2) HBR.out
  have hTR2 := HTR.out
  refine ⟨none, 0, 0, some ⟨wR.heap.size, 0, none⟩, 2, 2, rfl, ?_, ?_⟩
  · have h2 := two_sp (hd := hd0 3) rfl (by decide) hTL2 hTR2 (fun x h1 h2 => by have := h1.2; have := h2.1; omega) (fun x hx => by rcases hx with hx | hx <;> (have := hx.2; omega)) _ rfl
    refine TreeSp.more (fun b hb => ⟨by rcases hb with (⟨h5, h6⟩ | ⟨h5, h6⟩) | h5 <;> omega, by rw [size_set9]; simp only [World.alloc_size']; rcases hb with (⟨h5, h6⟩ | ⟨h5, h6⟩) | h5 <;> omega⟩) (h2.set9 (X := w.heap.size) (fun hb => by rcases hb with (⟨h5, h6⟩ | ⟨h5, h6⟩) | h5 <;> omega) _ _ _ _ _ _ _ _ _)
  · exact below_set9 (((hcall.out _ hbR)).alloc (by omega) _) (Nat.le_refl _) _ _ _ _ _ _ _ _ _


set_option maxRecDepth 100000 in
set_option maxHeartbeats 4000000 in
theorem sp_sub (l r : Tm) (vl vr : Value) (w : World) (hol : vl.oneCell' = true) (hor : vr.oneCell' = true)
    (hl : ∀ w', Below w.heap.size w w' → Calls Tryd.prog 33 #[vl] w' (SpPost (plainT l) w')) (hr : ∀ w', Below w.heap.size w w' → Calls Tryd.prog 33 #[vr] w' (SpPost (plainT r) w')) :
    Calls Tryd.prog 33 #[.iface 56 (.agg #[vl, vr])] w (SpPost (plainT (.sub l r)) w) := by
  obtain ⟨W, hW⟩ : ∃ W, (w.alloc (.cells #[.int .i64 0, .bool false, .slice none 0 0, .string ⟨#[]⟩, .int .i64 0, .int .i64 0, .bool false, .bool false, .slice none 0 0] TT)).alloc (.cells #[vl, vr] 56) = W := ⟨_, rfl⟩
  obtain ⟨Tl, hTl⟩ : ∃ T, T = plainT l := ⟨_, rfl⟩
  obtain ⟨Tr', hTr⟩ : ∃ T, T = plainT r := ⟨_, rfl⟩
  have hpl : plainT (.sub l r) = .mk (hd0 4) [Tl, Tr'] := by rw [hTl, hTr]; rfl
  rw [hpl]
  rw [← hTl] at hl
  rw [← hTr] at hr
  have hx : Box w W w.heap.size #[.int .i64 0, .bool false, .slice none 0 0, .string ⟨#[]⟩, .int .i64 0, .int .i64 0, .bool false, .bool false, .slice none 0 0] TT := by rw [← hW]; exact (Box.new w _ _).alloc _
  have hy : Box w W (w.heap.size + 1) #[vl, vr] 56 := by rw [← hW]; exact Box.second w _ _ _
  have hWs : W.heap.size = w.heap.size + 2 := by rw [← hW]; simp
  have HX := Lib.hid hx
  have HY := Lib.hid hy
  have HL := Lib.hid hl
  have HR := Lib.hid hr
  have HWS := Lib.hid hWs
  have HD : Below W.heap.size W W.drew := (Below.refl _ W).drew
  obtain ⟨s0, s1⟩ := hy.c2
  have hstep := Lib.hid (show ∀ wc wn, Below W.heap.size W wc → Below wc.heap.size wc wn → Below W.heap.size W wn from fun wc wn h1 h2 => h1.trans (h2.mono h1.size))
  have hcall := Lib.hid (show ∀ wc, Below W.heap.size W wc → Below w.heap.size w wc from fun wc h => hx.below.trans (h.mono (by omega)))
  clear hl hr hx hy hWs hTl hTr hpl
  go_enter Tryd.func33, Tryd.ntmps33
  go_wp2
  clear hW
  go_region_held3 (fun w' => w'.cell? ⟨w.heap.size + 1, 0, none⟩ = some vl ∧ w'.cell? ⟨w.heap.size + 1, 1, none⟩ = some vr) (go_keep)
    (first | (go_at_call_of 33 vl; refine (HL.out _ (hcall.out _ (by first | exact HD | exact hbR))).mono ?_; rintro e wL ⟨a1, a2, a3, a4, a5, a6, rfl, htL, hbl⟩; have hbL := (by first | exact hstep.out _ _ HD hbl | exact hstep.out _ _ hbR hbl); have HTL := Lib.hid htL; have HBL := Lib.hid hbl; clear htL hbl; obtain ⟨p0, p1⟩ := (HY.out.step hbL).c2; have xc := fun o => ((HX.out.step hbL).alloc o).cell; have xf := fun o => ((HX.out.step hbL).alloc o).fz) | (go_at_call_of 33 vr; refine (HR.out _ (hcall.out _ (by first | exact HD | exact hbL))).mono ?_; rintro e wR ⟨c1, c2, c3, c4, c5, c6, rfl, htR, hbr⟩; have hbR := (by first | exact hstep.out _ _ HD hbr | exact hstep.out _ _ hbL hbr); have HTR := Lib.hid htR; have HBR := Lib.hid hbr; clear htR hbr; obtain ⟨q0, q1⟩ := (HY.out.step hbR).c2; have yc := fun o => ((HX.out.step hbR).alloc o).cell; have yf := fun o => ((HX.out.step hbR).alloc o).fz))
  go_wp2
  refine bodyPost_ret (v := .agg #[.int .i64 4, .bool false, .slice none 0 0, .string ⟨#[]⟩, .int .i64 0, .int .i64 0, .bool false, .bool false, .slice (some ⟨wR.heap.size, 0, none⟩) 2 2]) (by simp [results, Tryd.results33, go_sem, yc, yf]) rfl ?_
  have hws := HWS.out
  have sL := HBL.out.size
  have sR := HBR.out.size
  have sLd : W.drew.heap.size = W.heap.size := rfl
  have hTL2 : TreeSp wR (Fr W.drew wL) Tl _ := HTL.out.below (fun b hb => hb.2) HBR.out
  have hTR2 := HTR.out
  refine ⟨none, 0, 0, some ⟨wR.heap.size, 0, none⟩, 2, 2, rfl, ?_, ?_⟩
  · have h2 := two_sp (hd := hd0 4) rfl (by decide) hTL2 hTR2 (fun x h1 h2 => by have := h1.2; have := h2.1; omega) (fun x hx => by rcases hx with hx | hx <;> (have := hx.2; omega)) _ rfl
    refine TreeSp.more (fun b hb => ⟨by rcases hb with (⟨h5, h6⟩ | ⟨h5, h6⟩) | h5 <;> omega, by rw [size_set9]; simp only [World.alloc_size']; rcases hb with (⟨h5, h6⟩ | ⟨h5, h6⟩) | h5 <;> omega⟩) (h2.set9 (X := w.heap.size) (fun hb => by rcases hb with (⟨h5, h6⟩ | ⟨h5, h6⟩) | h5 <;> omega) _ _ _ _ _ _ _ _ _)
  · exact below_set9 (((hcall.out _ hbR)).alloc (by omega) _) (Nat.le_refl _) _ _ _ _ _ _ _ _ _


set_option maxRecDepth 100000 in
set_option maxHeartbeats 4000000 in
theorem sp_mul (l r : Tm) (vl vr : Value) (w : World) (hol : vl.oneCell' = true) (hor : vr.oneCell' = true)
    (hl : ∀ w', Below w.heap.size w w' → Calls Tryd.prog 33 #[vl] w' (SpPost (plainT l) w')) (hr : ∀ w', Below w.heap.size w w' → Calls Tryd.prog 33 #[vr] w' (SpPost (plainT r) w')) :
    Calls Tryd.prog 33 #[.iface 57 (.agg #[vl, vr])] w (SpPost (plainT (.mul l r)) w) := by
  obtain ⟨W, hW⟩ : ∃ W, (w.alloc (.cells #[.int .i64 0, .bool false, .slice none 0 0, .string ⟨#[]⟩, .int .i64 0, .int .i64 0, .bool false, .bool false, .slice none 0 0] TT)).alloc (.cells #[vl, vr] 57) = W := ⟨_, rfl⟩
  obtain ⟨Tl, hTl⟩ : ∃ T, T = plainT l := ⟨_, rfl⟩
  obtain ⟨Tr', hTr⟩ : ∃ T, T = plainT r := ⟨_, rfl⟩
  have hpl : plainT (.mul l r) = .mk (hd0 5) [Tl, Tr'] := by rw [hTl, hTr]; rfl
  rw [hpl]
  rw [← hTl] at hl
  rw [← hTr] at hr
  have hx : Box w W w.heap.size #[.int .i64 0, .bool false, .slice none 0 0, .string ⟨#[]⟩, .int .i64 0, .int .i64 0, .bool false, .bool false, .slice none 0 0] TT := by rw [← hW]; exact (Box.new w _ _).alloc _
  have hy : Box w W (w.heap.size + 1) #[vl, vr] 57 := by rw [← hW]; exact Box.second w _ _ _
  have hWs : W.heap.size = w.heap.size + 2 := by rw [← hW]; simp
  have HX := Lib.hid hx
  have HY := Lib.hid hy
  have HL := Lib.hid hl
  have HR := Lib.hid hr
  have HWS := Lib.hid hWs
  have HD : Below W.heap.size W W.drew := (Below.refl _ W).drew
  obtain ⟨s0, s1⟩ := hy.c2
  have hstep := Lib.hid (show ∀ wc wn, Below W.heap.size W wc → Below wc.heap.size wc wn → Below W.heap.size W wn from fun wc wn h1 h2 => h1.trans (h2.mono h1.size))
  have hcall := Lib.hid (show ∀ wc, Below W.heap.size W wc → Below w.heap.size w wc from fun wc h => hx.below.trans (h.mono (by omega)))
  clear hl hr hx hy hWs hTl hTr hpl
  go_enter Tryd.func33, Tryd.ntmps33
  go_wp2
  clear hW
  go_region_held3 (fun w' => w'.cell? ⟨w.heap.size + 1, 0, none⟩ = some vl ∧ w'.cell? ⟨w.heap.size + 1, 1, none⟩ = some vr) (go_keep)
    (first | (go_at_call_of 33 vl; refine (HL.out _ (hcall.out _ (by first | exact HD | exact hbR))).mono ?_; rintro e wL ⟨a1, a2, a3, a4, a5, a6, rfl, htL, hbl⟩; have hbL := (by first | exact hstep.out _ _ HD hbl | exact hstep.out _ _ hbR hbl); have HTL := Lib.hid htL; have HBL := Lib.hid hbl; clear htL hbl; obtain ⟨p0, p1⟩ := (HY.out.step hbL).c2; have xc := fun o => ((HX.out.step hbL).alloc o).cell; have xf := fun o => ((HX.out.step hbL).alloc o).fz) | (go_at_call_of 33 vr; refine (HR.out _ (hcall.out _ (by first | exact HD | exact hbL))).mono ?_; rintro e wR ⟨c1, c2, c3, c4, c5, c6, rfl, htR, hbr⟩; have hbR := (by first | exact hstep.out _ _ HD hbr | exact hstep.out _ _ hbL hbr); have HTR := Lib.hid htR; have HBR := Lib.hid hbr; clear htR hbr; obtain ⟨q0, q1⟩ := (HY.out.step hbR).c2; have yc := fun o => ((HX.out.step hbR).alloc o).cell; have yf := fun o => ((HX.out.step hbR).alloc o).fz))
  go_wp2
  refine bodyPost_ret (v := .agg #[.int .i64 5, .bool false, .slice none 0 0, .string ⟨#[]⟩, .int .i64 0, .int .i64 0, .bool false, .bool false, .slice (some ⟨wR.heap.size, 0, none⟩) 2 2]) (by simp [results, Tryd.results33, go_sem, yc, yf]) rfl ?_
  have hws := HWS.out
  have sL := HBL.out.size
  have sR := HBR.out.size
  have sLd : W.drew.heap.size = W.heap.size := rfl
  have hTL2 : TreeSp wR (Fr W.drew wL) Tl _ := HTL.out.below (fun b hb => hb.2) HBR.out
  have hTR2 := HTR.out
  refine ⟨none, 0, 0, some ⟨wR.heap.size, 0, none⟩, 2, 2, rfl, ?_, ?_⟩
  · have h2 := two_sp (hd := hd0 5) rfl (by decide) hTL2 hTR2 (fun x h1 h2 => by have := h1.2; have := h2.1; omega) (fun x hx => by rcases hx with hx | hx <;> (have := hx.2; omega)) _ rfl
    refine TreeSp.more (fun b hb => ⟨by rcases hb with (⟨h5, h6⟩ | ⟨h5, h6⟩) | h5 <;> omega, by rw [size_set9]; simp only [World.alloc_size']; rcases hb with (⟨h5, h6⟩ | ⟨h5, h6⟩) | h5 <;> omega⟩) (h2.set9 (X := w.heap.size) (fun hb => by rcases hb with (⟨h5, h6⟩ | ⟨h5, h6⟩) | h5 <;> omega) _ _ _ _ _ _ _ _ _)
  · exact below_set9 (((hcall.out _ hbR)).alloc (by omega) _) (Nat.le_refl _) _ _ _ _ _ _ _ _ _


set_option maxRecDepth 100000 in
set_option maxHeartbeats 4000000 in
theorem sp_neg (l : Tm) (vl : Value) (w : World) (hol : vl.oneCell' = true)
    (hl : ∀ w', Below w.heap.size w w' → Calls Tryd.prog 33 #[vl] w' (SpPost (plainT l) w')) :
    Calls Tryd.prog 33 #[.iface 88 (.agg #[vl])] w (SpPost (plainT (.neg l)) w) := by
  obtain ⟨W, hW⟩ : ∃ W, (w.alloc (.cells #[.int .i64 0, .bool false, .slice none 0 0, .string ⟨#[]⟩, .int .i64 0, .int .i64 0, .bool false, .bool false, .slice none 0 0] TT)).alloc (.cells #[vl] 88) = W := ⟨_, rfl⟩
  obtain ⟨Tl, hTl⟩ : ∃ T, T = plainT l := ⟨_, rfl⟩
  have hpl : plainT (.neg l) = .mk (hd0 6) [Tl] := by rw [hTl]; rfl
  rw [hpl]
  rw [← hTl] at hl
  have hx : Box w W w.heap.size #[.int .i64 0, .bool false, .slice none 0 0, .string ⟨#[]⟩, .int .i64 0, .int .i64 0, .bool false, .bool false, .slice none 0 0] TT := by rw [← hW]; exact (Box.new w _ _).alloc _
  have hy : Box w W (w.heap.size + 1) #[vl] 88 := by rw [← hW]; exact Box.second w _ _ _
  have hWs : W.heap.size = w.heap.size + 2 := by rw [← hW]; simp
  have HX := Lib.hid hx
  have HY := Lib.hid hy
  have HL := Lib.hid hl
  have HWS := Lib.hid hWs
  have HD : Below W.heap.size W W := Below.refl _ W
  have s0 : W.cell? ⟨w.heap.size + 1, 0, none⟩ = some (vl) := hy.cell 0
  have hstep := Lib.hid (show ∀ wc wn, Below W.heap.size W wc → Below wc.heap.size wc wn → Below W.heap.size W wn from fun wc wn h1 h2 => h1.trans (h2.mono h1.size))
  have hcall := Lib.hid (show ∀ wc, Below W.heap.size W wc → Below w.heap.size w wc from fun wc h => hx.below.trans (h.mono (by omega)))
  clear hl hx hy hWs hTl hpl
  go_enter Tryd.func33, Tryd.ntmps33
  go_wp2_with (go_at_call 33; refine (HL.out _ (hcall.out _ HD)).mono ?_; rintro e wL ⟨a1, a2, a3, a4, a5, a6, rfl, htL, hbl⟩; have hbL := hstep.out _ _ HD hbl; have HTL := Lib.hid htL; have HBL := Lib.hid hbl; clear htL hbl; have p0 : wL.cell? ⟨w.heap.size + 1, 0, none⟩ = some (vl) := (HY.out.step hbL).cell 0; have xc := fun o => ((HX.out.step hbL).alloc o).cell; have xf := fun o => ((HX.out.step hbL).alloc o).fz)
  clear hW
  refine bodyPost_ret (v := .agg #[.int .i64 6, .bool false, .slice none 0 0, .string ⟨#[]⟩, .int .i64 0, .int .i64 0, .bool false, .bool false, .slice (some ⟨wL.heap.size, 0, none⟩) 1 1]) (by simp [results, Tryd.results33, go_sem, xc, xf]) rfl ?_
  have hws := HWS.out
  have sL := HBL.out.size
  have sLd : W.heap.size = W.heap.size := rfl
  have hTL2 := HTL.out
  refine ⟨none, 0, 0, some ⟨wL.heap.size, 0, none⟩, 1, 1, rfl, ?_, ?_⟩
  · have h2 := one_sp (hd := hd0 6) rfl (by decide) hTL2 (fun x hx => hx.2) _ rfl
    refine TreeSp.more (fun b hb => ⟨by rcases hb with ⟨h5, h6⟩ | h5 <;> omega, by rw [size_set9]; simp only [World.alloc_size']; rcases hb with ⟨h5, h6⟩ | h5 <;> omega⟩) (h2.set9 (X := w.heap.size) (fun hb => by rcases hb with ⟨h5, h6⟩ | h5 <;> omega) _ _ _ _ _ _ _ _ _)
  · exact below_set9 (((hcall.out _ hbL)).alloc (by omega) _) (Nat.le_refl _) _ _ _ _ _ _ _ _ _


set_option maxRecDepth 100000 in
set_option maxHeartbeats 4000000 in
theorem sp_pow (e m : Int) (hm : m = max e 0) (l : Tm) (vl : Value) (w : World) (hol : vl.oneCell' = true)
    (hl : ∀ w', Below w.heap.size w w' → Calls Tryd.prog 33 #[vl] w' (SpPost (plainT l) w')) :
    Calls Tryd.prog 33 #[.iface 49 (.agg #[vl, .int .i64 e])] w (SpPost (plainT (.pow l e)) w) := by
  obtain ⟨W, hW⟩ : ∃ W, (w.alloc (.cells #[.int .i64 0, .bool false, .slice none 0 0, .string ⟨#[]⟩, .int .i64 0, .int .i64 0, .bool false, .bool false, .slice none 0 0] TT)).alloc (.cells #[vl, .int .i64 e] 49) = W := ⟨_, rfl⟩
  obtain ⟨Tl, hTl⟩ : ∃ T, T = plainT l := ⟨_, rfl⟩
  have hpl : plainT (.pow l e) = .mk ({ hd0 7 with exp := m }) [Tl] := by rw [hTl]; show Tr.mk { hd0 7 with exp := max e 0 } [plainT l] = _; rw [← hm]
  rw [hpl]
  rw [← hTl] at hl
  have hx : Box w W w.heap.size #[.int .i64 0, .bool false, .slice none 0 0, .string ⟨#[]⟩, .int .i64 0, .int .i64 0, .bool false, .bool false, .slice none 0 0] TT := by rw [← hW]; exact (Box.new w _ _).alloc _
  have hy : Box w W (w.heap.size + 1) #[vl, .int .i64 e] 49 := by rw [← hW]; exact Box.second w _ _ _
  have hWs : W.heap.size = w.heap.size + 2 := by rw [← hW]; simp
  have HX := Lib.hid hx
  have HY := Lib.hid hy
  have HL := Lib.hid hl
  have HWS := Lib.hid hWs
  have HD : Below W.heap.size W W.drew := (Below.refl _ W).drew
  have s0 : W.cell? ⟨w.heap.size + 1, 0, none⟩ = some (vl) := hy.cell 0
  have s1 : W.cell? ⟨w.heap.size + 1, 1, none⟩ = some (.int .i64 e) := hy.cell 1
  have hif : (if e < 0 then (0 : Int) else e) = m := by rw [hm]; split <;> omega
  have hstep := Lib.hid (show ∀ wc wn, Below W.heap.size W wc → Below wc.heap.size wc wn → Below W.heap.size W wn from fun wc wn h1 h2 => h1.trans (h2.mono h1.size))
  have hcall := Lib.hid (show ∀ wc, Below W.heap.size W wc → Below w.heap.size w wc from fun wc h => hx.below.trans (h.mono (by omega)))
  clear hl hx hy hWs hTl hpl hm
  go_enter Tryd.func33, Tryd.ntmps33
  go_wp2
  clear hW
  go_region_held3 (fun w' => w'.cell? ⟨w.heap.size + 1, 0, none⟩ = some (vl) ∧ w'.cell? ⟨w.heap.size + 1, 1, none⟩ = some (.int .i64 e)) (go_keep)
    (first | (go_at_call 33; refine (HL.out _ (hcall.out _ HD)).mono ?_; rintro e wL ⟨a1, a2, a3, a4, a5, a6, rfl, htL, hbl⟩; have hbL := hstep.out _ _ HD hbl; have HTL := Lib.hid htL; have HBL := Lib.hid hbl; clear htL hbl; have p0 : wL.cell? ⟨w.heap.size + 1, 0, none⟩ = some (vl) := (HY.out.step hbL).cell 0; have p1 : wL.cell? ⟨w.heap.size + 1, 1, none⟩ = some (.int .i64 e) := (HY.out.step hbL).cell 1; have xc := fun o => ((HX.out.step hbL).alloc o).cell; have xf := fun o => ((HX.out.step hbL).alloc o).fz))
  go_wp2
  all_goals
    refine bodyPost_ret (v := .agg #[.int .i64 7, .bool false, .slice none 0 0, .string ⟨#[]⟩, .int .i64 m, .int .i64 0, .bool false, .bool false, .slice (some ⟨wL.heap.size, 0, none⟩) 1 1]) (by simp [results, Tryd.results33, go_sem, xc, xf]) rfl ?_
    have hws := HWS.out
    have sL := HBL.out.size
    have sLd : W.drew.heap.size = W.heap.size := rfl
    have hTL2 := HTL.out
    refine ⟨none, 0, 0, some ⟨wL.heap.size, 0, none⟩, 1, 1, rfl, ?_, ?_⟩
    · have h2 := one_sp (hd := { hd0 7 with exp := m }) rfl (show (⟨#[]⟩ : ByteArray).size ≤ _ from by decide) hTL2 (fun x hx => hx.2) _ rfl
      refine TreeSp.more (fun b hb => ⟨by rcases hb with ⟨h5, h6⟩ | h5 <;> omega, by rw [size_set9]; simp only [World.alloc_size']; rcases hb with ⟨h5, h6⟩ | h5 <;> omega⟩) (h2.set9 (X := w.heap.size) (fun hb => by rcases hb with ⟨h5, h6⟩ | h5 <;> omega) _ _ _ _ _ _ _ _ _)
    · exact below_set9 (((hcall.out _ hbL)).alloc (by omega) _) (Nat.le_refl _) _ _ _ _ _ _ _ _ _

set_option maxRecDepth 100000 in
set_option maxHeartbeats 4000000 in
theorem sp_num (neg : Bool) (abs : List Nat) (A : Option Addr) (n c : Nat) (S : Nat → Prop) (w : World) (hS : ∀ b, S b → b < w.heap.size) (hA : AbsAt w S (.slice A n c) abs) (hl : abs.length ≤ 1000000) :
    Calls Tryd.prog 33 #[.iface 86 (.agg #[.bool neg, .slice A n c])] w (SpPost (plainT (.num neg abs)) w) := by
  obtain ⟨W, hW⟩ : ∃ W, (w.alloc (.cells #[.int .i64 0, .bool false, .slice none 0 0, .string ⟨#[]⟩, .int .i64 0, .int .i64 0, .bool false, .bool false, .slice none 0 0] TT)).alloc (.cells #[.bool neg, .slice A n c] 86) = W := ⟨_, rfl⟩
  obtain ⟨r, hr⟩ : ∃ r, r = normB neg abs := ⟨_, rfl⟩
  have hpl : plainT (.num neg abs) = .mk { hd0 1 with neg := r, abs := trimN abs } [] := by rw [hr]; rfl
  rw [hpl]
  have hx : Box w W w.heap.size #[.int .i64 0, .bool false, .slice none 0 0, .string ⟨#[]⟩, .int .i64 0, .int .i64 0, .bool false, .bool false, .slice none 0 0] TT := by rw [← hW]; exact (Box.new w _ _).alloc _
  obtain ⟨s0, s1⟩ : W.cell? ⟨w.heap.size + 1, 0, none⟩ = some (.bool neg) ∧ W.cell? ⟨w.heap.size + 1, 1, none⟩ = some (.slice A n c) := by (have hy : Box w W (w.heap.size + 1) #[.bool neg, .slice A n c] 86 := (by rw [← hW]; exact Box.second w _ _ _); exact hy.c2)
  have hWs : W.heap.size = w.heap.size + 2 := by rw [← hW]; simp
  have HX := Lib.hid hx
  have HN := Lib.hid (normal_any neg abs (.slice A n c) S W (fun b hb => by have := hS b hb; omega) (hA.below hS hx.below) hl)
  have HR := Lib.hid hr
  have HWS := Lib.hid hWs
  clear hr hpl hx hWs hA
  go_enter Tryd.func33, Tryd.ntmps33
  go_wp2_with (go_at_call 32; refine HN.out.mono ?_; intro e w3 hq; obtain ⟨A', n', c', rfl, hA', hb3⟩ := hq.named r HR.out; clear hq; have HA := Lib.hid hA'; clear hA'; have xc := (HX.out.step hb3).cell; have xf := (HX.out.step hb3).fz)
  clear hW
  refine bodyPost_ret (v := .agg #[.int .i64 1, .bool r, .slice A' n' c', .string ⟨#[]⟩, .int .i64 0, .int .i64 0, .bool false, .bool false, .slice none 0 0]) (by simp [results, Tryd.results33, go_sem, xc, xf]) rfl ?_
  have hws := HWS.out
  have s3 := hb3.size
  refine ⟨A', n', c', none, 0, 0, rfl, ?_, ?_⟩
  · have h2 : TreeSp w3 (Fd w 2 w3) (.mk { hd0 1 with neg := r, abs := trimN abs } []) (hdC { hd0 1 with neg := r, abs := trimN abs } (.slice A' n' c') (.slice none 0 0)) := no_sp (HA.out.more (fun b hb => ⟨by omega, hb.2⟩)) (show (⟨#[]⟩ : ByteArray).size ≤ _ from by decide)
    exact TreeSp.more (fun b hb => ⟨by omega, by rw [size_set9]; exact hb.2⟩) (h2.set9 (X := w.heap.size) (fun h => by have := h.1; omega) _ _ _ _ _ _ _ _ _)
  · exact below_set9 (HX.out.step hb3).below (Nat.le_refl _) _ _ _ _ _ _ _ _ _

set_option maxRecDepth 100000 in
set_option maxHeartbeats 4000000 in
theorem sp_name (s : ByteArray) (w : World) (hs : s.size ≤ 9223372036854775807) :
    Calls Tryd.prog 33 #[.iface 47 (.agg #[.string s])] w (SpPost (plainT (.name s)) w) := by
  obtain ⟨W, hW⟩ : ∃ W, (w.alloc (.cells #[.int .i64 0, .bool false, .slice none 0 0, .string ⟨#[]⟩, .int .i64 0, .int .i64 0, .bool false, .bool false, .slice none 0 0] TT)).alloc (.cells #[.string s] 47) = W := ⟨_, rfl⟩
  have hx : Box w W w.heap.size #[.int .i64 0, .bool false, .slice none 0 0, .string ⟨#[]⟩, .int .i64 0, .int .i64 0, .bool false, .bool false, .slice none 0 0] TT := by rw [← hW]; exact (Box.new w _ _).alloc _
  have s0 : W.cell? ⟨w.heap.size + 1, 0, none⟩ = some (.string s) := by (have hy : Box w W (w.heap.size + 1) #[.string s] 47 := (by rw [← hW]; exact Box.second w _ _ _); exact hy.cell 0)
  have hWs : W.heap.size = w.heap.size + 2 := by rw [← hW]; simp
  have HX := Lib.hid hx
  have xc := hx.cell
  have xf := hx.fz
  clear hx hWs
  go_enter Tryd.func33, Tryd.ntmps33
  go_wp2
  clear hW
  refine bodyPost_ret (v := .agg #[.int .i64 2, .bool false, .slice none 0 0, .string s, .int .i64 0, .int .i64 0, .bool false, .bool false, .slice none 0 0]) (by simp [results, Tryd.results33, go_sem, xc, xf]) rfl ?_
  refine ⟨none, 0, 0, none, 0, 0, rfl, ?_, ?_⟩
  · have h2 : TreeSp W (fun _ => False) (.mk { hd0 2 with name := s } []) (hdC { hd0 2 with name := s } (.slice none 0 0) (.slice none 0 0)) := no_sp AbsAt.empty hs
    exact TreeSp.more (fun b hb => False.elim hb) (h2.set9 (X := w.heap.size) (fun h => h) _ _ _ _ _ _ _ _ _)
  · exact below_set9 HX.out.below (Nat.le_refl _) _ _ _ _ _ _ _ _ _

set_option maxRecDepth 100000 in
set_option maxHeartbeats 4000000 in
theorem sp_odd (v : Value) (w : World) (h : OddV v) : Calls Tryd.prog 33 #[v] w (SpPost (plainT .odd) w) := by
  obtain ⟨W, hW⟩ : ∃ W, w.alloc (.cells #[.int .i64 0, .bool false, .slice none 0 0, .string ⟨#[]⟩, .int .i64 0, .int .i64 0, .bool false, .bool false, .slice none 0 0] TT) = W := ⟨_, rfl⟩
  have hx : Box w W w.heap.size #[.int .i64 0, .bool false, .slice none 0 0, .string ⟨#[]⟩, .int .i64 0, .int .i64 0, .bool false, .bool false, .slice none 0 0] TT := by rw [← hW]; exact Box.new w _ _
  have HX := Lib.hid hx
  have xc := hx.cell
  have xf := hx.fz
  clear hx
  have fin : ∀ v0 : Value, v0 = .agg #[.int .i64 1, .bool false, .slice none 0 0, .string ⟨#[]⟩, .int .i64 0, .int .i64 0, .bool false, .bool false, .slice none 0 0] → SpPost (plainT .odd) w (.returned v0) (set9 W w.heap.size (.int .i64 1) (.bool false) (.slice none 0 0) (.string ⟨#[]⟩) (.int .i64 0) (.int .i64 0) (.bool false) (.bool false) (.slice none 0 0)) := by
    rintro v0 rfl
    refine ⟨none, 0, 0, none, 0, 0, rfl, ?_, below_set9 HX.out.below (Nat.le_refl _) _ _ _ _ _ _ _ _ _⟩
    have h2 : TreeSp W (fun _ => False) (.mk (hd0 1) []) (hdC (hd0 1) (.slice none 0 0) (.slice none 0 0)) := no_sp AbsAt.empty (by decide)
    exact TreeSp.more (fun b hb => False.elim hb) (h2.set9 (X := w.heap.size) (fun h => h) _ _ _ _ _ _ _ _ _)
  have Fin := Lib.hid fin
  clear fin
  rcases h with rfl | ⟨u, a, rfl, hu⟩
  · go_enter Tryd.func33, Tryd.ntmps33
    go_wp2
    clear hW
    exact bodyPost_ret (v := .agg #[.int .i64 1, .bool false, .slice none 0 0, .string ⟨#[]⟩, .int .i64 0, .int .i64 0, .bool false, .bool false, .slice none 0 0]) (by simp [results, Tryd.results33, go_sem, xc, xf]) rfl (Fin.out _ rfl)
  · simp only [List.mem_cons, List.not_mem_nil, or_false, not_or] at hu
    obtain ⟨u1, u2, u3, u4, u5, u6, u7, _⟩ := hu
    go_enter Tryd.func33, Tryd.ntmps33
    go_wp2
    clear hW
    exact bodyPost_ret (v := .agg #[.int .i64 1, .bool false, .slice none 0 0, .string ⟨#[]⟩, .int .i64 0, .int .i64 0, .bool false, .bool false, .slice none 0 0]) (by simp [results, Tryd.results33, go_sem, xc, xf]) rfl (Fin.out _ rfl)

theorem spTerm_any : ∀ (t : Tm) (v : Value) (S : Nat → Prop) (w : World), (∀ b, S b → b < w.heap.size) → TmAt w S t v → SmT t → Calls Tryd.prog 33 #[v] w (SpPost (plainT t) w) := by
  intro t
  induction t with
  | odd => intro v S w hS h hs; exact sp_odd v w h
  | num neg abs => rintro v S w hS ⟨A, n, c, rfl, hA⟩ hs; exact sp_num neg abs A n c S w hS hA hs
  | name s => rintro v S w hS ⟨rfl, hl⟩ hs; exact sp_name s w hl
  | add l r il ir =>
    rintro v S w hS ⟨vl, vr, rfl, h1, h2⟩ hs
    exact sp_add l r vl vr w h1.one h2.one (fun w' hb => il vl S w' (fun b hb' => Nat.lt_of_lt_of_le (hS b hb') hb.size) (h1.below hS hb) hs.1) (fun w' hb => ir vr S w' (fun b hb' => Nat.lt_of_lt_of_le (hS b hb') hb.size) (h2.below hS hb) hs.2)
  | sub l r il ir =>
    rintro v S w hS ⟨vl, vr, rfl, h1, h2⟩ hs
    exact sp_sub l r vl vr w h1.one h2.one (fun w' hb => il vl S w' (fun b hb' => Nat.lt_of_lt_of_le (hS b hb') hb.size) (h1.below hS hb) hs.1) (fun w' hb => ir vr S w' (fun b hb' => Nat.lt_of_lt_of_le (hS b hb') hb.size) (h2.below hS hb) hs.2)
  | mul l r il ir =>
    rintro v S w hS ⟨vl, vr, rfl, h1, h2⟩ hs
    exact sp_mul l r vl vr w h1.one h2.one (fun w' hb => il vl S w' (fun b hb' => Nat.lt_of_lt_of_le (hS b hb') hb.size) (h1.below hS hb) hs.1) (fun w' hb => ir vr S w' (fun b hb' => Nat.lt_of_lt_of_le (hS b hb') hb.size) (h2.below hS hb) hs.2)
  | neg t it =>
    rintro v S w hS ⟨vt, rfl, h1⟩ hs
    exact sp_neg t vt w h1.one (fun w' hb => it vt S w' (fun b hb' => Nat.lt_of_lt_of_le (hS b hb') hb.size) (h1.below hS hb) hs)
  | pow t e it =>
    rintro v S w hS ⟨vt, rfl, h1⟩ hs
    exact sp_pow e _ rfl t vt w h1.one (fun w' hb => it vt S w' (fun b hb' => Nat.lt_of_lt_of_le (hS b hb') hb.size) (h1.below hS hb) hs)

end Fm
end Go.Proofs.YtkjbfomokdjbnaaDoor

/-
  formula.Plain: its tree may be changed in place.
-/
namespace Go.Proofs.YtkjbfomokdjbnaaDoor
open Go.RowKit
set_option linter.unusedSimpArgs false
set_option linter.unusedVariables false
namespace Fm
attribute [local go_sem] run_store taTruth_yes taTruth_no taTruth_nil taAtom_yes taAtom_no taAtom_nil taNot_yes taNot_no taNot_nil taAnd_yes taAnd_no taAnd_nil taOr_yes taOr_no taOr_nil taImplies_yes taImplies_no taImplies_nil taIff_yes taIff_no taIff_nil taQuant_yes taQuant_no taQuant_nil
set_option maxRecDepth 100000 in
set_option maxHeartbeats 4000000 in
theorem spF_and (l r : Fo) (vl vr : Value) (w : World) (hol : vl.oneCell' = true) (hor : vr.oneCell' = true)
    (hl : ∀ w', Below w.heap.size w w' → Calls Tryd.prog 16 #[vl] w' (SpPost (plainF l) w')) (hr : ∀ w', Below w.heap.size w w' → Calls Tryd.prog 16 #[vr] w' (SpPost (plainF r) w')) :
    Calls Tryd.prog 16 #[.iface 53 (.agg #[vl, vr])] w (SpPost (plainF (.and l r)) w) := by
  obtain ⟨W, hW⟩ : ∃ W, (w.alloc (.cells #[.int .i64 0, .bool false, .slice none 0 0, .string ⟨#[]⟩, .int .i64 0, .int .i64 0, .bool false, .bool false, .slice none 0 0] TT)).alloc (.cells #[vl, vr] 53) = W := ⟨_, rfl⟩
  obtain ⟨Tl, hTl⟩ : ∃ T, T = plainF l := ⟨_, rfl⟩
  obtain ⟨Tr', hTr⟩ : ∃ T, T = plainF r := ⟨_, rfl⟩
  have hpl : plainF (.and l r) = .mk (hd0 11) [Tl, Tr'] := by rw [hTl, hTr]; rfl
  rw [hpl]
  rw [← hTl] at hl
  rw [← hTr] at hr
  have hx : Box w W w.heap.size #[.int .i64 0, .bool false, .slice none 0 0, .string ⟨#[]⟩, .int .i64 0, .int .i64 0, .bool false, .bool false, .slice none 0 0] TT := by rw [← hW]; exact (Box.new w _ _).alloc _
  have hy : Box w W (w.heap.size + 1) #[vl, vr] 53 := by rw [← hW]; exact Box.second w _ _ _
  have hWs : W.heap.size = w.heap.size + 2 := by rw [← hW]; simp
  have HX := Lib.hid hx
  have HY := Lib.hid hy
  have HL := Lib.hid hl
  have HR := Lib.hid hr
  have HWS := Lib.hid hWs
  have HD : Below W.heap.size W W.drew := (Below.refl _ W).drew
  obtain ⟨s0, s1⟩ := hy.c2
  have hstep := Lib.hid (show ∀ wc wn, Below W.heap.size W wc → Below wc.heap.size wc wn → Below W.heap.size W wn from fun wc wn h1 h2 => h1.trans (h2.mono h1.size))
  have hcall := Lib.hid (show ∀ wc, Below W.heap.size W wc → Below w.heap.size w wc from fun wc h => hx.below.trans (h.mono (by omega)))
  clear hl hr hx hy hWs hTl hTr hpl
  go_enter Tryd.func16, Tryd.ntmps16
  go_wp2
  clear hW
  go_region_held3 (fun w' => w'.cell? ⟨w.heap.size + 1, 0, none⟩ = some vl ∧ w'.cell? ⟨w.heap.size + 1, 1, none⟩ = some vr) (go_keep)
    (first | (go_at_call_of 16 vl; refine (HL.out _ (hcall.out _ (by first | exact HD | exact hbR))).mono ?_; rintro e wL ⟨a1, a2, a3, a4, a5, a6, rfl, htL, hbl⟩; have hbL := (by first | exact hstep.out _ _ HD hbl | exact hstep.out _ _ hbR hbl); have HTL := Lib.hid htL; have HBL := Lib.hid hbl; clear htL hbl; obtain ⟨p0, p1⟩ := (HY.out.step hbL).c2; have xc := fun o => ((HX.out.step hbL).alloc o).cell; have xf := fun o => ((HX.out.step hbL).alloc o).fz) | (go_at_call_of 16 vr; refine (HR.out _ (hcall.out _ (by first | exact HD | exact hbL))).mono ?_; rintro e wR ⟨c1, c2, c3, c4, c5, c6, rfl, htR, hbr⟩; have hbR := (by first | exact hstep.out _ _ HD hbr | exact hstep.out _ _ hbL hbr); have HTR := Lib.hid htR; have HBR := Lib.hid hbr; clear htR hbr; obtain ⟨q0, q1⟩ := (HY.out.step hbR).c2; have yc := fun o => ((HX.out.step hbR).alloc o).cell; have yf := fun o => ((HX.out.step hbR).alloc o).fz))
  go_wp2
  refine bodyPost_ret (v := .agg #[.int .i64 11, .bool false, .slice none 0 0, .string ⟨#[]⟩, .int .i64 0, .int .i64 0, .bool false, .bool false, .slice (some ⟨wR.heap.size, 0, none⟩) 2 2]) (by simp [results, Tryd.results16, go_sem, yc, yf]) rfl ?_
  have hws := HWS.out
  have sL := HBL.out.size
  have sR := HBR.out.size
  have sLd : W.drew.heap.size = W.heap.size := rfl
  have hTL2 : TreeSp wR (Fr W.drew wL) Tl _ := HTL.out.below (fun b hb => hb.2) HBR.out
  have hTR2 := HTR.out
  refine ⟨none, 0, 0, some ⟨wR.heap.size, 0, none⟩, 2, 2, rfl, ?_, ?_⟩
  · have h2 := two_sp (hd := hd0 11) rfl (by decide) hTL2 hTR2 (fun x h1 h2 => by have := h1.2; have := h2.1; omega) (fun x hx => by rcases hx with hx | hx <;> (have := hx.2; omega)) _ rfl
    refine TreeSp.more (fun b hb => ⟨by rcases hb with (⟨h5, h6⟩ | ⟨h5, h6⟩) | h5 <;> omega, by rw [size_set9]; simp only [World.alloc_size']; rcases hb with (⟨h5, h6⟩ | ⟨h5, h6⟩) | h5 <;> omega⟩) (h2.set9 (X := w.heap.size) (fun hb => by rcases hb with (⟨h5, h6⟩ | ⟨h5, h6⟩) | h5 <;> omega) _ _ _ _ _ _ _ _ _)
  · exact below_set9 (((hcall.out _ hbR)).alloc (by omega) _) (Nat.le_refl _) _ _ _ _ _ _ _ _ _


set_option maxRecDepth 100000 in
set_option maxHeartbeats 4000000 in
theorem spF_or (l r : Fo) (vl vr : Value) (w : World) (hol : vl.oneCell' = true) (hor : vr.oneCell' = true)
    (hl : ∀ w', Below w.heap.size w w' → Calls Tryd.prog 16 #[vl] w' (SpPost (plainF l) w')) (hr : ∀ w', Below w.heap.size w w' → Calls Tryd.prog 16 #[vr] w' (SpPost (plainF r) w')) :
    Calls Tryd.prog 16 #[.iface 94 (.agg #[vl, vr])] w (SpPost (plainF (.or l r)) w) := by
  obtain ⟨W, hW⟩ : ∃ W, (w.alloc (.cells #[.int .i64 0, .bool false, .slice none 0 0, .string ⟨#[]⟩, .int .i64 0, .int .i64 0, .bool false, .bool false, .slice none 0 0] TT)).alloc (.cells #[vl, vr] 94) = W := ⟨_, rfl⟩
  obtain ⟨Tl, hTl⟩ : ∃ T, T = plainF l := ⟨_, rfl⟩
  obtain ⟨Tr', hTr⟩ : ∃ T, T = plainF r := ⟨_, rfl⟩
  have hpl : plainF (.or l r) = .mk (hd0 12) [Tl, Tr'] := by rw [hTl, hTr]; rfl
  rw [hpl]
  rw [← hTl] at hl
  rw [← hTr] at hr
  have hx : Box w W w.heap.size #[.int .i64 0, .bool false, .slice none 0 0, .string ⟨#[]⟩, .int .i64 0, .int .i64 0, .bool false, .bool false, .slice none 0 0] TT := by rw [← hW]; exact (Box.new w _ _).alloc _
  have hy : Box w W (w.heap.size + 1) #[vl, vr] 94 := by rw [← hW]; exact Box.second w _ _ _
  have hWs : W.heap.size = w.heap.size + 2 := by rw [← hW]; simp
  have HX := Lib.hid hx
  have HY := Lib.hid hy
  have HL := Lib.hid hl
  have HR := Lib.hid hr
  have HWS := Lib.hid hWs
  have HD : Below W.heap.size W W.drew := (Below.refl _ W).drew
  obtain ⟨s0, s1⟩ := hy.c2
  have hstep := Lib.hid (show ∀ wc wn, Below W.heap.size W wc → Below wc.heap.size wc wn → Below W.heap.size W wn from fun wc wn h1 h2 => h1.trans (h2.mono h1.size))
  have hcall := Lib.hid (show ∀ wc, Below W.heap.size W wc → Below w.heap.size w wc from fun wc h => hx.below.trans (h.mono (by omega)))
  clear hl hr hx hy hWs hTl hTr hpl
  go_enter Tryd.func16, Tryd.ntmps16
  go_wp2
  clear hW
  go_region_held3 (fun w' => w'.cell? ⟨w.heap.size + 1, 0, none⟩ = some vl ∧ w'.cell? ⟨w.heap.size + 1, 1, none⟩ = some vr) (go_keep)
    (first | (go_at_call_of 16 vl; refine (HL.out _ (hcall.out _ (by first | exact HD | exact hbR))).mono ?_; rintro e wL ⟨a1, a2, a3, a4, a5, a6, rfl, htL, hbl⟩; have hbL := (by first | exact hstep.out _ _ HD hbl | exact hstep.out _ _ hbR hbl); have HTL := Lib.hid htL; have HBL := Lib.hid hbl; clear htL hbl; obtain ⟨p0, p1⟩ := (HY.out.step hbL).c2; have xc := fun o => ((HX.out.step hbL).alloc o).cell; have xf := fun o => ((HX.out.step hbL).alloc o).fz) | (go_at_call_of 16 vr; refine (HR.out _ (hcall.out _ (by first | exact HD | exact hbL))).mono ?_; rintro e wR ⟨c1, c2, c3, c4, c5, c6, rfl, htR, hbr⟩; have hbR := (by first | exact hstep.out _ _ HD hbr | exact hstep.out _ _ hbL hbr); have HTR := Lib.hid htR; have HBR := Lib.hid hbr; clear htR hbr; obtain ⟨q0, q1⟩ := (HY.out.step hbR).c2; have yc := fun o => ((HX.out.step hbR).alloc o).cell; have yf := fun o => ((HX.out.step hbR).alloc o).fz))
  go_wp2
  refine bodyPost_ret (v := .agg #[.int .i64 12, .bool false, .slice none 0 0, .string ⟨#[]⟩, .int .i64 0, .int .i64 0, .bool false, .bool false, .slice (some ⟨wR.heap.size, 0, none⟩) 2 2]) (by simp [results, Tryd.results16, go_sem, yc, yf]) rfl ?_
  have hws := HWS.out
  have sL := HBL.out.size
  have sR := HBR.out.size
  have sLd : W.drew.heap.size = W.heap.size := rfl
  have hTL2 : TreeSp wR (Fr W.drew wL) Tl _ := HTL.out.below (fun b hb => hb.2) HBR.out
  have hTR2 := HTR.out
  refine ⟨none, 0, 0, some ⟨wR.heap.size, 0, none⟩, 2, 2, rfl, ?_, ?_⟩
  · have h2 := two_sp (hd := hd0 12) rfl (by decide) hTL2 hTR2 (fun x h1 h2 => by have := h1.2; have := h2.1; omega) (fun x hx => by rcases hx with hx | hx <;> (have := hx.2; omega)) _ rfl
    refine TreeSp.more (fun b hb => ⟨by rcases hb with (⟨h5, h6⟩ | ⟨h5, h6⟩) | h5 <;> omega, by rw [size_set9]; simp only [World.alloc_size']; rcases hb with (⟨h5, h6⟩ | ⟨h5, h6⟩) | h5 <;> omega⟩) (h2.set9 (X := w.heap.size) (fun hb => by rcases hb with (⟨h5, h6⟩ | ⟨h5, h6⟩) | h5 <;> omega) _ _ _ _ _ _ _ _ _)
  · exact below_set9 (((hcall.out _ hbR)).alloc (by omega) _) (Nat.le_refl _) _ _ _ _ _ _ _ _ _


set_option maxRecDepth 100000 in
set_option maxHeartbeats 4000000 in
theorem spF_implies (l r : Fo) (vl vr : Value) (w : World) (hol : vl.oneCell' = true) (hor : vr.oneCell' = true)
    (hl : ∀ w', Below w.heap.size w w' → Calls Tryd.prog 16 #[vl] w' (SpPost (plainF l) w')) (hr : ∀ w', Below w.heap.size w w' → Calls Tryd.prog 16 #[vr] w' (SpPost (plainF r) w')) :
    Calls Tryd.prog 16 #[.iface 95 (.agg #[vl, vr])] w (SpPost (plainF (.implies l r)) w) := by
  obtain ⟨W, hW⟩ : ∃ W, (w.alloc (.cells #[.int .i64 0, .bool false, .slice none 0 0, .string ⟨#[]⟩, .int .i64 0, .int .i64 0, .bool false, .bool false, .slice none 0 0] TT)).alloc (.cells #[vl, vr] 95) = W := ⟨_, rfl⟩
  obtain ⟨Tl, hTl⟩ : ∃ T, T = plainF l := ⟨_, rfl⟩
  obtain ⟨Tr', hTr⟩ : ∃ T, T = plainF r := ⟨_, rfl⟩
  have hpl : plainF (.implies l r) = .mk (hd0 13) [Tl, Tr'] := by rw [hTl, hTr]; rfl
  rw [hpl]
  rw [← hTl] at hl
  rw [← hTr] at hr
  have hx : Box w W w.heap.size #[.int .i64 0, .bool false, .slice none 0 0, .string ⟨#[]⟩, .int .i64 0, .int .i64 0, .bool false, .bool false, .slice none 0 0] TT := by rw [← hW]; exact (Box.new w _ _).alloc _
  have hy : Box w W (w.heap.size + 1) #[vl, vr] 95 := by rw [← hW]; exact Box.second w _ _ _
  have hWs : W.heap.size = w.heap.size + 2 := by rw [← hW]; simp
  have HX := Lib.hid hx
  have HY := Lib.hid hy
  have HL := Lib.hid hl
  have HR := Lib.hid hr
  have HWS := Lib.hid hWs
  have HD : Below W.heap.size W W.drew := (Below.refl _ W).drew
  obtain ⟨s0, s1⟩ := hy.c2
  have hstep := Lib.hid (show ∀ wc wn, Below W.heap.size W wc → Below wc.heap.size wc wn → Below W.heap.size W wn from fun wc wn h1 h2 => h1.trans (h2.mono h1.size))
  have hcall := Lib.hid (show ∀ wc, Below W.heap.size W wc → Below w.heap.size w wc from fun wc h => hx.below.trans (h.mono (by omega)))
  clear hl hr hx hy hWs hTl hTr hpl
  go_enter Tryd.func16, Tryd.ntmps16
  go_wp2
  clear hW
  go_region_held3 (fun w' => w'.cell? ⟨w.heap.size + 1, 0, none⟩ = some vl ∧ w'.cell? ⟨w.heap.size + 1, 1, none⟩ = some vr) (go_keep)
    (first | (go_at_call_of 16 vl; refine (HL.out _ (hcall.out _ (by first | exact HD | exact hbR))).mono ?_; rintro e wL ⟨a1, a2, a3, a4, a5, a6, rfl, htL, hbl⟩; have hbL := (by first | exact hstep.out _ _ HD hbl | exact hstep.out _ _ hbR hbl); have HTL := Lib.hid htL; have HBL := Lib.hid hbl; clear htL hbl; obtain ⟨p0, p1⟩ := (HY.out.step hbL).c2; have xc := fun o => ((HX.out.step hbL).alloc o).cell; have xf := fun o => ((HX.out.step hbL).alloc o).fz) | (go_at_call_of 16 vr; refine (HR.out _ (hcall.out _ (by first | exact HD | exact hbL))).mono ?_; rintro e wR ⟨c1, c2, c3, c4, c5, c6, rfl, htR, hbr⟩; have hbR := (by first | exact hstep.out _ _ HD hbr | exact hstep.out _ _ hbL hbr); have HTR := Lib.hid htR; have HBR := Lib.hid hbr; clear htR hbr; obtain ⟨q0, q1⟩ := (HY.out.step hbR).c2; have yc := fun o => ((HX.out.step hbR).alloc o).cell; have yf := fun o => ((HX.out.step hbR).alloc o).fz))
  go_wp2
  refine bodyPost_ret (v := .agg #[.int .i64 13, .bool false, .slice none 0 0, .string ⟨#[]⟩, .int .i64 0, .int .i64 0, .bool false, .bool false, .slice (some ⟨wR.heap.size, 0, none⟩) 2 2]) (by simp [results, Tryd.results16, go_sem, yc, yf]) rfl ?_
  have hws := HWS.out
  have sL := HBL.out.size
  have sR := HBR.out.size
  have sLd : W.drew.heap.size = W.heap.size := rfl
  have hTL2 : TreeSp wR (Fr W.drew wL) Tl _ := HTL.out.below (fun b hb => hb.2) HBR.out
  have hTR2 := HTR.out
  refine ⟨none, 0, 0, some ⟨wR.heap.size, 0, none⟩, 2, 2, rfl, ?_, ?_⟩
  · have h2 := two_sp (hd := hd0 13) rfl (by decide) hTL2 hTR2 (fun x h1 h2 => by have := h1.2; have := h2.1; omega) (fun x hx => by rcases hx with hx | hx <;> (have := hx.2; omega)) _ rfl
    refine TreeSp.more (fun b hb => ⟨by rcases hb with (⟨h5, h6⟩ | ⟨h5, h6⟩) | h5 <;> omega, by rw [size_set9]; simp only [World.alloc_size']; rcases hb with (⟨h5, h6⟩ | ⟨h5, h6⟩) | h5 <;> omega⟩) (h2.set9 (X := w.heap.size) (fun hb => by rcases hb with (⟨h5, h6⟩ | ⟨h5, h6⟩) | h5 <;> omega) _ _ _ _ _ _ _ _ _)
  · exact below_set9 (((hcall.out _ hbR)).alloc (by omega) _) (Nat.le_refl _) _ _ _ _ _ _ _ _ _


set_option maxRecDepth 100000 in
set_option maxHeartbeats 4000000 in
theorem spF_iff (l r : Fo) (vl vr : Value) (w : World) (hol : vl.oneCell' = true) (hor : vr.oneCell' = true)
    (hl : ∀ w', Below w.heap.size w w' → Calls Tryd.prog 16 #[vl] w' (SpPost (plainF l) w')) (hr : ∀ w', Below w.heap.size w w' → Calls Tryd.prog 16 #[vr] w' (SpPost (plainF r) w')) :
    Calls Tryd.prog 16 #[.iface 96 (.agg #[vl, vr])] w (SpPost (plainF (.iff l r)) w) := by
  obtain ⟨W, hW⟩ : ∃ W, (w.alloc (.cells #[.int .i64 0, .bool false, .slice none 0 0, .string ⟨#[]⟩, .int .i64 0, .int .i64 0, .bool false, .bool false, .slice none 0 0] TT)).alloc (.cells #[vl, vr] 96) = W := ⟨_, rfl⟩
  obtain ⟨Tl, hTl⟩ : ∃ T, T = plainF l := ⟨_, rfl⟩
  obtain ⟨Tr', hTr⟩ : ∃ T, T = plainF r := ⟨_, rfl⟩
  have hpl : plainF (.iff l r) = .mk (hd0 14) [Tl, Tr'] := by rw [hTl, hTr]; rfl
  rw [hpl]
  rw [← hTl] at hl
  rw [← hTr] at hr
  have hx : Box w W w.heap.size #[.int .i64 0, .bool false, .slice none 0 0, .string ⟨#[]⟩, .int .i64 0, .int .i64 0, .bool false, .bool false, .slice none 0 0] TT := by rw [← hW]; exact (Box.new w _ _).alloc _
  have hy : Box w W (w.heap.size + 1) #[vl, vr] 96 := by rw [← hW]; exact Box.second w _ _ _
  have hWs : W.heap.size = w.heap.size + 2 := by rw [← hW]; simp
  have HX := Lib.hid hx
  have HY := Lib.hid hy
  have HL := Lib.hid hl
  have HR := Lib.hid hr
  have HWS := Lib.hid hWs
  have HD : Below W.heap.size W W.drew := (Below.refl _ W).drew
  obtain ⟨s0, s1⟩ := hy.c2
  have hstep := Lib.hid (show ∀ wc wn, Below W.heap.size W wc → Below wc.heap.size wc wn → Below W.heap.size W wn from fun wc wn h1 h2 => h1.trans (h2.mono h1.size))
  have hcall := Lib.hid (show ∀ wc, Below W.heap.size W wc → Below w.heap.size w wc from fun wc h => hx.below.trans (h.mono (by omega)))
  clear hl hr hx hy hWs hTl hTr hpl
  go_enter Tryd.func16, Tryd.ntmps16
  go_wp2
  clear hW
  go_region_held3 (fun w' => w'.cell? ⟨w.heap.size + 1, 0, none⟩ = some vl ∧ w'.cell? ⟨w.heap.size + 1, 1, none⟩ = some vr) (go_keep)
    (first | (go_at_call_of 16 vl; refine (HL.out _ (hcall.out _ (by first | exact HD | exact hbR))).mono ?_; rintro e wL ⟨a1, a2, a3, a4, a5, a6, rfl, htL, hbl⟩; have hbL := (by first | exact hstep.out _ _ HD hbl | exact hstep.out _ _ hbR hbl); have HTL := Lib.hid htL; have HBL := Lib.hid hbl; clear htL hbl; obtain ⟨p0, p1⟩ := (HY.out.step hbL).c2; have xc := fun o => ((HX.out.step hbL).alloc o).cell; have xf := fun o => ((HX.out.step hbL).alloc o).fz) | (go_at_call_of 16 vr; refine (HR.out _ (hcall.out _ (by first | exact HD | exact hbL))).mono ?_; rintro e wR ⟨c1, c2, c3, c4, c5, c6, rfl, htR, hbr⟩; have hbR := (by first | exact hstep.out _ _ HD hbr | exact hstep.out _ _ hbL hbr); have HTR := Lib.hid htR; have HBR := Lib.hid hbr; clear htR hbr; obtain ⟨q0, q1⟩ := (HY.out.step hbR).c2; have yc := fun o => ((HX.out.step hbR).alloc o).cell; have yf := fun o => ((HX.out.step hbR).alloc o).fz))
  go_wp2
  refine bodyPost_ret (v := .agg #[.int .i64 14, .bool false, .slice none 0 0, .string ⟨#[]⟩, .int .i64 0, .int .i64 0, .bool false, .bool false, .slice (some ⟨wR.heap.size, 0, none⟩) 2 2]) (by simp [results, Tryd.results16, go_sem, yc, yf]) rfl ?_
  have hws := HWS.out
  have sL := HBL.out.size
  have sR := HBR.out.size
  have sLd : W.drew.heap.size = W.heap.size := rfl
  have hTL2 : TreeSp wR (Fr W.drew wL) Tl _ := HTL.out.below (fun b hb => hb.2) HBR.out
  have hTR2 := HTR.out
  refine ⟨none, 0, 0, some ⟨wR.heap.size, 0, none⟩, 2, 2, rfl, ?_, ?_⟩
  · have h2 := two_sp (hd := hd0 14) rfl (by decide) hTL2 hTR2 (fun x h1 h2 => by have := h1.2; have := h2.1; omega) (fun x hx => by rcases hx with hx | hx <;> (have := hx.2; omega)) _ rfl
    refine TreeSp.more (fun b hb => ⟨by rcases hb with (⟨h5, h6⟩ | ⟨h5, h6⟩) | h5 <;> omega, by rw [size_set9]; simp only [World.alloc_size']; rcases hb with (⟨h5, h6⟩ | ⟨h5, h6⟩) | h5 <;> omega⟩) (h2.set9 (X := w.heap.size) (fun hb => by rcases hb with (⟨h5, h6⟩ | ⟨h5, h6⟩) | h5 <;> omega) _ _ _ _ _ _ _ _ _)
  · exact below_set9 (((hcall.out _ hbR)).alloc (by omega) _) (Nat.le_refl _) _ _ _ _ _ _ _ _ _


set_option maxRecDepth 100000 in
set_option maxHeartbeats 4000000 in
theorem spF_not (l : Fo) (vl : Value) (w : World) (hol : vl.oneCell' = true)
    (hl : ∀ w', Below w.heap.size w w' → Calls Tryd.prog 16 #[vl] w' (SpPost (plainF l) w')) :
    Calls Tryd.prog 16 #[.iface 68 (.agg #[vl])] w (SpPost (plainF (.not l)) w) := by
  obtain ⟨W, hW⟩ : ∃ W, (w.alloc (.cells #[.int .i64 0, .bool false, .slice none 0 0, .string ⟨#[]⟩, .int .i64 0, .int .i64 0, .bool false, .bool false, .slice none 0 0] TT)).alloc (.cells #[vl] 68) = W := ⟨_, rfl⟩
  obtain ⟨Tl, hTl⟩ : ∃ T, T = plainF l := ⟨_, rfl⟩
  have hpl : plainF (.not l) = .mk (hd0 10) [Tl] := by rw [hTl]; rfl
  rw [hpl]
  rw [← hTl] at hl
  have hx : Box w W w.heap.size #[.int .i64 0, .bool false, .slice none 0 0, .string ⟨#[]⟩, .int .i64 0, .int .i64 0, .bool false, .bool false, .slice none 0 0] TT := by rw [← hW]; exact (Box.new w _ _).alloc _
  have hy : Box w W (w.heap.size + 1) #[vl] 68 := by rw [← hW]; exact Box.second w _ _ _
  have hWs : W.heap.size = w.heap.size + 2 := by rw [← hW]; simp
  have HX := Lib.hid hx
  have HY := Lib.hid hy
  have HL := Lib.hid hl
  have HWS := Lib.hid hWs
  have HD : Below W.heap.size W W := Below.refl _ W
  have s0 : W.cell? ⟨w.heap.size + 1, 0, none⟩ = some (vl) := hy.cell 0
  have hstep := Lib.hid (show ∀ wc wn, Below W.heap.size W wc → Below wc.heap.size wc wn → Below W.heap.size W wn from fun wc wn h1 h2 => h1.trans (h2.mono h1.size))
  have hcall := Lib.hid (show ∀ wc, Below W.heap.size W wc → Below w.heap.size w wc from fun wc h => hx.below.trans (h.mono (by omega)))
  clear hl hx hy hWs hTl hpl
  go_enter Tryd.func16, Tryd.ntmps16
  go_wp2_with (go_at_call 16; refine (HL.out _ (hcall.out _ HD)).mono ?_; rintro e wL ⟨a1, a2, a3, a4, a5, a6, rfl, htL, hbl⟩; have hbL := hstep.out _ _ HD hbl; have HTL := Lib.hid htL; have HBL := Lib.hid hbl; clear htL hbl; have p0 : wL.cell? ⟨w.heap.size + 1, 0, none⟩ = some (vl) := (HY.out.step hbL).cell 0; have xc := fun o => ((HX.out.step hbL).alloc o).cell; have xf := fun o => ((HX.out.step hbL).alloc o).fz)
  clear hW
  refine bodyPost_ret (v := .agg #[.int .i64 10, .bool false, .slice none 0 0, .string ⟨#[]⟩, .int .i64 0, .int .i64 0, .bool false, .bool false, .slice (some ⟨wL.heap.size, 0, none⟩) 1 1]) (by simp [results, Tryd.results16, go_sem, xc, xf]) rfl ?_
  have hws := HWS.out
  have sL := HBL.out.size
  have sLd : W.heap.size = W.heap.size := rfl
  have hTL2 := HTL.out
  refine ⟨none, 0, 0, some ⟨wL.heap.size, 0, none⟩, 1, 1, rfl, ?_, ?_⟩
  · have h2 := one_sp (hd := hd0 10) rfl (by decide) hTL2 (fun x hx => hx.2) _ rfl
    refine TreeSp.more (fun b hb => ⟨by rcases hb with ⟨h5, h6⟩ | h5 <;> omega, by rw [size_set9]; simp only [World.alloc_size']; rcases hb with ⟨h5, h6⟩ | h5 <;> omega⟩) (h2.set9 (X := w.heap.size) (fun hb => by rcases hb with ⟨h5, h6⟩ | h5 <;> omega) _ _ _ _ _ _ _ _ _)
  · exact below_set9 (((hcall.out _ hbL)).alloc (by omega) _) (Nat.le_refl _) _ _ _ _ _ _ _ _ _


set_option maxRecDepth 100000 in
set_option maxHeartbeats 4000000 in
theorem spF_quant (b : Bool) (nm : ByteArray) (hnm : nm.size ≤ 9223372036854775807) (l : Fo) (vl : Value) (w : World) (hol : vl.oneCell' = true)
    (hl : ∀ w', Below w.heap.size w w' → Calls Tryd.prog 16 #[vl] w' (SpPost (plainF l) w')) :
    Calls Tryd.prog 16 #[.iface 98 (.agg #[.bool b, .string nm, vl])] w (SpPost (plainF (.quant b nm l)) w) := by
  obtain ⟨W, hW⟩ : ∃ W, (w.alloc (.cells #[.int .i64 0, .bool false, .slice none 0 0, .string ⟨#[]⟩, .int .i64 0, .int .i64 0, .bool false, .bool false, .slice none 0 0] TT)).alloc (.cells #[.bool b, .string nm, vl] 98) = W := ⟨_, rfl⟩
  obtain ⟨Tl, hTl⟩ : ∃ T, T = plainF l := ⟨_, rfl⟩
  have hpl : plainF (.quant b nm l) = .mk ({ hd0 15 with all := b, name := nm }) [Tl] := by rw [hTl]; rfl
  rw [hpl]
  rw [← hTl] at hl
  have hx : Box w W w.heap.size #[.int .i64 0, .bool false, .slice none 0 0, .string ⟨#[]⟩, .int .i64 0, .int .i64 0, .bool false, .bool false, .slice none 0 0] TT := by rw [← hW]; exact (Box.new w _ _).alloc _
  have hy : Box w W (w.heap.size + 1) #[.bool b, .string nm, vl] 98 := by rw [← hW]; exact Box.second w _ _ _
  have hWs : W.heap.size = w.heap.size + 2 := by rw [← hW]; simp
  have HX := Lib.hid hx
  have HY := Lib.hid hy
  have HL := Lib.hid hl
  have HWS := Lib.hid hWs
  have HD : Below W.heap.size W W.drew := (Below.refl _ W).drew
  have s0 : W.cell? ⟨w.heap.size + 1, 0, none⟩ = some (.bool b) := hy.cell 0
  have s1 : W.cell? ⟨w.heap.size + 1, 1, none⟩ = some (.string nm) := hy.cell 1
  have s2 : W.cell? ⟨w.heap.size + 1, 2, none⟩ = some (vl) := hy.cell 2
  have hstep := Lib.hid (show ∀ wc wn, Below W.heap.size W wc → Below wc.heap.size wc wn → Below W.heap.size W wn from fun wc wn h1 h2 => h1.trans (h2.mono h1.size))
  have hcall := Lib.hid (show ∀ wc, Below W.heap.size W wc → Below w.heap.size w wc from fun wc h => hx.below.trans (h.mono (by omega)))
  clear hl hx hy hWs hTl hpl
  go_enter Tryd.func16, Tryd.ntmps16
  go_wp2
  clear hW
  go_region_held3 (fun w' => w'.cell? ⟨w.heap.size + 1, 0, none⟩ = some (.bool b) ∧ w'.cell? ⟨w.heap.size + 1, 1, none⟩ = some (.string nm) ∧ w'.cell? ⟨w.heap.size + 1, 2, none⟩ = some (vl)) (go_keep)
    (first | (go_at_call 16; refine (HL.out _ (hcall.out _ HD)).mono ?_; rintro e wL ⟨a1, a2, a3, a4, a5, a6, rfl, htL, hbl⟩; have hbL := hstep.out _ _ HD hbl; have HTL := Lib.hid htL; have HBL := Lib.hid hbl; clear htL hbl; have p0 : wL.cell? ⟨w.heap.size + 1, 0, none⟩ = some (.bool b) := (HY.out.step hbL).cell 0; have p1 : wL.cell? ⟨w.heap.size + 1, 1, none⟩ = some (.string nm) := (HY.out.step hbL).cell 1; have p2 : wL.cell? ⟨w.heap.size + 1, 2, none⟩ = some (vl) := (HY.out.step hbL).cell 2; have xc := fun o => ((HX.out.step hbL).alloc o).cell; have xf := fun o => ((HX.out.step hbL).alloc o).fz))
  go_wp2
  all_goals
    refine bodyPost_ret (v := .agg #[.int .i64 15, .bool false, .slice none 0 0, .string nm, .int .i64 0, .int .i64 0, .bool false, .bool b, .slice (some ⟨wL.heap.size, 0, none⟩) 1 1]) (by simp [results, Tryd.results16, go_sem, xc, xf]) rfl ?_
    have hws := HWS.out
    have sL := HBL.out.size
    have sLd : W.drew.heap.size = W.heap.size := rfl
    have hTL2 := HTL.out
    refine ⟨none, 0, 0, some ⟨wL.heap.size, 0, none⟩, 1, 1, rfl, ?_, ?_⟩
    · have h2 := one_sp (hd := { hd0 15 with all := b, name := nm }) rfl hnm hTL2 (fun x hx => hx.2) _ rfl
      refine TreeSp.more (fun b hb => ⟨by rcases hb with ⟨h5, h6⟩ | h5 <;> omega, by rw [size_set9]; simp only [World.alloc_size']; rcases hb with ⟨h5, h6⟩ | h5 <;> omega⟩) (h2.set9 (X := w.heap.size) (fun hb => by rcases hb with ⟨h5, h6⟩ | h5 <;> omega) _ _ _ _ _ _ _ _ _)
    · exact below_set9 (((hcall.out _ hbL)).alloc (by omega) _) (Nat.le_refl _) _ _ _ _ _ _ _ _ _


set_option maxRecDepth 100000 in
set_option maxHeartbeats 4000000 in
theorem spF_atom (l r : Tm) (rel q : Int) (hq : q = relR rel) (vl vr : Value) (w : World) (hol : vl.oneCell' = true) (hor : vr.oneCell' = true)
    (hl : ∀ w', Below w.heap.size w w' → Calls Tryd.prog 33 #[vl] w' (SpPost (plainT l) w')) (hr : ∀ w', Below w.heap.size w w' → Calls Tryd.prog 33 #[vr] w' (SpPost (plainT r) w')) :
    Calls Tryd.prog 16 #[.iface 51 (.agg #[vl, .int .i64 rel, vr])] w (SpPost (plainF (.atom l rel r)) w) := by
  obtain ⟨W, hW⟩ : ∃ W, (w.alloc (.cells #[.int .i64 0, .bool false, .slice none 0 0, .string ⟨#[]⟩, .int .i64 0, .int .i64 0, .bool false, .bool false, .slice none 0 0] TT)).alloc (.cells #[vl, .int .i64 rel, vr] 51) = W := ⟨_, rfl⟩
  obtain ⟨Tl, hTl⟩ : ∃ T, T = plainT l := ⟨_, rfl⟩
  obtain ⟨Tr', hTr⟩ : ∃ T, T = plainT r := ⟨_, rfl⟩
  have hpl : plainF (.atom l rel r) = .mk { hd0 9 with rel := q } [Tl, Tr'] := by rw [hTl, hTr, hq]; rfl
  rw [hpl]
  rw [← hTl] at hl
  rw [← hTr] at hr
  have hx : Box w W w.heap.size #[.int .i64 0, .bool false, .slice none 0 0, .string ⟨#[]⟩, .int .i64 0, .int .i64 0, .bool false, .bool false, .slice none 0 0] TT := by rw [← hW]; exact (Box.new w _ _).alloc _
  have hy : Box w W (w.heap.size + 1) #[vl, .int .i64 rel, vr] 51 := by rw [← hW]; exact Box.second w _ _ _
  have hWs : W.heap.size = w.heap.size + 2 := by rw [← hW]; simp
  have HX := Lib.hid hx
  have HY := Lib.hid hy
  have HL := Lib.hid hl
  have HR := Lib.hid hr
  have HWS := Lib.hid hWs
  have HD : Below W.heap.size W W.drew := (Below.refl _ W).drew
  have s0 : W.cell? ⟨w.heap.size + 1, 0, none⟩ = some vl := hy.cell 0
  have s1 : W.cell? ⟨w.heap.size + 1, 1, none⟩ = some (.int .i64 rel) := hy.cell 1
  have s2 : W.cell? ⟨w.heap.size + 1, 2, none⟩ = some vr := hy.cell 2
  have HQ := Lib.hid hq
  have hstep := Lib.hid (show ∀ wc wn, Below W.heap.size W wc → Below wc.heap.size wc wn → Below W.heap.size W wn from fun wc wn h1 h2 => h1.trans (h2.mono h1.size))
  have hcall := Lib.hid (show ∀ wc, Below W.heap.size W wc → Below w.heap.size w wc from fun wc h => hx.below.trans (h.mono (by omega)))
  clear hl hr hx hy hWs hTl hTr hpl hq
  go_enter Tryd.func16, Tryd.ntmps16
  go_wp2
  clear hW
  go_region_held3 (fun w' => w'.cell? ⟨w.heap.size + 1, 0, none⟩ = some vl ∧ w'.cell? ⟨w.heap.size + 1, 1, none⟩ = some (.int .i64 rel) ∧ w'.cell? ⟨w.heap.size + 1, 2, none⟩ = some vr) (go_keep)
    (first | (go_at_call 37; refine (relation_any rel q _ HQ.out).mono ?_; rintro e w' ⟨rfl, rfl⟩) | (go_at_call_of 33 vl; refine (HL.out _ (hcall.out _ (by first | exact HD | exact hbR))).mono ?_; rintro e wL ⟨a1, a2, a3, a4, a5, a6, rfl, htL, hbl⟩; have hbL := (by first | exact hstep.out _ _ HD hbl | exact hstep.out _ _ hbR hbl); have HTL := Lib.hid htL; have HBL := Lib.hid hbl; clear htL hbl; have p0 : wL.cell? ⟨w.heap.size + 1, 0, none⟩ = some vl := (HY.out.step hbL).cell 0; have p1 : wL.cell? ⟨w.heap.size + 1, 1, none⟩ = some (.int .i64 rel) := (HY.out.step hbL).cell 1; have p2 : wL.cell? ⟨w.heap.size + 1, 2, none⟩ = some vr := (HY.out.step hbL).cell 2; have xc := fun o => ((HX.out.step hbL).alloc o).cell; have xf := fun o => ((HX.out.step hbL).alloc o).fz) | (go_at_call_of 33 vr; refine (HR.out _ (hcall.out _ (by first | exact HD | exact hbL))).mono ?_; rintro e wR ⟨c1, c2, c3, c4, c5, c6, rfl, htR, hbr⟩; have hbR := (by first | exact hstep.out _ _ HD hbr | exact hstep.out _ _ hbL hbr); have HTR := Lib.hid htR; have HBR := Lib.hid hbr; clear htR hbr; have q0 : wR.cell? ⟨w.heap.size + 1, 0, none⟩ = some vl := (HY.out.step hbR).cell 0; have q1 : wR.cell? ⟨w.heap.size + 1, 1, none⟩ = some (.int .i64 rel) := (HY.out.step hbR).cell 1; have q2 : wR.cell? ⟨w.heap.size + 1, 2, none⟩ = some vr := (HY.out.step hbR).cell 2; have yc := fun o => ((HX.out.step hbR).alloc o).cell; have yf := fun o => ((HX.out.step hbR).alloc o).fz))
  go_wp2
  refine bodyPost_ret (v := .agg #[.int .i64 9, .bool false, .slice none 0 0, .string ⟨#[]⟩, .int .i64 0, .int .i64 q, .bool false, .bool false, .slice (some ⟨wR.heap.size, 0, none⟩) 2 2]) (by simp [results, Tryd.results16, go_sem, yc, yf]) rfl ?_
  have hws := HWS.out
  have sL := HBL.out.size
  have sR := HBR.out.size
  have sLd : W.drew.heap.size = W.heap.size := rfl
  have hTL2 : TreeSp wR (Fr W.drew wL) Tl _ := HTL.out.below (fun b hb => hb.2) HBR.out
  have hTR2 := HTR.out
  refine ⟨none, 0, 0, some ⟨wR.heap.size, 0, none⟩, 2, 2, rfl, ?_, ?_⟩
  · have h2 := two_sp (hd := { hd0 9 with rel := q }) rfl (show (⟨#[]⟩ : ByteArray).size ≤ _ from by decide) hTL2 hTR2 (fun x h1 h2 => by have := h1.2; have := h2.1; omega) (fun x hx => by rcases hx with hx | hx <;> (have := hx.2; omega)) _ rfl
    refine TreeSp.more (fun b hb => ⟨by rcases hb with (⟨h5, h6⟩ | ⟨h5, h6⟩) | h5 <;> omega, by rw [size_set9]; simp only [World.alloc_size']; rcases hb with (⟨h5, h6⟩ | ⟨h5, h6⟩) | h5 <;> omega⟩) (h2.set9 (X := w.heap.size) (fun hb => by rcases hb with (⟨h5, h6⟩ | ⟨h5, h6⟩) | h5 <;> omega) _ _ _ _ _ _ _ _ _)
  · exact below_set9 (((hcall.out _ hbR)).alloc (by omega) _) (Nat.le_refl _) _ _ _ _ _ _ _ _ _


set_option maxRecDepth 100000 in
set_option maxHeartbeats 4000000 in
theorem spF_truth (b : Bool) (w : World) :
    Calls Tryd.prog 16 #[.iface 71 (.agg #[.bool b])] w (SpPost (plainF (.truth b)) w) := by
  obtain ⟨W, hW⟩ : ∃ W, (w.alloc (.cells #[.int .i64 0, .bool false, .slice none 0 0, .string ⟨#[]⟩, .int .i64 0, .int .i64 0, .bool false, .bool false, .slice none 0 0] TT)).alloc (.cells #[.bool b] 71) = W := ⟨_, rfl⟩
  have hx : Box w W w.heap.size #[.int .i64 0, .bool false, .slice none 0 0, .string ⟨#[]⟩, .int .i64 0, .int .i64 0, .bool false, .bool false, .slice none 0 0] TT := by rw [← hW]; exact (Box.new w _ _).alloc _
  have s0 : W.cell? ⟨w.heap.size + 1, 0, none⟩ = some (.bool b) := by (have hy : Box w W (w.heap.size + 1) #[.bool b] 71 := (by rw [← hW]; exact Box.second w _ _ _); exact hy.cell 0)
  have HX := Lib.hid hx
  have xc := hx.cell
  have xf := hx.fz
  clear hx
  go_enter Tryd.func16, Tryd.ntmps16
  go_wp2
  clear hW
  refine bodyPost_ret (v := .agg #[.int .i64 8, .bool false, .slice none 0 0, .string ⟨#[]⟩, .int .i64 0, .int .i64 0, .bool b, .bool false, .slice none 0 0]) (by simp [results, Tryd.results16, go_sem, xc, xf]) rfl ?_
  refine ⟨none, 0, 0, none, 0, 0, rfl, ?_, ?_⟩
  · have h2 : TreeSp W (fun _ => False) (.mk { hd0 8 with truth := b } []) (hdC { hd0 8 with truth := b } (.slice none 0 0) (.slice none 0 0)) := no_sp AbsAt.empty (show (⟨#[]⟩ : ByteArray).size ≤ _ from by decide)
    exact TreeSp.more (fun b hb => False.elim hb) (h2.set9 (X := w.heap.size) (fun h => h) _ _ _ _ _ _ _ _ _)
  · exact below_set9 HX.out.below (Nat.le_refl _) _ _ _ _ _ _ _ _ _

set_option maxRecDepth 100000 in
set_option maxHeartbeats 4000000 in
theorem spF_odd (v : Value) (w : World) (h : OddV v) : Calls Tryd.prog 16 #[v] w (SpPost (plainF .odd) w) := by
  obtain ⟨W, hW⟩ : ∃ W, w.alloc (.cells #[.int .i64 0, .bool false, .slice none 0 0, .string ⟨#[]⟩, .int .i64 0, .int .i64 0, .bool false, .bool false, .slice none 0 0] TT) = W := ⟨_, rfl⟩
  have hx : Box w W w.heap.size #[.int .i64 0, .bool false, .slice none 0 0, .string ⟨#[]⟩, .int .i64 0, .int .i64 0, .bool false, .bool false, .slice none 0 0] TT := by rw [← hW]; exact Box.new w _ _
  have HX := Lib.hid hx
  have xc := hx.cell
  have xf := hx.fz
  clear hx
  have fin : ∀ v0 : Value, v0 = .agg #[.int .i64 8, .bool false, .slice none 0 0, .string ⟨#[]⟩, .int .i64 0, .int .i64 0, .bool false, .bool false, .slice none 0 0] → SpPost (plainF .odd) w (.returned v0) (set9 W w.heap.size (.int .i64 8) (.bool false) (.slice none 0 0) (.string ⟨#[]⟩) (.int .i64 0) (.int .i64 0) (.bool false) (.bool false) (.slice none 0 0)) := by
    rintro v0 rfl
    refine ⟨none, 0, 0, none, 0, 0, rfl, ?_, below_set9 HX.out.below (Nat.le_refl _) _ _ _ _ _ _ _ _ _⟩
    have h2 : TreeSp W (fun _ => False) (.mk (hd0 8) []) (hdC (hd0 8) (.slice none 0 0) (.slice none 0 0)) := no_sp AbsAt.empty (by decide)
    exact TreeSp.more (fun b hb => False.elim hb) (h2.set9 (X := w.heap.size) (fun h => h) _ _ _ _ _ _ _ _ _)
  have Fin := Lib.hid fin
  clear fin
  rcases h with rfl | ⟨u, a, rfl, hu⟩
  · go_enter Tryd.func16, Tryd.ntmps16
    go_wp2
    clear hW
    exact bodyPost_ret (v := .agg #[.int .i64 8, .bool false, .slice none 0 0, .string ⟨#[]⟩, .int .i64 0, .int .i64 0, .bool false, .bool false, .slice none 0 0]) (by simp [results, Tryd.results16, go_sem, xc, xf]) rfl (Fin.out _ rfl)
  · simp only [List.mem_cons, List.not_mem_nil, or_false, not_or] at hu
    obtain ⟨_, _, _, _, _, _, _, u1, u2, u3, u4, u5, u6, u7, u8⟩ := hu
    go_enter Tryd.func16, Tryd.ntmps16
    go_wp2
    clear hW
    exact bodyPost_ret (v := .agg #[.int .i64 8, .bool false, .slice none 0 0, .string ⟨#[]⟩, .int .i64 0, .int .i64 0, .bool false, .bool false, .slice none 0 0]) (by simp [results, Tryd.results16, go_sem, xc, xf]) rfl (Fin.out _ rfl)

theorem sp_any : ∀ (t : Fo) (v : Value) (S : Nat → Prop) (w : World), (∀ b, S b → b < w.heap.size) → FoAt w S t v → SmF t → Calls Tryd.prog 16 #[v] w (SpPost (plainF t) w) := by
  intro t
  induction t with
  | odd => intro v S w hS h hs; exact spF_odd v w h
  | truth b => intro v S w hS h hs; cases h; exact spF_truth b w
  | atom l rel r =>
    rintro v S w hS ⟨vl, vr, rfl, h1, h2⟩ hs
    exact spF_atom l r rel _ rfl vl vr w h1.one h2.one (fun w' hb => spTerm_any l vl S w' (fun b hb' => Nat.lt_of_lt_of_le (hS b hb') hb.size) (h1.below hS hb) hs.1) (fun w' hb => spTerm_any r vr S w' (fun b hb' => Nat.lt_of_lt_of_le (hS b hb') hb.size) (h2.below hS hb) hs.2)

  | and l r il ir =>
    rintro v S w hS ⟨vl, vr, rfl, h1, h2⟩ hs
    exact spF_and l r vl vr w h1.one h2.one (fun w' hb => il vl S w' (fun b hb' => Nat.lt_of_lt_of_le (hS b hb') hb.size) (h1.below hS hb) hs.1) (fun w' hb => ir vr S w' (fun b hb' => Nat.lt_of_lt_of_le (hS b hb') hb.size) (h2.below hS hb) hs.2)
  | or l r il ir =>
    rintro v S w hS ⟨vl, vr, rfl, h1, h2⟩ hs
    exact spF_or l r vl vr w h1.one h2.one (fun w' hb => il vl S w' (fun b hb' => Nat.lt_of_lt_of_le (hS b hb') hb.size) (h1.below hS hb) hs.1) (fun w' hb => ir vr S w' (fun b hb' => Nat.lt_of_lt_of_le (hS b hb') hb.size) (h2.below hS hb) hs.2)
  | implies l r il ir =>
    rintro v S w hS ⟨vl, vr, rfl, h1, h2⟩ hs
    exact spF_implies l r vl vr w h1.one h2.one (fun w' hb => il vl S w' (fun b hb' => Nat.lt_of_lt_of_le (hS b hb') hb.size) (h1.below hS hb) hs.1) (fun w' hb => ir vr S w' (fun b hb' => Nat.lt_of_lt_of_le (hS b hb') hb.size) (h2.below hS hb) hs.2)
  | iff l r il ir =>
    rintro v S w hS ⟨vl, vr, rfl, h1, h2⟩ hs
    exact spF_iff l r vl vr w h1.one h2.one (fun w' hb => il vl S w' (fun b hb' => Nat.lt_of_lt_of_le (hS b hb') hb.size) (h1.below hS hb) hs.1) (fun w' hb => ir vr S w' (fun b hb' => Nat.lt_of_lt_of_le (hS b hb') hb.size) (h2.below hS hb) hs.2)
  | not f it =>
    rintro v S w hS ⟨vt, rfl, h1⟩ hs
    exact spF_not f vt w h1.one (fun w' hb => it vt S w' (fun b hb' => Nat.lt_of_lt_of_le (hS b hb') hb.size) (h1.below hS hb) hs)
  | quant all nm f it =>
    rintro v S w hS ⟨vt, rfl, hn, h1⟩ hs
    exact spF_quant all nm hn f vt w h1.one (fun w' hb => it vt S w' (fun b hb' => Nat.lt_of_lt_of_le (hS b hb') hb.size) (h1.below hS hb) hs)
end Fm
end Go.Proofs.YtkjbfomokdjbnaaDoor
