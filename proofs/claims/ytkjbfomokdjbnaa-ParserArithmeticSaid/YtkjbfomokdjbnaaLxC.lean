/-
  The walk of lexer.Lex: for every string shorter than 2^47: the tokens as a row of the call's own, or the first error with its offset.
-/
import Derived.Test.YtkjbfomokdjbnaaLxB
import Derived.Test.YtkjbfomokdjbnaaMem
namespace Go.Proofs.Ytkjbfomokdjbnaa
open Go.RowKit Lx
set_option linter.unusedSimpArgs false
set_option linter.unusedVariables false

def tokC (t : Tok) : List Value := [.int .i64 t.kind, .string (bs t.text), .int .i64 t.pos]
def tokCells (l : List Tok) : List Value := l.flatMap tokC
theorem tokCells_snoc (l : List Tok) (t : Tok) : tokCells (l ++ [t]) = tokCells l ++ tokC t := by simp [tokCells]
theorem tokCells_len (l : List Tok) : (tokCells l).length = l.length * 3 := by
  induction l with
  | nil => rfl
  | cons t l ih => simp only [tokCells, List.flatMap_cons, List.length_append, List.length_cons] at *; rw [ih]; simp [tokC]; omega
theorem tokC_one (t : Tok) : ∀ u ∈ tokC t, u.oneCell' = true := by
  intro u hu
  simp only [tokC, List.mem_cons, List.not_mem_nil, or_false] at hu
  rcases hu with rfl | rfl | rfl <;> rfl

theorem infoTok : (Try.prog.info? 101).map (fun i => (i.zero, i.size, i.bytes)) = some (some (.agg #[.int .i64 0, .string ⟨#[]⟩, .int .i64 0]), 3, 32) := by kernel_rfl

/-- what Lex leaves -/
def LexPost (s : ByteArray) (w : World) (e : Ending) (w' : World) : Prop :=
  ∃ v toks p er, e = .returned (.tuple #[v, .int .i64 ((p : Nat) : Int), .int .i64 ((er : Nat) : Int)]) ∧ lex s.data.toList = (toks, p, er) ∧ w'.ownsRow w.heap.size 101 3 v toks.length (tokCells toks) ∧ Below w.heap.size w w'

theorem lexPost_long (s : ByteArray) (w : World) (h : 4000 < s.size) : LexPost s w (.returned (.tuple #[.slice none 0 0, .int .i64 4000, .int .i64 8])) w :=
  ⟨_, [], 4000, 8, rfl, by unfold lex; rw [if_pos (by rw [size_len]; exact h)], World.ownsRow_nil _ _ _ _, Below.refl _ _⟩
theorem lexPost_err (s : ByteArray) (w w' : World) (hs : s.size ≤ 4000) (i e : Nat) (toks : List Tok) (hb : before s.data.toList = (toks, i, e)) (he : e ≠ 0) (hbel : Below w.heap.size w w') :
    LexPost s w (.returned (.tuple #[.slice none 0 0, .int .i64 i, .int .i64 e])) w' :=
  ⟨_, [], i, e, rfl, by unfold lex; rw [if_neg (by rw [size_len]; omega), hb, if_neg he], World.ownsRow_nil _ _ _ _, hbel⟩
theorem lexPost_ok (s : ByteArray) (w w' : World) (hs : s.size ≤ 4000) (v : Value) (toks : List Tok) (hb : before s.data.toList = (toks, 0, 0)) (hown : w'.ownsRow w.heap.size 101 3 v toks.length (tokCells toks)) (hbel : Below w.heap.size w w') :
    LexPost s w (.returned (.tuple #[v, .int .i64 0, .int .i64 0])) w' :=
  ⟨_, toks, 0, 0, rfl, by unfold lex; rw [if_neg (by rw [size_len]; omega), hb, if_pos rfl], hown, hbel⟩

theorem skip_at (s : ByteArray) (a : Int) (w : World) (k R : Nat) (ha : a = (k : Int)) (hs : s.size ≤ 140737488351232) (hk : k ≤ s.size) (hR : R = k + run bl (s.data.toList.drop k)) :
    Calls Try.prog 25 #[.string s, .int .i64 a] w fun e w' => e = .returned (.int .i64 (R : Int)) ∧ w = w' := by
  subst ha; subst hR; exact skip_any s w hs k hk

/-- the rest at i, lexed, behind the tokens that have been gathered -/
def LexRel (s : ByteArray) (i : Nat) (toks : List Tok) : Prop :=
  before s.data.toList = (toks ++ (lexA i (s.data.toList.drop i)).1, (lexA i (s.data.toList.drop i)).2)

theorem lexRel_start (s : ByteArray) : LexRel s (0 + run bl (s.data.toList.drop 0)) [] := by
  unfold LexRel
  rw [List.drop_zero, Nat.zero_add, before_eq, List.nil_append]
theorem lexRel_ok (s : ByteArray) (i : Nat) (toks : List Tok) (hi : i < s.size) (kd n : Nat) (h : next (s.data.toList.drop i) = (kd, n, 0)) (hr : LexRel s i toks) :
    LexRel s (i + n + run bl (s.data.toList.drop (i + n))) (toks ++ [⟨kd, (s.data.toList.drop i).take n, i⟩]) := by
  unfold LexRel at *
  have hne : s.data.toList.drop i ≠ [] := by rw [drop_cons s i hi]; simp
  rw [hr, lexA_ok i _ hne (by rw [h]), h, List.drop_drop, List.drop_drop, List.append_assoc]
  rfl
theorem lexRel_err (s : ByteArray) (i : Nat) (toks : List Tok) (hi : i < s.size) (e : Nat) (he : e ≠ 0) (h : next (s.data.toList.drop i) = (0, 0, e)) (hr : LexRel s i toks) :
    before s.data.toList = (toks, i, e) := by
  unfold LexRel at *
  have hne : s.data.toList.drop i ≠ [] := by rw [drop_cons s i hi]; simp
  rw [hr, lexA_err i _ hne (by rw [h]; exact he), h, List.append_nil]
theorem lexRel_end (s : ByteArray) (i : Nat) (toks : List Tok) (hi : s.size ≤ i) (hr : LexRel s i toks) : before s.data.toList = (toks, 0, 0) := by
  unfold LexRel at *
  have e : s.data.toList.drop i = [] := List.drop_eq_nil_of_le (by rw [size_len]; exact hi)
  rw [hr, e, lexA_nil, List.append_nil]

/-- next at a place, with its answer laid open -/
theorem next_at (s : ByteArray) (hs : s.size ≤ 140737488351232) (i : Nat) (hi : i < s.size) :
    (∃ (kd : Nat) (tx : ByteArray), 1 ≤ tx.size ∧ i + tx.size ≤ s.size ∧ next (s.data.toList.drop i) = (kd, tx.size, 0) ∧ tx = bs ((s.data.toList.drop i).take tx.size) ∧
      ∀ W, Calls Try.prog 26 #[.string s, .int .i64 (i : Int)] W fun e w' => e = .returned (.tuple #[.agg #[.int .i64 kd, .string tx, .int .i64 i], .int .i64 0]) ∧ Below W.heap.size W w') ∨
    (∃ er : Nat, er ≠ 0 ∧ next (s.data.toList.drop i) = (0, 0, er) ∧
      ∀ W, Calls Try.prog 26 #[.string s, .int .i64 (i : Int)] W fun e w' => e = .returned (.tuple #[.agg #[.int .i64 0, .string (bs []), .int .i64 0], .int .i64 er]) ∧ Below W.heap.size W w') := by
  by_cases h : (next (s.data.toList.drop i)).2.2 = 0
  · obtain ⟨h1, h2, _⟩ := next_ok _ h
    rw [List.length_drop, size_len] at h2
    have hsz : (bs ((s.data.toList.drop i).take (next (s.data.toList.drop i)).2.1)).size = (next (s.data.toList.drop i)).2.1 := by
      rw [bs_size, List.length_take, List.length_drop, size_len]; omega
    refine .inl ⟨(next (s.data.toList.drop i)).1, bs ((s.data.toList.drop i).take (next (s.data.toList.drop i)).2.1), by omega, by omega, ?_, by rw [hsz], fun W => ?_⟩
    · rw [hsz, ← h]
    · have := next_any s W hs i hi
      unfold nextV at this
      rw [if_pos h] at this
      exact this
  · have he : next (s.data.toList.drop i) = (0, 0, (next (s.data.toList.drop i)).2.2) := by
      have : ∀ r, (next r).2.2 ≠ 0 → next r = (0, 0, (next r).2.2) := by
        intro r
        match r with
        | [] => intro _; rfl
        | c :: x =>
          unfold next
          dsimp only
          split
          · split
            · intro _; rfl
            · split
              · intro _; rfl
              · intro hh; exact absurd rfl hh
          · split
            · split
              · intro _; rfl
              · intro hh; exact absurd rfl hh
            · split
              · intro hh; exact absurd rfl hh
              · intro _; rfl
      exact this _ h
    refine .inr ⟨(next (s.data.toList.drop i)).2.2, h, he, fun W => ?_⟩
    have := next_any s W hs i hi
    unfold nextV at this
    rw [if_neg h] at this
    exact this

set_option maxHeartbeats 2000000 in
set_option maxRecDepth 100000 in
theorem lex_any (s : ByteArray) (w : World) (hs : s.size ≤ 140737488351232) :
    Calls Try.prog 18 #[.string s] w (LexPost s w) := by
  by_cases h4 : 4000 < s.size
  · have H := Lib.hid (lexPost_long s w h4)
    go_enter Try.func18, Try.ntmps18
    go_wp2
    go_ret3
    exact H.out
  · have hs4 : s.size ≤ 4000 := by omega
    obtain ⟨i0, hi0, hz0, hz1, hz2⟩ := info_parts infoTok
    obtain ⟨k0, hk0⟩ : ∃ k, k = 0 + run bl (s.data.toList.drop 0) := ⟨_, rfl⟩
    have hk1 : k0 ≤ s.size := by rw [hk0, List.drop_zero]; have := run_le bl s.data.toList; rw [size_len] at this; omega
    have HK := Lib.hid hk0
    clear hk0
    go_enter Try.func18, Try.ntmps18
    go_wp2_with (go_at_call 25; refine (skip_at s _ _ 0 k0 rfl hs (by omega) HK.out).mono ?_; rintro e w' ⟨rfl, rfl⟩)
    go_loopw [5, 6] (fun v a wr => ∃ (i : Nat) (toks : List Tok), i ≤ s.size ∧ a = .int .i64 i ∧ wr.ownsRow w.heap.size 101 3 v toks.length (tokCells toks) ∧ Below w.heap.size w wr ∧ toks.length ≤ i ∧ Hid (LexRel s i toks)) (fun _ a _ => s.size - (intOf a).toNat)
    case atStart => exact ⟨k0, [], hk1, rfl, World.ownsRow_nil _ _ _ _, Below.refl _ _, Nat.zero_le _, by rw [HK.out]; exact lexRel_start s⟩
    case round =>
      obtain ⟨i, toks, hi, rfl, hown, hbel, hlen, hrel⟩ := hrel
      by_cases hlt : i < s.size
      · rcases next_at s hs i hlt with ⟨kd, tx, h1, h2, h3, h4', h5⟩ | ⟨er, h1, h2, h3⟩
        · obtain ⟨j, hj⟩ : ∃ j, j = i + tx.size + run bl (s.data.toList.drop (i + tx.size)) := ⟨_, rfl⟩
          have hj1 : i < j ∧ j ≤ s.size := by
            have := run_le bl (s.data.toList.drop (i + tx.size)); rw [List.length_drop, size_len] at this; omega
          have HR := Lib.hid (lexRel_ok s i toks hlt kd tx.size h3 hrel.out)
          have HJ := Lib.hid hj
          have H3 := Lib.hid h3
          have H4 := Lib.hid h4'
          have H5 := Lib.hid h5
          clear h3 h4' h5 hj
          have hown2 : ∀ (w1 : World), Below wr.heap.size wr w1 → ∀ o1 o2, ((w1.alloc o1).alloc o2).ownsRow w.heap.size 101 3 _ toks.length (tokCells toks) := fun w1 hb o1 o2 => ((own_below hown hb).alloc o1).alloc o2
          go_wp2_with (first
            | (go_at_call 26; refine (H5.out _).mono ?_; rintro e w1 ⟨rfl, hb1⟩)
            | (at_builtin; refine wpList_append_own _ rfl (.tmp 28) (.tmp 30) 68 rfl w.heap.size 101 i0 _ 3 32 Try.underlying68 hi0 hz0 hz1 hz2 rfl (by decide) _ _ _ rfl (hown2 _ hb1 _ _) ⟨w1.heap.size + 1, 0, none⟩ 1 1 [.int .i64 kd, .string tx, .int .i64 i] rfl rfl ?c1 ?c2 ?c3 ?c4 ?c5 ?_; rotate_right; intro v2 w2 hown3 hg2 _; have hcell : w2.cell? ⟨w1.heap.size, 1, none⟩ = some (.string tx) := (cell_grown (own_below hown hb1) hg2 (Nat.le_refl _) ((World.cell?_alloc_lt _ _ _ (by simp)).trans (cell_new _ _ _ _))))
            | (go_at_call 25; refine (skip_at s _ _ (i + tx.size) j (by omega) hs (by omega) HJ.out).mono ?_; rintro e w' ⟨rfl, rfl⟩))
          case c1 => exact cells_new (w1.alloc _) _ _ _ (by simp)
          case c2 => intro u hu; simp only [List.mem_cons, List.not_mem_nil, or_false] at hu; rcases hu with rfl | rfl | rfl <;> rfl
          case c3 => unfold maxLen; omega
          case c4 => omega
          case c5 => have := hbel.size; have := hb1.size; simp; omega
          go_roundw
          case rel =>
            have htx := H4.out
            refine ⟨j, toks ++ [⟨kd, (s.data.toList.drop i).take tx.size, i⟩], by omega, rfl, ?_, ?_, by simp only [List.length_append, List.length_cons, List.length_nil]; omega, ?_⟩
            · rw [tokCells_snoc, List.length_append]
              have e : tokC ⟨kd, (s.data.toList.drop i).take tx.size, i⟩ = [.int .i64 kd, .string tx, .int .i64 i] := by unfold tokC; dsimp only; rw [← htx]
              rw [e]
              exact hown3
            · refine ((((hbel.trans (hb1.mono hbel.size)).alloc ?_ _).alloc ?_ _).grown hg2 ?_ (own_row_ge hown))
              · exact Nat.le_trans hbel.size hb1.size
              · have := hbel.size; have := hb1.size; simp; omega
              · have := hbel.size; have := hb1.size; simp; omega
            · rw [HJ.out]; exact HR
          case measure => simp [intOf]; omega
        · have H2 := Lib.hid h2
          have H3 := Lib.hid h3
          have HB := Lib.hid (lexRel_err s i toks hlt er h1 h2 hrel.out)
          have hne : (((er : Nat) : Int) != 0) = true := by simp; omega
          clear h2 h3 h1
          go_wp2_with (go_at_call 26; refine (H3.out _).mono ?_; rintro e w1 ⟨rfl, hb1⟩)
          go_ret3
          refine lexPost_err s w _ hs4 i er toks HB.out (by simp at hne; omega) ?_
          exact ((hbel.trans (hb1.mono hbel.size)).alloc (Nat.le_trans hbel.size hb1.size) _)
      · have HB := Lib.hid (lexRel_end s i toks (by omega) hrel.out)
        go_wp2
        go_ret3
        exact lexPost_ok s w _ hs4 _ toks HB.out hown hbel

end Go.Proofs.Ytkjbfomokdjbnaa
