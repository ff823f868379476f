/-
  Plain laws: where tokens stand.
-/
import Derived.Test.YtkjbfomokdjbnaaLxPlain
namespace Go.Proofs.Ytkjbfomokdjbnaa
namespace Lx
set_option linter.unusedSimpArgs false
set_option linter.unusedVariables false

/-- The tokens stand at their offsets behind p, and only blanks stand between, before and after them. -/
def Placed (s : Bytes) : Nat → List Tok → Prop
  | p, [] => p ≤ s.length ∧ ∀ k (h : k < s.length), p ≤ k → bl s[k] = true
  | p, t :: ts => p ≤ t.pos ∧ 1 ≤ t.text.length ∧ t.pos + t.text.length ≤ s.length ∧ (∀ k (h : k < s.length), p ≤ k → k < t.pos → bl s[k] = true) ∧ t.text = (s.drop t.pos).take t.text.length ∧ Placed s (t.pos + t.text.length) ts

theorem placed_back (s : Bytes) (p : Nat) (h : p < s.length) (hb : bl s[p] = true) : ∀ L, Placed s (p + 1) L → Placed s p L := by
  intro L
  match L with
  | [] =>
    intro ⟨h1, h2⟩
    refine ⟨by omega, fun k hk hp => ?_⟩
    rcases Nat.lt_or_eq_of_le hp with g | g
    · exact h2 k hk g
    · subst g; exact hb
  | t :: ts =>
    intro ⟨h1, h2, h3, h4, h5, h6⟩
    refine ⟨by omega, h2, h3, fun k hk hp hl => ?_, h5, h6⟩
    rcases Nat.lt_or_eq_of_le hp with g | g
    · exact h4 k hk g hl
    · subst g; exact hb

theorem drop_get (s : Bytes) (p : Nat) (c : UInt8) (r : Bytes) (h : s.drop p = c :: r) : ∃ hp : p < s.length, s[p] = c ∧ s.drop (p + 1) = r := by
  have hp : p < s.length := by
    rcases Nat.lt_or_ge p s.length with g | g
    · exact g
    · rw [List.drop_eq_nil_of_le g] at h; cases h
  refine ⟨hp, ?_⟩
  rw [List.drop_eq_getElem_cons hp] at h
  injection h with h1 h2
  exact ⟨h1, h2⟩

theorem placed_of (s : Bytes) : ∀ (p : Nat) (r : Bytes), s.drop p = r → p ≤ s.length → (lexBl p r).2.2 = 0 → Placed s p (lexBl p r).1 := by
  refine lexBl_ind (P := fun p r => s.drop p = r → p ≤ s.length → (lexBl p r).2.2 = 0 → Placed s p (lexBl p r).1) ?_ ?_ ?_ ?_
  · intro p h hp _
    refine ⟨hp, fun k hk hpk => ?_⟩
    have := List.drop_eq_nil_iff.1 h
    omega
  · intro p c r hb ih h hp he
    obtain ⟨hp', h1, h2⟩ := drop_get s p c r h
    rw [lexBl_blank _ _ _ hb] at he ⊢
    exact placed_back s p hp' (by rw [h1]; exact hb) _ (ih h2 hp' he)
  · intro p c r hb hn h hp he
    rw [lexBl_non _ _ _ hb, lexA_err _ _ (by simp) hn] at he
    exact absurd he hn
  · intro p c r hb hn ih h hp he
    obtain ⟨h1, h2, _⟩ := next_ok _ hn
    rw [lexBl_non _ _ _ hb, lexA_ok' _ _ (by simp) hn] at he ⊢
    have hl : (c :: r).length = s.length - p := by rw [← h, List.length_drop]
    generalize hk : (next (c :: r)).2.1 = n at *
    have htl : ((c :: r).take n).length = n := by rw [List.length_take]; omega
    refine ⟨Nat.le_refl _, ?_, ?_, fun k _ h3 h4 => ?_, ?_, ?_⟩
    · show 1 ≤ ((c :: r).take n).length
      omega
    · show p + ((c :: r).take n).length ≤ s.length
      omega
    · have h4' : k < p := h4
      omega
    · show (c :: r).take n = (s.drop p).take ((c :: r).take n).length
      rw [h, htl]
    · show Placed s (p + ((c :: r).take n).length) _
      rw [htl]
      exact ih (by rw [← List.drop_drop, h]) (by omega) he

theorem placed_lex (s : Bytes) (h : (lex s).2.2 = 0) : Placed s 0 (lex s).1 := by
  unfold lex at h ⊢
  split at h
  · simp at h
  · rename_i h0
    rw [if_neg h0]
    split at h
    · rename_i h1
      rw [if_pos h1]
      rw [before_bl] at h1 ⊢
      exact placed_of s 0 s (List.drop_zero) (Nat.zero_le _) h1
    · rename_i h1; exact absurd h h1
end Lx
end Go.Proofs.Ytkjbfomokdjbnaa

/-
  Plain laws: two texts with a blank between; a blank put in; a beginning of a text.
-/
namespace Go.Proofs.Ytkjbfomokdjbnaa
namespace Lx
set_option linter.unusedSimpArgs false
set_option linter.unusedVariables false

def mv (d : Nat) (t : Tok) : Tok := ⟨t.kind, t.text, t.pos + d⟩
theorem mv_zero (t : Tok) : mv 0 t = t := rfl
theorem mv_mv (d e : Nat) (t : Tok) : mv d (mv e t) = mv (e + d) t := by simp [mv, Nat.add_assoc]

/-- lexing elsewhere moves the offsets alone -/
theorem lexBl_move (d : Nat) : ∀ (p : Nat) (r : Bytes), lexBl (p + d) r = ((lexBl p r).1.map (mv d), (if (lexBl p r).2.2 = 0 then 0 else (lexBl p r).2.1 + d), (lexBl p r).2.2) := by
  refine lexBl_ind (P := fun p r => lexBl (p + d) r = ((lexBl p r).1.map (mv d), (if (lexBl p r).2.2 = 0 then 0 else (lexBl p r).2.1 + d), (lexBl p r).2.2)) ?_ ?_ ?_ ?_
  · intro p; rfl
  · intro p c r hb ih
    have e : p + d + 1 = p + 1 + d := by omega
    rw [lexBl_blank _ _ _ hb, lexBl_blank _ _ _ hb, e, ih]
  · intro p c r hb hn
    rw [lexBl_non _ _ _ hb, lexBl_non _ _ _ hb, lexA_err _ _ (by simp) hn, lexA_err _ _ (by simp) hn]
    simp [hn]
  · intro p c r hb hn ih
    have e : p + d + (next (c :: r)).2.1 = p + (next (c :: r)).2.1 + d := by omega
    rw [lexBl_non _ _ _ hb, lexBl_non _ _ _ hb, lexA_ok' _ _ (by simp) hn, lexA_ok' _ _ (by simp) hn, e, ih]
    simp [mv]

/-- where no error is, its offset is 0 -/
theorem lexBl_ok0 : ∀ (p : Nat) (r : Bytes), (lexBl p r).2.2 = 0 → (lexBl p r).2.1 = 0 := by
  refine lexBl_ind (fun _ _ => rfl) (fun p c r hb ih => ?_) (fun p c r hb hn h => ?_) (fun p c r hb hn ih => ?_)
  · rw [lexBl_blank _ _ _ hb]; exact ih
  · rw [lexBl_non _ _ _ hb, lexA_err _ _ (by simp) hn] at h; exact absurd h hn
  · rw [lexBl_non _ _ _ hb, lexA_ok' _ _ (by simp) hn]; exact ih

/-- two texts with a blank between -/
theorem lexBl_two (x : UInt8) (hx : bl x = true) (b : Bytes) : ∀ (p : Nat) (a : Bytes), lexBl p (a ++ x :: b) =
    if (lexBl p a).2.2 = 0 then ((lexBl p a).1 ++ (lexBl (p + a.length + 1) b).1, (lexBl (p + a.length + 1) b).2) else lexBl p a := by
  refine lexBl_ind (P := fun p a => lexBl p (a ++ x :: b) = if (lexBl p a).2.2 = 0 then ((lexBl p a).1 ++ (lexBl (p + a.length + 1) b).1, (lexBl (p + a.length + 1) b).2) else lexBl p a) ?_ ?_ ?_ ?_
  · intro p
    rw [List.nil_append, lexBl_blank _ _ _ hx, lexBl_nil, if_pos rfl]
    rfl
  · intro p c r hb ih
    have e : p + 1 + r.length + 1 = p + (c :: r).length + 1 := by simp only [List.length_cons]; omega
    rw [List.cons_append, lexBl_blank _ _ _ hb, lexBl_blank _ _ _ hb, ih, e]
  · intro p c r hb hn
    have hn' : next (c :: (r ++ x :: b)) = next (c :: r) := next_app (c :: r) x b (by simp) hx
    rw [List.cons_append, lexBl_non _ _ _ hb, lexBl_non _ _ _ hb, lexA_err _ _ (by simp) (by rw [hn']; exact hn), lexA_err _ _ (by simp) hn, hn']
    rw [if_neg hn]
  · intro p c r hb hn ih
    have hn' : next (c :: (r ++ x :: b)) = next (c :: r) := next_app (c :: r) x b (by simp) hx
    obtain ⟨h1, h2, _⟩ := next_ok _ hn
    have hd : (c :: (r ++ x :: b)).drop (next (c :: r)).2.1 = (c :: r).drop (next (c :: r)).2.1 ++ x :: b := by
      show ((c :: r) ++ x :: b).drop _ = _
      rw [List.drop_append_of_le_length h2]
    have ht : (c :: (r ++ x :: b)).take (next (c :: r)).2.1 = (c :: r).take (next (c :: r)).2.1 := by
      show ((c :: r) ++ x :: b).take _ = _
      rw [List.take_append_of_le_length h2]
    have e : p + (next (c :: r)).2.1 + ((c :: r).drop (next (c :: r)).2.1).length + 1 = p + (c :: r).length + 1 := by rw [List.length_drop]; omega
    rw [List.cons_append, lexBl_non _ _ _ hb, lexBl_non _ _ _ hb, lexA_ok' _ _ (by simp) (by rw [hn']; exact hn), lexA_ok' _ _ (by simp) hn, hn', hd, ht, ih, e]
    dsimp only
    split
    · rfl
    · rfl

/-- the laws' form: with the limit on the source -/
theorem lex_small (s : Bytes) (h : s.length ≤ 4000) : lex s = if (lexBl 0 s).2.2 = 0 then ((lexBl 0 s).1, 0, 0) else ([], (lexBl 0 s).2.1, (lexBl 0 s).2.2) := by
  unfold lex
  rw [if_neg (by omega), before_bl]

theorem lex_two (a b : Bytes) (ha : a.length < 2000) (hb : b.length < 2000) :
    lex (a ++ 32 :: b) = if (lex a).2.2 ≠ 0 then lex a else if (lex b).2.2 ≠ 0 then ([], a.length + 1 + (lex b).2.1, (lex b).2.2) else ((lex a).1 ++ (lex b).1.map (mv (a.length + 1)), 0, 0) := by
  have hm := lexBl_move (a.length + 1) 0 b
  have e : 0 + (a.length + 1) = 0 + a.length + 1 := by omega
  rw [e] at hm
  rw [lex_small _ (by simp only [List.length_append, List.length_cons]; omega), lex_small a (by omega), lex_small b (by omega), lexBl_two 32 rfl b 0 a, hm]
  by_cases h1 : (lexBl 0 a).2.2 = 0
  · rw [if_pos h1]
    by_cases h2 : (lexBl 0 b).2.2 = 0
    · simp [h1, h2]
    · simp [h1, h2, Nat.add_comm]
  · rw [if_neg h1]
    simp [h1]

/-! ### a blank put in -/
def ins (o : Nat) (x : UInt8) (r : Bytes) : Bytes := r.take o ++ x :: r.drop o
theorem ins_zero (x : UInt8) (r : Bytes) : ins 0 x r = x :: r := by simp [ins]
theorem ins_succ (o : Nat) (x c : UInt8) (r : Bytes) : ins (o + 1) x (c :: r) = c :: ins o x r := by simp [ins]
theorem drop_ins (k o : Nat) (x : UInt8) (r : Bytes) (hk : k ≤ o) (ho : o ≤ r.length) : (ins o x r).drop k = ins (o - k) x (r.drop k) := by
  unfold ins
  rw [List.drop_append_of_le_length (by rw [List.length_take]; omega), List.drop_take, List.drop_drop]
  have e : k + (o - k) = o := by omega
  rw [e]
theorem take_ins (k o : Nat) (x : UInt8) (r : Bytes) (hk : k ≤ o) (ho : o ≤ r.length) : (ins o x r).take k = r.take k := by
  unfold ins
  rw [List.take_append_of_le_length (by rw [List.length_take]; omega), List.take_take]
  congr 1
  omega

/-- the end of the n-th token (n ≥ 1), counted from p -/
def endAt (p : Nat) (L : List Tok) (n : Nat) : Nat := match n with
  | 0 => p
  | n + 1 => match L[n]? with
    | some t => t.pos + t.text.length
    | none => p

theorem endAt_succ (p : Nat) (L : List Tok) (n : Nat) (h : n < L.length) : endAt p L (n + 1) = L[n].pos + L[n].text.length := by
  simp [endAt, List.getElem?_eq_getElem h]

/-- the tokens from the n-th on are moved -/
def shiftFrom (L : List Tok) (n : Nat) : List Tok := L.take n ++ (L.drop n).map (mv 1)

theorem lexBl_pos : ∀ (p : Nat) (r : Bytes), ∀ t ∈ (lexBl p r).1, p ≤ t.pos ∧ 1 ≤ t.text.length := by
  refine lexBl_ind (P := fun p r => ∀ t ∈ (lexBl p r).1, p ≤ t.pos ∧ 1 ≤ t.text.length) ?_ ?_ ?_ ?_
  · intro p t ht; rw [lexBl_nil] at ht; simp at ht
  · intro p c r hb ih t ht
    rw [lexBl_blank _ _ _ hb] at ht
    have := ih t ht
    exact ⟨by omega, this.2⟩
  · intro p c r hb hn t ht
    rw [lexBl_non _ _ _ hb, lexA_err _ _ (by simp) hn] at ht; simp at ht
  · intro p c r hb hn ih t ht
    obtain ⟨h1, h2, _⟩ := next_ok _ hn
    rw [lexBl_non _ _ _ hb, lexA_ok' _ _ (by simp) hn] at ht
    rcases List.mem_cons.1 ht with rfl | ht
    · refine ⟨Nat.le_refl _, ?_⟩
      show 1 ≤ ((c :: r).take _).length
      rw [List.length_take]; omega
    · have := ih t ht
      exact ⟨by omega, this.2⟩

theorem lexBl_ins (x : UInt8) (hx : bl x = true) : ∀ (p : Nat) (r : Bytes) (n : Nat), 1 ≤ n → n ≤ (lexBl p r).1.length → (lexBl p r).2.2 = 0 → endAt p (lexBl p r).1 n ≤ p + r.length →
    lexBl p (ins (endAt p (lexBl p r).1 n - p) x r) = (shiftFrom (lexBl p r).1 n, 0, 0) := by
  refine lexBl_ind (P := fun p r => ∀ n, 1 ≤ n → n ≤ (lexBl p r).1.length → (lexBl p r).2.2 = 0 → endAt p (lexBl p r).1 n ≤ p + r.length → lexBl p (ins (endAt p (lexBl p r).1 n - p) x r) = (shiftFrom (lexBl p r).1 n, 0, 0)) ?_ ?_ ?_ ?_
  · intro p n h1 h2 _ _
    rw [lexBl_nil] at h2
    simp at h2; omega
  · intro p c r hb ih n h1 h2 h3 h4
    rw [lexBl_blank _ _ _ hb] at h2 h3 h4 ⊢
    obtain ⟨m, rfl⟩ : ∃ m, n = m + 1 := ⟨n - 1, by omega⟩
    have hm : m < (lexBl (p + 1) r).1.length := by omega
    have e1 : ∀ q, endAt q (lexBl (p + 1) r).1 (m + 1) = (lexBl (p + 1) r).1[m].pos + (lexBl (p + 1) r).1[m].text.length := by
      intro q; exact endAt_succ q _ m hm
    have hp := lexBl_pos (p + 1) r _ (List.getElem_mem hm)
    have hl : (c :: r).length = r.length + 1 := rfl
    have := ih (m + 1) h1 h2 h3 (by rw [e1] at h4 ⊢; omega)
    rw [e1] at this h4 ⊢
    obtain ⟨o, ho⟩ : ∃ o, (lexBl (p + 1) r).1[m].pos + (lexBl (p + 1) r).1[m].text.length - p = o + 1 := ⟨(lexBl (p + 1) r).1[m].pos + (lexBl (p + 1) r).1[m].text.length - p - 1, by omega⟩
    have ho' : (lexBl (p + 1) r).1[m].pos + (lexBl (p + 1) r).1[m].text.length - (p + 1) = o := by omega
    rw [ho, ins_succ, lexBl_blank _ _ _ hb]
    rw [ho'] at this
    exact this
  · intro p c r hb hn n h1 h2 h3 h4
    rw [lexBl_non _ _ _ hb, lexA_err _ _ (by simp) hn] at h3
    exact absurd h3 hn
  · intro p c r hb hn ih n h1 h2 h3 h4
    obtain ⟨g1, g2, _⟩ := next_ok _ hn
    have eL : lexBl p (c :: r) = lexA p (c :: r) := lexBl_non _ _ _ hb
    rw [eL, lexA_ok' _ _ (by simp) hn] at h2 h3 h4 ⊢
    dsimp only at h2 h3 h4 ⊢
    generalize hk : (next (c :: r)).2.1 = k at *
    have htl : ((c :: r).take k).length = k := by rw [List.length_take]; omega
    obtain ⟨m, rfl⟩ : ∃ m, n = m + 1 := ⟨n - 1, by omega⟩
    match m with
    | 0 =>
      have e0 : endAt p (⟨(next (c :: r)).1, (c :: r).take k, p⟩ :: (lexBl (p + k) ((c :: r).drop k)).1) (0 + 1) = p + k := by
        show p + ((c :: r).take k).length = p + k
        rw [htl]
      rw [e0, Nat.add_sub_cancel_left]
      obtain ⟨j, rfl⟩ : ∃ j, k = j + 1 := ⟨k - 1, by omega⟩
      have hj : ins (j + 1) x (c :: r) = c :: (r.take j ++ x :: r.drop j) := by simp [ins]
      have ht : c :: r.take j = (c :: r).take (j + 1) := by simp
      have hnx : next (c :: (r.take j ++ x :: r.drop j)) = next (c :: r) := by
        have h5 := next_app ((c :: r).take (j + 1)) x (r.drop j) (by simp) hx
        have h6 := next_take (c :: r) hn
        rw [hk] at h6
        rw [h6, ← ht, List.cons_append] at h5
        exact h5
      rw [hj, lexBl_non _ _ _ hb, lexA_ok' _ _ (by simp) (by rw [hnx]; exact hn), hnx, hk]
      have e1 : (c :: (r.take j ++ x :: r.drop j)).take (j + 1) = (c :: r).take (j + 1) := by
        have := take_ins (j + 1) (j + 1) x (c :: r) (Nat.le_refl _) g2
        rwa [hj] at this
      have e2 : (c :: (r.take j ++ x :: r.drop j)).drop (j + 1) = x :: r.drop j := by
        have := drop_ins (j + 1) (j + 1) x (c :: r) (Nat.le_refl _) g2
        rw [hj, Nat.sub_self, ins_zero] at this
        simpa using this
      rw [e1, e2, lexBl_blank _ _ _ hx]
      have e3 : (c :: r).drop (j + 1) = r.drop j := by simp
      rw [e3] at h3 ⊢
      rw [lexBl_move 1 (p + (j + 1)) (r.drop j), h3]
      simp [shiftFrom]
    | m + 1 =>
      have hm : m < (lexBl (p + k) ((c :: r).drop k)).1.length := by simp only [List.length_cons] at h2; omega
      have hp := lexBl_pos (p + k) ((c :: r).drop k) _ (List.getElem_mem hm)
      have e0 : endAt p (⟨(next (c :: r)).1, (c :: r).take k, p⟩ :: (lexBl (p + k) ((c :: r).drop k)).1) (m + 1 + 1) = endAt (p + k) (lexBl (p + k) ((c :: r).drop k)).1 (m + 1) := by
        rw [endAt_succ _ _ _ (by simp only [List.length_cons]; omega), endAt_succ _ _ _ hm]
        rfl
      have e1 : endAt (p + k) (lexBl (p + k) ((c :: r).drop k)).1 (m + 1) = (lexBl (p + k) ((c :: r).drop k)).1[m].pos + (lexBl (p + k) ((c :: r).drop k)).1[m].text.length := by
        exact endAt_succ _ _ m hm
      rw [e0] at h4 ⊢
      have hih := ih (m + 1) (by omega) (by omega) h3 (by rw [List.length_drop]; omega)
      generalize hE : endAt (p + k) (lexBl (p + k) ((c :: r).drop k)).1 (m + 1) = E at *
      have ho : k + 1 ≤ E - p := by omega
      have hol : E - p ≤ (c :: r).length := by omega
      obtain ⟨o, hoo⟩ : ∃ o, E - p = o + 1 := ⟨E - p - 1, by omega⟩
      have hins : ins (E - p) x (c :: r) = c :: ins o x r := by rw [hoo, ins_succ]
      have hnx : next (c :: ins o x r) = next (c :: r) := by
        have h5 := next_local ((c :: r).take (E - p)) (x :: (c :: r).drop (E - p)) ((c :: r).drop (E - p)) (by rw [List.take_append_drop]; exact hn) (by rw [List.take_append_drop, List.length_take, hk]; omega)
        rw [List.take_append_drop] at h5
        rw [← hins]
        exact h5
      rw [hins, lexBl_non _ _ _ hb, lexA_ok' _ _ (by simp) (by rw [hnx]; exact hn), hnx, hk, ← hins, take_ins _ _ _ _ (by omega) hol, drop_ins _ _ _ _ (by omega) hol]
      have e3 : E - p - k = E - (p + k) := by omega
      rw [e3, hih]
      simp [shiftFrom]

/-- the law's form -/
theorem lex_ins (x : UInt8) (hx : bl x = true) (s : Bytes) (h : s.length < 4000) (h0 : (lex s).2.2 = 0) (n : Nat) (hn : n ≤ (lex s).1.length) (he : endAt 0 (lex s).1 n ≤ s.length) :
    lex (ins (endAt 0 (lex s).1 n) x s) = (shiftFrom (lex s).1 n, 0, 0) := by
  rw [lex_small s (by omega)] at h0 hn he ⊢
  have hok : (lexBl 0 s).2.2 = 0 := by
    by_cases hz : (lexBl 0 s).2.2 = 0
    · exact hz
    · rw [if_neg hz] at h0; exact h0
  rw [if_pos hok] at hn he ⊢
  dsimp only at hn he ⊢
  have hlen : (ins (endAt 0 (lexBl 0 s).1 n) x s).length ≤ 4000 := by
    unfold ins
    simp only [List.length_append, List.length_take, List.length_cons, List.length_drop]
    omega
  have key : lexBl 0 (ins (endAt 0 (lexBl 0 s).1 n) x s) = (shiftFrom (lexBl 0 s).1 n, 0, 0) := by
    match n with
    | 0 =>
      show lexBl 0 (ins 0 x s) = _
      rw [ins_zero, lexBl_blank _ _ _ hx, lexBl_move 1 0 s, hok]
      simp [shiftFrom]
    | n + 1 =>
      have := lexBl_ins x hx 0 s (n + 1) (by omega) hn hok (by omega)
      rwa [Nat.sub_zero] at this
  rw [lex_small _ hlen, key]
  rfl

/-! ### a beginning of a text -/
/-- what a beginning of a text has for tokens: those that end within it, and at most one that is cut -/
theorem lexBl_cut : ∀ (p : Nat) (r : Bytes) (m : Nat), (lexBl p r).2.2 = 0 → m ≤ r.length →
    (lexBl p (r.take m)).2.2 = 0 ∧ (lexBl p (r.take m)).1.length ≤ (lexBl p r).1.length ∧
    (∀ (i : Nat) (hi : i < (lexBl p r).1.length), (lexBl p r).1[i].pos + (lexBl p r).1[i].text.length ≤ p + m → ∃ hj : i < (lexBl p (r.take m)).1.length, (lexBl p (r.take m)).1[i] = (lexBl p r).1[i]) ∧
    (∀ (i : Nat) (hi : i < (lexBl p r).1.length), p + m ≤ (lexBl p r).1[i].pos → (lexBl p (r.take m)).1.length ≤ i) := by
  refine lexBl_ind (P := fun p r => ∀ m, (lexBl p r).2.2 = 0 → m ≤ r.length →
    (lexBl p (r.take m)).2.2 = 0 ∧ (lexBl p (r.take m)).1.length ≤ (lexBl p r).1.length ∧
    (∀ (i : Nat) (hi : i < (lexBl p r).1.length), (lexBl p r).1[i].pos + (lexBl p r).1[i].text.length ≤ p + m → ∃ hj : i < (lexBl p (r.take m)).1.length, (lexBl p (r.take m)).1[i] = (lexBl p r).1[i]) ∧
    (∀ (i : Nat) (hi : i < (lexBl p r).1.length), p + m ≤ (lexBl p r).1[i].pos → (lexBl p (r.take m)).1.length ≤ i)) ?_ ?_ ?_ ?_
  · intro p m _ hm
    simp only [List.take_nil, lexBl_nil]
    refine ⟨trivial, Nat.le_refl _, fun i hi => absurd hi (by simp), fun i hi => absurd hi (by simp)⟩
  · intro p c r hb ih m h hm
    match m with
    | 0 =>
      rw [List.take_zero, lexBl_nil]
      refine ⟨rfl, Nat.zero_le _, fun i hi he => ?_, fun i hi he => Nat.zero_le _⟩
      have := lexBl_pos p (c :: r) _ (List.getElem_mem hi)
      omega
    | m + 1 =>
      have hl : (c :: r).length = r.length + 1 := rfl
      have e1 := lexBl_blank p c r hb
      have e2 := lexBl_blank p c (r.take m) hb
      have := ih m (by rw [e1] at h; exact h) (by omega)
      rw [List.take_succ_cons, e1, e2]
      have e3 : p + 1 + m = p + (m + 1) := by omega
      rw [e3] at this
      exact this
  · intro p c r hb hn m h hm
    rw [lexBl_non _ _ _ hb, lexA_err _ _ (by simp) hn] at h
    exact absurd h hn
  · intro p c r hb hn ih m h hm
    obtain ⟨g1, g2, _⟩ := next_ok _ hn
    have hl : (c :: r).length = r.length + 1 := rfl
    have e1 : lexBl p (c :: r) = _ := (lexBl_non p c r hb).trans (lexA_ok' p _ (by simp) hn)
    rw [e1] at h ⊢
    dsimp only at h ⊢
    match m with
    | 0 =>
      rw [List.take_zero, lexBl_nil]
      refine ⟨rfl, Nat.zero_le _, fun i hi he => ?_, fun i hi he => Nat.zero_le _⟩
      have := lexBl_pos p (c :: r) ((lexBl p (c :: r)).1[i]'(by rw [e1]; exact hi)) (List.getElem_mem _)
      simp only [e1] at this
      omega
    | m + 1 =>
      generalize hk : (next (c :: r)).2.1 = k at *
      have htl : ((c :: r).take k).length = k := by rw [List.length_take]; omega
      by_cases hmk : m + 1 < k ∨ m + 1 = k
      · -- cut within the head's token, or just behind it
        obtain ⟨h5, h6⟩ := next_cut (c :: r) hn (m + 1) (by omega) (by omega)
        have hcut : lexBl p ((c :: r).take (m + 1)) = ([⟨(next ((c :: r).take (m + 1))).1, (c :: r).take (m + 1), p⟩], 0, 0) := by
          rw [List.take_succ_cons] at h5 h6 ⊢
          rw [lexBl_non _ _ _ hb, lexA_ok' _ _ (by simp) h5, h6]
          have e4 : (c :: r.take m).length = m + 1 := by simp only [List.length_cons, List.length_take]; omega
          have t1 : (c :: r.take m).take (m + 1) = c :: r.take m := List.take_of_length_le (by omega)
          have t2 : (c :: r.take m).drop (m + 1) = [] := List.drop_eq_nil_of_le (by omega)
          rw [t1, t2, lexBl_nil]
        rw [hcut]
        refine ⟨rfl, ?_, fun i hi he => ?_, fun i hi he => ?_⟩
        · simp
        · match i with
          | 0 =>
            refine ⟨by simp, ?_⟩
            have he' : p + ((c :: r).take k).length ≤ p + (m + 1) := he
            have : m + 1 = k := by omega
            show (⟨(next ((c :: r).take (m + 1))).1, (c :: r).take (m + 1), p⟩ : Tok) = ⟨(next (c :: r)).1, (c :: r).take k, p⟩
            rw [this]
            have h7 := next_take (c :: r) hn
            rw [hk] at h7
            rw [h7]
          | i + 1 =>
            have hi' : i < (lexBl (p + k) ((c :: r).drop k)).1.length := by simpa using hi
            have he' : (lexBl (p + k) ((c :: r).drop k)).1[i].pos + (lexBl (p + k) ((c :: r).drop k)).1[i].text.length ≤ p + (m + 1) := he
            have := lexBl_pos (p + k) ((c :: r).drop k) _ (List.getElem_mem hi')
            omega
        · match i with
          | 0 =>
            have he' : p + (m + 1) ≤ p := he
            omega
          | i + 1 => simp
      · have hkm : k < m + 1 := by omega
        have hnx : next (c :: r.take m) = next (c :: r) := by
          have h5 := next_local ((c :: r).take (m + 1)) [] ((c :: r).drop (m + 1)) (by rw [List.take_append_drop]; exact hn) (by rw [List.take_append_drop, List.length_take, hk]; omega)
          rw [List.take_append_drop, List.append_nil, List.take_succ_cons] at h5
          exact h5
        have e2 : lexBl p (c :: r.take m) = _ := (lexBl_non p c (r.take m) hb).trans (lexA_ok' p _ (by simp) (by rw [hnx]; exact hn))
        rw [hnx, hk] at e2
        have e3 : (c :: r.take m).take k = (c :: r).take k := by
          rw [← List.take_succ_cons, List.take_take]; congr 1; omega
        have e4 : (c :: r.take m).drop k = ((c :: r).drop k).take (m + 1 - k) := by
          rw [← List.take_succ_cons, List.drop_take]
        rw [e3, e4] at e2
        rw [List.take_succ_cons, e2]
        dsimp only
        have hih := ih (m + 1 - k) h (by rw [List.length_drop]; omega)
        have e5 : p + k + (m + 1 - k) = p + (m + 1) := by omega
        rw [e5] at hih
        obtain ⟨i1, i2, i3, i4⟩ := hih
        refine ⟨i1, by simp only [List.length_cons]; omega, fun i hi he => ?_, fun i hi he => ?_⟩
        · match i with
          | 0 => exact ⟨by simp, rfl⟩
          | i + 1 =>
            obtain ⟨hj, e⟩ := i3 i (by simpa using hi) he
            exact ⟨by simpa using hj, e⟩
        · match i with
          | 0 =>
            have he' : p + (m + 1) ≤ p := he
            omega
          | i + 1 =>
            have := i4 i (by simpa using hi) he
            simp only [List.length_cons]
            omega

theorem lex_cut (s : Bytes) (h : s.length ≤ 4000) (h0 : (lex s).2.2 = 0) (m : Nat) (hm : m ≤ s.length) :
    (lex (s.take m)).2.2 = 0 ∧ (lex (s.take m)).1.length ≤ (lex s).1.length ∧
    (∀ (i : Nat) (hi : i < (lex s).1.length), (lex s).1[i].pos + (lex s).1[i].text.length ≤ m → ∃ hj : i < (lex (s.take m)).1.length, (lex (s.take m)).1[i] = (lex s).1[i]) ∧
    (∀ (i : Nat) (hi : i < (lex s).1.length), m ≤ (lex s).1[i].pos → (lex (s.take m)).1.length ≤ i) := by
  have hok : (lexBl 0 s).2.2 = 0 := by
    rw [lex_small s h] at h0
    by_cases hz : (lexBl 0 s).2.2 = 0
    · exact hz
    · rw [if_neg hz] at h0; exact h0
  have := lexBl_cut 0 s m hok hm
  rw [Nat.zero_add] at this
  obtain ⟨i1, i2, i3, i4⟩ := this
  have e1 : lex s = ((lexBl 0 s).1, 0, 0) := by rw [lex_small s h, if_pos hok]
  have e2 : lex (s.take m) = ((lexBl 0 (s.take m)).1, 0, 0) := by rw [lex_small _ (by rw [List.length_take]; omega), if_pos i1]
  rw [e1, e2]
  exact ⟨rfl, i2, i3, i4⟩

end Lx
end Go.Proofs.Ytkjbfomokdjbnaa
