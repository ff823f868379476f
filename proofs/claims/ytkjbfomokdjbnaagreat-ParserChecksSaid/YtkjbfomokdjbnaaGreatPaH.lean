/-
  Chains of connectives without parentheses: what the relation gives, in plain Lean.
-/
import Derived.Test.YtkjbfomokdjbnaaGreatPaP
import Derived.Test.YtkjbfomokdjbnaaGreatLxPlain
namespace Go.Proofs.YtkjbfomokdjbnaaGreat
open Go.RowKit
set_option linter.unusedSimpArgs false
set_option linter.unusedVariables false
namespace Pa
open Lx Fm Dc
def opW (k : Nat) : Bytes := if k = 0 then wAnd else if k = 1 then wOr else if k = 2 then wImplies else wIff
def kt (t : Tok) : Nat × Bytes := (t.kind, t.text)
def tl (ops : List Nat) : List (Nat × Bytes) := ops.flatMap fun k => [(3, opW k), (3, wTrue)]
def mkC (k : Nat) (l r : Fo) : Fo := if k = 0 then .and l r else if k = 1 then .or l r else if k = 2 then .implies l r else .iff l r
def lv : Fo → Nat
  | .odd => 1
  | .truth _ => 1
  | .atom _ _ _ => 0
  | .not f => lv f
  | .and l r => lv l + lv r
  | .or l r => lv l + lv r
  | .implies l r => lv l + lv r
  | .iff l r => lv l + lv r
  | .quant _ _ f => lv f
theorem lv_mkC (k : Nat) (l r : Fo) : lv (mkC k l r) = lv l + lv r := by unfold mkC; split; rfl; split; rfl; split <;> rfl
/-- the weakest connective of a chain and its place -/
def stepW (p : Nat × Nat × Nat) (k : Nat) : Nat × Nat × Nat := if p.1 = 0 ∨ p.2.1 < k ∨ (k = p.2.1 ∧ k ≠ 2) then (p.1 + 1, k, p.1) else (p.1 + 1, p.2.1, p.2.2)
def Wf (l : List Nat) : Nat × Nat × Nat := l.foldl stepW (0, 0, 0)
theorem Wf_fst (l : List Nat) (p : Nat × Nat × Nat) : (l.foldl stepW p).1 = p.1 + l.length := by
  induction l generalizing p with
  | nil => rfl
  | cons k l ih =>
    rw [List.foldl_cons, ih]
    have : (stepW p k).1 = p.1 + 1 := by unfold stepW; split <;> rfl
    rw [this, List.length_cons]; omega
theorem Wf_le (l : List Nat) (m : Nat) (h : ∀ k ∈ l, k ≤ m) (p : Nat × Nat × Nat) (hp : p.2.1 ≤ m) : (l.foldl stepW p).2.1 ≤ m := by
  induction l generalizing p with
  | nil => exact hp
  | cons k l ih =>
    rw [List.foldl_cons]
    refine ih (fun x hx => h x (List.mem_cons_of_mem _ hx)) _ ?_
    unfold stepW
    split
    · exact h k (List.mem_cons_self ..)
    · exact hp
theorem Wf_stay (d : List Nat) (k a i : Nat) (hi : i ≠ 0) (h : ∀ y ∈ d, y < k ∨ (y = k ∧ k = 2)) : d.foldl stepW (i, k, a) = (i + d.length, k, a) := by
  induction d generalizing i with
  | nil => rfl
  | cons y d ih =>
    rw [List.foldl_cons]
    have e : stepW (i, k, a) y = (i + 1, k, a) := by
      unfold stepW
      rw [if_neg]
      have := h y (List.mem_cons_self ..)
      rintro (e | e | e)
      · exact hi e
      · have e : k < y := e; omega
      · have e1 : y = k := e.1; have e2 := e.2; omega
    rw [e, ih _ (by omega) (fun x hx => h x (List.mem_cons_of_mem _ hx)), List.length_cons]
    congr 1; omega
theorem Wf_join (c d : List Nat) (k : Nat) (hc : ∀ x ∈ c, x ≤ k ∧ (k = 2 → x < 2)) (hd : ∀ y ∈ d, y < k ∨ (y = k ∧ k = 2)) : Wf (c ++ k :: d) = (c.length + 1 + d.length, k, c.length) := by
  unfold Wf
  rw [List.foldl_append, List.foldl_cons]
  have h1 := Wf_fst c (0, 0, 0)
  have h2 := Wf_le c k (fun x hx => (hc x hx).1) (0, 0, 0) (Nat.zero_le _)
  have h3 : k = 2 → (c.foldl stepW (0, 0, 0)).2.1 ≤ 1 := fun e => Wf_le c 1 (fun x hx => Nat.le_of_lt_succ ((hc x hx).2 e)) (0, 0, 0) (Nat.zero_le _)
  generalize c.foldl stepW (0, 0, 0) = P at h1 h2 h3
  have e : stepW P k = (c.length + 1, k, c.length) := by
    unfold stepW
    rw [if_pos]
    · rw [h1]; simp
    · by_cases hk : k = 2
      · right; left; have := h3 hk; omega
      · right
        rcases Nat.lt_or_eq_of_le h2 with h | h
        · exact .inl h
        · exact .inr ⟨h.symm, hk⟩
  rw [e, Wf_stay d k c.length (c.length + 1) (by omega) hd]
def Top (x : Fo) (c : List Nat) : Prop := lv x = c.length + 1 ∧ (c = [] ∨ ∃ k l r, x = mkC k l r ∧ (Wf c).2.1 = k ∧ lv l = (Wf c).2.2 + 1 ∧ lv r = c.length - (Wf c).2.2)
theorem Top.join {x y : Fo} {c d : List Nat} {k : Nat} (hx : Top x c) (hy : Top y d) (hc : ∀ x ∈ c, x ≤ k ∧ (k = 2 → x < 2)) (hd : ∀ y ∈ d, y < k ∨ (y = k ∧ k = 2)) : Top (mkC k x y) (c ++ k :: d) := by
  refine ⟨by rw [lv_mkC, hx.1, hy.1, List.length_append, List.length_cons]; omega, .inr ⟨k, x, y, rfl, ?_⟩⟩
  rw [Wf_join c d k hc hd]
  refine ⟨rfl, hx.1, ?_⟩
  rw [hy.1, List.length_append, List.length_cons]
  show _ = c.length + (d.length + 1) - c.length
  omega
/-! ### the tokens -/
section
variable {T : List Tok} {s : PS}
theorem pk_hd {a : Nat × Bytes} {l : List (Nat × Bytes)} (h : (T.drop s.next).map kt = a :: l) : ((pk T s).kind, (pk T s).text) = a := by
  have e : (T.drop s.next).head? = T[s.next]? := List.head?_drop
  rcases hd : T.drop s.next with _ | ⟨t, r⟩
  · rw [hd] at h; cases h
  · rw [hd] at h e
    unfold pk
    rw [← e]
    injection h
theorem sees_hd {x : Bytes} {l : List (Nat × Bytes)} (h : (T.drop s.next).map kt = (3, x) :: l) (y : Bytes) : sees T s y = (x == y) := by
  have e := pk_hd h
  injection e with e1 e2
  unfold sees
  rw [e1, e2]; rfl
theorem sees_none (h : (T.drop s.next).map kt = []) (y : Bytes) : sees T s y = false := by
  have e : (T.drop s.next).head? = T[s.next]? := List.head?_drop
  have hd : T.drop s.next = [] := by simpa using h
  rw [hd] at e
  unfold sees pk
  rw [← e]; rfl
theorem at_adv {a : Nat × Bytes} {l : List (Nat × Bytes)} (h : (T.drop s.next).map kt = a :: l) : (T.drop (adv s).next).map kt = l := by
  have e : T.drop (adv s).next = (T.drop s.next).tail := by rw [List.tail_drop]; rfl
  rw [e, List.map_tail, h]; rfl
theorem tl_cons (k : Nat) (r : List Nat) : tl (k :: r) = (3, opW k) :: (3, wTrue) :: tl r := rfl
end
theorem un_tr (T : List Tok) (b : Bool) (s : PS) (l : List (Nat × Bytes)) (h : (T.drop s.next).map kt = (3, wTrue) :: l) : Big T (.un b) s (some (.fo (.truth true))) (adv s) :=
  .un_true (by rw [sees_hd h]; rfl) (by rw [sees_hd h]; rfl) (by rw [sees_hd h]; rfl) (by rw [sees_hd h]; rfl)
theorem opW_eq (k : Nat) (hk : k < 4) : (opW k == wAnd) = decide (k = 0) ∧ (opW k == wOr) = decide (k = 1) ∧ (opW k == wImplies) = decide (k = 2) ∧ (opW k == wIff) = decide (k = 3) := by
  match k, hk with
  | 0, _ => decide
  | 1, _ => decide
  | 2, _ => decide
  | 3, _ => decide
/-- what a level gives: the value, what it took, what is left -/
def Got (T : List Tok) (m : Nat) (c0 ops : List Nat) (x : Fo) (s' : PS) (o : Bool) : Prop := ∃ c r, c0 ++ ops = c ++ r ∧ (T.drop s'.next).map kt = tl r ∧ (∀ k ∈ c, k ≤ m) ∧ (∀ k r', r = k :: r' → m < k) ∧ (∀ k ∈ r, k < 4) ∧ r.length ≤ ops.length ∧ Top x c ∧ s'.over = o

/-! ### and -/
theorem and_loop (T : List Tok) : ∀ (n : Nat) (ops c : List Nat) (x : Fo) (s : PS), ops.length ≤ n → (∀ k ∈ ops, k < 4) → (T.drop s.next).map kt = tl ops → (∀ k ∈ c, k ≤ 0) → Top x c →
    ∃ x' s', Big T (.andL (.fo x)) s (some (.fo x')) s' ∧ Got T 0 c ops x' s' s.over := by
  intro n
  induction n with
  | zero =>
    intro ops c x s hn h4 h hc hx
    obtain rfl : ops = [] := List.length_eq_zero_iff.1 (by omega)
    exact ⟨x, s, .andL_end (sees_none h _), c, [], rfl, h, hc, fun k r e => (by cases e), fun k hk => (by cases hk), Nat.le_refl _, hx, rfl⟩
  | succ n ih =>
    intro ops c x s hn h4 h hc hx
    match ops, hn, h4, h with
    | [], hn, h4, h => exact ⟨x, s, .andL_end (sees_none h _), c, [], rfl, h, hc, fun k r e => (by cases e), fun k hk => (by cases hk), Nat.le_refl _, hx, rfl⟩
    | k :: r, hn, h4, h =>
      have hk4 := h4 k (List.mem_cons_self ..)
      have hsee : sees T s wAnd = decide (k = 0) := by rw [sees_hd (by rw [h, tl_cons])]; exact (opW_eq k hk4).1
      by_cases hk : k = 0
      · subst hk
        have h1 := at_adv (by rw [h, tl_cons] : (T.drop s.next).map kt = _ :: _)
        have hs2 := un_tr T false (adv s) _ h1
        have h2 := at_adv h1
        obtain ⟨x', s', hb, c', r', e, g1, g2, g3, g4, g5, g6, g7⟩ := ih r (c ++ [0]) (mkC 0 x (.truth true)) (adv (adv s)) (by simp at hn; omega) (fun k hk => h4 k (List.mem_cons_of_mem _ hk)) h2 (fun k hk => by rcases List.mem_append.1 hk with h | h; exact hc k h; simp at h; omega) (Top.join hx ⟨rfl, .inl rfl⟩ (fun y hy => ⟨hc y hy, fun e => by cases e⟩) (fun y hy => by cases hy))
        exact ⟨x', s', .andL_go (by rw [hsee]; rfl) hs2 hb, c', r', by rw [← e]; simp, g1, g2, g3, g4, Nat.le_succ_of_le g5, g6, g7⟩
      · refine ⟨x, s, .andL_end (by rw [hsee]; simpa using hk), c, k :: r, rfl, h, hc, fun k' r' e => ?_, h4, Nat.le_refl _, hx, rfl⟩
        injection e with e1 e2
        omega
theorem and_got (T : List Tok) (b : Bool) (ops : List Nat) (s : PS) (h4 : ∀ k ∈ ops, k < 4) (h : (T.drop s.next).map kt = (3, wTrue) :: tl ops) : ∃ x s', Big T (.and b) s (some (.fo x)) s' ∧ Got T 0 [] ops x s' s.over := by
  obtain ⟨x', s', hb, hg⟩ := and_loop T _ ops [] (.truth true) (adv s) (Nat.le_refl _) h4 (at_adv h) (fun k hk => by cases hk) ⟨rfl, .inl rfl⟩
  exact ⟨x', s', .and_go (un_tr T b s _ h) hb, hg⟩

/-! ### or -/
theorem or_loop (T : List Tok) : ∀ (n : Nat) (ops c : List Nat) (x : Fo) (s : PS), ops.length ≤ n → (∀ k ∈ ops, k < 4) → (T.drop s.next).map kt = tl ops → (∀ k ∈ c, k ≤ 1) → (∀ k r, ops = k :: r → 0 < k) → Top x c →
    ∃ x' s', Big T (.orL (.fo x)) s (some (.fo x')) s' ∧ Got T 1 c ops x' s' s.over := by
  intro n
  induction n with
  | zero =>
    intro ops c x s hn h4 h hc hh hx
    obtain rfl : ops = [] := List.length_eq_zero_iff.1 (by omega)
    exact ⟨x, s, .orL_end (sees_none h _), c, [], rfl, h, hc, fun k r e => (by cases e), fun k hk => (by cases hk), Nat.le_refl _, hx, rfl⟩
  | succ n ih =>
    intro ops c x s hn h4 h hc hh hx
    match ops, hn, h4, h, hh with
    | [], hn, h4, h, hh => exact ⟨x, s, .orL_end (sees_none h _), c, [], rfl, h, hc, fun k r e => (by cases e), fun k hk => (by cases hk), Nat.le_refl _, hx, rfl⟩
    | k :: r, hn, h4, h, hh =>
      have hk4 := h4 k (List.mem_cons_self ..)
      have hsee : sees T s wOr = decide (k = 1) := by rw [sees_hd (by rw [h, tl_cons])]; exact (opW_eq k hk4).2.1
      by_cases hk : k = 1
      · subst hk
        have h1 := at_adv (by rw [h, tl_cons] : (T.drop s.next).map kt = _ :: _)
        obtain ⟨y, s1, hy, d, r1, e1, a1, a2, a3, a4, a5, a6, a7⟩ := and_got T false r (adv s) (fun k hk => h4 k (List.mem_cons_of_mem _ hk)) h1
        obtain ⟨x', s', hb, c', r', e, g1, g2, g3, g4, g5, g6, g7⟩ := ih r1 (c ++ 1 :: d) (mkC 1 x y) s1 (by simp at hn; omega) a4 a1 (fun k hk => by
            rcases List.mem_append.1 hk with h | h
            · exact hc k h
            · rcases List.mem_cons.1 h with h | h
              · omega
              · have := a2 k h; omega) a3 (Top.join hx a6 (fun y hy => ⟨hc y hy, fun e => by cases e⟩) (fun y hy => .inl (by have := a2 y hy; omega)))
        refine ⟨x', s', .orL_go (by rw [hsee]; rfl) hy hb, c', r', ?_, g1, g2, g3, g4, by simp at *; omega, g6, g7.trans a7⟩
        rw [← e, List.append_assoc, List.cons_append]
        simp at e1
        rw [← e1]
      · refine ⟨x, s, .orL_end (by rw [hsee]; simpa using hk), c, k :: r, rfl, h, hc, fun k' r' e => ?_, h4, Nat.le_refl _, hx, rfl⟩
        injection e with e1 e2
        have := hh k r rfl
        omega
theorem or_got (T : List Tok) (b : Bool) (ops : List Nat) (s : PS) (h4 : ∀ k ∈ ops, k < 4) (h : (T.drop s.next).map kt = (3, wTrue) :: tl ops) : ∃ x s', Big T (.or b) s (some (.fo x)) s' ∧ Got T 1 [] ops x s' s.over := by
  obtain ⟨y, s1, hy, d, r1, e1, a1, a2, a3, a4, a5, a6, a7⟩ := and_got T b ops s h4 h
  obtain ⟨x', s', hb, c, r, e, g1, g2, g3, g4, g5, g6, g7⟩ := or_loop T _ r1 d y s1 (Nat.le_refl _) a4 a1 (fun k hk => Nat.le_trans (a2 k hk) (by omega)) a3 a6
  exact ⟨x', s', .or_go hy hb, c, r, by rw [← e, ← e1], g1, g2, g3, g4, Nat.le_trans g5 a5, g6, g7.trans a7⟩

/-! ### imp -/
theorem imp_get (T : List Tok) : ∀ (n : Nat) (b : Bool) (ops : List Nat) (s : PS), ops.length ≤ n → (∀ k ∈ ops, k < 4) → (T.drop s.next).map kt = (3, wTrue) :: tl ops → ∃ x s', Big T (.imp b) s (some (.fo x)) s' ∧ Got T 2 [] ops x s' s.over := by
  intro n
  induction n with
  | zero =>
    intro b ops s hn h4 h
    obtain ⟨y, s1, hy, d, r1, e1, a1, a2, a3, a4, a5, a6, a7⟩ := or_got T b ops s h4 h
    obtain rfl : r1 = [] := List.length_eq_zero_iff.1 (by omega)
    exact ⟨y, s1, .imp_one hy (sees_none a1 _), d, [], e1, a1, fun k hk => Nat.le_succ_of_le (a2 k hk), fun k r e => (by cases e), a4, a5, a6, a7⟩
  | succ n ih =>
    intro b ops s hn h4 h
    obtain ⟨y, s1, hy, d, r1, e1, a1, a2, a3, a4, a5, a6, a7⟩ := or_got T b ops s h4 h
    match r1, a1, a3, a4, a5, e1 with
    | [], a1, a3, a4, a5, e1 => exact ⟨y, s1, .imp_one hy (sees_none a1 _), d, [], e1, a1, fun k hk => Nat.le_succ_of_le (a2 k hk), fun k r e => (by cases e), a4, a5, a6, a7⟩
    | k :: r, a1, a3, a4, a5, e1 =>
      have hk4 := a4 k (List.mem_cons_self ..)
      have hsee : sees T s1 wImplies = decide (k = 2) := by rw [sees_hd (by rw [a1, tl_cons])]; exact (opW_eq k hk4).2.2.1
      by_cases hk : k = 2
      · subst hk
        have h1 := at_adv (by rw [a1, tl_cons] : (T.drop s1.next).map kt = _ :: _)
        obtain ⟨z, s2, hz, c, r', e, g1, g2, g3, g4, g5, g6, g7⟩ := ih false r (adv s1) (by simp at a5; omega) (fun k hk => a4 k (List.mem_cons_of_mem _ hk)) h1
        refine ⟨_, s2, .imp_two hy (by rw [hsee]; rfl) hz, d ++ 2 :: c, r', ?_, g1, ?_, g3, g4, by simp at a5; omega, Top.join a6 g6 (fun y hy => ⟨Nat.le_succ_of_le (a2 y hy), fun _ => Nat.lt_succ_of_le (a2 y hy)⟩) (fun y hy => by have := g2 y hy; omega), g7.trans a7⟩
        · rw [e1]; simp at e; simp [e]
        · intro k hk
          rcases List.mem_append.1 hk with h | h
          · have := a2 k h; omega
          · rcases List.mem_cons.1 h with h | h
            · omega
            · exact g2 k h
      · refine ⟨y, s1, .imp_one hy (by rw [hsee]; simpa using hk), d, k :: r, e1, a1, fun k hk => Nat.le_succ_of_le (a2 k hk), fun k' r' e => ?_, a4, a5, a6, a7⟩
        have := a3 k' r' e
        injection e with e1 e2
        omega
theorem imp_got (T : List Tok) (b : Bool) (ops : List Nat) (s : PS) (h4 : ∀ k ∈ ops, k < 4) (h : (T.drop s.next).map kt = (3, wTrue) :: tl ops) : ∃ x s', Big T (.imp b) s (some (.fo x)) s' ∧ Got T 2 [] ops x s' s.over := imp_get T _ b ops s (Nat.le_refl _) h4 h

/-! ### iff -/
theorem iff_loop (T : List Tok) : ∀ (n : Nat) (ops c : List Nat) (x : Fo) (s : PS), ops.length ≤ n → (∀ k ∈ ops, k < 4) → (T.drop s.next).map kt = tl ops → (∀ k ∈ c, k ≤ 3) → (∀ k r, ops = k :: r → 2 < k) → Top x c →
    ∃ x' s', Big T (.iffL (.fo x)) s (some (.fo x')) s' ∧ Got T 3 c ops x' s' s.over := by
  intro n
  induction n with
  | zero =>
    intro ops c x s hn h4 h hc hh hx
    obtain rfl : ops = [] := List.length_eq_zero_iff.1 (by omega)
    exact ⟨x, s, .iffL_end (sees_none h _), c, [], rfl, h, hc, fun k r e => (by cases e), fun k hk => (by cases hk), Nat.le_refl _, hx, rfl⟩
  | succ n ih =>
    intro ops c x s hn h4 h hc hh hx
    match ops, hn, h4, h, hh with
    | [], hn, h4, h, hh => exact ⟨x, s, .iffL_end (sees_none h _), c, [], rfl, h, hc, fun k r e => (by cases e), fun k hk => (by cases hk), Nat.le_refl _, hx, rfl⟩
    | k :: r, hn, h4, h, hh =>
      have hk4 := h4 k (List.mem_cons_self ..)
      have hsee : sees T s wIff = decide (k = 3) := by rw [sees_hd (by rw [h, tl_cons])]; exact (opW_eq k hk4).2.2.2
      by_cases hk : k = 3
      · subst hk
        have h1 := at_adv (by rw [h, tl_cons] : (T.drop s.next).map kt = _ :: _)
        obtain ⟨y, s1, hy, d, r1, e1, a1, a2, a3, a4, a5, a6, a7⟩ := imp_got T false r (adv s) (fun k hk => h4 k (List.mem_cons_of_mem _ hk)) h1
        obtain ⟨x', s', hb, c', r', e, g1, g2, g3, g4, g5, g6, g7⟩ := ih r1 (c ++ 3 :: d) (mkC 3 x y) s1 (by simp at hn; omega) a4 a1 (fun k hk => by
            rcases List.mem_append.1 hk with h | h
            · exact hc k h
            · rcases List.mem_cons.1 h with h | h
              · omega
              · have := a2 k h; omega) a3 (Top.join hx a6 (fun y hy => ⟨hc y hy, fun e => by cases e⟩) (fun y hy => .inl (by have := a2 y hy; omega)))
        refine ⟨x', s', .iffL_go (by rw [hsee]; rfl) hy hb, c', r', ?_, g1, g2, g3, g4, by simp at *; omega, g6, g7.trans a7⟩
        rw [← e, List.append_assoc, List.cons_append]
        simp at e1
        rw [← e1]
      · refine ⟨x, s, .iffL_end (by rw [hsee]; simpa using hk), c, k :: r, rfl, h, hc, fun k' r' e => ?_, h4, Nat.le_refl _, hx, rfl⟩
        injection e with e1 e2
        have := hh k r rfl
        omega
theorem iff_got (T : List Tok) (b : Bool) (ops : List Nat) (s : PS) (h4 : ∀ k ∈ ops, k < 4) (h : (T.drop s.next).map kt = (3, wTrue) :: tl ops) : ∃ x s', Big T (.iff b) s (some (.fo x)) s' ∧ Got T 3 [] ops x s' s.over := by
  obtain ⟨y, s1, hy, d, r1, e1, a1, a2, a3, a4, a5, a6, a7⟩ := imp_got T b ops s h4 h
  obtain ⟨x', s', hb, c, r, e, g1, g2, g3, g4, g5, g6, g7⟩ := iff_loop T _ r1 d y s1 (Nat.le_refl _) a4 a1 (fun k hk => Nat.le_trans (a2 k hk) (by omega)) a3 a6
  exact ⟨x', s', .iff_go hy hb, c, r, by rw [← e, ← e1], g1, g2, g3, g4, Nat.le_trans g5 a5, g6, g7.trans a7⟩

/-- a whole chain -/
theorem chain_all (T : List Tok) (ops : List Nat) (s : PS) (h4 : ∀ k ∈ ops, k < 4) (h : (T.drop s.next).map kt = (3, wTrue) :: tl ops) : ∃ x s', Big T (.iff false) s (some (.fo x)) s' ∧ (T.drop s'.next) = [] ∧ s'.over = s.over ∧ Top x ops := by
  obtain ⟨x, s', hb, c, r, e, g1, g2, g3, g4, g5, g6, g7⟩ := iff_got T false ops s h4 h
  match r, g1, g3, g4, e with
  | [], g1, g3, g4, e => exact ⟨x, s', hb, by simpa [tl] using g1, g7, by have : ops = c := (by simpa using e); rw [this]; exact g6⟩
  | k :: r, g1, g3, g4, e =>
    have := g3 k r rfl
    have := g4 k (List.mem_cons_self ..)
    omega
end Pa
end Go.Proofs.YtkjbfomokdjbnaaGreat

/-
  The text of a chain: its tokens.
-/
namespace Go.Proofs.YtkjbfomokdjbnaaGreat
open Go.RowKit
set_option linter.unusedSimpArgs false
set_option linter.unusedVariables false
namespace Pa
open Lx Fm Dc
theorem run_all (p : UInt8 → Bool) (w rest : Bytes) (hw : w.all p = true) (hr : run p rest = 0) : run p (w ++ rest) = w.length := by
  induction w with
  | nil => exact hr
  | cons c w ih =>
    simp only [List.all_cons, Bool.and_eq_true] at hw
    rw [List.cons_append, run_cons, if_pos hw.1, ih hw.2]; rfl
/-- a word, behind which no letter stands -/
structure Wd (w : Bytes) : Prop where
  wd : isWord w = true
  all : w.all aln = true
  len : w.length ≤ 16
  hd : ∃ c r, w = c :: r ∧ dig c = false ∧ ltr c = true ∧ bl c = false
theorem next_wd (w rest : Bytes) (h : Wd w) (hr : run aln rest = 0) : next (w ++ rest) = (3, w.length, 0) := by
  obtain ⟨c, r, rfl, h1, h2, h3⟩ := h.hd
  have e := run_all aln (c :: r) rest h.all hr
  have hl := h.len
  have hw := h.wd
  rw [List.cons_append] at e ⊢
  unfold next
  dsimp only
  rw [if_neg (by rw [h1]; simp), if_pos h2, e, if_neg (by omega)]
  have ht : (c :: (r ++ rest)).take (c :: r).length = c :: r := by rw [← List.cons_append]; exact List.take_left
  rw [ht, if_pos hw]
theorem bl_wd (w rest : Bytes) (h : Wd w) (hr : run aln rest = 0) (p : Nat) : lexBl p (w ++ rest) = (⟨3, w, p⟩ :: (lexBl (p + w.length) rest).1, (lexBl (p + w.length) rest).2) := by
  have hn := next_wd w rest h hr
  obtain ⟨c, r, rfl, h1, h2, h3⟩ := h.hd
  rw [List.cons_append] at hn ⊢
  rw [lexBl_non _ _ _ h3, lexA_ok' _ _ (by simp) (by rw [hn]), hn]
  dsimp only
  have ht : (c :: (r ++ rest)).take (c :: r).length = c :: r := by rw [← List.cons_append]; exact List.take_left
  have hdr : (c :: (r ++ rest)).drop (c :: r).length = rest := by rw [← List.cons_append]; exact List.drop_left
  rw [ht, hdr]
theorem wd_true : Wd wTrue := ⟨by decide, by decide, by decide, _, _, rfl, by decide, by decide, by decide⟩
theorem wd_op (k : Nat) : Wd (opW k) := by
  unfold opW
  split
  · exact ⟨by decide, by decide, by decide, _, _, rfl, by decide, by decide, by decide⟩
  · split
    · exact ⟨by decide, by decide, by decide, _, _, rfl, by decide, by decide, by decide⟩
    · split
      · exact ⟨by decide, by decide, by decide, _, _, rfl, by decide, by decide, by decide⟩
      · exact ⟨by decide, by decide, by decide, _, _, rfl, by decide, by decide, by decide⟩
/-- the text behind the first true -/
def tlS (ops : List Nat) : Bytes := ops.flatMap fun k => 32 :: (opW k ++ 32 :: wTrue)
theorem tlS_cons (k : Nat) (r : List Nat) : tlS (k :: r) = 32 :: (opW k ++ 32 :: (wTrue ++ tlS r)) := by simp [tlS]
theorem run_tlS (ops : List Nat) : run aln (tlS ops) = 0 := by
  match ops with
  | [] => rfl
  | k :: r => rw [tlS_cons, run_cons, if_neg (by decide)]
theorem bl_tl : ∀ (ops : List Nat) (p : Nat), (lexBl p (tlS ops)).2 = (0, 0) ∧ (lexBl p (tlS ops)).1.map kt = tl ops := by
  intro ops
  induction ops with
  | nil => intro p; exact ⟨rfl, rfl⟩
  | cons k r ih =>
    intro p
    rw [tlS_cons, lexBl_blank _ _ _ (by decide), bl_wd _ _ (wd_op k) (by rw [run_cons, if_neg (by decide)]), lexBl_blank _ _ _ (by decide), bl_wd _ _ wd_true (run_tlS r)]
    obtain ⟨h1, h2⟩ := ih (p + 1 + (opW k).length + 1 + wTrue.length)
    refine ⟨h1, ?_⟩
    rw [List.map_cons, List.map_cons, h2, tl_cons]
    rfl
def chS (ops : List Nat) : Bytes := wTrue ++ tlS ops
theorem chS_len (ops : List Nat) : (chS ops).length ≤ 4 + 13 * ops.length := by
  unfold chS
  rw [List.length_append]
  show 4 + _ ≤ _
  have : (tlS ops).length ≤ 13 * ops.length := by
    induction ops with
    | nil => exact Nat.le_refl _
    | cons k r ih =>
      rw [tlS_cons]
      have : (opW k).length ≤ 7 := by unfold opW; split; decide; split; decide; split <;> decide
      simp only [List.length_cons, List.length_append]
      have e : wTrue.length = 4 := rfl
      omega
  omega
theorem lex_chS (ops : List Nat) (hl : ops.length ≤ 15) : ∃ T, lex (chS ops) = (T, 0, 0) ∧ T.map kt = (3, wTrue) :: tl ops := by
  have hlen := chS_len ops
  rw [lex_small _ (by omega)]
  unfold chS
  rw [bl_wd _ _ wd_true (run_tlS ops)]
  obtain ⟨h1, h2⟩ := bl_tl ops (0 + wTrue.length)
  rw [h1, if_pos rfl]
  exact ⟨_, rfl, by rw [List.map_cons, h2]; rfl⟩
end Pa
end Go.Proofs.YtkjbfomokdjbnaaGreat
