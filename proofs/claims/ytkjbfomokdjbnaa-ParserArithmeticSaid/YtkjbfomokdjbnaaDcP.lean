/-
  Natural numbers as digits in base 2^32, and their decimal digits: plain laws.
-/
namespace Go.Proofs.Ytkjbfomokdjbnaa
set_option linter.unusedSimpArgs false
set_option linter.unusedVariables false
namespace Dc

def valN : List Nat → Nat
  | [] => 0
  | x :: xs => x + 4294967296 * valN xs
theorem valN_nil : valN [] = 0 := rfl
theorem valN_cons (x : Nat) (xs : List Nat) : valN (x :: xs) = x + 4294967296 * valN xs := rfl
theorem valN_append : ∀ (l m : List Nat), valN (l ++ m) = valN l + 4294967296 ^ l.length * valN m
  | [], m => by simp [valN]
  | x :: l, m => by
    rw [List.cons_append, valN_cons, valN_append l m, valN_cons, List.length_cons, Nat.pow_succ, Nat.mul_add, Nat.mul_comm (4294967296 ^ l.length) 4294967296, Nat.mul_assoc]
    omega
theorem valN_snoc_zero (l : List Nat) : valN (l ++ [0]) = valN l := by rw [valN_append]; simp [valN]
theorem valN_lt : ∀ (l : List Nat), (∀ x ∈ l, x < 4294967296) → valN l < 4294967296 ^ l.length
  | [], _ => by simp [valN]
  | x :: l, h => by
    have h1 := valN_lt l (fun y hy => h y (List.mem_cons_of_mem _ hy))
    have h2 := h x (List.mem_cons_self ..)
    rw [valN_cons, List.length_cons, Nat.pow_succ]
    have h3 : valN l + 1 ≤ 4294967296 ^ l.length := h1
    have h4 := Nat.mul_le_mul_right 4294967296 h3
    omega
theorem valN_zero : ∀ (l : List Nat), valN l = 0 → ∀ x ∈ l, x = 0
  | [], _, x, hx => by cases hx
  | y :: l, h, x, hx => by
    rw [valN_cons] at h
    rcases List.mem_cons.1 hx with rfl | hx
    · omega
    · exact valN_zero l (by omega) x hx

/-- the quotient's digit at the bottom -/
def qd (d x : Nat) (xs : List Nat) : Nat := ((valN xs % d) * 4294967296 + x) / d
def divL (d : Nat) : List Nat → List Nat
  | [] => []
  | x :: xs => qd d x xs :: divL d xs
theorem divL_len (d : Nat) : ∀ l, (divL d l).length = l.length
  | [] => rfl
  | x :: xs => by unfold divL; rw [List.length_cons, List.length_cons, divL_len d xs]
theorem div_step (d x V : Nat) (hd : 0 < d) : (x + 4294967296 * V) / d = (V % d * 4294967296 + x) / d + 4294967296 * (V / d) ∧ (x + 4294967296 * V) % d = (V % d * 4294967296 + x) % d := by
  have e : x + 4294967296 * V = V % d * 4294967296 + x + d * (4294967296 * (V / d)) := by
    have := Nat.mod_add_div V d
    have h2 : 4294967296 * V = 4294967296 * (V % d) + 4294967296 * (d * (V / d)) := by rw [← Nat.mul_add, this]
    have h3 : 4294967296 * (d * (V / d)) = d * (4294967296 * (V / d)) := by rw [← Nat.mul_assoc, ← Nat.mul_assoc, Nat.mul_comm 4294967296 d]
    omega
  rw [e, Nat.add_mul_div_left _ _ hd, Nat.add_mul_mod_self_left]
  exact ⟨rfl, rfl⟩
theorem valN_divL (d : Nat) (hd : 0 < d) : ∀ l, valN (divL d l) = valN l / d
  | [] => by simp [divL, valN]
  | x :: xs => by
    unfold divL
    rw [valN_cons, valN_divL d hd xs, valN_cons, (div_step d x (valN xs) hd).1]
    rfl
theorem qd_lt (d x : Nat) (xs : List Nat) (hd : 0 < d) (hx : x < 4294967296) : qd d x xs < 4294967296 := by
  unfold qd
  have h1 := Nat.mod_lt (valN xs) hd
  rw [Nat.div_lt_iff_lt_mul hd]
  have h2 : valN xs % d + 1 ≤ d := h1
  have h3 := Nat.mul_le_mul_right 4294967296 h2
  have h4 : 4294967296 * d = d * 4294967296 := Nat.mul_comm _ _
  omega
theorem divL_lt (d : Nat) (hd : 0 < d) : ∀ (l : List Nat), (∀ x ∈ l, x < 4294967296) → ∀ x ∈ divL d l, x < 4294967296
  | [], _, x, hx => by cases hx
  | y :: l, h, x, hx => by
    unfold divL at hx
    rcases List.mem_cons.1 hx with rfl | hx
    · exact qd_lt d y l hd (h y (List.mem_cons_self ..))
    · exact divL_lt d hd l (fun z hz => h z (List.mem_cons_of_mem _ hz)) x hx
theorem divL_drop (d : Nat) : ∀ (l : List Nat) (i : Nat), (divL d l).drop i = divL d (l.drop i)
  | [], i => by simp [divL]
  | x :: xs, 0 => by simp
  | x :: xs, i + 1 => by
    show (qd d x xs :: divL d xs).drop (i + 1) = divL d ((x :: xs).drop (i + 1))
    rw [List.drop_succ_cons, List.drop_succ_cons]
    exact divL_drop d xs i
theorem divL_at (d : Nat) {l : List Nat} {i x : Nat} (h : l[i]? = some x) : (divL d l)[i]? = some (qd d x (l.drop (i + 1))) := by
  induction l generalizing i with
  | nil => simp at h
  | cons y l ih =>
    unfold divL
    cases i with
    | zero => simp at h; subst h; simp
    | succ i => simp at h; rw [List.getElem?_cons_succ, ih h]; simp
theorem rem_step (d : Nat) (hd : 0 < d) {l : List Nat} {i x : Nat} (h : l[i]? = some x) : valN (l.drop i) % d = (valN (l.drop (i + 1)) % d * 4294967296 + x) % d := by
  obtain ⟨hi, rfl⟩ := List.getElem?_eq_some_iff.1 h
  rw [List.drop_eq_getElem_cons hi, valN_cons]
  exact (div_step d _ _ hd).2

/-! ### decimal digits, the lowest first -/
def revd (n : Nat) : List Nat := if h : n = 0 then [] else (n % 10) :: revd (n / 10)
termination_by n
decreasing_by omega
theorem revd_zero : revd 0 = [] := by rw [revd]; simp
theorem revd_pos {n : Nat} (h : 0 < n) : revd n = (n % 10) :: revd (n / 10) := by
  conv => lhs; rw [revd]
  rw [dif_neg (by omega)]
def digs : Nat → Nat → List Nat
  | 0, _ => []
  | k + 1, r => (r % 10) :: digs k (r / 10)
theorem digs_succ (k r : Nat) : digs (k + 1) r = (r % 10) :: digs k (r / 10) := rfl
theorem digs_len : ∀ k r, (digs k r).length = k
  | 0, _ => rfl
  | k + 1, r => by unfold digs; rw [List.length_cons, digs_len k]
theorem digs_snoc : ∀ k r, digs (k + 1) r = digs k r ++ [r / 10 ^ k % 10]
  | 0, r => by simp [digs]
  | k + 1, r => by
    have h := digs_snoc k (r / 10)
    rw [digs_succ (k + 1), h, digs_succ k]
    rw [List.cons_append, Nat.div_div_eq_div_mul, Nat.pow_succ, Nat.mul_comm 10 (10 ^ k)]
theorem revd_chunk : ∀ (k q r : Nat), 0 < q → r < 10 ^ k → revd (q * 10 ^ k + r) = digs k r ++ revd q
  | 0, q, r, hq, hr => by
    have : r = 0 := by simpa using hr
    subst this
    simp [digs]
  | k + 1, q, r, hq, hr => by
    have hp : 0 < 10 ^ k := Nat.pow_pos (by omega)
    have e : q * 10 ^ (k + 1) + r = 10 * (q * 10 ^ k) + r := by rw [Nat.pow_succ, ← Nat.mul_assoc]; omega
    have hqp : 0 < q * 10 ^ k := Nat.mul_pos hq hp
    rw [e, revd_pos (by omega)]
    have e1 : (10 * (q * 10 ^ k) + r) % 10 = r % 10 := by omega
    have e2 : (10 * (q * 10 ^ k) + r) / 10 = q * 10 ^ k + r / 10 := by omega
    rw [e1, e2, revd_chunk k q (r / 10) hq (by rw [Nat.pow_succ] at hr; omega)]
    rw [digs_succ]
    rfl
theorem revd_digs (r i : Nat) (h : revd r = digs i r ++ revd (r / 10 ^ i)) (hp : 0 < r / 10 ^ i) : revd r = digs (i + 1) r ++ revd (r / 10 ^ (i + 1)) := by
  rw [h, digs_snoc, revd_pos hp, List.append_assoc, List.singleton_append, Nat.div_div_eq_div_mul, ← Nat.pow_succ]
theorem revd_len : ∀ (k n : Nat), n < 10 ^ k → (revd n).length ≤ k
  | 0, n, h => by
    have : n = 0 := by simpa using h
    subst this; rw [revd_zero]; simp
  | k + 1, n, h => by
    by_cases h0 : n = 0
    · subst h0; rw [revd_zero]; simp
    · rw [revd_pos (by omega), List.length_cons]
      have := revd_len k (n / 10) (by rw [Nat.pow_succ] at h; omega)
      omega
theorem pow_dec : ∀ k : Nat, 4294967296 ^ k ≤ 10 ^ (10 * k)
  | 0 => by simp
  | k + 1 => by
    have h := pow_dec k
    rw [Nat.pow_succ, show 10 * (k + 1) = 10 * k + 10 by omega, Nat.pow_add]
    exact Nat.mul_le_mul h (by decide)
theorem revd_len_val (l : List Nat) (h : ∀ x ∈ l, x < 4294967296) : (revd (valN l)).length ≤ 10 * l.length :=
  revd_len _ _ (Nat.lt_of_lt_of_le (valN_lt l h) (pow_dec _))
theorem revd_lt : ∀ (k n : Nat), n < 10 ^ k → ∀ x ∈ revd n, x < 10
  | 0, n, h => by
    have : n = 0 := by simpa using h
    subst this; rw [revd_zero]; intro x hx; cases hx
  | k + 1, n, h => by
    by_cases h0 : n = 0
    · subst h0; rw [revd_zero]; intro x hx; cases hx
    · rw [revd_pos (by omega)]
      intro x hx
      rcases List.mem_cons.1 hx with rfl | hx
      · omega
      · exact revd_lt k (n / 10) (by rw [Nat.pow_succ] at h; omega) x hx
/-- one step of the outer loop: the low nine digits and the rest -/
theorem revd_nine (N : Nat) (hq : 0 < N / 1000000000) : revd N = digs 9 (N % 1000000000) ++ revd (N / 1000000000) := by
  have h := revd_chunk 9 (N / 1000000000) (N % 1000000000) hq (Nat.mod_lt _ (by decide))
  rw [← h]
  congr 1
  have := Nat.mod_add_div N 1000000000
  have e : (10 : Nat) ^ 9 = 1000000000 := by decide
  rw [e, Nat.mul_comm]
  omega
/-- the decimal text of a number -/
def decN (N : Nat) : List Nat := if N = 0 then [0] else (revd N).reverse
def digN (N : Nat) : Nat := max 1 (revd N).length
theorem decN_len (N : Nat) : (decN N).length = digN N := by
  unfold decN digN
  by_cases h : N = 0
  · subst h; rw [revd_zero]; rfl
  · rw [if_neg h, List.length_reverse, revd_pos (by omega), List.length_cons]
    omega
end Dc
end Go.Proofs.Ytkjbfomokdjbnaa
