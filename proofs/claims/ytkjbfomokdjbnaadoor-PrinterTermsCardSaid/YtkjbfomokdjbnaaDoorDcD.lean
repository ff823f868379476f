/-
  Natural numbers as digits in base 2^32, and their decimal digits: plain laws.
-/
import Derived.Test.YtkjbfomokdjbnaaDoorFmI
import Derived.Laws.BitsLemmas
import Derived.BigQuiet
import Derived.Deep.QuietTactic
import Derived.IntWalk
namespace Go.Proofs.YtkjbfomokdjbnaaDoor
set_option linter.unusedSimpArgs false
set_option linter.unusedVariables false
namespace Dc

def valN : List Nat → Nat
  | [] => 0
  | x :: xs => x + 4294967296 * valN xs
theorem valN_cons (x : Nat) (xs : List Nat) : valN (x :: xs) = x + 4294967296 * valN xs := rfl
theorem valN_append : ∀ (l m : List Nat), valN (l ++ m) = valN l + 4294967296 ^ l.length * valN m
  | [], m => by simp [valN]
  | x :: l, m => by
    rw [List.cons_append, valN_cons, valN_append l m, valN_cons, List.length_cons, Nat.pow_succ, Nat.mul_add, Nat.mul_comm (4294967296 ^ l.length) 4294967296, Nat.mul_assoc]
    omega
theorem valN_snoc_zero (l : List Nat) : valN (l ++ [0]) = valN l := by rw [valN_append]; simp [valN]
theorem valN_lt : ∀ (l : List Nat), (∀ x ∈ l, x < 4294967296) → valN l < 4294967296 ^ l.length
  | [], _ => by simp [valN]
  | x :: l, h => by
    have h1 := valN_lt l (fun y hy => h y (List.mem_cons_of_mem _ hy))
    have h2 := h x (List.mem_cons_self ..)
    rw [valN_cons, List.length_cons, Nat.pow_succ]
    have h3 : valN l + 1 ≤ 4294967296 ^ l.length := h1
    have h4 := Nat.mul_le_mul_right 4294967296 h3
    omega
theorem valN_zero : ∀ (l : List Nat), valN l = 0 → ∀ x ∈ l, x = 0
  | [], _, x, hx => by cases hx
  | y :: l, h, x, hx => by
    rw [valN_cons] at h
    rcases List.mem_cons.1 hx with rfl | hx
    · omega
    · exact valN_zero l (by omega) x hx

/-- the quotient's digit at the bottom -/
def qd (d x : Nat) (xs : List Nat) : Nat := ((valN xs % d) * 4294967296 + x) / d
def divL (d : Nat) : List Nat → List Nat
  | [] => []
  | x :: xs => qd d x xs :: divL d xs
theorem divL_len (d : Nat) : ∀ l, (divL d l).length = l.length
  | [] => rfl
  | x :: xs => by unfold divL; rw [List.length_cons, List.length_cons, divL_len d xs]
theorem div_step (d x V : Nat) (hd : 0 < d) : (x + 4294967296 * V) / d = (V % d * 4294967296 + x) / d + 4294967296 * (V / d) ∧ (x + 4294967296 * V) % d = (V % d * 4294967296 + x) % d := by
  have e : x + 4294967296 * V = V % d * 4294967296 + x + d * (4294967296 * (V / d)) := by
    have := Nat.mod_add_div V d
    have h2 : 4294967296 * V = 4294967296 * (V % d) + 4294967296 * (d * (V / d)) := by rw [← Nat.mul_add, this]
    have h3 : 4294967296 * (d * (V / d)) = d * (4294967296 * (V / d)) := by rw [← Nat.mul_assoc, ← Nat.mul_assoc, Nat.mul_comm 4294967296 d]
    omega
  rw [e, Nat.add_mul_div_left _ _ hd, Nat.add_mul_mod_self_left]
  exact ⟨rfl, rfl⟩
theorem valN_divL (d : Nat) (hd : 0 < d) : ∀ l, valN (divL d l) = valN l / d
  | [] => by simp [divL, valN]
  | x :: xs => by
    unfold divL
    rw [valN_cons, valN_divL d hd xs, valN_cons, (div_step d x (valN xs) hd).1]
    rfl
theorem qd_lt (d x : Nat) (xs : List Nat) (hd : 0 < d) (hx : x < 4294967296) : qd d x xs < 4294967296 := by
  unfold qd
  have h1 := Nat.mod_lt (valN xs) hd
  rw [Nat.div_lt_iff_lt_mul hd]
  have h2 : valN xs % d + 1 ≤ d := h1
  have h3 := Nat.mul_le_mul_right 4294967296 h2
  have h4 : 4294967296 * d = d * 4294967296 := Nat.mul_comm _ _
  omega
theorem divL_lt (d : Nat) (hd : 0 < d) : ∀ (l : List Nat), (∀ x ∈ l, x < 4294967296) → ∀ x ∈ divL d l, x < 4294967296
  | [], _, x, hx => by cases hx
  | y :: l, h, x, hx => by
    unfold divL at hx
    rcases List.mem_cons.1 hx with rfl | hx
    · exact qd_lt d y l hd (h y (List.mem_cons_self ..))
    · exact divL_lt d hd l (fun z hz => h z (List.mem_cons_of_mem _ hz)) x hx
theorem divL_at (d : Nat) {l : List Nat} {i x : Nat} (h : l[i]? = some x) : (divL d l)[i]? = some (qd d x (l.drop (i + 1))) := by
  induction l generalizing i with
  | nil => simp at h
  | cons y l ih =>
    unfold divL
    cases i with
    | zero => simp at h; subst h; simp
    | succ i => simp at h; rw [List.getElem?_cons_succ, ih h]; simp
theorem rem_step (d : Nat) (hd : 0 < d) {l : List Nat} {i x : Nat} (h : l[i]? = some x) : valN (l.drop i) % d = (valN (l.drop (i + 1)) % d * 4294967296 + x) % d := by
  obtain ⟨hi, rfl⟩ := List.getElem?_eq_some_iff.1 h
  rw [List.drop_eq_getElem_cons hi, valN_cons]
  exact (div_step d _ _ hd).2

/-! ### decimal digits, the lowest first -/
def revd (n : Nat) : List Nat := if h : n = 0 then [] else (n % 10) :: revd (n / 10)
termination_by n
decreasing_by omega
theorem revd_zero : revd 0 = [] := by rw [revd]; simp
theorem revd_pos {n : Nat} (h : 0 < n) : revd n = (n % 10) :: revd (n / 10) := by
  conv => lhs; rw [revd]
  rw [dif_neg (by omega)]
def digs : Nat → Nat → List Nat
  | 0, _ => []
  | k + 1, r => (r % 10) :: digs k (r / 10)
theorem digs_succ (k r : Nat) : digs (k + 1) r = (r % 10) :: digs k (r / 10) := rfl
theorem digs_len : ∀ k r, (digs k r).length = k
  | 0, _ => rfl
  | k + 1, r => by unfold digs; rw [List.length_cons, digs_len k]
theorem digs_snoc : ∀ k r, digs (k + 1) r = digs k r ++ [r / 10 ^ k % 10]
  | 0, r => by simp [digs]
  | k + 1, r => by
    have h := digs_snoc k (r / 10)
    rw [digs_succ (k + 1), h, digs_succ k]
    rw [List.cons_append, Nat.div_div_eq_div_mul, Nat.pow_succ, Nat.mul_comm 10 (10 ^ k)]
theorem revd_chunk : ∀ (k q r : Nat), 0 < q → r < 10 ^ k → revd (q * 10 ^ k + r) = digs k r ++ revd q
  | 0, q, r, hq, hr => by
    have : r = 0 := by simpa using hr
    subst this
    simp [digs]
  | k + 1, q, r, hq, hr => by
    have hp : 0 < 10 ^ k := Nat.pow_pos (by omega)
    have e : q * 10 ^ (k + 1) + r = 10 * (q * 10 ^ k) + r := by rw [Nat.pow_succ, ← Nat.mul_assoc]; omega
    have hqp : 0 < q * 10 ^ k := Nat.mul_pos hq hp
    rw [e, revd_pos (by omega)]
    have e1 : (10 * (q * 10 ^ k) + r) % 10 = r % 10 := by omega
    have e2 : (10 * (q * 10 ^ k) + r) / 10 = q * 10 ^ k + r / 10 := by omega
    rw [e1, e2, revd_chunk k q (r / 10) hq (by rw [Nat.pow_succ] at hr; omega)]
    rw [digs_succ]
    rfl
theorem revd_digs (r i : Nat) (h : revd r = digs i r ++ revd (r / 10 ^ i)) (hp : 0 < r / 10 ^ i) : revd r = digs (i + 1) r ++ revd (r / 10 ^ (i + 1)) := by
  rw [h, digs_snoc, revd_pos hp, List.append_assoc, List.singleton_append, Nat.div_div_eq_div_mul, ← Nat.pow_succ]
theorem revd_len : ∀ (k n : Nat), n < 10 ^ k → (revd n).length ≤ k
  | 0, n, h => by
    have : n = 0 := by simpa using h
    subst this; rw [revd_zero]; simp
  | k + 1, n, h => by
    by_cases h0 : n = 0
    · subst h0; rw [revd_zero]; simp
    · rw [revd_pos (by omega), List.length_cons]
      have := revd_len k (n / 10) (by rw [Nat.pow_succ] at h; omega)
      omega
theorem pow_dec : ∀ k : Nat, 4294967296 ^ k ≤ 10 ^ (10 * k)
  | 0 => by simp
  | k + 1 => by
    have h := pow_dec k
    rw [Nat.pow_succ, show 10 * (k + 1) = 10 * k + 10 by omega, Nat.pow_add]
    exact Nat.mul_le_mul h (by decide)
theorem revd_len_val (l : List Nat) (h : ∀ x ∈ l, x < 4294967296) : (revd (valN l)).length ≤ 10 * l.length :=
  revd_len _ _ (Nat.lt_of_lt_of_le (valN_lt l h) (pow_dec _))
theorem revd_lt : ∀ (k n : Nat), n < 10 ^ k → ∀ x ∈ revd n, x < 10
  | 0, n, h => by
    have : n = 0 := by simpa using h
    subst this; rw [revd_zero]; intro x hx; cases hx
  | k + 1, n, h => by
    by_cases h0 : n = 0
    · subst h0; rw [revd_zero]; intro x hx; cases hx
    · rw [revd_pos (by omega)]
      intro x hx
      rcases List.mem_cons.1 hx with rfl | hx
      · omega
      · exact revd_lt k (n / 10) (by rw [Nat.pow_succ] at h; omega) x hx
/-- one step of the outer loop: the low nine digits and the rest -/
theorem revd_nine (N : Nat) (hq : 0 < N / 1000000000) : revd N = digs 9 (N % 1000000000) ++ revd (N / 1000000000) := by
  have h := revd_chunk 9 (N / 1000000000) (N % 1000000000) hq (Nat.mod_lt _ (by decide))
  rw [← h]
  congr 1
  have := Nat.mod_add_div N 1000000000
  have e : (10 : Nat) ^ 9 = 1000000000 := by decide
  rw [e, Nat.mul_comm]
  omega
end Dc
end Go.Proofs.YtkjbfomokdjbnaaDoor

/-
  bits.Div32, natural.DivSmall, natural.IsZero, integer.Sign, integer.Abs.
-/
namespace Go.Proofs.YtkjbfomokdjbnaaDoor
open Go.RowKit
set_option linter.unusedSimpArgs false
set_option linter.unusedVariables false
namespace Dc
theorem wraps_u64 (n : Int) (h₀ : 0 ≤ n) (h₁ : n < 2 ^ 64) : IntKind.u64.wrap n = n := by
  have : IntKind.u64.wrap n = n % 18446744073709551616 := by simp [IntKind.wrap, IntKind.bits, IntKind.signed]
  rw [this]; omega
theorem or_join (r x : Nat) (hr : r < 4294967296) (hx : x < 4294967296) : bits .or .u64 ((r : Int) * 4294967296) (x : Int) = ((r * 4294967296 + x : Nat) : Int) := by
  rw [bits_join .u64 64 (by decide) wraps_u64 32 _ _ (by omega) (by omega) (by omega) (by omega) (by omega) (by omega)]
  omega
set_option maxHeartbeats 1000000 in
theorem div32_any (r x d : Nat) (hd0 : 0 < d) (hd1 : d < 4294967296) (hr : r < d) (hx : x < 4294967296) (w : World) :
    Calls Tryd.prog 90 #[.int .u32 r, .int .u32 x, .int .u32 d] w fun e w' => e = .returned (.tuple #[.int .u32 (((r * 4294967296 + x) / d : Nat) : Int), .int .u32 (((r * 4294967296 + x) % d : Nat) : Int)]) ∧ ∃ k, w' = w.drewN k := by
  have h1 : ((d : Int) != 0) = true := by simp; omega
  have h2 : decide ((d : Int) ≤ r) = false := by simp; omega
  have h3 : decide (d ≤ r) = false := by simp; omega
  have hor := or_join r x (by omega) hx
  obtain ⟨V, hV⟩ : ∃ V, V = r * 4294967296 + x := ⟨_, rfl⟩
  rw [← hV] at hor ⊢
  have hV2 : V / d < 4294967296 := by
    rw [Nat.div_lt_iff_lt_mul hd0]
    have h3 := Nat.mul_le_mul_right 4294967296 (show r + 1 ≤ d from hr)
    have h4 : 4294967296 * d = d * 4294967296 := Nat.mul_comm _ _
    omega
  have hm := Nat.mod_lt V hd0
  have hV4 : V < 18446744073709551616 := by omega
  have E0 := Lib.hid (show (V : Int) / d = ((V / d : Nat) : Int) by simp)
  have E2 := Lib.hid (show (V : Int) % d = ((V % d : Nat) : Int) by simp)
  obtain ⟨q, hq⟩ : ∃ q, V / d = q := ⟨_, rfl⟩
  obtain ⟨m, hmm⟩ : ∃ m, V % d = m := ⟨_, rfl⟩
  rw [hq] at hV2 E0 ⊢
  rw [hmm] at hm E2 ⊢
  have E1 := Lib.hid (show IntKind.u64.wrap (q : Int) % 4294967296 = (q : Int) by rw [wraps_u64 _ (by omega) (by omega)]; omega)
  clear hV hq hmm
  have hz : ((d : Int) == 0) = false := by simp; omega
  go_enter Tryd.func90, Tryd.ntmps90
  go_wp2
  go_quiet (fail)
  go_wp2
  go_ret2
  have e3 : (m : Int) % 4294967296 = m := by omega
  refine ⟨?_, nq, rfl⟩
  rw [E0.out, E1.out, E2.out, e3]
  rfl
open Fm
theorem valN_take_trim (l : List Nat) : ∀ n, n ≤ l.length → valN (l.take (trimLen l n)) = valN (l.take n)
  | 0, _ => rfl
  | n + 1, h => by
    unfold trimLen
    split
    · rename_i hz
      rw [valN_take_trim l n (by omega), List.take_succ_eq_append_getElem (by omega)]
      have : l[n] = 0 := by simpa [List.getD, show n < l.length by omega] using hz
      rw [this, valN_snoc_zero]
    · rfl
theorem valN_trim (l : List Nat) : valN (trimN l) = valN l := by
  unfold trimN
  rw [valN_take_trim l l.length (Nat.le_refl _), List.take_length]
theorem trimLen_zero (l : List Nat) (h : ∀ x ∈ l, x = 0) : ∀ n, n ≤ l.length → trimLen l n = 0
  | 0, _ => rfl
  | n + 1, hn => by
    unfold trimLen
    rw [if_pos (by simp [List.getD, show n < l.length by omega]; exact h _ (List.getElem_mem _))]
    exact trimLen_zero l h n (by omega)
theorem trim_zero (l : List Nat) : (trimN l).length = 0 ↔ valN l = 0 := by
  constructor
  · intro h
    rw [← valN_trim, List.eq_nil_of_length_eq_zero h]; rfl
  · intro h
    rw [trimN_len, trimLen_zero l (valN_zero l h) _ (Nat.le_refl _)]
theorem trimN_le (l : List Nat) : (trimN l).length ≤ l.length := by rw [trimN_len]; exact trimLen_le _ _

set_option maxHeartbeats 1000000 in
theorem isZero_any (l : List Nat) (v : Value) (S : Nat → Prop) (w : World) (h : AbsAt w S v l) (r : Bool) (hr : r = true ↔ valN l = 0) :
    Calls Tryd.prog 74 #[v] w fun e w' => e = .returned (.bool r) ∧ w = w' := by
  have HT := Lib.hid (trim_any l v S w h)
  have h0 := trim_zero l
  obtain ⟨m, hm⟩ : ∃ m, (trimN l).length = m := ⟨_, rfl⟩
  rw [hm] at HT h0
  have hd : ((m : Int) == 0) = r := by
    rw [Bool.eq_iff_iff, hr, ← h0]; simp
  clear hm h0 hr h
  go_enter Tryd.func74, Tryd.ntmps74
  go_wp2_with (go_at_call 80; refine HT.out.mono ?_; rintro e w' ⟨⟨A, c, rfl, -⟩, hw⟩; obtain rfl : w = w' := hw.symm)
  go_ret
  exact ⟨rfl, rfl⟩

theorem setCell_cells (w : World) (b j : Nat) (cs : Array Value) (T : TypeId) (u : Value) (h : w.heap[b]? = some (.cells cs T (0, 0))) : (w.setCell ⟨b, j, none⟩ u).heap[b]? = some (.cells (cs.setIfInBounds j u) T (0, 0)) := by
  simp [World.setCell, Array.getElem?_modify, h]
/-- the quotient so far: the digits from k on -/
def ZRel (d : Nat) (t : List Nat) (g n k : Nat) (wr : World) : Prop :=
  ∃ cs : Array Value, wr.heap[g]? = some (.cells cs 128 (0, 0)) ∧ cs.size = n ∧ ∀ j x, k ≤ j → (divL d t)[j]? = some x → cs[j]? = some (u32V x)
theorem ZRel.at_ {d : Nat} {t : List Nat} {g n k : Nat} {wr : World} (h : ZRel d t g n k wr) (j : Nat) (hj : j < n) : (∃ u, wr.cell? ⟨g, j, none⟩ = some u) ∧ wr.frozen? ⟨g, j, none⟩ = false := by
  obtain ⟨cs, h1, h2, h3⟩ := h
  refine ⟨⟨cs[j], ?_⟩, by simp [World.frozen?, h1]⟩
  simp [World.cell?, h1, h2, hj]
theorem ZRel.step {d : Nat} {t : List Nat} {g n k x : Nat} {wr w2 : World} (h : ZRel d t g n (k + 1) wr) (hw : w2.heap[g]? = wr.heap[g]?) (hk : k < n) (hx : t[k]? = some x) (u : Value) (hu : u = u32V (qd d x (t.drop (k + 1)))) : ZRel d t g n k (w2.setCell ⟨g, k, none⟩ u) := by
  obtain ⟨cs, h1, h2, h3⟩ := h
  refine ⟨cs.setIfInBounds k u, setCell_cells _ _ _ _ _ _ (hw.trans h1), by simp [h2], fun j y hj hy => ?_⟩
  by_cases e : j = k
  · subst e
    rw [divL_at d hx] at hy
    injection hy with hy
    subst hy
    rw [hu]
    simp [h2, hk]
  · rw [Array.getElem?_setIfInBounds_ne (by omega)]
    exact h3 j y (by omega) hy
theorem ZRel.done {d : Nat} {t : List Nat} {g n : Nat} {wr : World} (h : ZRel d t g n 0 wr) (hn : n = t.length) (ht : ∀ x ∈ t, x < 4294967296) (hd : 0 < d) (hl : t.length ≤ 9223372036854775807) (S : Nat → Prop) (hS : S g) : AbsAt wr S (.slice (some ⟨g, 0, none⟩) n n) (divL d t) := by
  obtain ⟨cs, h1, h2, h3⟩ := h
  refine AbsAt.of_row (l := divL d t) ?_ (by rw [divL_len, hn]) (divL_lt d hd t ht) (by rw [divL_len]; exact hl) S hS
  rw [h1]
  congr 2
  apply Array.ext_getElem?
  intro j
  by_cases hj : j < (divL d t).length
  · rw [h3 j _ (Nat.zero_le _) (List.getElem?_eq_getElem hj)]
    simp [hj]
  · rw [Array.getElem?_eq_none (by rw [h2, hn, ← divL_len d t]; omega), Array.getElem?_eq_none (by simpa using hj)]
theorem drewN_block (w : World) (k b : Nat) : (w.drewN k).heap[b]? = w.heap[b]? := rfl

set_option maxRecDepth 100000 in
set_option maxHeartbeats 4000000 in
theorem divSmall_any (l : List Nat) (v : Value) (d : Nat) (S : Nat → Prop) (w : World) (hd0 : 0 < d) (hd1 : d < 4294967296) (hS : ∀ b, S b → b < w.heap.size) (h : AbsAt w S v l) (hl : l.length ≤ 1000000) :
    Calls Tryd.prog 83 #[v, .int .u32 d] w fun e w' => ∃ q A n c, e = .returned (.tuple #[.slice A n c, .int .u32 ((valN l % d : Nat) : Int), .bool true]) ∧ AbsAt w' (Fr w w') (.slice A n c) q ∧ valN q = valN l / d ∧ q.length ≤ l.length ∧ Below w.heap.size w w' := by
  obtain ⟨i0, hi0, hz0, hz1, hz2⟩ := info_parts infoU32
  have hvl := valN_trim l
  have HTR := Lib.hid (trim_any l v S w h)
  have hle := trimN_le l
  obtain ⟨t, ht⟩ : ∃ t, trimN l = t := ⟨_, rfl⟩
  rw [ht] at hvl HTR hle
  obtain ⟨n, hn⟩ : ∃ n, n = t.length := ⟨_, rfl⟩
  rw [← hn] at HTR hle
  have HN := Lib.hid hn
  have HVL := Lib.hid hvl
  have HS := Lib.hid hS
  have hn6 : n ≤ 1000000 := by omega
  have hdz : ((d : Int) == 0) = false := by simp; omega
  rw [← hvl]
  clear ht hn hvl h hS
  go_enter Tryd.func83, Tryd.ntmps83
  go_wp2_with (first
    | (go_at_call 80; refine HTR.out.mono ?_; rintro e w' ⟨⟨A, c, rfl, hA⟩, hw⟩; obtain rfl : w = w' := hw.symm; have HA := Lib.hid hA; clear hA)
    | (at_make; refine wpList_make_full _ rfl (.tmp 15) (.tmp 15) 23 rfl w.heap.size 128 i0 (.int .u32 0) 1 Tryd.underlying23 hi0 hz0 hz1 .i64 .i64 _ _ n rfl rfl (by rfl) (by rfl) ?c1 ?c2 ?c3 ?_; rotate_right; intro w2 hown2 hg2; obtain ⟨cur, HCL, HCU, hb2⟩ := made_row hown2 hg2; have HB2 := Lib.hid hb2; clear hown2 hg2 hb2))
  case c1 => rw [hz2]; omega
  case c2 => unfold maxLen; omega
  case c3 => exact Nat.le_refl _
  have hgl : w.heap.size < w2.heap.size := (Array.getElem?_eq_some_iff.1 HCU.out).1
  go_loopw [8, 9] (fun a8 a9 wr => ∃ k : Nat, k ≤ n ∧ a9 = .int .i64 ((k : Int) - 1) ∧ a8 = .int .u32 ((valN (t.drop k) % d : Nat) : Int) ∧ Hid (Below w.heap.size w wr) ∧ Hid (ZRel d t w.heap.size n k wr)) (fun _ a9 _ => (intOf a9 + 1).toNat)
  case atStart => exact ⟨n, Nat.le_refl _, rfl, by rw [List.drop_eq_nil_of_le (by rw [← HN.out]; exact Nat.le_refl _)]; simp [valN], HB2, Lib.hid ⟨cur.toArray, HCU.out, by simpa using HCL.out, fun j x hj hx => by
    have := (List.getElem?_eq_some_iff.1 hx).1
    rw [divL_len, ← HN.out] at this; omega⟩⟩
  case round =>
    obtain ⟨k, hk, rfl, rfl, hb, hz⟩ := hrel
    by_cases h0 : k = 0
    · subst h0
      have HZ := Lib.hid (hz.out.done HN.out HA.out.2.1 hd0 HA.out.2.2 (fun b => w.heap.size ≤ b ∧ b < wr.heap.size) ⟨Nat.le_refl _, (by obtain ⟨cs, h1, _⟩ := hz.out; exact (Array.getElem?_eq_some_iff.1 h1).1)⟩)
      have HT2 := Lib.hid (trim_any _ _ _ wr HZ.out)
      obtain ⟨q, hq⟩ : ∃ q, trimN (divL d t) = q := ⟨_, rfl⟩
      have hq2 : valN q = valN t / d := by rw [← hq, valN_trim, valN_divL d hd0]
      have hq3 : q.length ≤ n := by rw [← hq]; have := trimN_le (divL d t); rw [divL_len] at this; rw [HN.out]; exact this
      rw [hq] at HT2
      have HQ2 := Lib.hid hq2
      clear hq hq2
      go_wp2_with (go_at_call 80; refine HT2.out.mono ?_; rintro e w' ⟨⟨A3, c3, rfl, hA3⟩, hw⟩; obtain rfl : wr = w' := hw.symm; have HA3 := Lib.hid hA3; clear hA3)
      refine bodyPost_ret (v := .tuple #[.slice A3 q.length c3, .int .u32 ((valN t % d : Nat) : Int), .bool true]) (by simp [results, Tryd.results83, go_sem]) rfl ?_
      exact ⟨q, A3, _, c3, rfl, HA3.out, HQ2.out, by omega, hb.out⟩
    · obtain ⟨b, o, rfl, hbS, hcell⟩ := HA.out.at_ HN.out (by omega)
      have hc1 := (hb.out.cell (p := ⟨b, o + (k - 1), none⟩) (HS.out b hbS)).trans (hcell (k - 1) (by omega))
      obtain ⟨x, hx⟩ : ∃ x, t[k - 1]? = some x := ⟨_, List.getElem?_eq_getElem (by rw [← HN.out]; omega)⟩
      have hxd : t.getD (k - 1) 0 = x := by simp [List.getD, hx]
      rw [hxd] at hc1
      have hx32 : x < 4294967296 := HA.out.2.1 x (List.mem_of_getElem? hx)
      obtain ⟨⟨u, hzc⟩, hzf⟩ := hz.out.at_ (k - 1) (by omega)
      obtain ⟨R, hR⟩ : ∃ R, valN (t.drop k) % d = R := ⟨_, rfl⟩
      have hRd : R < d := by rw [← hR]; exact Nat.mod_lt _ hd0
      have hstep := rem_step d hd0 hx
      have hqd : qd d x (t.drop (k - 1 + 1)) = (R * 4294967296 + x) / d := by unfold qd; rw [show k - 1 + 1 = k by omega, hR]
      rw [show k - 1 + 1 = k by omega, hR] at hstep
      have HST := Lib.hid hstep
      have HQD := Lib.hid hqd
      have HX := Lib.hid hx
      have hkc : ((k : Int) - 1).toNat = k - 1 := by omega
      have hkc2 : (0 : Int) ≤ (k : Int) - 1 := by omega
      have hkc3 : (k : Int) - 1 < (n : Int) := by omega
      have hfs := hb.out.size
      rw [hR]
      have HD32 := Lib.hid (div32_any R x d hd0 hd1 hRd hx32 wr)
      clear hcell hbS hx hxd hR hstep hqd
      go_wp2_with (go_at_call 90; refine HD32.out.mono ?_; rintro e w' ⟨rfl, kk, rfl⟩)
      go_roundw
      case rel =>
        refine ⟨k - 1, by omega, by congr 1; omega, by rw [HST.out]; simp, Lib.hid ((⟨⟨hb.out.os, hb.out.tape, hb.out.output, hb.out.size, hb.out.block⟩⟩ : Nonempty (Below w.heap.size w (wr.drewN kk))).elim fun h => h.setCell (p := ⟨_, _, none⟩) (Nat.le_refl _) _), Lib.hid ?_⟩
        exact ZRel.step (k := k - 1) (x := x) (by rw [show k - 1 + 1 = k by omega]; exact hz.out) (drewN_block _ _ _) (by omega) HX.out _ (by rw [HQD.out]; rfl)
      case measure => simp [intOf]; omega
end Dc
end Go.Proofs.YtkjbfomokdjbnaaDoor
