/-
  bits.Mul32, bits.Add32, natural.MulAdd.
-/
import Derived.Test.YtkjbfomokdjbnaaDcD
namespace Go.Proofs.Ytkjbfomokdjbnaa
open Go.RowKit
set_option linter.unusedSimpArgs false
set_option linter.unusedVariables false
namespace Dc
open Fm
theorem mul_lt (x m : Nat) (hx : x < 4294967296) (hm : m < 4294967296) : x * m ≤ 18446744065119617025 := by
  have := Nat.mul_le_mul (show x ≤ 4294967295 by omega) (show m ≤ 4294967295 by omega)
  omega
set_option maxHeartbeats 1000000 in
theorem mul32_any (x m : Nat) (hx : x < 4294967296) (hm : m < 4294967296) (w : World) :
    Calls Try.prog 83 #[.int .u32 x, .int .u32 m] w fun e w' => e = .returned (.tuple #[.int .u32 ((x * m / 4294967296 : Nat) : Int), .int .u32 ((x * m % 4294967296 : Nat) : Int)]) ∧ w = w' := by
  have hle := mul_lt x m hx hm
  obtain ⟨V, hV⟩ : ∃ V, V = x * m := ⟨_, rfl⟩
  have h1 : IntKind.u64.wrap ((x : Int) * (m : Int)) = (V : Int) := by
    have e : (x : Int) * (m : Int) = (V : Int) := by rw [hV]; simp
    rw [e]; exact wraps_u64 _ (by omega) (by rw [hV]; omega)
  rw [← hV] at hle ⊢
  clear hV
  go_enter Try.func83, Try.ntmps83
  go_wp2
  go_ret2
  exact ⟨rfl, rfl⟩
set_option maxHeartbeats 1000000 in
theorem add32_any (x y : Nat) (hx : x < 4294967296) (hy : y < 4294967296) (w : World) :
    Calls Try.prog 84 #[.int .u32 x, .int .u32 y, .int .u32 0] w fun e w' => e = .returned (.tuple #[.int .u32 (((x + y) % 4294967296 : Nat) : Int), .int .u32 (((x + y) / 4294967296 : Nat) : Int)]) ∧ w = w' := by
  go_enter Try.func84, Try.ntmps84
  go_wp2
  go_ret2
  exact ⟨rfl, rfl⟩

/-! ### plain: a number times a digit, and a digit more -/
def crr (m : Nat) : List Nat → Nat → Nat → Nat
  | _, c, 0 => c
  | [], c, _ + 1 => c
  | x :: xs, c, k + 1 => crr m xs ((x * m + c) / 4294967296) k
def mulL (m : Nat) : List Nat → Nat → List Nat
  | [], c => [c]
  | x :: xs, c => (x * m + c) % 4294967296 :: mulL m xs ((x * m + c) / 4294967296)
theorem mulL_len (m : Nat) : ∀ (l : List Nat) (c : Nat), (mulL m l c).length = l.length + 1
  | [], c => rfl
  | x :: xs, c => by unfold mulL; rw [List.length_cons, mulL_len m xs]; rfl
theorem valN_mulL (m : Nat) : ∀ (l : List Nat) (c : Nat), valN (mulL m l c) = valN l * m + c
  | [], c => by simp [mulL, valN]
  | x :: xs, c => by
    unfold mulL
    rw [valN_cons, valN_mulL m xs, valN_cons]
    have h := Nat.div_add_mod (x * m + c) 4294967296
    have e : (x + 4294967296 * valN xs) * m = x * m + 4294967296 * (valN xs * m) := by rw [Nat.add_mul, Nat.mul_assoc]
    rw [e]
    omega
theorem crr_lt (m : Nat) (hm : m < 4294967296) : ∀ (l : List Nat) (c k : Nat), c < 4294967296 → (∀ x ∈ l, x < 4294967296) → crr m l c k < 4294967296
  | [], c, 0, hc, _ => hc
  | [], c, k + 1, hc, _ => hc
  | x :: xs, c, 0, hc, _ => hc
  | x :: xs, c, k + 1, hc, h => by
    unfold crr
    refine crr_lt m hm xs _ k ?_ (fun y hy => h y (List.mem_cons_of_mem _ hy))
    have h1 := Nat.mul_le_mul (show x ≤ 4294967295 by have := h x (List.mem_cons_self ..); omega) (show m ≤ 4294967295 by omega)
    rw [Nat.div_lt_iff_lt_mul (by omega)]
    omega
theorem crr_succ (m : Nat) : ∀ (l : List Nat) (c k x : Nat), l[k]? = some x → crr m l c (k + 1) = (x * m + crr m l c k) / 4294967296
  | [], c, k, x, h => by simp at h
  | y :: ys, c, 0, x, h => by simp at h; subst h; simp [crr]
  | y :: ys, c, k + 1, x, h => by
    have := crr_succ m ys ((y * m + c) / 4294967296) k x (by simpa using h)
    unfold crr
    exact this
theorem mulL_at (m : Nat) : ∀ (l : List Nat) (c k x : Nat), l[k]? = some x → (mulL m l c)[k]? = some ((x * m + crr m l c k) % 4294967296)
  | [], c, k, x, h => by simp at h
  | y :: ys, c, 0, x, h => by simp at h; subst h; simp [mulL, crr]
  | y :: ys, c, k + 1, x, h => by
    have := mulL_at m ys ((y * m + c) / 4294967296) k x (by simpa using h)
    unfold mulL crr
    simpa using this
theorem mulL_last (m : Nat) : ∀ (l : List Nat) (c : Nat), (mulL m l c)[l.length]? = some (crr m l c l.length)
  | [], c => rfl
  | y :: ys, c => by
    unfold mulL
    have := mulL_last m ys ((y * m + c) / 4294967296)
    simpa [crr] using this
theorem mulL_lt (m : Nat) (hm : m < 4294967296) : ∀ (l : List Nat) (c : Nat), c < 4294967296 → (∀ x ∈ l, x < 4294967296) → ∀ x ∈ mulL m l c, x < 4294967296
  | [], c, hc, _, x, hx => by simp [mulL] at hx; omega
  | y :: ys, c, hc, h, x, hx => by
    unfold mulL at hx
    rcases List.mem_cons.1 hx with rfl | hx
    · omega
    · refine mulL_lt m hm ys _ ?_ (fun z hz => h z (List.mem_cons_of_mem _ hz)) x hx
      have e : crr m (y :: ys) c 1 = (y * m + c) / 4294967296 := by unfold crr; cases ys <;> rfl
      rw [← e]
      exact crr_lt m hm (y :: ys) c 1 hc h
theorem join_hi (x m c : Nat) : x * m / 4294967296 + (x * m % 4294967296 + c) / 4294967296 = (x * m + c) / 4294967296 := by
  generalize x * m = V; omega
theorem join_lo (x m c : Nat) : (x * m % 4294967296 + c) % 4294967296 = (x * m + c) % 4294967296 := by
  generalize x * m = V; omega

/-- the product so far: the limbs below k -/
def MRel (L : List Nat) (g n k : Nat) (wr : World) : Prop :=
  ∃ cs : Array Value, wr.heap[g]? = some (.cells cs 63 (0, 0)) ∧ cs.size = n ∧ ∀ j x, j < k → L[j]? = some x → cs[j]? = some (u32V x)
theorem MRel.at_ {L : List Nat} {g n k : Nat} {wr : World} (h : MRel L g n k wr) (j : Nat) (hj : j < n) : (∃ u, wr.cell? ⟨g, j, none⟩ = some u) ∧ wr.frozen? ⟨g, j, none⟩ = false := by
  obtain ⟨cs, h1, h2, h3⟩ := h
  refine ⟨⟨cs[j], ?_⟩, by simp [World.frozen?, h1]⟩
  simp [World.cell?, h1, h2, hj]
theorem MRel.step {L : List Nat} {g n k x : Nat} {wr : World} (h : MRel L g n k wr) (hk : k < n) (hx : L[k]? = some x) (u : Value) (hu : u = u32V x) : MRel L g n (k + 1) (wr.setCell ⟨g, k, none⟩ u) := by
  obtain ⟨cs, h1, h2, h3⟩ := h
  refine ⟨cs.setIfInBounds k u, setCell_cells _ _ _ _ _ _ h1, by simp [h2], fun j y hj hy => ?_⟩
  by_cases e : j = k
  · subst e
    rw [hx] at hy
    injection hy with hy
    subst hy
    rw [hu]
    simp [h2, hk]
  · rw [Array.getElem?_setIfInBounds_ne (by omega)]
    exact h3 j y (by omega) hy
theorem MRel.done {L : List Nat} {g n : Nat} {wr : World} (h : MRel L g n n wr) (hn : n = L.length) (hL : ∀ x ∈ L, x < 4294967296) (hl : L.length ≤ 9223372036854775807) (S : Nat → Prop) (hS : S g) : AbsAt wr S (.slice (some ⟨g, 0, none⟩) n n) L := by
  obtain ⟨cs, h1, h2, h3⟩ := h
  refine AbsAt.of_row (l := L) ?_ hn hL hl S hS
  rw [h1]
  congr 2
  apply Array.ext_getElem?
  intro j
  by_cases hj : j < L.length
  · rw [h3 j _ (by omega) (List.getElem?_eq_getElem hj)]
    simp [hj]
  · rw [Array.getElem?_eq_none (by rw [h2, hn]; omega), Array.getElem?_eq_none (by simpa using hj)]

set_option maxRecDepth 100000 in
set_option maxHeartbeats 4000000 in
theorem mulAdd_any (l : List Nat) (v : Value) (m a : Nat) (S : Nat → Prop) (w : World) (hm1 : m < 4294967296) (ha1 : a < 4294967296) (hS : ∀ b, S b → b < w.heap.size) (h : AbsAt w S v l) (hl : l.length ≤ 1000000) :
    Calls Try.prog 80 #[v, .int .u32 m, .int .u32 a] w fun e w' => ∃ q A n c, e = .returned (.slice A n c) ∧ n = q.length ∧ AbsAt w' (Fr w w') (.slice A n c) q ∧ valN q = valN l * m + a ∧ q.length ≤ l.length + 1 ∧ Below w.heap.size w w' := by
  obtain ⟨i0, hi0, hz0, hz1, hz2⟩ := info_parts infoU32
  have hvl := valN_trim l
  have HTR := Lib.hid (trim_any l v S w h)
  have hle := trimN_le l
  obtain ⟨t, ht⟩ : ∃ t, trimN l = t := ⟨_, rfl⟩
  rw [ht] at hvl HTR hle
  obtain ⟨n, hn⟩ : ∃ n, n = t.length := ⟨_, rfl⟩
  rw [← hn] at HTR hle
  have HN := Lib.hid hn
  have HVL := Lib.hid hvl
  have HS := Lib.hid hS
  have HM1 := Lib.hid hm1
  have HA1 := Lib.hid ha1
  have hn6 : n ≤ 1000000 := by omega
  have hn7 : ((n + 1 : Nat) : Int) = (n : Int) + 1 := by omega
  rw [← hvl]
  clear ht hn hvl h hS
  go_enter Try.func80, Try.ntmps80
  go_wp2_with fail
  refine HTR.out.mono ?_
  rintro e w' ⟨⟨A, c, rfl, hA⟩, hw⟩
  obtain rfl : w = w' := hw.symm
  have HA := Lib.hid hA
  clear hA
  go_wp2_with (at_make; refine wpList_make_full _ rfl (.tmp 17) (.tmp 17) 41 rfl w.heap.size 63 i0 (.int .u32 0) 1 Try.underlying41 hi0 hz0 hz1 .i64 .i64 _ _ (n + 1) rfl rfl (by rfl) (by rfl) ?c1 ?c2 ?c3 ?_; rotate_right; intro w2 hown2 hg2; obtain ⟨cur, HCL, HCU, hb2⟩ := made_row hown2 hg2; have HB2 := Lib.hid hb2; clear hown2 hg2 hb2)
  case c1 => rw [hz2]; omega
  case c2 => unfold maxLen; omega
  case c3 => exact Nat.le_refl _
  have hgl : w.heap.size < w2.heap.size := (Array.getElem?_eq_some_iff.1 HCU.out).1
  go_loopw [2, 21] (fun a2 a21 wr => ∃ k : Nat, k ≤ n ∧ a21 = .int .i64 k ∧ a2 = .int .u32 ((crr m t a k : Nat) : Int) ∧ Hid (Below w.heap.size w wr) ∧ Hid (MRel (mulL m t a) w.heap.size (n + 1) k wr)) (fun _ a21 _ => n - (intOf a21).toNat)
  case atStart => exact ⟨0, Nat.zero_le _, rfl, by cases t <;> rfl, HB2, Lib.hid ⟨cur.toArray, HCU.out, by simpa using HCL.out, fun j x hj hx => absurd hj (by omega)⟩⟩
  case round =>
    obtain ⟨k, hk, rfl, rfl, hb, hz⟩ := hrel
    obtain ⟨C, hC⟩ : ∃ C, C = crr m t a k := ⟨_, rfl⟩
    have hC32 : C < 4294967296 := by rw [hC]; exact crr_lt m HM1.out t a k HA1.out HA.out.2.1
    rw [← hC]
    have hgw : w.heap.size < wr.heap.size := by obtain ⟨cs, h1, _⟩ := hz.out; exact (Array.getElem?_eq_some_iff.1 h1).1
    by_cases hlt : k < n
    · obtain ⟨b, o, rfl, hbS, hcell⟩ := HA.out.at_ HN.out (by omega)
      have hc1 := (hb.out.cell (p := ⟨b, o + k, none⟩) (HS.out b hbS)).trans (hcell k (by omega))
      obtain ⟨x, hx⟩ : ∃ x, t[k]? = some x := ⟨_, List.getElem?_eq_getElem (by rw [← HN.out]; omega)⟩
      have hxd : t.getD k 0 = x := by simp [List.getD, hx]
      rw [hxd] at hc1
      have hx32 : x < 4294967296 := HA.out.2.1 x (List.mem_of_getElem? hx)
      obtain ⟨⟨u, hzc⟩, hzf⟩ := hz.out.at_ k (by omega)
      have HST := Lib.hid (crr_succ m t a k x hx)
      have HAT := Lib.hid (mulL_at m t a k x hx)
      have hq1 : x * m / 4294967296 < 4294967296 := by have := mul_lt x m hx32 HM1.out; omega
      have HML := Lib.hid (mul32_any x m hx32 HM1.out wr)
      have HJH := Lib.hid (join_hi x m C)
      have HJL := Lib.hid (join_lo x m C)
      have hsum : x * m / 4294967296 + (x * m % 4294967296 + C) / 4294967296 < 4294967296 := by
        rw [HJH.out, hC, ← HST.out]; exact crr_lt m HM1.out t a (k + 1) HA1.out HA.out.2.1
      obtain ⟨hi, hhi⟩ : ∃ hi, hi = x * m / 4294967296 := ⟨_, rfl⟩
      obtain ⟨lo, hlo⟩ : ∃ lo, lo = x * m % 4294967296 := ⟨_, rfl⟩
      rw [← hhi] at hq1 HML HJH hsum
      rw [← hlo] at HML HJH HJL hsum
      have hlo32 : lo < 4294967296 := by omega
      have HAD := Lib.hid (add32_any lo C hlo32 hC32 wr)
      obtain ⟨cc, hcc⟩ : ∃ cc, cc = (lo + C) / 4294967296 := ⟨_, rfl⟩
      obtain ⟨ls, hls⟩ : ∃ ls, ls = (lo + C) % 4294967296 := ⟨_, rfl⟩
      rw [← hcc] at HAD HJH hsum
      rw [← hls] at HAD HJL
      have HC := Lib.hid hC
      have hcell' : 0 + k = k := by omega
      clear hcell hbS hx hxd hC hhi hlo hcc hls
      go_wp2_with (first
        | (go_at_call 83; refine HML.out.mono ?_; rintro e w' ⟨rfl, rfl⟩)
        | (go_at_call 84; refine HAD.out.mono ?_; rintro e w' ⟨rfl, rfl⟩))
      go_roundw
      case rel =>
        refine ⟨k + 1, by omega, by go_num, ?_, Lib.hid (hb.out.setCell (p := ⟨_, _, none⟩) (Nat.le_refl _) _), Lib.hid ?_⟩
        · rw [HST.out, ← HC.out, ← HJH.out]; simp
        · exact MRel.step hz.out (by omega) HAT.out _ (by rw [← HC.out, ← HJL.out]; rfl)
      case measure => simp [intOf]; omega
    · obtain rfl : k = n := by omega
      have hlast := mulL_last m t a
      rw [← HN.out, ← hC] at hlast
      obtain ⟨⟨u, hzc⟩, hzf⟩ := hz.out.at_ k (by omega)
      have HZ := Lib.hid (MRel.step hz.out (by omega) hlast (.int .u32 C) rfl)
      have HD := Lib.hid (HZ.out.done (by rw [mulL_len, HN.out]) (mulL_lt m HM1.out t a HA1.out HA.out.2.1) (by rw [mulL_len, ← HN.out]; omega) (fun b => w.heap.size ≤ b ∧ b < (wr.setCell ⟨w.heap.size, k, none⟩ (.int .u32 C)).heap.size) ⟨Nat.le_refl _, by simpa using hgw⟩)
      have HT2 := Lib.hid (trim_any _ _ _ _ HD.out)
      obtain ⟨q, hq⟩ : ∃ q, trimN (mulL m t a) = q := ⟨_, rfl⟩
      have hq2 : valN q = valN t * m + a := by rw [← hq, valN_trim, valN_mulL]
      have hq3 : q.length ≤ k + 1 := by rw [← hq]; have := trimN_le (mulL m t a); rw [mulL_len, ← HN.out] at this; exact this
      rw [hq] at HT2
      have HQ2 := Lib.hid hq2
      have HB3 := Lib.hid (hb.out.setCell (p := ⟨w.heap.size, k, none⟩) (Nat.le_refl _) (.int .u32 C))
      clear hq hq2 hlast hC
      obtain ⟨ql, hql⟩ : ∃ ql, ql = q.length := ⟨_, rfl⟩
      rw [← hql] at HT2 hq3
      have HQL := Lib.hid hql
      clear hql
      go_wp2_with (go_at_call 55; refine HT2.out.mono ?_; rintro e w' ⟨⟨A3, c3, rfl, hA3⟩, hw⟩; obtain rfl := hw.symm; have HA3 := Lib.hid hA3; clear hA3 hw)
      go_ret
      exact ⟨q, A3, ql, c3, rfl, HQL.out, HA3.out, HQ2.out, by rw [← HQL.out]; omega, HB3.out⟩
end Dc
end Go.Proofs.Ytkjbfomokdjbnaa
