/-
  bits.Mul32, bits.Add32, natural.MulAdd.
-/
import Derived.Test.YteneobpacobpdaaGreatDoorHy
import Derived.Test.YteneobpacobpdaaGreatDoorDcD
import Derived.Test.YteneobpacobpdaaGreatDoorDcF
import Derived.Test.YteneobpacobpdaaGreatDoorPaP
import Derived.Test.YteneobpacobpdaaGreatDoorFmW
set_option linter.unusedSimpArgs false
set_option linter.unusedVariables false
set_option maxRecDepth 100000
set_option maxHeartbeats 16000000
namespace Go.Proofs.YteneobpacobpdaaGreatDoor
open Go.RowKit
namespace Dc
open Fm
theorem mul_lt (x m : Nat) (hx : x < 4294967296) (hm : m < 4294967296) : x * m ≤ 18446744065119617025 := by
 have := Nat.mul_le_mul (show x ≤ 4294967295 by omega) (show m ≤ 4294967295 by omega)
 omega
theorem mul32_any (x m : Nat) (hx : x < 4294967296) (hm : m < 4294967296) (w : World) :
  Calls Tryz.prog 135 #[.int .u32 x, .int .u32 m] w fun e w' => e = .returned (.tuple #[.int .u32 ((x * m / 4294967296 : Nat) : Int), .int .u32 ((x * m % 4294967296 : Nat) : Int)]) ∧ w = w' := by
 have hle := mul_lt x m hx hm
 obtain ⟨V, hV⟩ : ∃ V, V = x * m := ⟨_, rfl⟩
 have h1 : IntKind.u64.wrap ((x : Int) * (m : Int)) = (V : Int) := by
  have e : (x : Int) * (m : Int) = (V : Int) := by rw [hV]; simp
  rw [e]; exact wraps_u64 _ (by omega) (by rw [hV]; omega)
 rw [← hV] at hle ⊢
 clear hV
 go_enter Tryz.func135, Tryz.ntmps135
 go_wp2
 go_ret2
 exact ⟨rfl, rfl⟩
theorem add32_any (x y : Nat) (hx : x < 4294967296) (hy : y < 4294967296) (w : World) :
  Calls Tryz.prog 136 #[.int .u32 x, .int .u32 y, .int .u32 0] w fun e w' => e = .returned (.tuple #[.int .u32 (((x + y) % 4294967296 : Nat) : Int), .int .u32 (((x + y) / 4294967296 : Nat) : Int)]) ∧ w = w' := by
 go_enter Tryz.func136, Tryz.ntmps136
 go_wp2
 go_ret2
 exact ⟨rfl, rfl⟩
def crr (m : Nat) : List Nat → Nat → Nat → Nat
 | _, c, 0 => c
 | [], c, _ + 1 => c
 | x :: xs, c, k + 1 => crr m xs ((x * m + c) / 4294967296) k
def mulL (m : Nat) : List Nat → Nat → List Nat
 | [], c => [c]
 | x :: xs, c => (x * m + c) % 4294967296 :: mulL m xs ((x * m + c) / 4294967296)
theorem mulL_len (m : Nat) : ∀ (l : List Nat) (c : Nat), (mulL m l c).length = l.length + 1
 | [], c => rfl
 | x :: xs, c => by unfold mulL; rw [List.length_cons, mulL_len m xs]; rfl
theorem valN_mulL (m : Nat) : ∀ (l : List Nat) (c : Nat), valN (mulL m l c) = valN l * m + c
 | [], c => by simp [mulL, valN]
 | x :: xs, c => by
  unfold mulL
  rw [valN_cons, valN_mulL m xs, valN_cons]
  have h := Nat.div_add_mod (x * m + c) 4294967296
  have e : (x + 4294967296 * valN xs) * m = x * m + 4294967296 * (valN xs * m) := by rw [Nat.add_mul, Nat.mul_assoc]
  rw [e]
  omega
theorem crr_lt (m : Nat) (hm : m < 4294967296) : ∀ (l : List Nat) (c k : Nat), c < 4294967296 → (∀ x ∈ l, x < 4294967296) → crr m l c k < 4294967296
 | [], c, 0, hc, _ => hc
 | [], c, k + 1, hc, _ => hc
 | x :: xs, c, 0, hc, _ => hc
 | x :: xs, c, k + 1, hc, h => by
  unfold crr
  refine crr_lt m hm xs _ k ?_ (fun y hy => h y (List.mem_cons_of_mem _ hy))
  have h1 := Nat.mul_le_mul (show x ≤ 4294967295 by have := h x (List.mem_cons_self ..); omega) (show m ≤ 4294967295 by omega)
  rw [Nat.div_lt_iff_lt_mul (by omega)]
  omega
theorem crr_succ (m : Nat) : ∀ (l : List Nat) (c k x : Nat), l[k]? = some x → crr m l c (k + 1) = (x * m + crr m l c k) / 4294967296
 | [], c, k, x, h => by simp at h
 | y :: ys, c, 0, x, h => by simp at h; subst h; simp [crr]
 | y :: ys, c, k + 1, x, h => by
  have := crr_succ m ys ((y * m + c) / 4294967296) k x (by simpa using h)
  unfold crr
  exact this
theorem mulL_at (m : Nat) : ∀ (l : List Nat) (c k x : Nat), l[k]? = some x → (mulL m l c)[k]? = some ((x * m + crr m l c k) % 4294967296)
 | [], c, k, x, h => by simp at h
 | y :: ys, c, 0, x, h => by simp at h; subst h; simp [mulL, crr]
 | y :: ys, c, k + 1, x, h => by
  have := mulL_at m ys ((y * m + c) / 4294967296) k x (by simpa using h)
  unfold mulL crr
  simpa using this
theorem mulL_last (m : Nat) : ∀ (l : List Nat) (c : Nat), (mulL m l c)[l.length]? = some (crr m l c l.length)
 | [], c => rfl
 | y :: ys, c => by
  unfold mulL
  have := mulL_last m ys ((y * m + c) / 4294967296)
  simpa [crr] using this
theorem mulL_lt (m : Nat) (hm : m < 4294967296) : ∀ (l : List Nat) (c : Nat), c < 4294967296 → (∀ x ∈ l, x < 4294967296) → ∀ x ∈ mulL m l c, x < 4294967296
 | [], c, hc, _, x, hx => by simp [mulL] at hx; omega
 | y :: ys, c, hc, h, x, hx => by
  unfold mulL at hx
  rcases List.mem_cons.1 hx with rfl | hx
  ·omega
  ·refine mulL_lt m hm ys _ ?_ (fun z hz => h z (List.mem_cons_of_mem _ hz)) x hx
   have e : crr m (y :: ys) c 1 = (y * m + c) / 4294967296 := by unfold crr; cases ys <;> rfl
   rw [← e]
   exact crr_lt m hm (y :: ys) c 1 hc h
theorem join_hi (x m c : Nat) : x * m / 4294967296 + (x * m % 4294967296 + c) / 4294967296 = (x * m + c) / 4294967296 := by
 generalize x * m = V; omega
theorem join_lo (x m c : Nat) : (x * m % 4294967296 + c) % 4294967296 = (x * m + c) % 4294967296 := by
 generalize x * m = V; omega
def MRel (L : List Nat) (g n k : Nat) (wr : World) : Prop :=
 ∃ cs : Array Value, wr.heap[g]? = some (.cells cs 162 (0, 0)) ∧ cs.size = n ∧ ∀ j x, j < k → L[j]? = some x → cs[j]? = some (u32V x)
theorem MRel.at_ {L : List Nat} {g n k : Nat} {wr : World} (h : MRel L g n k wr) (j : Nat) (hj : j < n) : (∃ u, wr.cell? ⟨g, j, none⟩ = some u) ∧ wr.frozen? ⟨g, j, none⟩ = false := by
 obtain ⟨cs, h1, h2, h3⟩ := h
 refine ⟨⟨cs[j], ?_⟩, by simp [World.frozen?, h1]⟩
 simp [World.cell?, h1, h2, hj]
theorem MRel.step {L : List Nat} {g n k x : Nat} {wr : World} (h : MRel L g n k wr) (hk : k < n) (hx : L[k]? = some x) (u : Value) (hu : u = u32V x) : MRel L g n (k + 1) (wr.setCell ⟨g, k, none⟩ u) := by
 obtain ⟨cs, h1, h2, h3⟩ := h
 refine ⟨cs.setIfInBounds k u, setCell_cells _ _ _ _ _ _ h1, by simp [h2], fun j y hj hy => ?_⟩
 by_cases e : j = k
 ·subst e
  rw [hx] at hy
  injection hy with hy
  subst hy
  rw [hu]
  simp [h2, hk]
 ·rw [Array.getElem?_setIfInBounds_ne (by omega)]
  exact h3 j y (by omega) hy
theorem MRel.done {L : List Nat} {g n : Nat} {wr : World} (h : MRel L g n n wr) (hn : n = L.length) (hL : ∀ x ∈ L, x < 4294967296) (hl : L.length ≤ 9223372036854775807) (S : Nat → Prop) (hS : S g) : AbsAt wr S (.slice (some ⟨g, 0, none⟩) n n) L := by
 obtain ⟨cs, h1, h2, h3⟩ := h
 refine AbsAt.of_row (l := L) ?_ hn hL hl S hS
 rw [h1]
 congr 2
 apply Array.ext_getElem?
 intro j
 by_cases hj : j < L.length
 ·rw [h3 j _ (by omega) (List.getElem?_eq_getElem hj)]
  simp [hj]
 ·rw [Array.getElem?_eq_none (by rw [h2, hn]; omega), Array.getElem?_eq_none (by simpa using hj)]
theorem mulAdd_any (l : List Nat) (v : Value) (m a : Nat) (S : Nat → Prop) (w : World) (hm1 : m < 4294967296) (ha1 : a < 4294967296) (hS : ∀ b, S b → b < w.heap.size) (h : AbsAt w S v l) (hl : l.length ≤ 1000000) :
  Calls Tryz.prog 134 #[v, .int .u32 m, .int .u32 a] w fun e w' => ∃ q A n c, e = .returned (.slice A n c) ∧ n = q.length ∧ AbsAt w' (Fr w w') (.slice A n c) q ∧ valN q = valN l * m + a ∧ q.length ≤ l.length + 1 ∧ Below w.heap.size w w' := by
 obtain ⟨i0, hi0, hz0, hz1, hz2⟩ := info_parts infoU32
 have hvl := valN_trim l
 have HTR := h_ (trim_any l v S w h)
 have hle := trimN_le l
 obtain ⟨t, ht⟩ : ∃ t, trimN l = t := ⟨_, rfl⟩
 rw [ht] at hvl HTR hle
 obtain ⟨n, hn⟩ : ∃ n, n = t.length := ⟨_, rfl⟩
 rw [← hn] at HTR hle
 have HN := h_ hn
 have HVL := h_ hvl
 have HS := h_ hS
 have HM1 := h_ hm1
 have HA1 := h_ ha1
 have hn6 : n ≤ 1000000 := by omega
 have hn7 : ((n + 1 : Nat) : Int) = (n : Int) + 1 := by omega
 rw [← hvl]
 clear ht hn hvl h hS
 go_enter Tryz.func134, Tryz.ntmps134
 go_wp2_with fail
 refine HTR.out.mono ?_
 rintro e w' ⟨⟨A, c, rfl, hA⟩, hw⟩
 obtain rfl : w = w' := hw.symm
 have HA := h_ hA
 clear hA
 go_wp2_with (at_make; refine wpList_make_full _ rfl (.tmp 17) (.tmp 17) 33 rfl w.heap.size 162 i0 (.int .u32 0) 1 Tryz.underlying33 hi0 hz0 hz1 .i64 .i64 _ _ (n + 1) rfl rfl (by rfl) (by rfl) ?c1 ?c2 ?c3 ?_; rotate_right; intro w2 hown2 hg2; obtain ⟨cur, HCL, HCU, hb2⟩ := made_row hown2 hg2; have HB2 := h_ hb2; clear hown2 hg2 hb2)
 case c1 => rw [hz2]; omega
 case c2 => unfold maxLen; omega
 case c3 => exact Nat.le_refl _
 have hgl : w.heap.size < w2.heap.size := (Array.getElem?_eq_some_iff.1 HCU.out).1
 go_loopw [2, 21] (fun a2 a21 wr => ∃ k : Nat, k ≤ n ∧ a21 = .int .i64 k ∧ a2 = .int .u32 ((crr m t a k : Nat) : Int) ∧ Hid (Below w.heap.size w wr) ∧ Hid (MRel (mulL m t a) w.heap.size (n + 1) k wr)) (fun _ a21 _ => n - (intOf a21).toNat)
 case atStart => exact ⟨0, Nat.zero_le _, rfl, by cases t <;> rfl, HB2, h_ ⟨cur.toArray, HCU.out, by simpa using HCL.out, fun j x hj hx => absurd hj (by omega)⟩⟩
 case round =>
  obtain ⟨k, hk, rfl, rfl, hb, hz⟩ := hrel
  obtain ⟨C, hC⟩ : ∃ C, C = crr m t a k := ⟨_, rfl⟩
  have hC32 : C < 4294967296 := by rw [hC]; exact crr_lt m HM1.out t a k HA1.out HA.out.2.1
  rw [← hC]
  have hgw : w.heap.size < wr.heap.size := by obtain ⟨cs, h1, _⟩ := hz.out; exact (Array.getElem?_eq_some_iff.1 h1).1
  by_cases hlt : k < n
  ·obtain ⟨b, o, rfl, hbS, hcell⟩ := HA.out.at_ HN.out (by omega)
   have hc1 := (hb.out.cell (p := ⟨b, o + k, none⟩) (HS.out b hbS)).trans (hcell k (by omega))
   obtain ⟨x, hx⟩ : ∃ x, t[k]? = some x := ⟨_, List.getElem?_eq_getElem (by rw [← HN.out]; omega)⟩
   have hxd : t.getD k 0 = x := by simp [List.getD, hx]
   rw [hxd] at hc1
   have hx32 : x < 4294967296 := HA.out.2.1 x (List.mem_of_getElem? hx)
   obtain ⟨⟨u, hzc⟩, hzf⟩ := hz.out.at_ k (by omega)
   have HST := h_ (crr_succ m t a k x hx)
   have HAT := h_ (mulL_at m t a k x hx)
   have hq1 : x * m / 4294967296 < 4294967296 := by have := mul_lt x m hx32 HM1.out; omega
   have HML := h_ (mul32_any x m hx32 HM1.out wr)
   have HJH := h_ (join_hi x m C)
   have HJL := h_ (join_lo x m C)
   have hsum : x * m / 4294967296 + (x * m % 4294967296 + C) / 4294967296 < 4294967296 := by
    rw [HJH.out, hC, ← HST.out]; exact crr_lt m HM1.out t a (k + 1) HA1.out HA.out.2.1
   obtain ⟨hi, hhi⟩ : ∃ hi, hi = x * m / 4294967296 := ⟨_, rfl⟩
   obtain ⟨lo, hlo⟩ : ∃ lo, lo = x * m % 4294967296 := ⟨_, rfl⟩
   rw [← hhi] at hq1 HML HJH hsum
   rw [← hlo] at HML HJH HJL hsum
   have hlo32 : lo < 4294967296 := by omega
   have HAD := h_ (add32_any lo C hlo32 hC32 wr)
   obtain ⟨cc, hcc⟩ : ∃ cc, cc = (lo + C) / 4294967296 := ⟨_, rfl⟩
   obtain ⟨ls, hls⟩ : ∃ ls, ls = (lo + C) % 4294967296 := ⟨_, rfl⟩
   rw [← hcc] at HAD HJH hsum
   rw [← hls] at HAD HJL
   have HC := h_ hC
   have hcell' : 0 + k = k := by omega
   clear hcell hbS hx hxd hC hhi hlo hcc hls
   go_wp2_with (first
    |(go_at_call 135; refine HML.out.mono ?_; rintro e w' ⟨rfl, rfl⟩)
    |(go_at_call 136; refine HAD.out.mono ?_; rintro e w' ⟨rfl, rfl⟩))
   go_roundw
   case rel =>
    refine ⟨k + 1, by omega, by go_num, ?_, h_ (hb.out.setCell (p := ⟨_, _, none⟩) (Nat.le_refl _) _), h_ ?_⟩
    ·rw [HST.out, ← HC.out, ← HJH.out]; simp
    ·exact MRel.step hz.out (by omega) HAT.out _ (by rw [← HC.out, ← HJL.out]; rfl)
   case measure => simp [intOf]; omega
  ·obtain rfl : k = n := by omega
   have hlast := mulL_last m t a
   rw [← HN.out, ← hC] at hlast
   obtain ⟨⟨u, hzc⟩, hzf⟩ := hz.out.at_ k (by omega)
   have HZ := h_ (MRel.step hz.out (by omega) hlast (.int .u32 C) rfl)
   have HD := h_ (HZ.out.done (by rw [mulL_len, HN.out]) (mulL_lt m HM1.out t a HA1.out HA.out.2.1) (by rw [mulL_len, ← HN.out]; omega) (fun b => w.heap.size ≤ b ∧ b < (wr.setCell ⟨w.heap.size, k, none⟩ (.int .u32 C)).heap.size) ⟨Nat.le_refl _, by simpa using hgw⟩)
   have HT2 := h_ (trim_any _ _ _ _ HD.out)
   obtain ⟨q, hq⟩ : ∃ q, trimN (mulL m t a) = q := ⟨_, rfl⟩
   have hq2 : valN q = valN t * m + a := by rw [← hq, valN_trim, valN_mulL]
   have hq3 : q.length ≤ k + 1 := by rw [← hq]; have := trimN_le (mulL m t a); rw [mulL_len, ← HN.out] at this; exact this
   rw [hq] at HT2
   have HQ2 := h_ hq2
   have HB3 := h_ (hb.out.setCell (p := ⟨w.heap.size, k, none⟩) (Nat.le_refl _) (.int .u32 C))
   clear hq hq2 hlast hC
   obtain ⟨ql, hql⟩ : ∃ ql, ql = q.length := ⟨_, rfl⟩
   rw [← hql] at HT2 hq3
   have HQL := h_ hql
   clear hql
   go_wp2_with (go_at_call 90; refine HT2.out.mono ?_; rintro e w' ⟨⟨A3, c3, rfl, hA3⟩, hw⟩; obtain rfl := hw.symm; have HA3 := h_ hA3; clear hA3 hw)
   go_ret
   exact ⟨q, A3, ql, c3, rfl, HQL.out, HA3.out, HQ2.out, by rw [← HQL.out]; omega, HB3.out⟩
end Dc
end Go.Proofs.YteneobpacobpdaaGreatDoor
namespace Go.Proofs.YteneobpacobpdaaGreatDoor
open Go.RowKit
namespace Dc
open Fm Pa Lx
def tz : List Nat → List Nat
 | [] => []
 | x :: xs => if valN (x :: xs) = 0 then [] else x :: tz xs
theorem limbF_tz : ∀ (l : List Nat) (k : Nat), (∀ x ∈ l, x < 4294967296) → valN l < 4294967296 ^ k → limbF k (valN l) = tz l
 | [], 0, _, _ => rfl
 | [], k + 1, _, _ => rfl
 | x :: xs, 0, _, h => by
  have h0 : valN (x :: xs) = 0 := by rw [Nat.pow_zero] at h; omega
  unfold limbF tz
  rw [if_pos h0]
 | x :: xs, k + 1, hx, h => by
  unfold limbF tz
  by_cases h0 : valN (x :: xs) = 0
  ·rw [if_pos h0, if_pos h0]
  ·rw [if_neg h0, if_neg h0]
   have hx1 := hx x (List.mem_cons_self ..)
   have e1 : valN (x :: xs) % 4294967296 = x := by rw [valN_cons]; omega
   have e2 : valN (x :: xs) / 4294967296 = valN xs := by rw [valN_cons]; omega
   have e3 : valN xs < 4294967296 ^ k := by rw [← e2, Nat.div_lt_iff_lt_mul (by omega)]; rw [Nat.pow_succ] at h; exact h
   rw [e1, e2, limbF_tz xs k (fun y hy => hx y (List.mem_cons_of_mem _ hy)) e3]
theorem trimLen_cons (x : Nat) (xs : List Nat) : ∀ n, trimLen (x :: xs) (n + 1) = if trimLen xs n = 0 then (if x = 0 then 0 else 1) else trimLen xs n + 1
 | 0 => by
  show (if (x :: xs).getD 0 1 = 0 then trimLen (x :: xs) 0 else 0 + 1) = _
  simp [trimLen]
 | n + 1 => by
  have ih := trimLen_cons x xs n
  have e : trimLen (x :: xs) (n + 1 + 1) = if (x :: xs).getD (n + 1) 1 = 0 then trimLen (x :: xs) (n + 1) else n + 1 + 1 := rfl
  have e2 : trimLen xs (n + 1) = if xs.getD n 1 = 0 then trimLen xs n else n + 1 := rfl
  rw [e, e2]
  have e3 : (x :: xs).getD (n + 1) 1 = xs.getD n 1 := by simp [List.getD]
  rw [e3]
  by_cases h : xs.getD n 1 = 0
  ·rw [if_pos h, if_pos h]; exact ih
  ·rw [if_neg h, if_neg h, if_neg (by omega)]
theorem trimN_tz : ∀ (l : List Nat), trimN l = tz l
 | [] => rfl
 | x :: xs => by
  have ih := trimN_tz xs
  have hz := trim_zero xs
  rw [trimN_len] at hz
  unfold trimN
  rw [List.length_cons, trimLen_cons]
  unfold tz
  by_cases h : trimLen xs xs.length = 0
  ·have hv := hz.1 h
   rw [if_pos h]
   have e : tz xs = [] := by rw [← ih]; unfold trimN; rw [h]; rfl
   by_cases hx : x = 0
   ·rw [if_pos hx, if_pos (by rw [valN_cons, hx, hv])]; rfl
   ·rw [if_neg hx, if_neg (by rw [valN_cons, hv]; omega), e]; simp
  ·rw [if_neg h, if_neg (by rw [valN_cons]; have : ¬ valN xs = 0 := fun e => h (hz.2 e); omega), ← ih, List.take_succ_cons]
   rfl
theorem decF_cons (a : Nat) (c : UInt8) (l : Bytes) : decF a (c :: l) = decF (a * 10 + (c.toNat - 48)) l := List.foldl_cons ..
theorem decF_nil (a : Nat) : decF a [] = a := List.foldl_nil ..
theorem decF_app (l m : Bytes) (a : Nat) : decF a (l ++ m) = decF (decF a l) m := List.foldl_append ..
theorem decF_lin (l : Bytes) : ∀ (a : Nat), decF a l = a * 10 ^ l.length + decF 0 l := by
 induction l with
 | nil => intro a; rw [decF_nil, decF_nil]; simp
 | cons c l ih =>
  intro a
  rw [decF_cons a, decF_cons 0, List.length_cons, ih (a * 10 + (c.toNat - 48)), ih (0 * 10 + (c.toNat - 48)), Nat.pow_succ]
  have e : (a * 10 + (c.toNat - 48)) * 10 ^ l.length = a * (10 ^ l.length * 10) + (0 * 10 + (c.toNat - 48)) * 10 ^ l.length := by
   rw [Nat.add_mul, Nat.zero_mul, Nat.zero_add, Nat.mul_assoc, Nat.mul_comm 10]
  rw [e]; omega
theorem decF_lt (l : Bytes) : (∀ c ∈ l, dig c = true) → decF 0 l < 10 ^ l.length := by
 induction l with
 | nil => intro _; rw [decF_nil]; simp
 | cons c l ih =>
  intro h
  rw [decF_cons, List.length_cons, decF_lin l, Nat.pow_succ]
  have h1 := ih (fun d hd => h d (List.mem_cons_of_mem _ hd))
  have h2 := h c (List.mem_cons_self ..)
  unfold dig at h2
  simp only [Bool.and_eq_true, decide_eq_true_eq] at h2
  have h3 : (0 * 10 + (c.toNat - 48)) * 10 ^ l.length ≤ 9 * 10 ^ l.length := Nat.mul_le_mul_right _ (by omega)
  omega
theorem decF_snoc (l : Bytes) (c : UInt8) (a : Nat) : decF a (l ++ [c]) = decF a l * 10 + (c.toNat - 48) := by rw [decF_app, decF_cons, decF_nil]
theorem digit_any (c : UInt8) (hc : dig c = true) (w : World) : Calls Tryz.prog 133 #[.int .u8 (c.toNat : Int)] w fun e w' => e = .returned (.int .u32 ((c.toNat - 48 : Nat) : Int)) ∧ w = w' := by
 unfold dig at hc
 simp only [Bool.and_eq_true, decide_eq_true_eq] at hc
 obtain ⟨k, hk⟩ : ∃ k, k = c.toNat := ⟨_, rfl⟩
 rw [← hk] at hc ⊢
 clear hk
 rcases (show k = 48 ∨ k = 49 ∨ k = 50 ∨ k = 51 ∨ k = 52 ∨ k = 53 ∨ k = 54 ∨ k = 55 ∨ k = 56 ∨ k = 57 by omega) with rfl | rfl | rfl | rfl | rfl | rfl | rfl | rfl | rfl | rfl
 all_goals
  clear hc
  go_enter Tryz.func133, Tryz.ntmps133
  go_wp2
  go_ret
  exact ⟨rfl, rfl⟩
theorem split_any (s : ByteArray) (h0 : 0 < s.size) (hs : s.size ≤ 1000000) (hc : s[0].toNat ≠ 45) (w : World) : Calls Tryz.prog 132 #[.string s] w fun e w' => e = .returned (.tuple #[.bool false, .string s]) ∧ w = w' := by
 have e : ((s[0].toNat : Int) == 45) = false := by simp; omega
 clear hc
 go_enter Tryz.func132, Tryz.ntmps132
 go_wp2
 go_ret2
 exact ⟨rfl, rfl⟩
def strLen : Value → Nat
 | .string s => s.size
 | _ => 0
def PPost (l : Bytes) (w : World) (e : Ending) (w' : World) : Prop := ∃ A n c, e = .returned (.tuple #[.agg #[.bool false, .slice A n c], .int .i64 0]) ∧ AbsAt w' (Fr w w') (.slice A n c) (limbs (decV l)) ∧ Below w.heap.size w w'
theorem parse_any (s : ByteArray) (hd : ∀ c ∈ s.data.toList, dig c = true) (h0 : 0 < s.size) (h40 : s.size ≤ 40) (hz : s.size = 1 ∨ s[0].toNat ≠ 48) (w : World) :
  Calls Tryz.prog 130 #[.string s, .int .i64 10] w (PPost s.data.toList w) := by
 obtain ⟨W, hW⟩ : ∃ W, w.alloc (.cells #[.bool false, .slice none 0 0] 35) = W := ⟨_, rfl⟩
 have hx : Box w W w.heap.size #[.bool false, .slice none 0 0] 35 := by rw [← hW]; exact Box.new w _ _
 have HX := h_ hx
 have HDI := h_ (show ∀ i (h : i < s.size), dig s[i] = true from fun i h => hd s[i] (by rw [← get_list s i h]; exact List.getElem_mem _))
 have h45 : s[0].toNat ≠ 45 := fun e => by
  have h := HDI.out 0 h0
  unfold dig at h
  rw [e] at h
  simp at h
 have HSP := h_ (split_any s h0 (by omega) h45 W)
 have hemp : (!s.toList.isEmpty) = true := by
  cases h : s.toList with
  | nil => rw [ByteArray.toList_eq] at h; have := congrArg List.length h; rw [size_len, List.length_nil] at this; omega
  | cons a l => rfl
 have hemp2 : s.toList.isEmpty = false := by simpa using hemp
 obtain ⟨L, hL⟩ : ∃ L, L = s.data.toList := ⟨_, rfl⟩
 have hLs : L.length = s.size := by rw [hL]; rfl
 have HL := h_ hL
 have HLS := h_ hLs
 have HD := h_ hd
 have hcap : w.heap.size < W.heap.size := hx.lt
 rw [← hL]
 rw [← hL] at HD
 have h48 : (((s[0].toNat : Int) == 48) = true ∧ s.size ≤ 1) ∨ (((s[0].toNat : Int) == 48) = false ∧ True) := by
  by_cases e : s[0].toNat = 48
  ·rcases hz with h1 | h1
   ·exact .inl ⟨by simp; omega, by omega⟩
   ·exact absurd e h1
  ·exact .inr ⟨by simp; omega, trivial⟩
 clear h45 hL hLs hx hd hz
 rcases h48 with ⟨e48, h1⟩ | ⟨e48, -⟩
 all_goals
  go_enter Tryz.func130, Tryz.ntmps130
  go_wp2_with fail
  refine HSP.out.mono ?_
  rintro e w' ⟨rfl, rfl⟩
  go_wp2_with fail
  clear e48 hemp hemp2
  go_loop [8] (fun a => ∃ i : Nat, i ≤ s.size ∧ a = .int .i64 i) (fun a => s.size - (intOf a).toNat)
  case atStart => exact ⟨0, Nat.zero_le _, rfl⟩
  case round =>
   obtain ⟨i, hi, rfl⟩ := hrel
   by_cases hlt : i < s.size
   ·have hdi := HDI.out i hlt
    have HG := h_ (digit_any s[i] hdi W)
    unfold dig at hdi
    simp only [Bool.and_eq_true, decide_eq_true_eq] at hdi
    obtain ⟨k, hk⟩ : ∃ k, k = s[i].toNat - 48 := ⟨_, rfl⟩
    rw [← hk] at HG
    have hk9 : k ≤ 9 := by omega
    clear hdi hk
    go_wp2_with fail
    refine HG.out.mono ?_
    rintro e w' ⟨rfl, rfl⟩
    go_wp2
    go_round
    case rel => exact ⟨i + 1, by omega, by go_num⟩
    case measure => simp [intOf]; omega
   ·obtain rfl : i = s.size := by omega
    go_wp2_with fail
    refine (chunk_ten _).mono ?_
    rintro e w' ⟨rfl, rfl⟩
    go_wp2_with fail
    go_loopw [7, 11] (fun a7 a11 wr => ∃ (j : Nat) (D : ByteArray) (A : Option Addr) (m c : Nat) (X : List Nat), j + D.size = s.size ∧ a7 = .string D ∧ a11 = .slice A m c ∧ m ≤ 40 ∧ Hid (m = X.length) ∧ Hid (X.length ≤ j) ∧ Hid (D.data.toList = L.drop j) ∧ Hid (valN X = decF 0 (L.take j)) ∧ Hid (AbsAt wr (fun b => w.heap.size < b ∧ b < wr.heap.size) (.slice A m c) X) ∧ Hid (Box w wr w.heap.size #[.bool false, .slice none 0 0] 35)) (fun a7 _ _ => strLen a7)
    case atStart => exact ⟨0, s, none, 0, 0, [], by omega, rfl, rfl, by omega, h_ rfl, h_ (Nat.le_refl _), h_ (by rw [List.drop_zero]; exact HL.out.symm), h_ rfl, h_ ⟨SS.nil, by simp⟩, HX⟩
    case round =>
     obtain ⟨j, D, A, m, c, X, hj, rfl, rfl, hm40, hmX, hXj, hD, hv, hA, hbx⟩ := hrel
     have hDs : D.data.toList.length = D.size := rfl
     by_cases hpos : 0 < D.size
     ·obtain ⟨q, hq⟩ : ∃ q, q = min 9 D.size := ⟨_, rfl⟩
      have hq9 : q ≤ 9 ∧ q ≤ D.size ∧ 0 < q := by omega
      have hif : (if (D.size : Int) < 9 then (D.size : Int) else 9) = (q : Int) := by split <;> omega
      have hif2 : (if D.size < 9 then (D.size : Int) else 9) = (q : Int) := by split <;> omega
      have HQ := h_ hq
      have HDG := h_ (show ∀ i (h : i < D.size), dig D[i] = true from fun i h => HD.out _ (List.mem_of_mem_drop (i := j) (by rw [← hD.out]; rw [← get_list D i h]; exact List.getElem_mem _)))
      clear hq
      clear hDs
      go_wp2_with fail
      clear hif hif2
      go_loop [13, 14, 15] (fun a13 a14 a15 => ∃ i : Nat, i ≤ q ∧ a15 = .int .i64 i ∧ a13 = .int .u32 ((10 ^ i : Nat) : Int) ∧ a14 = .int .u32 ((decF 0 (D.data.toList.take i) : Nat) : Int)) (fun _ _ a15 => q - (intOf a15).toNat)
      case atStart => exact ⟨0, Nat.zero_le _, rfl, rfl, rfl⟩
      case round =>
       obtain ⟨i, hiq, rfl, rfl, rfl⟩ := hrel
       have hPF := decF_lt (D.data.toList.take i) (fun c hc => by
        have := List.mem_of_mem_take hc
        rw [hD.out] at this
        exact HD.out c (List.mem_of_mem_drop this))
       rw [List.length_take, show D.data.toList.length = D.size from rfl, Nat.min_eq_left (by omega)] at hPF
       have hP9 : 10 ^ i ≤ 10 ^ q := Nat.pow_le_pow_right (by omega) hiq
       have hQ9 : 10 ^ q ≤ 1000000000 := Nat.le_trans (Nat.pow_le_pow_right (by omega) hq9.1) (by decide)
       obtain ⟨F, hF⟩ : ∃ F, F = 10 ^ i := ⟨_, rfl⟩
       obtain ⟨P, hP⟩ : ∃ P, P = decF 0 (D.data.toList.take i) := ⟨_, rfl⟩
       rw [← hF, ← hP] at hPF
       rw [← hF] at hP9
       rw [← hF, ← hP]
       have HF := h_ hF
       have HP := h_ hP
       clear hF hP
       by_cases hlt2 : i < q
       ·have hF8 : F ≤ 100000000 := by
         rw [HF.out]; exact Nat.le_trans (Nat.pow_le_pow_right (by omega) (show i ≤ 8 by omega)) (by decide)
        have hiD : i < D.size := by omega
        have hdi := HDG.out i hiD
        have HG := h_ (digit_any D[i] hdi wr)
        unfold dig at hdi
        simp only [Bool.and_eq_true, decide_eq_true_eq] at hdi
        have hsn : decF 0 (D.data.toList.take (i + 1)) = P * 10 + (D[i].toNat - 48) := by
         rw [List.take_succ_eq_append_getElem (by show i < D.size; exact hiD), decF_snoc, ← HP.out, get_list D i hiD]
        obtain ⟨k, hk⟩ : ∃ k, k = D[i].toNat - 48 := ⟨_, rfl⟩
        rw [← hk] at HG hsn
        have hk9 : k ≤ 9 := by omega
        have HSN := h_ hsn
        clear hdi hk hsn hP9 hQ9
        go_wp2_with fail
        refine HG.out.mono ?_
        rintro e w' ⟨rfl, rfl⟩
        go_wp2
        go_round
        case rel =>
         refine ⟨i + 1, by omega, by go_num, ?_, ?_⟩
         ·rw [Nat.pow_succ, ← HF.out]; simp
         ·rw [HSN.out]; simp
        case measure => simp [intOf]; omega
       ·obtain rfl : i = q := by omega
        have HMA := h_ (mulAdd_any X (.slice A m c) F P (fun b => w.heap.size < b ∧ b < wr.heap.size) wr (by omega) (by omega) (fun b hb => hb.2) hA.out (by rw [← hmX.out]; omega))
        have hvs : decF 0 (L.take (j + i)) = valN X * F + P := by
         rw [List.take_add, decF_app, decF_lin, ← hv.out, ← hD.out, List.length_take, show D.data.toList.length = D.size from rfl, Nat.min_eq_left (by omega), HF.out, HP.out]
        have HVS := h_ hvs
        clear hvs hP9 hQ9
        go_wp2_with fail
        refine HMA.out.mono ?_
        rintro e w3 ⟨Q, A3, n3, c3, rfl, hn3, hA3, hv3, hl3, hb3⟩
        have hl4 : n3 ≤ 40 := by have := hXj.out; omega
        have HN3 := h_ hn3
        have HA3 := h_ hA3
        have HV3 := h_ hv3
        have HL3 := h_ hl3
        have HX3 := h_ (hbx.out.step hb3)
        have hlt3 := hbx.out.lt
        have HB3 := h_ hb3
        clear hn3 hA3 hv3 hl3 hb3
        go_wp2
        go_roundw
        case rel =>
         refine ⟨j + i, _, A3, n3, c3, Q, ?_, rfl, rfl, hl4, HN3, h_ (by have := HL3.out; have := hXj.out; omega), h_ ?_, h_ (by rw [HV3.out, HVS.out]), h_ ?_, HX3⟩
         ·first
           |(rw [← size_len (D.extract i D.size), extract_drop, List.length_take, List.length_drop, size_len]; omega)
           |(show j + i + 0 = s.size; omega)
         ·first
           | rw [extract_drop, List.take_of_length_le (by rw [List.length_drop, size_len]; omega), hD.out, List.drop_drop]
           |(rw [List.drop_eq_nil_of_le (by rw [HLS.out]; omega)]; rfl)
         ·exact HA3.out.more (fun b hb => ⟨Nat.lt_of_lt_of_le hlt3 hb.1, hb.2⟩)
        case measure =>
         first
          |(show (D.extract i D.size).size < D.size
            rw [← size_len, extract_drop, List.length_take, List.length_drop, size_len]; omega)
          |(show 0 < D.size; omega)
     ·have hz0 : D.size = 0 := by omega
      have hjs : j = s.size := by omega
      have HFR := h_ (from_any false X _ (fun b => w.heap.size < b ∧ b < wr.heap.size) wr (fun b hb => hb.2) hA.out (by rw [← hmX.out]; omega))
      have hlim : trimN X = limbs (decV L) := by
       unfold limbs decV
       have e1 : decF 0 L = valN X := by rw [hv.out, hjs, ← HLS.out, List.take_length]
       have hlt := decF_lt L HD.out
       have h10 : (10 : Nat) ^ L.length ≤ 10 ^ 40 := Nat.pow_le_pow_right (by omega) (by rw [HLS.out]; exact h40)
       have h256 : (10 : Nat) ^ 40 < 4294967296 ^ 8 := by decide
       rw [e1, trimN_tz, limbF_tz X 8 hA.out.2.1 (by omega)]
      have HLIM := h_ hlim
      clear hlim hjs hDs
      go_wp2_with fail
      refine HFR.out.mono ?_
      intro e w3 hq3
      obtain ⟨A3, n3, c3, rfl, hA3, hb3⟩ := hq3.named false (normB_false X).symm
      have HA3 := h_ hA3
      have hx3 := hbx.out.step hb3
      have HX3 := h_ hx3
      obtain ⟨y0, y1⟩ := hx3.c2
      have yf := hx3.fz
      have hlt3 := hbx.out.lt
      have HB3 := h_ hb3
      clear hq3 hA3 hb3 hx3
      go_wp2
      refine bodyPost_ret (v := .tuple #[.agg #[.bool false, .slice A3 n3 c3], .int .i64 0]) (by simp [results, Tryz.results130, go_sem, y0, y1]) rfl ?_
      refine ⟨A3, n3, c3, rfl, ?_, (HX3.out.below.setCell (Nat.le_refl _) _).setCell (Nat.le_refl _) _⟩
      have h5 := HA3.out.more (S' := fun b => wr.heap.size ≤ b ∧ b < w3.heap.size) (fun b hb => hb)
      rw [← HLIM.out]
      have hb3s := HB3.out.size
      refine ((h5.setCell (.bool false) (X := w.heap.size) (j := 0) (fun h => by omega)).setCell (.slice A3 n3 c3) (X := w.heap.size) (j := 1) (fun h => by omega)).more (fun b hb => ⟨by omega, by simp; exact hb.2⟩)
end Dc
end Go.Proofs.YteneobpacobpdaaGreatDoor
namespace Go.Proofs.YteneobpacobpdaaGreatDoor
open Go.RowKit
namespace Dc
open Fm Pa Lx
theorem Parse_any (s : ByteArray) (hd : ∀ c ∈ s.data.toList, dig c = true) (h0 : 0 < s.size) (h40 : s.size ≤ 40) (hz : s.size = 1 ∨ s[0].toNat ≠ 48) (w : World) :
  Calls Tryz.prog 128 #[.string s] w (PPost s.data.toList w) := by
 obtain ⟨W, hW⟩ : ∃ W, w.alloc (.cells #[.bool false, .slice none 0 0] 35) = W := ⟨_, rfl⟩
 have hx : Box w W w.heap.size #[.bool false, .slice none 0 0] 35 := by rw [← hW]; exact Box.new w _ _
 have HX := h_ hx
 have HP := h_ (parse_any s hd h0 h40 hz W)
 have hs0 : W.heap.size = w.heap.size + 1 := by rw [← hW]; simp
 clear hx hd h0 h40 hz
 go_enter Tryz.func128, Tryz.ntmps128
 go_wp2_with fail
 refine HP.out.mono ?_
 rintro e w2 ⟨A, n, c, rfl, hA, hb⟩
 have HA := h_ hA
 have hx2 := HX.out.step hb
 have HX2 := h_ hx2
 obtain ⟨y0, y1⟩ := hx2.c2
 have yf := hx2.fz
 have HB := h_ hb
 clear hA hb hx2
 go_wp2
 refine bodyPost_ret (v := .tuple #[.agg #[.bool false, .slice A n c], .int .i64 0]) (by simp [results, Tryz.results128, go_sem, y0, y1]) rfl ?_
 refine ⟨A, n, c, rfl, ?_, (HX2.out.below.setCell (Nat.le_refl _) _).setCell (Nat.le_refl _) _⟩
 refine ((HA.out.setCell (.bool false) (X := w.heap.size) (j := 0) (fun h => by have := h.1; omega)).setCell (.slice A n c) (X := w.heap.size) (j := 1) (fun h => by have := h.1; omega)).more (fun b hb => ⟨by have := hb.1; omega, by simp; exact hb.2⟩)
def U64 (l : List Nat) (e : Ending) : Prop := ((trimN l).length ≤ 2 ∧ e = .returned (.tuple #[.int .u64 (valN l : Nat), .bool true])) ∨ (2 < (trimN l).length ∧ e = .returned (.tuple #[.int .u64 0, .bool false]))
theorem uint64_any (l : List Nat) (v : Value) (S : Nat → Prop) (w : World) (h : AbsAt w S v l) :
  Calls Tryz.prog 131 #[v] w fun e w' => U64 l e ∧ Below w.heap.size w w' := by
 have HT := h_ (trim_any l v S w h)
 have hvl := valN_trim l
 have hov : v.oneCell' = true := by obtain ⟨A, c, rfl⟩ := h.form; rfl
 obtain ⟨t, ht⟩ : ∃ t, trimN l = t := ⟨_, rfl⟩
 obtain ⟨E, hE⟩ : ∃ E : Ending → Prop, E = U64 l := ⟨_, rfl⟩
 have hE2 : ∀ e, U64 l e = ((t.length ≤ 2 ∧ e = .returned (.tuple #[.int .u64 (valN t : Nat), .bool true])) ∨ (2 < t.length ∧ e = .returned (.tuple #[.int .u64 0, .bool false]))) := fun e => by unfold U64; rw [hvl.symm, ht]
 rw [ht] at HT
 rw [← hE] at hE2 ⊢
 have HE := h_ hE2
 have HDR := h_ (show ∀ k, Below w.heap.size w (w.drewN k) from fun k => ⟨rfl, rfl, rfl, Nat.le_refl _, fun _ _ => rfl⟩)
 clear ht hE hE2 hvl h
 match t, HT, HE with
 | [], HT, HE =>
  go_enter Tryz.func131, Tryz.ntmps131
  go_wp2_with fail
  refine HT.out.mono ?_
  rintro e w' ⟨⟨A, c, rfl, hA⟩, hw⟩
  obtain rfl : w = w' := hw.symm
  have HA := h_ hA
  clear hA
  go_wp2
  go_ret2
  exact ⟨by rw [HE.out]; exact .inl ⟨by simp, rfl⟩, Below.refl _ _⟩
 | [x], HT, HE =>
  go_enter Tryz.func131, Tryz.ntmps131
  go_wp2_with fail
  refine HT.out.mono ?_
  rintro e w' ⟨⟨A, c, rfl, hA⟩, hw⟩
  obtain rfl : w = w' := hw.symm
  obtain ⟨b, o, rfl, hb, hc⟩ := hA.at_ rfl (by simp)
  have c0 : w.cell? ⟨b, o, none⟩ = some (.int .u32 x) := hc 0 (by simp)
  have hx := hA.2.1 x (by simp)
  clear hc hA
  go_wp2
  go_ret2
  exact ⟨by rw [HE.out]; exact .inl ⟨by simp, by simp [valN]⟩, Below.refl _ _⟩
 | [x, y], HT, HE =>
  go_enter Tryz.func131, Tryz.ntmps131
  go_wp2_with fail
  refine HT.out.mono ?_
  rintro e w' ⟨⟨A, c, rfl, hA⟩, hw⟩
  obtain rfl : w = w' := hw.symm
  obtain ⟨b, o, rfl, hb, hc⟩ := hA.at_ rfl (by simp)
  have c0 : w.cell? ⟨b, o, none⟩ = some (.int .u32 x) := hc 0 (by simp)
  have c1 : w.cell? ⟨b, o + 1, none⟩ = some (.int .u32 y) := hc 1 (by simp)
  have hx := hA.2.1 x (by simp)
  have hy := hA.2.1 y (by simp)
  have hor := or_join y x hy hx
  clear hc hA
  go_wp2_with fail
  go_quiet (fail)
  go_wp2
  go_ret2
  have e : ((valN [x, y] : Nat) : Int) = (y : Int) * 4294967296 + (x : Int) := by simp [valN]; omega
  exact ⟨by rw [HE.out, e]; exact .inl ⟨by simp, rfl⟩, HDR.out _⟩
 | x :: y :: z :: r, HT, HE =>
  obtain ⟨k, hk⟩ : ∃ k, k = (x :: y :: z :: r).length := ⟨_, rfl⟩
  have hk3 : 3 ≤ k := by rw [hk]; simp
  have HF := h_ (show U64 l = U64 l from rfl)
  rw [← hk] at HT HE
  have e0 : ((k : Int) == 0) = false := by simp; omega
  have e1 : ((k : Int) == 1) = false := by simp; omega
  have e2 : ((k : Int) == 2) = false := by simp; omega
  clear hk
  go_enter Tryz.func131, Tryz.ntmps131
  go_wp2_with fail
  refine HT.out.mono ?_
  rintro e w' ⟨⟨A, c, rfl, hA⟩, hw⟩
  obtain rfl : w = w' := hw.symm
  clear hA
  go_wp2
  go_ret2
  exact ⟨by rw [HE.out]; exact .inr ⟨by omega, rfl⟩, Below.refl _ _⟩
theorem tz_len_lt (l : List Nat) (hl : ∀ x ∈ l, x < 4294967296) (h : valN l < 18446744073709551616) : (trimN l).length ≤ 2 := by
 have h1 := valN_trim l
 rcases Nat.lt_or_ge 2 (trimN l).length with h2 | h2
 ·exfalso
  have hlast : ∀ (m : List Nat), trimN m = m → m ≠ [] → 4294967296 ^ (m.length - 1) ≤ valN m := by
   intro m
   induction m with
   | nil => intro _ h; exact absurd rfl h
   | cons x xs ih =>
    intro ht _
    cases xs with
    | nil =>
     have : ¬ valN [x] = 0 := fun e => by
      have := (trim_zero [x]).2 e
      rw [ht] at this; simp at this
     simp; omega
    | cons y ys =>
     have ht2 : trimN (y :: ys) = y :: ys := by
      rw [trimN_tz] at ht ⊢
      unfold tz at ht
      split at ht
      ·cases ht
      ·injection ht
     have := ih ht2 (by simp)
     rw [valN_cons]
     simp only [List.length_cons, Nat.add_sub_cancel] at this ⊢
     rw [Nat.pow_succ]
     omega
  have ht : trimN (trimN l) = trimN l := trimN_idem l
  have h4 := hlast (trimN l) ht (fun e => by rw [e] at h2; simp at h2)
  rw [h1] at h4
  have h5 : 4294967296 ^ 2 ≤ 4294967296 ^ ((trimN l).length - 1) := Nat.pow_le_pow_right (by omega) (by omega)
  omega
 ·exact h2
def I64 (N : Nat) (e : Ending) : Prop := (N ≤ 2147483647 ∧ e = .returned (.tuple #[.int .i64 N, .bool true])) ∨ (2147483647 < N ∧ (∃ k : Nat, 2147483647 < k ∧ e = .returned (.tuple #[.int .i64 k, .bool true]) ∨ e = .returned (.tuple #[.int .i64 0, .bool false])))
theorem int64_any (l : List Nat) (v : Value) (S : Nat → Prop) (w : World) (hS : ∀ b, S b → b < w.heap.size) (h : AbsAt w S v l) :
  Calls Tryz.prog 129 #[.agg #[.bool false, v]] w fun e w' => I64 (valN l) e ∧ Below w.heap.size w w' := by
 have hov : v.oneCell' = true := by obtain ⟨A, c, rfl⟩ := h.form; rfl
 obtain ⟨A, c, hvf⟩ := h.form
 obtain ⟨W, hW⟩ : ∃ W, w.alloc (.cells #[.bool false, v] 35) = W := ⟨_, rfl⟩
 have hx : Box w W w.heap.size #[.bool false, v] 35 := by rw [← hW]; exact Box.new w _ _
 obtain ⟨c0, c1⟩ := hx.c2
 have HX := h_ hx
 have HU := h_ (uint64_any l v S W (h.below hS hx.below))
 have HV := h_ (tz_len_lt l h.2.1)
 obtain ⟨N, hN⟩ : ∃ N, N = valN l := ⟨_, rfl⟩
 unfold U64 at HU
 rw [← hN] at HU HV ⊢
 obtain ⟨q, hq⟩ : ∃ q, q = (trimN l).length := ⟨_, rfl⟩
 rw [← hq] at HU HV
 subst hvf
 have hU : (q ≤ 2 ∧ Calls Tryz.prog 131 #[.slice A l.length c] W fun e w' => e = .returned (.tuple #[.int .u64 N, .bool true]) ∧ Below W.heap.size W w') ∨ (2 < q ∧ Calls Tryz.prog 131 #[.slice A l.length c] W fun e w' => e = .returned (.tuple #[.int .u64 0, .bool false]) ∧ Below W.heap.size W w') := by
  rcases Nat.lt_or_ge 2 q with h2 | h2
  ·exact .inr ⟨h2, HU.out.mono (fun e w' h => ⟨by rcases h.1 with h3 | h3; omega; exact h3.2, h.2⟩)⟩
  ·exact .inl ⟨h2, HU.out.mono (fun e w' h => ⟨by rcases h.1 with h3 | h3; exact h3.2; omega, h.2⟩)⟩
 clear h hS hx hN hq HU
 rcases hU with ⟨h2, hU⟩ | ⟨h2, hU⟩
 ·obtain ⟨a, ha⟩ : ∃ a : Int, a = (N : Int) := ⟨_, rfl⟩
  rw [← ha] at hU
  have HUU := h_ hU
  have HA := h_ ha
  have ha0 : 0 ≤ a := by omega
  clear hU ha
  by_cases hlt : a < 9223372036854775808
  ·go_enter Tryz.func129, Tryz.ntmps129
   go_wp2_with fail
   refine HUU.out.mono ?_
   rintro e w2 ⟨rfl, hb⟩
   have hx2 := HX.out.step hb
   obtain ⟨y0, y1⟩ := hx2.c2
   have HB := h_ hx2.below
   clear hb hx2
   go_wp2
   go_ret2
   refine ⟨?_, HB.out⟩
   rcases Nat.lt_or_ge 2147483647 N with h3 | h3
   ·exact .inr ⟨h3, N, .inl ⟨h3, by rw [← HA.out]; rfl⟩⟩
   ·exact .inl ⟨h3, by rw [← HA.out]; rfl⟩
  ·have hge : 9223372036854775808 ≤ a := by omega
   clear hlt
   go_enter Tryz.func129, Tryz.ntmps129
   go_wp2_with fail
   refine HUU.out.mono ?_
   rintro e w2 ⟨rfl, hb⟩
   have hx2 := HX.out.step hb
   obtain ⟨y0, y1⟩ := hx2.c2
   have HB := h_ hx2.below
   clear hb hx2
   go_wp2
   go_ret2
   exact ⟨.inr ⟨by have := HA.out; omega, 0, .inr rfl⟩, HB.out⟩
 ·have hbig : 2147483647 < N := by
   rcases Nat.lt_or_ge 2147483647 N with h3 | h3
   ·exact h3
   ·exact absurd (HV.out (by omega)) (by omega)
  have HUU := h_ hU
  clear hU
  go_enter Tryz.func129, Tryz.ntmps129
  go_wp2_with fail
  refine HUU.out.mono ?_
  rintro e w2 ⟨rfl, hb⟩
  have HB := h_ (HX.out.step hb).below
  clear hb
  go_wp2
  go_ret2
  exact ⟨.inr ⟨hbig, 0, .inr rfl⟩, HB.out⟩
theorem exponent_any (s : ByteArray) (hd : ∀ c ∈ s.data.toList, dig c = true) (h0 : 0 < s.size) (h40 : s.size ≤ 40) (hz : s.size = 1 ∨ s[0].toNat ≠ 48) (w : World) :
  Calls Tryz.prog 127 #[.string s] w fun e w' => e = .returned (.int .i64 (expN s.data.toList : Nat)) ∧ Below w.heap.size w w' := by
 have HP := h_ (Parse_any s hd h0 h40 hz w)
 obtain ⟨R, hR⟩ : ∃ R, R = expN s.data.toList := ⟨_, rfl⟩
 rw [← hR]
 have HR := h_ hR
 have hv10 : decV s.data.toList < 4294967296 ^ 8 := by
  have h1 := decF_lt s.data.toList hd
  have h2 : (10 : Nat) ^ s.data.toList.length ≤ 10 ^ 40 := Nat.pow_le_pow_right (by omega) h40
  have h256 : (10 : Nat) ^ 40 < 4294967296 ^ 8 := by decide
  unfold decV; omega
 have HV := h_ hv10
 clear hd h0 h40 hz hR hv10
 go_enter Tryz.func127, Tryz.ntmps127
 go_wp2_with fail
 refine HP.out.mono ?_
 rintro e w2 ⟨A, n, c, rfl, hA, hb⟩
 have hx := Box.new w2 #[.bool false, .slice A n c] 35
 have HI := h_ (int64_any _ _ (Fr w w2) (w2.alloc (.cells #[.bool false, .slice A n c] 35)) (fun b hb => Nat.lt_of_lt_of_le hb.2 hx.below.size) (hA.below (fun b hb => hb.2) hx.below))
 have hval : valN (limbs (decV s.data.toList)) = decV s.data.toList := by
  have : ∀ (k N : Nat), N < 4294967296 ^ k → valN (limbF k N) = N := by
   intro k
   induction k with
   | zero =>
     intro N h; rw [Nat.pow_zero] at h; obtain rfl : N = 0 := by omega
     rfl
   | succ k ih =>
    intro N h
    unfold limbF
    by_cases h0 : N = 0
    ·rw [if_pos h0, h0]; rfl
    ·rw [if_neg h0, valN_cons, ih (N / 4294967296) (by rw [Nat.div_lt_iff_lt_mul (by omega)]; rw [Nat.pow_succ] at h; exact h)]
     omega
  exact this 8 _ HV.out
 rw [hval] at HI
 obtain ⟨N, hN⟩ : ∃ N, N = decV s.data.toList := ⟨_, rfl⟩
 have hRN : R = min N 2147483647 := by rw [HR.out, hN]; rfl
 rw [← hN] at HI
 have HB := h_ (hb.trans (hx.below.mono hb.size))
 unfold I64 at HI
 have hcase : (N ≤ 2147483647 ∧ R = N) ∨ (2147483647 < N ∧ R = 2147483647) := by omega
 clear hA hb hx hval hN hRN
 go_wp2_with fail
 refine HI.out.mono ?_
 rintro e w3 ⟨h3 | ⟨h3, k, ⟨h4, rfl⟩ | rfl⟩, hb3⟩
 ·obtain ⟨h3, rfl⟩ := h3
  obtain rfl : R = N := by omega
  have HB3 := h_ (HB.out.trans (hb3.mono HB.out.size))
  clear hb3
  go_wp2
  go_ret
  exact ⟨rfl, HB3.out⟩
 ·obtain rfl : R = 2147483647 := by omega
  have HB3 := h_ (HB.out.trans (hb3.mono HB.out.size))
  clear hb3
  go_wp2
  go_ret
  exact ⟨rfl, HB3.out⟩
 ·obtain rfl : R = 2147483647 := by omega
  have HB3 := h_ (HB.out.trans (hb3.mono HB.out.size))
  clear hb3
  go_wp2
  go_ret
  exact ⟨rfl, HB3.out⟩
end Dc
end Go.Proofs.YteneobpacobpdaaGreatDoor
