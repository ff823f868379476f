/-
  slices.Reverse at []byte; integer.Sign, integer.Abs; decimal.chunk at 10.
-/
import Derived.Test.YtkjbfomokdjbnaaDoorDcD
import Derived.Test.YtkjbfomokdjbnaaDoorFmL
import Derived.Laws.OwnMore
import Derived.RegionTactic
import Derived.BigRegion
import Derived.Laws.IdiomStrings
import Derived.Deep.AppendLies
namespace Go.Proofs.YtkjbfomokdjbnaaDoor
open Go.RowKit
set_option linter.unusedSimpArgs false
set_option linter.unusedVariables false
namespace Dc
open Fm

/-- ys is xs with its first k and last k elements turned -/
def RvRel (m k : Nat) (xs ys : List Value) : Prop := ys.length = m ∧ ∀ p, p < m → ys[p]? = if p < k ∨ m - 1 - p < k then xs[m - 1 - p]? else xs[p]?
theorem RvRel.done {m k : Nat} {xs ys : List Value} (h : RvRel m k xs ys) (hx : xs.length = m) (hk : m ≤ 2 * k + 1) : ys = xs.reverse := by
  apply List.ext_getElem?
  intro p
  by_cases hp : p < m
  · rw [h.2 p hp, List.getElem?_reverse (by omega), hx]
    split
    · rfl
    · have : m - 1 - p = p := by omega
      rw [this]
  · rw [List.getElem?_eq_none (by rw [h.1]; omega), List.getElem?_eq_none (by simp; omega)]
theorem RvRel.step {m k : Nat} {xs ys : List Value} {u v : Value} (h : RvRel m k xs ys) (hx : xs.length = m) (hk : 2 * k + 1 < m) (hu : ys[k]? = some u) (hv : ys[m - 1 - k]? = some v) : RvRel m (k + 1) xs ((ys.set k v).set (m - 1 - k) u) := by
  refine ⟨by simp [h.1], fun p hp => ?_⟩
  have hu2 := h.2 k (by omega)
  have hv2 := h.2 (m - 1 - k) (by omega)
  rw [hu, if_neg (by omega)] at hu2
  rw [hv, if_neg (by omega)] at hv2
  by_cases e1 : p = m - 1 - k
  · subst e1
    rw [List.getElem?_set_self (by simp [h.1]; omega), if_pos (by omega), hu2, show m - 1 - (m - 1 - k) = k by omega]
  · rw [List.getElem?_set_ne (by omega)]
    by_cases e2 : p = k
    · subst e2
      rw [List.getElem?_set_self (by rw [h.1]; omega), if_pos (by omega), hv2]
    · rw [List.getElem?_set_ne (by omega), h.2 p hp]
      by_cases h3 : p < k ∨ m - 1 - p < k
      · rw [if_pos h3, if_pos (by omega)]
      · rw [if_neg h3, if_neg (by omega)]

set_option maxRecDepth 100000 in
set_option maxHeartbeats 4000000 in
theorem reverse_any (B m : Nat) (v : Value) (xs : List Value) (w : World) (h : w.ownsRow B 5 1 v m xs) (hm : m ≤ 1000000000) (h1 : ∀ u ∈ xs, ∃ n : Int, u = .int .u8 n) :
    Calls Tryd.prog 84 #[v] w fun e w' => e = .returned (.tuple #[]) ∧ w'.ownsRow B 5 1 v m xs.reverse ∧ w.grownBy w' v.ownBlock := by
  have hlen : xs.length = m := by have := h.1; omega
  rcases h.2 with ⟨rfl, rfl⟩ | ⟨g, cap, cur, rfl, hbg, hg, hnc, hcm, hcs, htk⟩
  · have HH := Lib.hid h
    have HX := Lib.hid (List.eq_nil_of_length_eq_zero hlen)
    clear h hlen h1
    go_enter Tryd.func84, Tryd.ntmps84
    go_wp2
    refine wp_loop_rounds 1 ?_
    rw [rounds_succ]
    go_wp2
    go_end0
    exact ⟨rfl, by rw [HX.out]; exact ⟨rfl, .inl ⟨rfl, rfl⟩⟩, grown_of_below (Below.refl _ w) _⟩
  · have HLEN := Lib.hid hlen
    have HH := Lib.hid h
    have H1 := Lib.hid h1
    clear h hlen h1 hbg hg hnc hcm hcs htk
    go_enter Tryd.func84, Tryd.ntmps84
    go_wp2
    go_loopw [2, 3] (fun a2 a3 wr => ∃ (k : Nat) (ys : List Value), k ≤ m ∧ 2 * k ≤ m + 1 ∧ a2 = .int .i64 k ∧ a3 = .int .i64 ((m : Int) - 1 - k) ∧ Hid (RvRel m k xs ys) ∧ Hid (wr.ownsRow B 5 1 (.slice (some ⟨g, 0, none⟩) m cap) m ys) ∧ Hid (w.grownBy wr (some g))) (fun a2 _ _ => m - (intOf a2).toNat)
    case atStart => exact ⟨0, xs, Nat.zero_le _, by omega, rfl, by go_num, Lib.hid ⟨HLEN.out, fun p hp => by simp⟩, HH, Lib.hid (grown_of_below (Below.refl _ w) _)⟩
    case round =>
      obtain ⟨k, ys, hk, hk2, rfl, rfl, hrv, hown, hgr⟩ := hrel
      by_cases hlt : 2 * k + 1 < m
      · obtain ⟨j, hj⟩ : ∃ j, j = m - 1 - k := ⟨_, rfl⟩
        have hji : (m : Int) - 1 - k = j := by omega
        have hkj : k < j := by omega
        have hjm : j < m := by omega
        obtain ⟨u, hu⟩ : ∃ u, ys[k]? = some u := ⟨_, List.getElem?_eq_getElem (by have := hrv.out.1; omega)⟩
        obtain ⟨x, hx⟩ : ∃ x, ys[j]? = some x := ⟨_, List.getElem?_eq_getElem (by have := hrv.out.1; omega)⟩
        have hu2 := hrv.out.2 k (by omega)
        rw [hu, if_neg (by omega)] at hu2
        obtain ⟨un, rfl⟩ := H1.out u (List.mem_of_getElem? hu2.symm)
        have hx2 := hrv.out.2 j (by omega)
        rw [hx, if_neg (by omega)] at hx2
        obtain ⟨xn, rfl⟩ := H1.out x (List.mem_of_getElem? hx2.symm)
        clear hu2 hx2
        have c1 : wr.cell? ⟨g, k, none⟩ = some (.int .u8 un) := by rw [hown.out.cellAt k (by omega)]; exact hu
        have c2 : wr.cell? ⟨g, j, none⟩ = some (.int .u8 xn) := by rw [hown.out.cellAt j (by omega)]; exact hx
        have f1 : wr.frozen? ⟨g, k, none⟩ = false := hown.out.frozenAt k
        have f2 : wr.frozen? ⟨g, j, none⟩ = false := hown.out.frozenAt j
        have HST := Lib.hid (hrv.out.step HLEN.out hlt hu (by rw [← hj]; exact hx))
        rw [← hj] at HST
        have HSW := Lib.hid (show ∀ wz : World, wz.ownsRow B 5 1 (.slice (some ⟨g, 0, none⟩) m cap) m ys → wz.heap = wr.heap → wz.os = wr.os → wz.tape = wr.tape → wz.output = wr.output → ((wz.setCell ⟨g, k, none⟩ (.int .u8 xn)).setCell ⟨g, j, none⟩ (.int .u8 un)).ownsRow B 5 1 (.slice (some ⟨g, 0, none⟩) m cap) m ((ys.set k (.int .u8 xn)).set j (.int .u8 un)) ∧ w.grownBy ((wz.setCell ⟨g, k, none⟩ (.int .u8 xn)).setCell ⟨g, j, none⟩ (.int .u8 un)) (some g) from fun wz ho e1 e2 e3 e4 => by
          have s1 := ho.stored k (.int .u8 xn)
          have s2 := s1.1.stored j (.int .u8 un)
          refine ⟨s2.1, ?_⟩
          have hg1 := hgr.out
          have hgz : w.grownBy wz (some g) := ⟨e2.trans hg1.os, e3.trans hg1.tape, e4.trans hg1.output, by rw [e1]; exact hg1.size, fun i hi hne => by rw [e1]; exact hg1.block i hi hne⟩
          exact (hgz.trans s1.2).trans s2.2)
        have hjn : ¬ j = k := by omega
        have hkn : ¬ k = j := by omega
        have hlt1 : (k : Int) < j := by omega
        have hlt2 : (k : Int) < m := by omega
        have hlt3 : (j : Int) < m := by omega
        rw [hji]
        have hk0 : (0 : Int) ≤ j := by omega
        have HJ := Lib.hid hj
        clear hu hx hj hrv hji
        have c2s : ∀ z, (wr.setCell ⟨g, k, none⟩ z).cell? ⟨g, j, none⟩ = some (.int .u8 xn) := fun z => (World.cell?_setCell_other _ _ _ z (fun e => by injection e with _ e2; omega)).trans c2
        have c1s : ∀ z, (wr.setCell ⟨g, j, none⟩ z).cell? ⟨g, k, none⟩ = some (.int .u8 un) := fun z => (World.cell?_setCell_other _ _ _ z (fun e => by injection e with _ e2; omega)).trans c1
        go_wp2_with fail
        go_region
        all_goals
          go_wp2
          go_roundw
          case rel =>
            obtain ⟨h2, h3⟩ := HSW.out wr.drew hown.out rfl rfl rfl rfl
            have hj := HJ.out
            exact ⟨k + 1, _, by omega, by omega, by go_num, by congr 1; omega, HST, Lib.hid h2, Lib.hid h3⟩
          case measure => simp [intOf]; omega
      · have hle : ¬ ((k : Int) < (m : Int) - 1 - k) := by omega
        have HD := Lib.hid (hrv.out.done HLEN.out (by omega))
        go_wp2
        go_end0
        exact ⟨rfl, by rw [← HD.out]; exact hown.out, hgr.out⟩

def sgnI (neg : Bool) (l : List Nat) : Int := if valN l = 0 then 0 else if neg then -1 else 1
set_option maxHeartbeats 1000000 in
theorem sign_any (neg : Bool) (l : List Nat) (v : Value) (S : Nat → Prop) (w : World) (hS : ∀ b, S b → b < w.heap.size) (h : AbsAt w S v l) :
    Calls Tryd.prog 61 #[.agg #[.bool neg, v]] w fun e w' => e = .returned (.int .i64 (sgnI neg l)) ∧ Below w.heap.size w w' := by
  have hov : v.oneCell' = true := by obtain ⟨A, c, rfl⟩ := h.form; rfl
  obtain ⟨s, hs⟩ : ∃ s, s = sgnI neg l := ⟨_, rfl⟩
  obtain ⟨W, hW⟩ : ∃ W, w.alloc (.cells #[.bool neg, v] 25) = W := ⟨_, rfl⟩
  have hx : Box w W w.heap.size #[.bool neg, v] 25 := by rw [← hW]; exact Box.new w _ _
  obtain ⟨c0, c1⟩ := hx.c2
  have HX := Lib.hid hx
  have hA := h.below hS hx.below
  rw [← hs]
  obtain ⟨A, c, hv⟩ := h.form
  subst hv
  by_cases h0 : valN l = 0
  · have HZ := Lib.hid (isZero_any l _ S W hA true (by simp [h0]))
    obtain rfl : s = 0 := by rw [hs]; unfold sgnI; rw [if_pos h0]
    clear hx h hA h0 hs hov
    go_enter Tryd.func61, Tryd.ntmps61
    go_wp2_with (go_at_call 74; refine HZ.out.mono ?_; rintro e w' ⟨rfl, rfl⟩)
    go_ret
    exact ⟨rfl, HX.out.below⟩
  · have HZ := Lib.hid (isZero_any l _ S W hA false (by simp [h0]))
    cases neg
    · obtain rfl : s = 1 := by rw [hs]; unfold sgnI; rw [if_neg h0]; rfl
      clear hx h hA h0 hs hov
      go_enter Tryd.func61, Tryd.ntmps61
      go_wp2_with (go_at_call 74; refine HZ.out.mono ?_; rintro e w' ⟨rfl, rfl⟩)
      go_ret
      exact ⟨rfl, HX.out.below⟩
    · obtain rfl : s = -1 := by rw [hs]; unfold sgnI; rw [if_neg h0]; rfl
      clear hx h hA h0 hs hov
      go_enter Tryd.func61, Tryd.ntmps61
      go_wp2_with (go_at_call 74; refine HZ.out.mono ?_; rintro e w' ⟨rfl, rfl⟩)
      go_ret
      exact ⟨rfl, HX.out.below⟩

set_option maxHeartbeats 1000000 in
theorem abs_any (neg : Bool) (l : List Nat) (v : Value) (S : Nat → Prop) (w : World) (hS : ∀ b, S b → b < w.heap.size) (h : AbsAt w S v l) (hl : l.length ≤ 1000000) :
    Calls Tryd.prog 62 #[.agg #[.bool neg, v]] w (NormPost false l w) := by
  have hx0 := Box.new w #[.bool neg, v] 25
  have hx1 := Box.new (w.alloc (.cells #[.bool neg, v] 25)) #[.bool false, .slice none 0 0] 25
  have hs0 : (w.alloc (.cells #[.bool neg, v] 25)).heap.size = w.heap.size + 1 := by simp
  have hs1 : ((w.alloc (.cells #[.bool neg, v] 25)).alloc (.cells #[.bool false, .slice none 0 0] 25)).heap.size = w.heap.size + 2 := by simp
  rw [hs0] at hx1
  have hbel : Below w.heap.size w ((w.alloc (.cells #[.bool neg, v] 25)).alloc (.cells #[.bool false, .slice none 0 0] 25)) := hx0.below.trans (hx1.below.mono (by omega))
  have HN := Lib.hid (from_any false l v S ((w.alloc (.cells #[.bool neg, v] 25)).alloc (.cells #[.bool false, .slice none 0 0] 25)) (fun b hb => by rw [hs1]; have := hS b hb; omega) (h.below hS hbel) hl)
  obtain ⟨r, hr⟩ : ∃ r, r = normB false l := ⟨_, rfl⟩
  have HR := Lib.hid hr
  have HX1 := Lib.hid hx1
  have HX0 := Lib.hid hx0
  have HS1 := Lib.hid hs1
  have HS0 := Lib.hid hs0
  clear hr h hx0 hx1 hs0 hs1 hS hbel
  go_enter Tryd.func62, Tryd.ntmps62
  go_wp2_with (first
    | (go_at_call 60; refine HN.out.mono ?_; intro e w2 h; obtain ⟨A, n, c, rfl, hA, hb2⟩ := h.named r HR.out; clear h; have HA := Lib.hid hA; clear hA; have hx2 := HX1.out.step hb2; obtain ⟨y0, y1⟩ := hx2.c2; have yf := hx2.fz))
  refine bodyPost_ret (v := .agg #[.bool r, .slice A n c]) (by simp [results, Tryd.results62, go_sem, y0, y1, yf]) rfl ?_
  have hz := HS0.out
  have hz1 := HS1.out
  have hb2s := hb2.size
  refine ⟨_, by rw [← HR.out], ?_, ((HX0.out.below.trans (hx2.below.mono (by omega))).setCell (p := ⟨_, _, none⟩) (Nat.le_succ _) _).setCell (p := ⟨_, _, none⟩) (Nat.le_succ _) _⟩
  exact ((HA.out.setCell _ (by omega)).setCell _ (by omega)).more (fun b hb => ⟨by omega, by simp; omega⟩)

set_option maxRecDepth 100000 in
set_option maxHeartbeats 1000000 in
theorem chunk_ten (w : World) : Calls Tryd.prog 82 #[.int .i64 10] w fun e w' => e = .returned (.tuple #[.int .u32 1000000000, .int .i64 9]) ∧ w = w' := by
  go_enter Tryd.func82, Tryd.ntmps82
  go_wp2
  go_loop [4, 5] (fun a4 a5 => ∃ i : Nat, i ≤ 8 ∧ a4 = .int .u64 ((10 ^ (i + 1) : Nat) : Int) ∧ a5 = .int .i64 ((i : Int) + 1)) (fun _ a5 => 10 - (intOf a5).toNat)
  case atStart => exact ⟨0, by omega, rfl, rfl⟩
  case round =>
    obtain ⟨i, hi, rfl, rfl⟩ := hrel
    rcases (show i = 0 ∨ i = 1 ∨ i = 2 ∨ i = 3 ∨ i = 4 ∨ i = 5 ∨ i = 6 ∨ i = 7 ∨ i = 8 by omega) with rfl | rfl | rfl | rfl | rfl | rfl | rfl | rfl | rfl
    case inr.inr.inr.inr.inr.inr.inr.inr =>
      go_wp2
      go_ret2
      exact ⟨rfl, rfl⟩
    all_goals
      go_wp2
      go_round
      case rel => exact ⟨_, by decide, rfl, rfl⟩
      case measure => simp [intOf]
end Dc
end Go.Proofs.YtkjbfomokdjbnaaDoor

/-
  decimal.format at base 10, decimal.Format, decimal.Digits.
-/
namespace Go.Proofs.YtkjbfomokdjbnaaDoor
open Go.RowKit
set_option linter.unusedSimpArgs false
set_option linter.unusedVariables false
namespace Dc
open Fm
attribute [local go_sem] run_store

theorem infoU8 : (Tryd.prog.info? 5).map (fun i => (i.zero, i.size, i.bytes)) = some (some (.int .u8 0), 1, 1) := by kernel_rfl
/-- a digit's byte -/
def asc (d : Nat) : UInt8 := UInt8.ofNat (48 + d)
def dV (d : Nat) : Value := .int .u8 (48 + (d : Int))
def fmtL (neg : Bool) (N : Nat) : List UInt8 := if N = 0 then [48] else (if neg then [45] else []) ++ (revd N).reverse.map asc
def fmtS (neg : Bool) (N : Nat) : ByteArray := ⟨(fmtL neg N).toArray⟩
def slen : Value → Nat
  | .slice _ n _ => n
  | _ => 0
theorem asc_nat {d : Nat} (h : d < 10) : ((asc d).toNat : Int) = 48 + (d : Int) := by
  have : (asc d).toNat = 48 + d := by unfold asc; rw [UInt8.toNat_ofNat']; omega
  omega
/-- blocks below the world's end, without the row that grows -/
abbrev Sn (wr : World) (v : Value) : Nat → Prop := fun b => b < wr.heap.size ∧ v.ownBlock ≠ some b
theorem absAt_grown {wr w3 : World} {o : Obj} {v v' : Value} {g n c : Nat} {x : Value} {l : List Nat} (h : AbsAt wr (Sn wr v) x l) (hg : (wr.alloc o).grownBy w3 v.ownBlock) (hv : v' = .slice (some ⟨g, 0, none⟩) n c) (hat : v.ownBlock = some g ∨ g = wr.heap.size + 1) : AbsAt w3 (Sn w3 v') x l := by
  subst hv
  have hs : wr.heap.size + 1 ≤ w3.heap.size := by have := hg.size; simpa using this
  refine (h.keep (fun p hp => ?_)).more (fun b hb => ⟨by have := hb.1; omega, fun e => ?_⟩)
  · exact (World.cell?_of_block (hg.block p.block (by simp; have := hp.1; omega) (fun e => hp.2 e.symm))).trans (World.cell?_alloc_lt wr o p hp.1)
  · have e2 : g = b := by simpa [Value.ownBlock] using e
    rcases hat with h1 | h1
    · exact hb.2 (by rw [h1, e2])
    · have := hb.1; omega
theorem sn_below {wr w2 : World} {v : Value} {x : Value} {l : List Nat} {B n : Nat} {xs : List Value} {e : TypeId} (ho : wr.ownsRow B e 1 v n xs) (h : AbsAt w2 (Fr wr w2) x l) : AbsAt w2 (Sn w2 v) x l :=
  h.more (fun b hb => ⟨hb.2, fun e => by have := (ho.lt b e).2; have := hb.1; omega⟩)
theorem div_pow (p i : Nat) : p / 10 ^ (i + 1) = p / 10 ^ i / 10 := by rw [Nat.pow_succ, Nat.div_div_eq_div_mul]
theorem map_snoc (done : List Nat) (d : Nat) : (done ++ [d]).map dV = done.map dV ++ [dV d] := by simp

theorem conv_back (w : World) (g n cap : Nat) (base e : Nat) (L : List UInt8) (xs : List Value) (hown : w.ownsRow base e 1 (.slice (some ⟨g, 0, none⟩) n cap) n xs) (hx : xs = L.map fun b => .int .u8 (b.toNat : Int)) :
    (convert 73 9 (.slice (some ⟨g, 0, none⟩) n cap)).run Tryd.prog w = .ok (.string ⟨L.toArray⟩) w := by
  have hn : n = L.length := by have := hown.1; rw [hx] at this; simp at this; omega
  subst hn
  exact run_convert_bytes_back (P := Tryd.prog) w 73 9 5 ⟨g, 0, none⟩ cap L Tryd.underlying73 Tryd.underlying5 Tryd.underlying9 (fun j hj => by
    have hadd : (⟨g, 0, none⟩ : Addr).add j = ⟨g, j, none⟩ := by unfold Addr.add; split <;> simp_all
    rw [hadd, hown.cellAt j (by omega), hx]
    simp [hj])

theorem rev_text (xs : List Nat) (h : ∀ x ∈ xs, x < 10) : (xs.map dV).reverse = (xs.reverse.map asc).map fun b => Value.int .u8 (b.toNat : Int) := by
  rw [← List.map_reverse, List.map_map]
  apply List.map_congr_left
  intro x hx
  show dV x = Value.int .u8 ((asc x).toNat : Int)
  rw [asc_nat (h x (List.mem_reverse.1 hx))]; rfl
theorem sym_at (D : Nat) (h : D < 10) (h2 : D < (⟨#[48, 49, 50, 51, 52, 53, 54, 55, 56, 57, 97, 98, 99, 100, 101, 102, 103, 104, 105, 106, 107, 108, 109, 110, 111, 112, 113, 114, 115, 116, 117, 118, 119, 120, 121, 122]⟩ : ByteArray).size) :
    ((⟨#[48, 49, 50, 51, 52, 53, 54, 55, 56, 57, 97, 98, 99, 100, 101, 102, 103, 104, 105, 106, 107, 108, 109, 110, 111, 112, 113, 114, 115, 116, 117, 118, 119, 120, 121, 122]⟩ : ByteArray)[D]'h2).toNat = 48 + D := by
  rcases (show D = 0 ∨ D = 1 ∨ D = 2 ∨ D = 3 ∨ D = 4 ∨ D = 5 ∨ D = 6 ∨ D = 7 ∨ D = 8 ∨ D = 9 by omega) with rfl | rfl | rfl | rfl | rfl | rfl | rfl | rfl | rfl | rfl <;> rfl
theorem sym_dV (D : Nat) (h : D < 10) (h2 : D < (⟨#[48, 49, 50, 51, 52, 53, 54, 55, 56, 57, 97, 98, 99, 100, 101, 102, 103, 104, 105, 106, 107, 108, 109, 110, 111, 112, 113, 114, 115, 116, 117, 118, 119, 120, 121, 122]⟩ : ByteArray).size) :
    Value.int .u8 (((⟨#[48, 49, 50, 51, 52, 53, 54, 55, 56, 57, 97, 98, 99, 100, 101, 102, 103, 104, 105, 106, 107, 108, 109, 110, 111, 112, 113, 114, 115, 116, 117, 118, 119, 120, 121, 122]⟩ : ByteArray)[D]'h2).toNat : Int) = dV D := by
  rw [sym_at D h h2]; rfl
theorem slen_slice (A : Option Addr) (n c : Nat) : slen (.slice A n c) = n := rfl

set_option maxRecDepth 100000 in
set_option maxHeartbeats 8000000 in
theorem format_any (neg : Bool) (l : List Nat) (v : Value) (S : Nat → Prop) (w : World) (hS : ∀ b, S b → b < w.heap.size) (h : AbsAt w S v l) (hl : l.length ≤ 1000000) :
    Calls Tryd.prog 76 #[.agg #[.bool neg, v], .int .i64 10] w fun e w' => e = .returned (.string (fmtS neg (valN l))) ∧ Below w.heap.size w w' := by
  have hov : v.oneCell' = true := by obtain ⟨A, c, rfl⟩ := h.form; rfl
  obtain ⟨A, c, hv⟩ := h.form
  obtain ⟨n, hn⟩ : ∃ n, n = l.length := ⟨_, rfl⟩
  rw [← hn] at hv
  subst hv
  obtain ⟨N, hN⟩ : ∃ N, N = valN l := ⟨_, rfl⟩
  obtain ⟨W, hW⟩ : ∃ W, w.alloc (.cells #[.bool neg, .slice A n c] 25) = W := ⟨_, rfl⟩
  have hx : Box w W w.heap.size #[.bool neg, .slice A n c] 25 := by rw [← hW]; exact Box.new w _ _
  obtain ⟨c0, c1⟩ := hx.c2
  have hWs : W.heap.size = w.heap.size + 1 := by rw [← hW]; simp
  have HS := Lib.hid (sign_any neg l (.slice A n c) S W (fun b hb => by have := hS b hb; omega) (h.below hS hx.below))
  have HA := Lib.hid (h.below hS hx.below)
  have hlen := revd_len_val l h.2.1
  rw [← hN, ← hn] at hlen
  have HX := Lib.hid hx
  have HSS := Lib.hid hS
  have HN := Lib.hid hN
  have HNL := Lib.hid hn
  have hn6 : n ≤ 1000000 := by omega
  rw [← hN]
  by_cases h0 : N = 0
  · have hs0 : sgnI neg l = 0 := by unfold sgnI; rw [if_pos (by rw [← hN]; exact h0)]
    rw [hs0] at HS
    have HR := Lib.hid (show fmtS neg N = ⟨#[48]⟩ by unfold fmtS fmtL; rw [if_pos h0])
    clear h hx hS hN h0 hs0 hlen hn hWs
    go_enter Tryd.func76, Tryd.ntmps76
    go_wp2_with (go_at_call 61; refine HS.out.mono ?_; rintro e w2 ⟨rfl, hb⟩; have hbw := HX.out.below.trans (hb.mono HX.out.below.size))
    go_ret
    exact ⟨by rw [HR.out]; rfl, hbw⟩
  · obtain ⟨s, hs⟩ : ∃ s, s = sgnI neg l := ⟨_, rfl⟩
    have hs0 : (s == 0) = false := by
      have : ¬ valN l = 0 := by rw [← hN]; exact h0
      rw [hs]; unfold sgnI; rw [if_neg this]; cases neg <;> rfl
    rw [← hs] at HS
    obtain ⟨i0, hi0, hz0, hz1, hz2⟩ := info_parts infoU8
    have HFM := Lib.hid (show fmtL neg N = (if neg then [45] else []) ++ (revd N).reverse.map asc by unfold fmtL; rw [if_neg h0])
    have HNP := Lib.hid (show 0 < N by omega)
    have H10 := Lib.hid (show ∀ x ∈ revd N, x < 10 from by
      have h1 := valN_lt l h.2.1
      rw [← hN] at h1
      exact revd_lt _ _ (Nat.lt_of_lt_of_le h1 (pow_dec _)))
    clear h hx hS hN h0 hs hn
    go_enter Tryd.func76, Tryd.ntmps76
    go_wp2_with (first
      | (go_at_call 61; refine HS.out.mono ?_; rintro e w2 ⟨rfl, hb⟩
         have hx2 := HX.out.step hb
         obtain ⟨d0, d1⟩ := hx2.c2
         have HX2 := Lib.hid hx2
         have HA2 := Lib.hid (HA.out.below (fun b hb => by have := HSS.out b hb; omega) hb)
         have hs2 := hb.size
         clear hb hx2)
      | (go_at_call 82; refine (chunk_ten _).mono ?_; rintro e w3 ⟨rfl, rfl⟩))
    go_loopw [7, 8] (fun a7 a8 wr => ∃ (done rl : List Nat) (A2 : Option Addr) (n2 c2 : Nat), a8 = .slice A2 n2 c2 ∧ n2 ≤ n ∧ done.length ≤ 10 * n ∧ Hid (n2 = rl.length) ∧ Hid (AbsAt wr (Sn wr a7) (.slice A2 n2 c2) rl) ∧ Hid (revd N = done ++ revd (valN rl)) ∧ Hid (wr.ownsRow w2.heap.size 5 1 a7 done.length (done.map dV)) ∧ Hid (Below w2.heap.size w2 wr)) (fun a7 _ _ => 10 * n + 20 - slen a7)
    case atStart => exact ⟨[], l, A, n, c, rfl, Nat.le_refl _, Nat.zero_le _, HNL, Lib.hid (HA2.out.more (fun b hb => ⟨by have := HSS.out b hb; omega, fun e => by cases e⟩)), Lib.hid (by rw [HN.out]; rfl), Lib.hid ⟨rfl, .inl ⟨rfl, rfl⟩⟩, Lib.hid (Below.refl _ _)⟩
    case round =>
      obtain ⟨done, rl, A2, n2, c2, rfl, hn2, hdone, hnl, hA, hrev, hown, hbel⟩ := hrel
      obtain ⟨r7, q7, rfl⟩ : ∃ r q, u7 = .slice r done.length q := by
        have h1 := hown.out
        rcases h1.2 with ⟨rfl, h0⟩ | ⟨g, cap, cur, rfl, _⟩
        · rw [h0]; exact ⟨_, _, rfl⟩
        · exact ⟨_, _, rfl⟩
      have hsz := hbel.out.size
      by_cases hz : valN rl = 0
      · have HZ := Lib.hid (isZero_any rl _ _ wr hA.out true (by simp [hz]))
        have HD := Lib.hid (show revd N = done by rw [hrev.out, hz, revd_zero, List.append_nil])
        have hx0 : wr.cell? ⟨w.heap.size, 0, none⟩ = some (.bool neg) := (HX2.out.step hbel.out).cell 0
        obtain ⟨md, hmd⟩ : ∃ md, md = done.length := ⟨_, rfl⟩
        have HMD := Lib.hid hmd
        rw [← hmd] at hown hdone ⊢
        have HBW : Hid (Below w.heap.size w wr) := Lib.hid (HX2.out.step hbel.out).below
        clear hz hmd
        have hun : ∀ (xs : List Nat), ∀ u ∈ xs.map dV, ∃ n : Int, u = .int .u8 n := fun xs u hu => by
          obtain ⟨x, _, rfl⟩ := List.mem_map.1 hu
          exact ⟨_, rfl⟩
        have HUN := Lib.hid hun
        clear hun
        have hpos : ∀ (L : List UInt8) (B m : Nat) (x : Value) (wz : World), wz.ownsRow B 5 1 x m (L.map fun b => .int .u8 (b.toNat : Int)) → 0 < m → (convert 73 9 x).run Tryd.prog wz = .ok (.string ⟨L.toArray⟩) wz := fun L B m x wz ho hm => by
          obtain ⟨g, cap, hv, _, _⟩ := ho.form hm
          subst hv
          exact conv_back wz g m cap B _ L _ ho rfl
        have hm0 : 0 < md := by
          have h1 := HMD.out
          have h2 := HNP.out
          rw [h1, ← HD.out, revd_pos (by omega), List.length_cons]; omega
        cases neg
        · have HT := Lib.hid (show (done.map dV).reverse = ((revd N).reverse.map asc).map fun b => Value.int .u8 (b.toNat : Int) from by rw [← HD.out]; exact rev_text _ H10.out)
          have HTX := Lib.hid (show fmtL false N = (revd N).reverse.map asc from by rw [HFM.out]; rfl)
          go_wp2_with (first | (go_at_call 74; (with_reducible refine HZ.out.mono ?_); rintro e w4 ⟨rfl, hw4⟩; obtain rfl : wr = w4 := hw4) | (go_at_call 84; refine (reverse_any w2.heap.size md (.slice r7 md q7) (done.map dV) wr hown.out (by omega) (HUN.out _)).mono ?_; rintro e w5 ⟨rfl, ho5, hg5⟩; (rw [HT.out] at ho5); have hcv := hpos _ _ _ _ _ ho5 hm0; have HG5 := Lib.hid hg5; clear ho5 hg5))
          go_ret
          exact ⟨by unfold fmtS; rw [HTX.out, List.map_reverse]; rfl, HBW.out.grown HG5.out HBW.out.size (fun k hk => by have := (hown.out.lt k hk).1; have := HX2.out.below.size; omega)⟩
        · have HT := Lib.hid (show (done.map dV ++ [Value.int .u8 45]).reverse = (45 :: (revd N).reverse.map asc).map fun b => Value.int .u8 (b.toNat : Int) from by rw [← HD.out, List.reverse_append, rev_text _ H10.out]; rfl)
          have HTX := Lib.hid (show fmtL true N = 45 :: (revd N).reverse.map asc from by rw [HFM.out]; rfl)
          have HUN2 := Lib.hid (show ∀ u ∈ done.map dV ++ [Value.int .u8 45], ∃ n : Int, u = .int .u8 n from fun u hu => by
            rcases List.mem_append.1 hu with h | h
            · exact HUN.out _ u h
            · exact ⟨45, by simpa using h⟩)
          go_wp2_with (first
            | (go_at_call 74; (with_reducible refine HZ.out.mono ?_); rintro e w4 ⟨rfl, hw4⟩; obtain rfl : wr = w4 := hw4)
            | (at_builtin; refine wpList_append_lies _ rfl (.tmp 61) (.tmp 62) 73 rfl w2.heap.size 5 i0 _ 1 1 Tryd.underlying73 hi0 hz0 hz1 hz2 rfl (by decide) (.slice r7 md q7) md (done.map dV) rfl (hown.out.alloc _) ⟨wr.heap.size, 0, none⟩ 1 1 [.int .u8 45] rfl rfl (cell_one_new _ _ _) (by intro u hu; simp at hu; rw [hu]; rfl) (by omega) (by unfold maxLen; omega) (by omega) (by simp; omega) (wr.heap.size + 1) (by simp) ?_; intro g5 cap5 w5 ho5 hgrow5 hat5 hlt5; have HO5 := Lib.hid ho5; have HG5 := Lib.hid hgrow5; clear ho5 hgrow5 hat5)
            | (go_at_call 84; refine (reverse_any w2.heap.size (md + 1) _ _ w5 HO5.out (by omega) HUN2.out).mono ?_; rintro e w6 ⟨rfl, ho6, hg6⟩; (rw [HT.out] at ho6); have hcv := hpos _ _ _ _ _ ho6 (by omega); have HG6 := Lib.hid hg6; clear ho6 hg6))
          go_ret
          have hx2s := HX2.out.below.size
          have hb5 : Below w.heap.size w w5 := (HBW.out.alloc HBW.out.size _).grown HG5.out (by have := HBW.out.size; simp; omega) (fun k hk => by have := (hown.out.lt k hk).1; omega)
          exact ⟨by unfold fmtS; rw [HTX.out, List.map_reverse]; rfl, hb5.grown HG6.out hb5.size (fun k hk => by have := (HO5.out.lt k hk).1; omega)⟩
      · have hrl6 : rl.length ≤ 1000000 := by have := hnl.out; omega
        have HZ := Lib.hid (isZero_any rl _ _ wr hA.out false (by simp [hz]))
        have hDV := divSmall_any rl (.slice A2 n2 c2) 1000000000 (Sn wr (.slice r7 done.length q7)) wr (by omega) (by omega) (fun b hb => hb.1) hA.out hrl6
        obtain ⟨p, hp⟩ : ∃ p, p = valN rl % 1000000000 := ⟨_, rfl⟩
        rw [← hp, show ((1000000000 : Nat) : Int) = 1000000000 from rfl] at hDV
        have hp9 : p < 1000000000 := by rw [hp]; exact Nat.mod_lt _ (by omega)
        have HDV := Lib.hid hDV
        have HP := Lib.hid hp
        have HNZ := Lib.hid hz
        obtain ⟨md, hmd⟩ : ∃ md, md = done.length := ⟨_, rfl⟩
        have HMD := Lib.hid hmd
        rw [← hmd] at hown hdone hA ⊢
        clear hDV hp hz hmd
        go_wp2_with (first
          | (go_at_call 74; (with_reducible refine HZ.out.mono ?_); rintro e w4 ⟨rfl, hw4⟩; obtain rfl : wr = w4 := hw4)
          | (go_at_call 83; refine HDV.out.mono ?_; rintro e w5 ⟨q, A3, n3, c3, rfl, hq, hqv, hql, hb5⟩
             obtain ⟨la, hla⟩ : ∃ la : Bool, la = decide (valN q = 0) := ⟨_, rfl⟩
             have HZ2 := Lib.hid (isZero_any q _ _ w5 hq la (by rw [hla]; simp))
             have HQ := Lib.hid (sn_below hown.out hq)
             have HLA := Lib.hid hla
             have HQV := Lib.hid hqv
             have HB5 := Lib.hid hb5
             have hqn : n3 = q.length := hq.cap.1
             have HQN := Lib.hid hqn
             have hn3 : n3 ≤ n := by have := hnl.out; omega
             have hs5 := hb5.size
             clear hq hqv hql hb5 hla HZ hqn)
          | (go_at_call 74; (with_reducible refine HZ2.out.mono ?_); rintro e w4 ⟨rfl, hw4⟩; obtain rfl : w5 = w4 := hw4))
        go_loopw [7, 9, 11] (fun a7 a9 a11 wi => ∃ i : Nat, i ≤ 9 ∧ a11 = .int .i64 i ∧ a9 = .int .u32 ((p / 10 ^ i : Nat) : Int) ∧ Hid (wi.ownsRow w2.heap.size 5 1 a7 (md + i) ((done ++ digs i p).map dV)) ∧ Hid (AbsAt wi (Sn wi a7) (.slice A3 n3 c3) q) ∧ Hid (la = true → revd p = digs i p ++ revd (p / 10 ^ i)) ∧ Hid (Below w2.heap.size w2 wi)) (fun _ _ a11 _ => 9 - (intOf a11).toNat)
        case atStart => exact ⟨0, by omega, rfl, by simp, Lib.hid (by simp only [digs, List.append_nil, Nat.add_zero]; exact own_below hown.out HB5.out), HQ, Lib.hid (fun _ => by simp [digs]), Lib.hid (hbel.out.trans (HB5.out.mono hsz))⟩
        case round =>
          obtain ⟨i, hi, rfl, rfl, hoi, hqi, hri, hbi⟩ := hrel
          obtain ⟨P, hP⟩ : ∃ P, P = p / 10 ^ i := ⟨_, rfl⟩
          have hP9 : P < 1000000000 := by rw [hP]; exact Nat.lt_of_le_of_lt (Nat.div_le_self _ _) hp9
          rw [← hP]
          have HPP := Lib.hid hP
          obtain ⟨r9, q9, rfl⟩ : ∃ r q, u7 = .slice r (md + i) q := by
            rcases hoi.out.2 with ⟨rfl, h0⟩ | ⟨g, cap, cur, rfl, _⟩
            · rw [h0]; exact ⟨_, _, rfl⟩
            · exact ⟨_, _, rfl⟩
          have hsi := hbi.out.size
          clear hP
          by_cases hc : i < 9 ∧ (la = false ∨ 0 < P)
          · obtain ⟨hi9, hor⟩ := hc
            have hi9' : (i : Int) < 9 := by omega
            have HRN := Lib.hid (show la = true → revd p = digs (i + 1) p ++ revd (p / 10 ^ (i + 1)) from fun hla => revd_digs p i (hri.out hla) (by rw [← HPP.out]; rcases hor with h | h; rw [hla] at h; cases h; exact h))
            obtain ⟨D, hD⟩ : ∃ D : Nat, D = P % 10 := ⟨_, rfl⟩
            have hd : (P : Int) % 10 = D := by omega
            have hd10 : D < 10 := by omega
            have HDG := Lib.hid hD
            have HHD := Lib.hid hd
            clear hD
            cases la
            all_goals
              try (have hpz : ((P : Int) != 0) = true := by (rcases hor with h | h; cases h; (simp; omega)))
              clear hor
              go_wp2_with (first
                | (at_builtin; refine wpList_append_lies _ rfl (.tmp 47) (.tmp 53) 73 rfl w2.heap.size 5 i0 _ 1 1 Tryd.underlying73 hi0 hz0 hz1 hz2 rfl (by decide) (.slice r9 (md + i) q9) (md + i) ((done ++ digs i p).map dV) rfl (hoi.out.alloc _) ⟨wr.heap.size, 0, none⟩ 1 1 [_] rfl rfl (cell_one_new _ _ _) (by intro u hu; simp at hu; rw [hu]; rfl) (by omega) (by unfold maxLen; omega) (by omega) (by simp; omega) (wr.heap.size + 1) (by simp) ?_; intro g6 cap6 w6 ho6 hgrow6 hat6 hlt6; have HO6 := Lib.hid ho6; have HG6 := Lib.hid hgrow6; have HAT6 := Lib.hid hat6; clear ho6 hgrow6 hat6))
              go_roundw
              case rel =>
                have hb6 : Below w2.heap.size w2 w6 := (hbi.out.alloc hbi.out.size _).grown HG6.out (by simp; omega) (fun k hk => (hoi.out.lt k hk).1)
                have hdp : D = p / 10 ^ i % 10 := by rw [HDG.out, HPP.out]
                refine ⟨i + 1, by omega, by go_num, ?_, Lib.hid ?_, Lib.hid (absAt_grown hqi.out HG6.out rfl HAT6.out), HRN, Lib.hid hb6⟩
                · rw [div_pow, ← HPP.out]; simp
                · rw [digs_snoc, ← hdp, ← List.append_assoc, map_snoc]
                  have h6 := HO6.out
                  rw [sym_dV D hd10] at h6
                  exact h6
              case measure => simp [intOf]; omega
          · have HFIN := Lib.hid (show revd N = (done ++ digs i p) ++ revd (valN q) from by
              rw [hrev.out, List.append_assoc]
              congr 1
              by_cases hla : la = true
              · have hq0 : valN q = 0 := by have := HLA.out; rw [hla] at this; simpa using this.symm
                have hpl : p = valN rl := by
                  have h1 := HP.out
                  have h2 := HQV.out
                  rw [hq0] at h2
                  have h3 := Nat.mod_add_div (valN rl) 1000000000
                  omega
                have hP0 : p / 10 ^ i = 0 := by
                  rw [← HPP.out]
                  by_cases hi9 : i < 9
                  · have : ¬ (la = false ∨ 0 < P) := fun h => hc ⟨hi9, h⟩
                    omega
                  · have : i = 9 := by omega
                    subst this
                    rw [HPP.out, show (10 : Nat) ^ 9 = 1000000000 by decide]
                    exact Nat.div_eq_of_lt hp9
                have h4 := hri.out hla
                rw [hP0, revd_zero, List.append_nil] at h4
                rw [hq0, revd_zero, List.append_nil, ← hpl, h4]
              · have hq0 : ¬ valN q = 0 := by
                  have := HLA.out
                  intro h
                  rw [h] at this
                  exact hla (by simpa using this)
                have hi9 : i = 9 := by
                  by_cases hi9 : i < 9
                  · exact absurd ⟨hi9, .inl (by simpa using hla)⟩ hc
                  · omega
                subst hi9
                have h2 := HQV.out
                rw [h2, HP.out]
                exact revd_nine (valN rl) (by omega))
            have hmi : md + i = (done ++ digs i p).length := by rw [List.length_append, digs_len, ← HMD.out]
            have hlen2 : (done ++ digs i p).length ≤ 10 * n := by
              have h1 := HFIN.out
              have h2 := congrArg List.length h1
              rw [List.length_append] at h2
              omega
            have hi0' : 0 < i := by
              by_cases hla : la = true
              · by_cases h0 : i = 0
                · subst h0
                  exfalso
                  have h4 := hri.out hla
                  have : p ≠ 0 := by
                    intro hp0
                    have hq0 : valN q = 0 := by have := HLA.out; rw [hla] at this; simpa using this.symm
                    have h2 := HQV.out
                    have h1 := HP.out
                    have h3 := Nat.mod_add_div (valN rl) 1000000000
                    have := HNZ.out
                    omega
                  have hPp : P = p := by rw [HPP.out]; simp
                  exact hc ⟨by omega, .inr (by omega)⟩
                · omega
              · by_cases hi9 : i < 9
                · exact absurd ⟨hi9, .inl (by simpa using hla)⟩ hc
                · omega
            have HMI := Lib.hid hmi
            have hcd : (i < 9 ∧ la = true ∧ P = 0) ∨ ¬ i < 9 := by
              by_cases hi9 : i < 9
              · refine .inl ⟨hi9, ?_, ?_⟩
                · cases la
                  · exact absurd ⟨hi9, .inl rfl⟩ hc
                  · rfl
                · exact Classical.byContradiction fun h => hc ⟨hi9, .inr (by omega)⟩
              · exact .inr hi9
            clear hmi hc
            rcases hcd with ⟨hi9, rfl, rfl⟩ | hi9
            all_goals
              try (have hi9' : (i : Int) < 9 := by omega)
              try (have hi9'' : ¬ (i : Int) < 9 := by omega)
              go_wp2
              go_roundw
              case rel =>
                refine ⟨done ++ digs i p, q, A3, n3, c3, rfl, by omega, hlen2, HQN, hqi, HFIN, ?_, hbi⟩
                rw [← HMI.out]
                exact hoi
              case measure =>
                rw [slen_slice, slen_slice]
                have := HMI.out
                omega

set_option maxHeartbeats 1000000 in
theorem decFormat_any (neg : Bool) (l : List Nat) (v : Value) (S : Nat → Prop) (w : World) (hS : ∀ b, S b → b < w.heap.size) (h : AbsAt w S v l) (hl : l.length ≤ 1000000) :
    Calls Tryd.prog 65 #[.agg #[.bool neg, v]] w fun e w' => e = .returned (.string (fmtS neg (valN l))) ∧ Below w.heap.size w w' := by
  obtain ⟨W, hW⟩ : ∃ W, w.alloc (.cells #[.bool neg, v] 25) = W := ⟨_, rfl⟩
  have hx : Box w W w.heap.size #[.bool neg, v] 25 := by rw [← hW]; exact Box.new w _ _
  obtain ⟨c0, c1⟩ := hx.c2
  obtain ⟨A, c, hv⟩ := h.form
  have HF := Lib.hid (format_any neg l v S W (fun b hb => Nat.lt_of_lt_of_le (hS b hb) hx.below.size) (h.below hS hx.below) hl)
  have HX := Lib.hid hx
  subst hv
  clear h hS hx
  go_enter Tryd.func65, Tryd.ntmps65
  go_wp2_with (go_at_call 76; refine HF.out.mono ?_; rintro e w2 ⟨rfl, hb⟩)
  go_ret
  exact ⟨rfl, HX.out.below.trans (hb.mono HX.out.below.size)⟩
theorem normB_false (l : List Nat) : normB false l = false := rfl

end Dc
end Go.Proofs.YtkjbfomokdjbnaaDoor
