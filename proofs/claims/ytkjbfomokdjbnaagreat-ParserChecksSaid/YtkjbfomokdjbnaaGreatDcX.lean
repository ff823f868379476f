/-
  decimal.Parse, natural.Uint64, integer.Int64, parser.exponent.
-/
import Derived.Test.YtkjbfomokdjbnaaGreatDcQ
import Derived.Test.YtkjbfomokdjbnaaGreatFmW
namespace Go.Proofs.YtkjbfomokdjbnaaGreat
open Go.RowKit
set_option linter.unusedSimpArgs false
set_option linter.unusedVariables false
namespace Dc
open Fm Pa Lx
set_option maxRecDepth 100000 in
set_option maxHeartbeats 2000000 in
theorem Parse_any (s : ByteArray) (hd : ∀ c ∈ s.data.toList, dig c = true) (h0 : 0 < s.size) (h40 : s.size ≤ 40) (hz : s.size = 1 ∨ s[0].toNat ≠ 48) (w : World) :
    Calls Tryz.prog 84 #[.string s] w (PPost s.data.toList w) := by
  obtain ⟨W, hW⟩ : ∃ W, w.alloc (.cells #[.bool false, .slice none 0 0] 41) = W := ⟨_, rfl⟩
  have hx : Box w W w.heap.size #[.bool false, .slice none 0 0] 41 := by rw [← hW]; exact Box.new w _ _
  have HX := Lib.hid hx
  have HP := Lib.hid (parse_any s hd h0 h40 hz W)
  have hs0 : W.heap.size = w.heap.size + 1 := by rw [← hW]; simp
  clear hx hd h0 h40 hz
  go_enter Tryz.func84, Tryz.ntmps84
  go_wp2_with fail
  refine HP.out.mono ?_
  rintro e w2 ⟨A, n, c, rfl, hA, hb⟩
  have HA := Lib.hid hA
  have hx2 := HX.out.step hb
  have HX2 := Lib.hid hx2
  obtain ⟨y0, y1⟩ := hx2.c2
  have yf := hx2.fz
  have HB := Lib.hid hb
  clear hA hb hx2
  go_wp2
  refine bodyPost_ret (v := .tuple #[.agg #[.bool false, .slice A n c], .int .i64 0]) (by simp [results, Tryz.results84, go_sem, y0, y1]) rfl ?_
  refine ⟨A, n, c, rfl, ?_, (HX2.out.below.setCell (Nat.le_refl _) _).setCell (Nat.le_refl _) _⟩
  refine ((HA.out.setCell (.bool false) (X := w.heap.size) (j := 0) (fun h => by have := h.1; omega)).setCell (.slice A n c) (X := w.heap.size) (j := 1) (fun h => by have := h.1; omega)).more (fun b hb => ⟨by have := hb.1; omega, by simp; exact hb.2⟩)

/-- what Uint64 gives -/
def U64 (l : List Nat) (e : Ending) : Prop := ((trimN l).length ≤ 2 ∧ e = .returned (.tuple #[.int .u64 (valN l : Nat), .bool true])) ∨ (2 < (trimN l).length ∧ e = .returned (.tuple #[.int .u64 0, .bool false]))
set_option maxRecDepth 100000 in
set_option maxHeartbeats 4000000 in
theorem uint64_any (l : List Nat) (v : Value) (S : Nat → Prop) (w : World) (h : AbsAt w S v l) :
    Calls Tryz.prog 87 #[v] w fun e w' => U64 l e ∧ Below w.heap.size w w' := by
  have HT := Lib.hid (trim_any l v S w h)
  have hvl := valN_trim l
  have hov : v.oneCell' = true := by obtain ⟨A, c, rfl⟩ := h.form; rfl
  obtain ⟨t, ht⟩ : ∃ t, trimN l = t := ⟨_, rfl⟩
  obtain ⟨E, hE⟩ : ∃ E : Ending → Prop, E = U64 l := ⟨_, rfl⟩
  have hE2 : ∀ e, U64 l e = ((t.length ≤ 2 ∧ e = .returned (.tuple #[.int .u64 (valN t : Nat), .bool true])) ∨ (2 < t.length ∧ e = .returned (.tuple #[.int .u64 0, .bool false]))) := fun e => by unfold U64; rw [hvl.symm, ht]
  rw [ht] at HT
  rw [← hE] at hE2 ⊢
  have HE := Lib.hid hE2
  have HDR := Lib.hid (show ∀ k, Below w.heap.size w (w.drewN k) from fun k => ⟨rfl, rfl, rfl, Nat.le_refl _, fun _ _ => rfl⟩)
  clear ht hE hE2 hvl h
  match t, HT, HE with
  | [], HT, HE =>
    go_enter Tryz.func87, Tryz.ntmps87
    go_wp2_with fail
    refine HT.out.mono ?_
    rintro e w' ⟨⟨A, c, rfl, hA⟩, hw⟩
    obtain rfl : w = w' := hw.symm
    have HA := Lib.hid hA
    clear hA
    go_wp2
    go_ret2
    exact ⟨by rw [HE.out]; exact .inl ⟨by simp, rfl⟩, Below.refl _ _⟩
  | [x], HT, HE =>
    go_enter Tryz.func87, Tryz.ntmps87
    go_wp2_with fail
    refine HT.out.mono ?_
    rintro e w' ⟨⟨A, c, rfl, hA⟩, hw⟩
    obtain rfl : w = w' := hw.symm
    obtain ⟨b, o, rfl, hb, hc⟩ := hA.at_ rfl (by simp)
    have c0 : w.cell? ⟨b, o, none⟩ = some (.int .u32 x) := hc 0 (by simp)
    have hx := hA.2.1 x (by simp)
    clear hc hA
    go_wp2
    go_ret2
    exact ⟨by rw [HE.out]; exact .inl ⟨by simp, by simp [valN]⟩, Below.refl _ _⟩
  | [x, y], HT, HE =>
    go_enter Tryz.func87, Tryz.ntmps87
    go_wp2_with fail
    refine HT.out.mono ?_
    rintro e w' ⟨⟨A, c, rfl, hA⟩, hw⟩
    obtain rfl : w = w' := hw.symm
    obtain ⟨b, o, rfl, hb, hc⟩ := hA.at_ rfl (by simp)
    have c0 : w.cell? ⟨b, o, none⟩ = some (.int .u32 x) := hc 0 (by simp)
    have c1 : w.cell? ⟨b, o + 1, none⟩ = some (.int .u32 y) := hc 1 (by simp)
    have hx := hA.2.1 x (by simp)
    have hy := hA.2.1 y (by simp)
    have hor := or_join y x hy hx
    clear hc hA
    go_wp2_with fail
    go_quiet (fail)
    go_wp2
    go_ret2
    have e : ((valN [x, y] : Nat) : Int) = (y : Int) * 4294967296 + (x : Int) := by simp [valN]; omega
    exact ⟨by rw [HE.out, e]; exact .inl ⟨by simp, rfl⟩, HDR.out _⟩
  | x :: y :: z :: r, HT, HE =>
    obtain ⟨k, hk⟩ : ∃ k, k = (x :: y :: z :: r).length := ⟨_, rfl⟩
    have hk3 : 3 ≤ k := by rw [hk]; simp
    have HF := Lib.hid (show U64 l = U64 l from rfl)
    rw [← hk] at HT HE
    have e0 : ((k : Int) == 0) = false := by simp; omega
    have e1 : ((k : Int) == 1) = false := by simp; omega
    have e2 : ((k : Int) == 2) = false := by simp; omega
    clear hk
    go_enter Tryz.func87, Tryz.ntmps87
    go_wp2_with fail
    refine HT.out.mono ?_
    rintro e w' ⟨⟨A, c, rfl, hA⟩, hw⟩
    obtain rfl : w = w' := hw.symm
    clear hA
    go_wp2
    go_ret2
    exact ⟨by rw [HE.out]; exact .inr ⟨by omega, rfl⟩, Below.refl _ _⟩

theorem tz_len_lt (l : List Nat) (hl : ∀ x ∈ l, x < 4294967296) (h : valN l < 18446744073709551616) : (trimN l).length ≤ 2 := by
  have h1 := valN_trim l
  rcases Nat.lt_or_ge 2 (trimN l).length with h2 | h2
  · exfalso
    have hlast : ∀ (m : List Nat), trimN m = m → m ≠ [] → 4294967296 ^ (m.length - 1) ≤ valN m := by
      intro m
      induction m with
      | nil => intro _ h; exact absurd rfl h
      | cons x xs ih =>
        intro ht _
        cases xs with
        | nil =>
          have : ¬ valN [x] = 0 := fun e => by
            have := (trim_zero [x]).2 e
            rw [ht] at this; simp at this
          simp; omega
        | cons y ys =>
          have ht2 : trimN (y :: ys) = y :: ys := by
            rw [trimN_tz] at ht ⊢
            unfold tz at ht
            split at ht
            · cases ht
            · injection ht
          have := ih ht2 (by simp)
          rw [valN_cons]
          simp only [List.length_cons, Nat.add_sub_cancel] at this ⊢
          rw [Nat.pow_succ]
          omega
    have ht : trimN (trimN l) = trimN l := trimN_idem l
    have h4 := hlast (trimN l) ht (fun e => by rw [e] at h2; simp at h2)
    rw [h1] at h4
    have h5 : 4294967296 ^ 2 ≤ 4294967296 ^ ((trimN l).length - 1) := Nat.pow_le_pow_right (by omega) (by omega)
    omega
  · exact h2
/-- what Int64 gives of a number that is not negative -/
def I64 (N : Nat) (e : Ending) : Prop := (N ≤ 2147483647 ∧ e = .returned (.tuple #[.int .i64 N, .bool true])) ∨ (2147483647 < N ∧ (∃ k : Nat, 2147483647 < k ∧ e = .returned (.tuple #[.int .i64 k, .bool true]) ∨ e = .returned (.tuple #[.int .i64 0, .bool false])))
set_option maxRecDepth 100000 in
set_option maxHeartbeats 4000000 in
theorem int64_any (l : List Nat) (v : Value) (S : Nat → Prop) (w : World) (hS : ∀ b, S b → b < w.heap.size) (h : AbsAt w S v l) :
    Calls Tryz.prog 85 #[.agg #[.bool false, v]] w fun e w' => I64 (valN l) e ∧ Below w.heap.size w w' := by
  have hov : v.oneCell' = true := by obtain ⟨A, c, rfl⟩ := h.form; rfl
  obtain ⟨A, c, hvf⟩ := h.form
  obtain ⟨W, hW⟩ : ∃ W, w.alloc (.cells #[.bool false, v] 41) = W := ⟨_, rfl⟩
  have hx : Box w W w.heap.size #[.bool false, v] 41 := by rw [← hW]; exact Box.new w _ _
  obtain ⟨c0, c1⟩ := hx.c2
  have HX := Lib.hid hx
  have HU := Lib.hid (uint64_any l v S W (h.below hS hx.below))
  have HV := Lib.hid (tz_len_lt l h.2.1)
  obtain ⟨N, hN⟩ : ∃ N, N = valN l := ⟨_, rfl⟩
  unfold U64 at HU
  rw [← hN] at HU HV ⊢
  obtain ⟨q, hq⟩ : ∃ q, q = (trimN l).length := ⟨_, rfl⟩
  rw [← hq] at HU HV
  subst hvf
  have hU : (q ≤ 2 ∧ Calls Tryz.prog 87 #[.slice A l.length c] W fun e w' => e = .returned (.tuple #[.int .u64 N, .bool true]) ∧ Below W.heap.size W w') ∨ (2 < q ∧ Calls Tryz.prog 87 #[.slice A l.length c] W fun e w' => e = .returned (.tuple #[.int .u64 0, .bool false]) ∧ Below W.heap.size W w') := by
    rcases Nat.lt_or_ge 2 q with h2 | h2
    · exact .inr ⟨h2, HU.out.mono (fun e w' h => ⟨by rcases h.1 with h3 | h3; omega; exact h3.2, h.2⟩)⟩
    · exact .inl ⟨h2, HU.out.mono (fun e w' h => ⟨by rcases h.1 with h3 | h3; exact h3.2; omega, h.2⟩)⟩
  clear h hS hx hN hq HU
  rcases hU with ⟨h2, hU⟩ | ⟨h2, hU⟩
  · obtain ⟨a, ha⟩ : ∃ a : Int, a = (N : Int) := ⟨_, rfl⟩
    rw [← ha] at hU
    have HUU := Lib.hid hU
    have HA := Lib.hid ha
    have ha0 : 0 ≤ a := by omega
    clear hU ha
    by_cases hlt : a < 9223372036854775808
    · go_enter Tryz.func85, Tryz.ntmps85
      go_wp2_with fail
      refine HUU.out.mono ?_
      rintro e w2 ⟨rfl, hb⟩
      have hx2 := HX.out.step hb
      obtain ⟨y0, y1⟩ := hx2.c2
      have HB := Lib.hid hx2.below
      clear hb hx2
      go_wp2
      go_ret2
      refine ⟨?_, HB.out⟩
      rcases Nat.lt_or_ge 2147483647 N with h3 | h3
      · exact .inr ⟨h3, N, .inl ⟨h3, by rw [← HA.out]; rfl⟩⟩
      · exact .inl ⟨h3, by rw [← HA.out]; rfl⟩
    · have hge : 9223372036854775808 ≤ a := by omega
      clear hlt
      go_enter Tryz.func85, Tryz.ntmps85
      go_wp2_with fail
      refine HUU.out.mono ?_
      rintro e w2 ⟨rfl, hb⟩
      have hx2 := HX.out.step hb
      obtain ⟨y0, y1⟩ := hx2.c2
      have HB := Lib.hid hx2.below
      clear hb hx2
      go_wp2
      go_ret2
      exact ⟨.inr ⟨by have := HA.out; omega, 0, .inr rfl⟩, HB.out⟩
  · have hbig : 2147483647 < N := by
      rcases Nat.lt_or_ge 2147483647 N with h3 | h3
      · exact h3
      · exact absurd (HV.out (by omega)) (by omega)
    have HUU := Lib.hid hU
    clear hU
    go_enter Tryz.func85, Tryz.ntmps85
    go_wp2_with fail
    refine HUU.out.mono ?_
    rintro e w2 ⟨rfl, hb⟩
    have HB := Lib.hid (HX.out.step hb).below
    clear hb
    go_wp2
    go_ret2
    exact ⟨.inr ⟨hbig, 0, .inr rfl⟩, HB.out⟩

set_option maxRecDepth 100000 in
set_option maxHeartbeats 4000000 in
theorem exponent_any (s : ByteArray) (hd : ∀ c ∈ s.data.toList, dig c = true) (h0 : 0 < s.size) (h40 : s.size ≤ 40) (hz : s.size = 1 ∨ s[0].toNat ≠ 48) (w : World) :
    Calls Tryz.prog 83 #[.string s] w fun e w' => e = .returned (.int .i64 (expN s.data.toList : Nat)) ∧ Below w.heap.size w w' := by
  have HP := Lib.hid (Parse_any s hd h0 h40 hz w)
  obtain ⟨R, hR⟩ : ∃ R, R = expN s.data.toList := ⟨_, rfl⟩
  rw [← hR]
  have HR := Lib.hid hR
  have hv10 : decV s.data.toList < 4294967296 ^ 8 := by
    have h1 := decF_lt s.data.toList hd
    have h2 : (10 : Nat) ^ s.data.toList.length ≤ 10 ^ 40 := Nat.pow_le_pow_right (by omega) h40
    have h256 : (10 : Nat) ^ 40 < 4294967296 ^ 8 := by decide
    unfold decV; omega
  have HV := Lib.hid hv10
  clear hd h0 h40 hz hR hv10
  go_enter Tryz.func83, Tryz.ntmps83
  go_wp2_with fail
  refine HP.out.mono ?_
  rintro e w2 ⟨A, n, c, rfl, hA, hb⟩
  have hx := Box.new w2 #[.bool false, .slice A n c] 41
  have HI := Lib.hid (int64_any _ _ (Fr w w2) (w2.alloc (.cells #[.bool false, .slice A n c] 41)) (fun b hb => Nat.lt_of_lt_of_le hb.2 hx.below.size) (hA.below (fun b hb => hb.2) hx.below))
  have hval : valN (limbs (decV s.data.toList)) = decV s.data.toList := by
    have : ∀ (k N : Nat), N < 4294967296 ^ k → valN (limbF k N) = N := by
      intro k
      induction k with
      | zero => intro N h; rw [Nat.pow_zero] at h; obtain rfl : N = 0 := by omega
                rfl
      | succ k ih =>
        intro N h
        unfold limbF
        by_cases h0 : N = 0
        · rw [if_pos h0, h0]; rfl
        · rw [if_neg h0, valN_cons, ih (N / 4294967296) (by rw [Nat.div_lt_iff_lt_mul (by omega)]; rw [Nat.pow_succ] at h; exact h)]
          omega
    exact this 8 _ HV.out
  rw [hval] at HI
  obtain ⟨N, hN⟩ : ∃ N, N = decV s.data.toList := ⟨_, rfl⟩
  have hRN : R = min N 2147483647 := by rw [HR.out, hN]; rfl
  rw [← hN] at HI
  have HB := Lib.hid (hb.trans (hx.below.mono hb.size))
  unfold I64 at HI
  have hcase : (N ≤ 2147483647 ∧ R = N) ∨ (2147483647 < N ∧ R = 2147483647) := by omega
  clear hA hb hx hval hN hRN
  go_wp2_with fail
  refine HI.out.mono ?_
  rintro e w3 ⟨h3 | ⟨h3, k, ⟨h4, rfl⟩ | rfl⟩, hb3⟩
  · obtain ⟨h3, rfl⟩ := h3
    obtain rfl : R = N := by omega
    have HB3 := Lib.hid (HB.out.trans (hb3.mono HB.out.size))
    clear hb3
    go_wp2
    go_ret
    exact ⟨rfl, HB3.out⟩
  · obtain rfl : R = 2147483647 := by omega
    have HB3 := Lib.hid (HB.out.trans (hb3.mono HB.out.size))
    clear hb3
    go_wp2
    go_ret
    exact ⟨rfl, HB3.out⟩
  · obtain rfl : R = 2147483647 := by omega
    have HB3 := Lib.hid (HB.out.trans (hb3.mono HB.out.size))
    clear hb3
    go_wp2
    go_ret
    exact ⟨rfl, HB3.out⟩
end Dc
end Go.Proofs.YtkjbfomokdjbnaaGreat
