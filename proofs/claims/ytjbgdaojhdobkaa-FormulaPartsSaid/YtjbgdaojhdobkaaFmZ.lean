/-
  The reference's Has, Free.
-/
import Derived.Test.YtjbgdaojhdobkaaFmY
import Derived.Test.YtjbgdaojhdobkaaApp
import Derived.Test.YtjbgdaojhdobkaaOpn
import Derived.Deep.RegionLaw
namespace Go.Proofs.Ytjbgdaojhdobkaa
open Go.RowKit
set_option linter.unusedSimpArgs false
set_option linter.unusedVariables false
namespace Fm
attribute [local go_sem] run_store

set_option maxRecDepth 100000 in
set_option maxHeartbeats 2000000 in
theorem has_any (l : List ByteArray) (v : Value) (s : ByteArray) (S : Nat → Prop) (w : World) (hv : StrsAt w S v l) (r : Bool) (hr : r = true ↔ s ∈ l) :
    Calls Try.prog 50 #[v, .string s] w fun e w' => e = .returned (.bool r) ∧ w = w' := by
  obtain ⟨A1, c1, rfl⟩ := hv.form
  obtain ⟨n, hn⟩ : ∃ n, n = l.length := ⟨_, rfl⟩
  rw [← hn] at hv ⊢
  have hl1 : n ≤ 1000000 := by rw [hn]; exact hv.2
  have HV := Lib.hid hv
  have HN := Lib.hid hn
  have HR := Lib.hid hr
  clear hv hn hr
  go_enter Try.func50, Try.ntmps50
  go_wp2
  go_loop [8] (fun a_ => ∃ (i : Nat), i ≤ n ∧ a_ = .int .i64 i ∧ Hid (r = true ↔ s ∈ l.drop i)) (fun a_ => n - (intOf a_).toNat)
  case atStart => exact ⟨0, Nat.zero_le _, rfl, Lib.hid (by simpa using HR.out)⟩
  case round =>
    obtain ⟨i, hi, rfl, hrel⟩ := hrel
    by_cases hlt : i < n
    · obtain ⟨b, o, rfl, hb, hc⟩ := HV.out.at_ HN.out (by omega)
      obtain ⟨x, hx⟩ : ∃ x, l[i]? = some x := ⟨_, List.getElem?_eq_getElem (by have := HN.out; omega)⟩
      have g1 := hc i x hx
      have hstep := hrel.out
      rw [drop_at hx] at hstep
      have HST := Lib.hid hstep
      have hi1 : (0 : Int) ≤ i ∧ (i : Int) < n := by omega
      clear hc hx hstep hb
      by_cases hse : x = s
      · subst hse
        have HT := Lib.hid (show r = true from HST.out.2 (by simp))
        go_wp2
        go_ret
        exact ⟨by rw [HT.out]; rfl, rfl⟩
      · have hb0 : (x.toList == s.toList) = false := (Lib.bytes_beq_false_iff x s).2 hse
        have HST2 := Lib.hid (show r = true ↔ s ∈ l.drop (i + 1) by rw [HST.out, List.mem_cons]; exact ⟨fun h => h.resolve_left (fun e => hse e.symm), .inr⟩)
        clear hse
        go_wp2
        go_round
        case rel => exact ⟨i + 1, by omega, by go_num, HST2⟩
        case measure => simp [intOf]; omega
    · have HE := Lib.hid (show r = false by
        cases hh : r with
        | false => rfl
        | true => (have h := hrel.out.1 hh; rw [List.drop_eq_nil_of_le (by have := HN.out; omega)] at h; cases h))
      go_wp2
      go_ret
      exact ⟨by rw [HE.out]; rfl, rfl⟩

mutual
/-- the names that occur free, as the reference collects them -/
def freeR : Tr → List ByteArray → List ByteArray → List ByteArray
  | .mk h ks, bd, out => if h.k = 2 ∧ h.name ∉ bd ∧ h.name ∉ out then out ++ [h.name] else freeRL ks (if h.k = 15 then bd ++ [h.name] else bd) out
def freeRL : List Tr → List ByteArray → List ByteArray → List ByteArray
  | [], _, out => out
  | k :: ks, bd, out => freeRL ks bd (freeR k bd out)
end
theorem freeRL_append (a b : List Tr) (bd out : List ByteArray) : freeRL (a ++ b) bd out = freeRL b bd (freeRL a bd out) := by
  induction a generalizing out with
  | nil => rfl
  | cons k a ih =>
    show freeRL (k :: (a ++ b)) bd out = _
    conv => lhs; unfold freeRL
    conv => rhs; arg 3; unfold freeRL
    exact ih _
theorem freeRL_take (ks : List Tr) (i : Nat) (k : Tr) (h : ks[i]? = some k) (bd out : List ByteArray) : freeRL (ks.take (i + 1)) bd out = freeR k bd (freeRL (ks.take i) bd out) := by
  obtain ⟨hi, rfl⟩ := List.getElem?_eq_some_iff.1 h
  rw [List.take_succ_eq_append_getElem hi, freeRL_append]; rfl
mutual
theorem freeR_len : ∀ (t : Tr) (bd out : List ByteArray), (freeR t bd out).length ≤ out.length + nn t
  | .mk h ks, bd, out => by
    unfold freeR nn
    split
    · simp
    · have := freeRL_len ks (if h.k = 15 then bd ++ [h.name] else bd) out; omega
theorem freeRL_len : ∀ (ks : List Tr) (bd out : List ByteArray), (freeRL ks bd out).length ≤ out.length + nnL ks
  | [], bd, out => by unfold freeRL nnL; omega
  | k :: ks, bd, out => by
    unfold freeRL nnL
    have := freeRL_len ks bd (freeR k bd out)
    have := freeR_len k bd out
    omega
end

theorem tri_ne {a b : Nat} (h : a < b) : a ≠ b := by omega
/-- a list of names that reads so, nil if it is empty -/
def BdAt (w : World) (S : Nat → Prop) (v : Value) (l : List ByteArray) : Prop := StrsAt w S v l ∧ (l = [] → v = .slice none 0 0)

def FrOk (t : Tr) : Prop := ∀ (cs : List Value) (vb vo : Value) (S Sb : Nat → Prop) (bd out : List ByteArray) (B : Nat) (w : World), B ≤ w.heap.size → (∀ b, S b → b < B) → (∀ b, Sb b → b < w.heap.size ∧ ¬ vo.ownBlock = some b) →
    TreeAt w S t cs → BdAt w Sb vb bd → w.ownsRow B tStr 1 vo out.length (out.map Value.string) → out.length + nn t ≤ 900000 → bd.length + nn t ≤ 900000 →
    Calls Try.prog 64 #[.agg cs.toArray, vb, vo] w (RowPost B vo (freeR t bd out) w)

/-- the same, for a list of bound names that is not empty -/
def FrOkN (t : Tr) : Prop := ∀ (cs : List Value) (vb vo : Value) (S Sb : Nat → Prop) (bd out : List ByteArray) (B : Nat) (w : World), bd ≠ [] → B ≤ w.heap.size → (∀ b, S b → b < B) → (∀ b, Sb b → b < w.heap.size ∧ ¬ vo.ownBlock = some b) →
    TreeAt w S t cs → BdAt w Sb vb bd → w.ownsRow B tStr 1 vo out.length (out.map Value.string) → out.length + nn t ≤ 900000 → bd.length + nn t ≤ 900000 →
    Calls Try.prog 64 #[.agg cs.toArray, vb, vo] w (RowPost B vo (freeR t bd out) w)
/-- the same, for none -/
def FrOk0 (t : Tr) : Prop := ∀ (cs : List Value) (vo : Value) (S : Nat → Prop) (out : List ByteArray) (B : Nat) (w : World), B ≤ w.heap.size → (∀ b, S b → b < B) →
    TreeAt w S t cs → w.ownsRow B tStr 1 vo out.length (out.map Value.string) → out.length + nn t ≤ 900000 →
    Calls Try.prog 64 #[.agg cs.toArray, .slice none 0 0, vo] w (RowPost B vo (freeR t [] out) w)
/-! fr_marker -/

theorem owns_cell {w : World} {b : Nat} {h : b < w.heap.size} : True := trivial
set_option maxRecDepth 100000 in
set_option maxHeartbeats 4000000 in
theorem fr_other (k : Int) (neg : Bool) (abs : List Nat) (name : ByteArray) (exp rel : Int) (truth all : Bool) (ks : List Tr) (ih : ∀ k ∈ ks, FrOk k) (h2 : k ≠ 2) (h15 : k ≠ 15) : FrOk (.mk ⟨k, neg, abs, name, exp, rel, truth, all⟩ ks) := by
  intro cs vb vo S Sb bd out B w hB hS hSb hT hbd hown hno hnb
  obtain ⟨A1, n1, c1, A2, K, c2, xs, rfl, hK, hKc, hK64, hn1', hnm, hab, hks, htr⟩ := hT.mkN
  have hnm' : name.size ≤ 9223372036854775807 := hnm
  obtain ⟨A3, c3, rfl⟩ := hbd.1.form
  obtain ⟨A4, c4, rfl⟩ := row_slice hown
  unfold hdC
  obtain ⟨W, hW⟩ : ∃ W, w.alloc (.cells #[.int .i64 k, .bool neg, .slice A1 n1 c1, .string name, .int .i64 exp, .int .i64 rel, .bool truth, .bool all, .slice A2 K c2] TT) = W := ⟨_, rfl⟩
  have hx : Box w W w.heap.size #[.int .i64 k, .bool neg, .slice A1 n1 c1, .string name, .int .i64 exp, .int .i64 rel, .bool truth, .bool all, .slice A2 K c2] TT := by rw [← hW]; exact Box.new w _ _
  obtain ⟨b0, b1, b2, b3, b4, b5, b6, b7, b8⟩ := hx.c9
  have hnb1 : bd.length + nnL ks + 1 ≤ 900000 := by unfold nn at hnb; omega
  have hno1 : out.length + nnL ks + 1 ≤ 900000 := by unfold nn at hno; omega
  have HX := Lib.hid hx
  have hWs : w.heap.size < W.heap.size := hx.lt
  have HOL := Lib.hid hown.lt
  have HTR := Lib.hid (htr.below (fun b hb => Nat.lt_of_lt_of_le (hS b hb) hB) hx.below)
  have HKS := Lib.hid (hks.below (fun b hb => Nat.lt_of_lt_of_le (hS b hb) hB) hx.below)
  have HK := Lib.hid hK
  have HBD := Lib.hid (show BdAt W Sb (.slice A3 bd.length c3) bd from ⟨hbd.1.below (fun b hb => (hSb b hb).1) hx.below, hbd.2⟩)
  have HO := Lib.hid (ownsRow_keep hown (fun b hb => hx.below.block b (hown.lt b hb).2))
  have IH := Lib.hid ih
  have HS := Lib.hid hS
  have HSB := Lib.hid (show ∀ b, Sb b → b < W.heap.size ∧ ¬ (Value.slice A4 out.length c4).ownBlock = some b from fun b hb => ⟨Nat.lt_of_lt_of_le (hSb b hb).1 hx.below.size, (hSb b hb).2⟩)
  clear hx htr hks hK hbd hown ih hT hS hSb hab hn1' hno hnb hnm
  have HFR := Lib.hid (show freeR (.mk ⟨k, neg, abs, name, exp, rel, truth, all⟩ ks) bd out = freeRL ks bd out by unfold freeR; rw [if_neg (fun h => h2 h.1), if_neg h15])
  have k2' : (k == 2) = false := by simpa using h2
  have k15' : (k == 15) = false := by simpa using h15
  clear h2 h15
  go_enter Try.func64, Try.ntmps64
  go_wp2
  clear hW
  have hq8 := b8
  have HB1 := Lib.hid HX.out.below
  have HO1 := HO
  have HBD1 := HBD
  have HSB1 := HSB
  have HTR1 := HTR
  have HKS1 := HKS
  clear b0 b1 b2 b3 b4 b5 b6 b7 b8
  have HQ8 := Lib.hid hq8
  go_loopw [2, 43] (fun s_ a_ wr => ∃ (i : Nat), i ≤ K ∧ a_ = .int .i64 i ∧ QRel B (.slice A4 out.length c4) (freeRL (ks.take i) (bd) out) W wr s_) (fun _ a_ _ => K - (intOf a_).toNat)
  case atStart => exact ⟨0, Nat.zero_le _, rfl, by simpa [freeRL] using HO1.out, Owns.refl _ _⟩
  case round =>
    obtain ⟨i, hi, rfl, hown, ho⟩ := hrel
    have hbs := HB1.out.size
    have q8 : wr.cell? ⟨w.heap.size, 8, none⟩ = some (.slice A2 K c2) := (ho.cell (p := ⟨w.heap.size, 8, none⟩) (cell_lt HQ8.out) (fun h => by have h1 := (HOL.out _ h).2; simp at h1)).trans HQ8.out
    by_cases hlt : i < K
    · have hSo : ∀ b, S b → b < W.heap.size ∧ ¬ (Value.slice A4 out.length c4).ownBlock = some b := fun b hb => ⟨by have := HS.out b hb; omega, fun h => by have h1 := (HOL.out b h).1; have h2 := HS.out b hb; omega⟩
      have hkeep : ∀ p : Addr, S p.block → wr.cell? p = W.cell? p := fun p hp => ho.cell (hSo _ hp).1 (hSo _ hp).2
      obtain ⟨kd, b, o, B1, m1, e1', B2, m2, e2', hkd, rfl, hb, hTk, k0, k1, k2, k3, k4, k5, k6, k7, k8⟩ := kid_cells (HKS1.out.keep hkeep) (TrsC.keep hkeep _ _ HTR1.out) HK.out i hlt
      have h1 := freeRL_len (ks.take i) (bd) out
      have h2 := nnL_take_succ ks i kd hkd
      have h3 := nnL_take ks (i + 1)
      have hC := IH.out kd (mem_at hkd) _ (.slice A3 bd.length c3) u2 S (Sb) (bd) (freeRL (ks.take i) (bd) out) B wr (by have := ho.size; omega) HS.out (S_owns ho HSB1.out) hTk ⟨HBD1.out.1.keep (fun p hp => ho.cell (HSB1.out _ hp).1 (HSB1.out _ hp).2), HBD1.out.2⟩ hown (by omega) (by omega)
      unfold hdC at hC
      have HC := Lib.hid hC
      have HFL := Lib.hid (freeRL_take ks i kd hkd (bd) out)
      have HOO := Lib.hid ho
      clear hC hkd hTk h1 h2 h3 ho hown hkeep hb hSo
      go_wp2_with (first | (go_at_call 64; refine HC.out.mono ?_; intro e w2 hp; obtain ⟨v', rfl, hv', ho'⟩ := hp; have HV := Lib.hid hv'; have HO' := Lib.hid ho'; clear hv' ho'))
      go_roundw
      case rel =>
        exact ⟨i + 1, by omega, by go_num, by rw [HFL.out]; exact HV.out, HOO.out.trans HO'.out⟩
      case measure => simp [intOf]; omega
    · have HOW := Lib.hid hown
      have HOO := Lib.hid ho
      have HI := Lib.hid (show ks.take i = ks from List.take_of_length_le (by rw [← HK.out]; omega))
      clear hown ho
      go_wp2
      go_ret
      have hown := HOW.out
      rw [HI.out] at hown
      refine ⟨u2, rfl, ?_, (Owns.of_below HB1.out _).trans HOO.out⟩
      rw [HFR.out]; exact hown

set_option maxRecDepth 100000 in
set_option maxHeartbeats 4000000 in
theorem fr_name (neg : Bool) (abs : List Nat) (name : ByteArray) (exp rel : Int) (truth all : Bool) (ks : List Tr) (ih : ∀ k ∈ ks, FrOk k) : FrOk (.mk ⟨2, neg, abs, name, exp, rel, truth, all⟩ ks) := by
  intro cs vb vo S Sb bd out B w hB hS hSb hT hbd hown hno hnb
  obtain ⟨A1, n1, c1, A2, K, c2, xs, rfl, hK, hKc, hK64, hn1', hnm, hab, hks, htr⟩ := hT.mkN
  have hnm' : name.size ≤ 9223372036854775807 := hnm
  obtain ⟨A3, c3, rfl⟩ := hbd.1.form
  obtain ⟨A4, c4, rfl⟩ := row_slice hown
  unfold hdC
  obtain ⟨W, hW⟩ : ∃ W, w.alloc (.cells #[.int .i64 2, .bool neg, .slice A1 n1 c1, .string name, .int .i64 exp, .int .i64 rel, .bool truth, .bool all, .slice A2 K c2] TT) = W := ⟨_, rfl⟩
  have hx : Box w W w.heap.size #[.int .i64 2, .bool neg, .slice A1 n1 c1, .string name, .int .i64 exp, .int .i64 rel, .bool truth, .bool all, .slice A2 K c2] TT := by rw [← hW]; exact Box.new w _ _
  obtain ⟨b0, b1, b2, b3, b4, b5, b6, b7, b8⟩ := hx.c9
  have hnb1 : bd.length + nnL ks + 1 ≤ 900000 := by unfold nn at hnb; omega
  have hno1 : out.length + nnL ks + 1 ≤ 900000 := by unfold nn at hno; omega
  have HX := Lib.hid hx
  have hWs : w.heap.size < W.heap.size := hx.lt
  have HOL := Lib.hid hown.lt
  have HTR := Lib.hid (htr.below (fun b hb => Nat.lt_of_lt_of_le (hS b hb) hB) hx.below)
  have HKS := Lib.hid (hks.below (fun b hb => Nat.lt_of_lt_of_le (hS b hb) hB) hx.below)
  have HK := Lib.hid hK
  have HBD := Lib.hid (show BdAt W Sb (.slice A3 bd.length c3) bd from ⟨hbd.1.below (fun b hb => (hSb b hb).1) hx.below, hbd.2⟩)
  have HO := Lib.hid (ownsRow_keep hown (fun b hb => hx.below.block b (hown.lt b hb).2))
  have IH := Lib.hid ih
  have HS := Lib.hid hS
  have HSB := Lib.hid (show ∀ b, Sb b → b < W.heap.size ∧ ¬ (Value.slice A4 out.length c4).ownBlock = some b from fun b hb => ⟨Nat.lt_of_lt_of_le (hSb b hb).1 hx.below.size, (hSb b hb).2⟩)
  clear hx htr hks hK hbd hown ih hT hS hSb hab hn1' hno hnb hnm
  obtain ⟨rb, hrb⟩ : ∃ rb : Bool, (rb = true ↔ name ∈ bd) := ⟨decide (name ∈ bd), by simp⟩
  obtain ⟨ro, hro⟩ : ∃ ro : Bool, (ro = true ↔ name ∈ out) := ⟨decide (name ∈ out), by simp⟩
  have HHB := Lib.hid (has_any bd _ name Sb W HBD.out.1 rb hrb)
  have HHO := Lib.hid (has_any out _ name _ W (StrsAt.of_own HO.out (by omega)) ro hro)
  cases rb
  case true =>
    have HFR := Lib.hid (show freeR (.mk ⟨2, neg, abs, name, exp, rel, truth, all⟩ ks) bd out = freeRL ks bd out by unfold freeR; rw [if_neg (fun h => h.2.1 (hrb.1 rfl)), if_neg (by simp)])
    clear hrb hro
    go_enter Try.func64, Try.ntmps64
    go_wp2_with (first
      | (go_at_call 50; (with_reducible refine HHB.out.mono ?_); rintro e w9 ⟨rfl, rfl⟩)
      | (go_at_call 50; (with_reducible refine HHO.out.mono ?_); rintro e w9 ⟨rfl, rfl⟩))
    clear hW
    have hq8 := b8
    have HB1 := Lib.hid HX.out.below
    have HO1 := HO
    have HBD1 := HBD
    have HSB1 := HSB
    have HTR1 := HTR
    have HKS1 := HKS
    clear b0 b1 b2 b3 b4 b5 b6 b7 b8
    have HQ8 := Lib.hid hq8
    go_loopw [2, 43] (fun s_ a_ wr => ∃ (i : Nat), i ≤ K ∧ a_ = .int .i64 i ∧ QRel B (.slice A4 out.length c4) (freeRL (ks.take i) (bd) out) W wr s_) (fun _ a_ _ => K - (intOf a_).toNat)
    case atStart => exact ⟨0, Nat.zero_le _, rfl, by simpa [freeRL] using HO1.out, Owns.refl _ _⟩
    case round =>
      obtain ⟨i, hi, rfl, hown, ho⟩ := hrel
      have hbs := HB1.out.size
      have q8 : wr.cell? ⟨w.heap.size, 8, none⟩ = some (.slice A2 K c2) := (ho.cell (p := ⟨w.heap.size, 8, none⟩) (cell_lt HQ8.out) (fun h => by have h1 := (HOL.out _ h).2; simp at h1)).trans HQ8.out
      by_cases hlt : i < K
      · have hSo : ∀ b, S b → b < W.heap.size ∧ ¬ (Value.slice A4 out.length c4).ownBlock = some b := fun b hb => ⟨by have := HS.out b hb; omega, fun h => by have h1 := (HOL.out b h).1; have h2 := HS.out b hb; omega⟩
        have hkeep : ∀ p : Addr, S p.block → wr.cell? p = W.cell? p := fun p hp => ho.cell (hSo _ hp).1 (hSo _ hp).2
        obtain ⟨kd, b, o, B1, m1, e1', B2, m2, e2', hkd, rfl, hb, hTk, k0, k1, k2, k3, k4, k5, k6, k7, k8⟩ := kid_cells (HKS1.out.keep hkeep) (TrsC.keep hkeep _ _ HTR1.out) HK.out i hlt
        have h1 := freeRL_len (ks.take i) (bd) out
        have h2 := nnL_take_succ ks i kd hkd
        have h3 := nnL_take ks (i + 1)
        have hC := IH.out kd (mem_at hkd) _ (.slice A3 bd.length c3) u2 S (Sb) (bd) (freeRL (ks.take i) (bd) out) B wr (by have := ho.size; omega) HS.out (S_owns ho HSB1.out) hTk ⟨HBD1.out.1.keep (fun p hp => ho.cell (HSB1.out _ hp).1 (HSB1.out _ hp).2), HBD1.out.2⟩ hown (by omega) (by omega)
        unfold hdC at hC
        have HC := Lib.hid hC
        have HFL := Lib.hid (freeRL_take ks i kd hkd (bd) out)
        have HOO := Lib.hid ho
        clear hC hkd hTk h1 h2 h3 ho hown hkeep hb hSo
        go_wp2_with (first | (go_at_call 64; refine HC.out.mono ?_; intro e w2 hp; obtain ⟨v', rfl, hv', ho'⟩ := hp; have HV := Lib.hid hv'; have HO' := Lib.hid ho'; clear hv' ho'))
        go_roundw
        case rel =>
          exact ⟨i + 1, by omega, by go_num, by rw [HFL.out]; exact HV.out, HOO.out.trans HO'.out⟩
        case measure => simp [intOf]; omega
      · have HOW := Lib.hid hown
        have HOO := Lib.hid ho
        have HI := Lib.hid (show ks.take i = ks from List.take_of_length_le (by rw [← HK.out]; omega))
        clear hown ho
        go_wp2
        go_ret
        have hown := HOW.out
        rw [HI.out] at hown
        refine ⟨u2, rfl, ?_, (Owns.of_below HB1.out _).trans HOO.out⟩
        rw [HFR.out]; exact hown
  case false =>
    cases ro
    case true =>
      have HFR := Lib.hid (show freeR (.mk ⟨2, neg, abs, name, exp, rel, truth, all⟩ ks) bd out = freeRL ks bd out by unfold freeR; rw [if_neg (fun h => h.2.2 (hro.1 rfl)), if_neg (by simp)])
      clear hrb hro
      go_enter Try.func64, Try.ntmps64
      go_wp2_with (first
        | (go_at_call 50; (with_reducible refine HHB.out.mono ?_); rintro e w9 ⟨rfl, rfl⟩)
        | (go_at_call 50; (with_reducible refine HHO.out.mono ?_); rintro e w9 ⟨rfl, rfl⟩))
      clear hW
      have hq8 := b8
      have HB1 := Lib.hid HX.out.below
      have HO1 := HO
      have HBD1 := HBD
      have HSB1 := HSB
      have HTR1 := HTR
      have HKS1 := HKS
      clear b0 b1 b2 b3 b4 b5 b6 b7 b8
      have HQ8 := Lib.hid hq8
      go_loopw [2, 43] (fun s_ a_ wr => ∃ (i : Nat), i ≤ K ∧ a_ = .int .i64 i ∧ QRel B (.slice A4 out.length c4) (freeRL (ks.take i) (bd) out) W wr s_) (fun _ a_ _ => K - (intOf a_).toNat)
      case atStart => exact ⟨0, Nat.zero_le _, rfl, by simpa [freeRL] using HO1.out, Owns.refl _ _⟩
      case round =>
        obtain ⟨i, hi, rfl, hown, ho⟩ := hrel
        have hbs := HB1.out.size
        have q8 : wr.cell? ⟨w.heap.size, 8, none⟩ = some (.slice A2 K c2) := (ho.cell (p := ⟨w.heap.size, 8, none⟩) (cell_lt HQ8.out) (fun h => by have h1 := (HOL.out _ h).2; simp at h1)).trans HQ8.out
        by_cases hlt : i < K
        · have hSo : ∀ b, S b → b < W.heap.size ∧ ¬ (Value.slice A4 out.length c4).ownBlock = some b := fun b hb => ⟨by have := HS.out b hb; omega, fun h => by have h1 := (HOL.out b h).1; have h2 := HS.out b hb; omega⟩
          have hkeep : ∀ p : Addr, S p.block → wr.cell? p = W.cell? p := fun p hp => ho.cell (hSo _ hp).1 (hSo _ hp).2
          obtain ⟨kd, b, o, B1, m1, e1', B2, m2, e2', hkd, rfl, hb, hTk, k0, k1, k2, k3, k4, k5, k6, k7, k8⟩ := kid_cells (HKS1.out.keep hkeep) (TrsC.keep hkeep _ _ HTR1.out) HK.out i hlt
          have h1 := freeRL_len (ks.take i) (bd) out
          have h2 := nnL_take_succ ks i kd hkd
          have h3 := nnL_take ks (i + 1)
          have hC := IH.out kd (mem_at hkd) _ (.slice A3 bd.length c3) u2 S (Sb) (bd) (freeRL (ks.take i) (bd) out) B wr (by have := ho.size; omega) HS.out (S_owns ho HSB1.out) hTk ⟨HBD1.out.1.keep (fun p hp => ho.cell (HSB1.out _ hp).1 (HSB1.out _ hp).2), HBD1.out.2⟩ hown (by omega) (by omega)
          unfold hdC at hC
          have HC := Lib.hid hC
          have HFL := Lib.hid (freeRL_take ks i kd hkd (bd) out)
          have HOO := Lib.hid ho
          clear hC hkd hTk h1 h2 h3 ho hown hkeep hb hSo
          go_wp2_with (first | (go_at_call 64; refine HC.out.mono ?_; intro e w2 hp; obtain ⟨v', rfl, hv', ho'⟩ := hp; have HV := Lib.hid hv'; have HO' := Lib.hid ho'; clear hv' ho'))
          go_roundw
          case rel =>
            exact ⟨i + 1, by omega, by go_num, by rw [HFL.out]; exact HV.out, HOO.out.trans HO'.out⟩
          case measure => simp [intOf]; omega
        · have HOW := Lib.hid hown
          have HOO := Lib.hid ho
          have HI := Lib.hid (show ks.take i = ks from List.take_of_length_le (by rw [← HK.out]; omega))
          clear hown ho
          go_wp2
          go_ret
          have hown := HOW.out
          rw [HI.out] at hown
          refine ⟨u2, rfl, ?_, (Owns.of_below HB1.out _).trans HOO.out⟩
          rw [HFR.out]; exact hown
    case false =>
      have HFR := Lib.hid (show freeR (.mk ⟨2, neg, abs, name, exp, rel, truth, all⟩ ks) bd out = out ++ [name] by unfold freeR; rw [if_pos ⟨rfl, fun h => (by have := hrb.2 h; cases this), fun h => (by have := hro.2 h; cases this)⟩])
      obtain ⟨i0, hi0, hz0, hz1, hz2⟩ := info_parts infoStr
      clear hrb hro
      go_enter Try.func64, Try.ntmps64
      go_wp2_with (first
        | (go_at_call 50; (with_reducible refine HHB.out.mono ?_); rintro e w9 ⟨rfl, rfl⟩)
        | (go_at_call 50; (with_reducible refine HHO.out.mono ?_); rintro e w9 ⟨rfl, rfl⟩)
        | (at_builtin; refine wpList_append_lies _ rfl (.tmp 25) (.tmp 28) 48 rfl B tStr i0 _ 1 16 Try.underlying48 hi0 hz0 hz1 hz2 rfl (by decide) (.slice A4 out.length c4) out.length (out.map Value.string) rfl (HO.out.alloc _) ⟨W.heap.size, 0, none⟩ 1 1 [.string name] rfl rfl (cell_one_new _ _ _) (by intro u hu; simp at hu; rw [hu]; rfl) (by omega) (by unfold maxLen; omega) (by omega) (by simp; omega) _ rfl ?_; intro g3 cap3 w3 ho3 hgrow3 hat3 hlt3; have HO3 := Lib.hid ho3; have HG3 := Lib.hid hgrow3; have HAT := Lib.hid hat3; clear ho3 hgrow3 hat3 hW))
      go_ret
      refine ⟨_, rfl, ?_, (Owns.of_below HX.out.below _).trans (owns_append rfl HG3.out HAT.out)⟩
      rw [HFR.out, show (out ++ [name]).length = out.length + 1 by simp, show (out ++ [name]).map Value.string = out.map Value.string ++ [Value.string name] by simp]
      exact HO3.out

end Fm
end Go.Proofs.Ytjbgdaojhdobkaa
