/-
  FormulaBinds: for every tree, quantifier and name that came in the law returns true: a quantifier removes exactly its name from the free ones, and adds it to the bound ones. No condition.
-/
import Derived.Test.YtjbgdaojhdobkaaFmBi
import Derived.Test.YtjbgdaojhdobkaaFmAw
import Derived.Test.YtjbgdaojhdobkaaFmOpn
import Derived.Test.YtjbgdaojhdobkaaRows
import Derived.Deep.RegionHeld3
import Derived.Deep.QuietTactic
import Derived.BigQuiet
import Derived.ProofKit
import Derived.OpenShut
import Derived.ShutString
import Derived.Carry
namespace Go.Proofs.Ytjbgdaojhdobkaa.formulaBinds
open Go.ChangeShapes Go.WideShapes Go.ChangeAt Go.RowKit Go.Proofs.Ytjbgdaojhdobkaa Go.Proofs.Ytjbgdaojhdobkaa.Fm
open Go.ChangeMaps (open_string shut_string)
set_option linter.unusedVariables false
set_option linter.unusedSimpArgs false
attribute [local go_sem] run_store

theorem row_slice' {w : World} {B n : Nat} {v : Value} {xs : List Value} (h : w.ownsRow B tStr 1 v n xs) : ∃ A c, v = .slice A n c := row_slice h

set_option maxHeartbeats 8000000 in
set_option maxRecDepth 100000 in
theorem no (t0 : Tr) (cs0 : List Value) (a1 : Bool) (a2 : ByteArray) (hbad : rightB t0 = false ∨ 40 < a2.size) (w : World) (hT0 : TreeAt w (fun b => b < w.heap.size) t0 cs0) :
    Calls Try.prog 6 #[.agg cs0.toArray, .bool a1, .string a2] w fun e w' => e = .returned (.bool true) ∧ Below w.heap.size w w' := by
  obtain ⟨A1, n1, c1, A2, n2, c2, k, neg, nm, ex, rl, tr, al, rfl⟩ := hT0.nine
  have hx := Box.new w #[.int .i64 k, .bool neg, .slice A1 n1 c1, .string nm, .int .i64 ex, .int .i64 rl, .bool tr, .bool al, .slice A2 n2 c2] TT
  have HX := Lib.hid hx
  have HT := Lib.hid hT0
  obtain ⟨R, hR⟩ : ∃ R, R = rightB t0 := ⟨_, rfl⟩
  have HR := Lib.hid hR
  rw [← hR] at hbad
  clear hx hT0 hR
  cases R
  · clear hbad
    go_enter Try.func6, Try.ntmps6
    go_wp2_with fail
    refine (awake_any _).mono ?_
    rintro e w1 ⟨rfl, hb1⟩
    obtain ⟨g0, g1, g2, g3, g4, g5, g6, g7, g8⟩ := (HX.out.step hb1).c9
    have HB1 := Lib.hid (HX.out.step hb1)
    clear hb1
    go_wp2_with (first
      | (go_at_call 24; refine (right_any t0 _ _ _ (fun b h => Nat.lt_of_lt_of_le h HB1.out.below.size) (HT.out.below (fun b h => h) HB1.out.below)).mono ?_; rintro e w2 ⟨rfl, hb2⟩; rw [← HR.out])
      | (go_at_call 15; refine (awake_any _).mono ?_; rintro e w3 ⟨rfl, hb3⟩))
    go_ret
    exact ⟨rfl, HB1.out.below.trans ((hb2.trans (hb3.mono hb2.size)).mono HB1.out.below.size)⟩
  · have hbig : 40 < a2.size := by simpa using hbad
    have hd : decide ((40 : Int) < a2.size) = true := by simp; omega
    clear hbad hbig
    go_enter Try.func6, Try.ntmps6
    go_wp2_with fail
    refine (awake_any _).mono ?_
    rintro e w1 ⟨rfl, hb1⟩
    obtain ⟨g0, g1, g2, g3, g4, g5, g6, g7, g8⟩ := (HX.out.step hb1).c9
    have HB1 := Lib.hid (HX.out.step hb1)
    clear hb1
    go_wp2_with (first
      | (go_at_call 24; refine (right_any t0 _ _ _ (fun b h => Nat.lt_of_lt_of_le h HB1.out.below.size) (HT.out.below (fun b h => h) HB1.out.below)).mono ?_; rintro e w2 ⟨rfl, hb2⟩; rw [← HR.out])
      | (go_at_call 15; refine (awake_any _).mono ?_; rintro e w3 ⟨rfl, hb3⟩))
    go_ret
    exact ⟨rfl, HB1.out.below.trans ((hb2.trans (hb3.mono hb2.size)).mono HB1.out.below.size)⟩

set_option maxHeartbeats 16000000 in
set_option maxRecDepth 100000 in
theorem yes (t0 : Tr) (cs0 : List Value) (a1 : Bool) (a2 : ByteArray) (hgood : rightB t0 = true) (h40 : a2.size ≤ 40) (w : World) (hT0 : TreeAt w (fun b => b < w.heap.size) t0 cs0) :
    Calls Try.prog 6 #[.agg cs0.toArray, .bool a1, .string a2] w fun e w' => e = .returned (.bool true) ∧ Below w.heap.size w w' := by
  obtain ⟨A1, n1, c1, A2, n2, c2, k, neg, nm, ex, rl, tr, al, rfl⟩ := hT0.nine
  have hx := Box.new w #[.int .i64 k, .bool neg, .slice A1 n1 c1, .string nm, .int .i64 ex, .int .i64 rl, .bool tr, .bool al, .slice A2 n2 c2] TT
  have HX := Lib.hid hx
  have HT := Lib.hid hT0
  have HR := Lib.hid hgood.symm
  unfold rightB at hgood
  obtain ⟨hfew, his⟩ : fewB t0 300 = true ∧ isF t0 false = true := by simpa using hgood
  have hsm := fewB_sm hfew
  have hnn := fewB_nn hfew
  obtain ⟨f, hof⟩ : ∃ f, ofF t0 = some f := by rw [isF_ofF] at his; exact Option.isSome_iff_exists.1 his
  have hrf := rf_of t0 f hof
  have hfz := fsz_nn hrf
  have hfn := fnn_le hrf
  have HO := Lib.hid hof
  have HNE := Lib.hid (ofF_ne hof)
  have HSM := Lib.hid hsm
  have hd : decide ((40 : Int) < a2.size) = false := by simp; omega
  have hfb := boundN_le f
  obtain ⟨l, hl⟩ : ∃ l, l = freeN f := ⟨_, rfl⟩
  have hll : l.length ≤ 300 := by
    have := freeR_len t0 [] []
    rw [hl, free_same hrf]; simp at this; omega
  obtain ⟨q, hq⟩ : ∃ q : Fo, q = .quant a1 a2 f := ⟨_, rfl⟩
  have hqf : freeN q = noN a2 l := by rw [hq, hl, free_quant]
  have hqb : boundN q = a2 :: boundN f := by rw [hq]; rfl
  have hqn : fnn q = fnn f + 1 := by rw [hq]; rfl
  have hqa : atomsF q = atomsF f := by rw [hq]; rfl
  have hqz : fsz q = fsz f + 1 := by rw [hq]; rfl
  have hal := atomsF_le f
  obtain ⟨X, hX⟩ : ∃ X, X = fnn f := ⟨_, rfl⟩
  obtain ⟨Y, hY⟩ : ∃ Y, Y = atomsF f := ⟨_, rfl⟩
  obtain ⟨Z, hZ⟩ : ∃ Z, Z = (boundN f).length := ⟨_, rfl⟩
  obtain ⟨N, hN⟩ : ∃ N, N = l.length := ⟨_, rfl⟩
  obtain ⟨M, hM⟩ : ∃ M, M = (noN a2 l).length := ⟨_, rfl⟩
  have hNb : N ≤ 300 := by omega
  have hMb : M ≤ 300 := by have := noN_le a2 l; omega
  have HNE1 := Lib.hid hN
  have HME := Lib.hid hM
  have hXb : X ≤ 300 := by omega
  have hYb : Y ≤ 300 := by omega
  have hZb : Z ≤ 300 := by omega
  have HL := Lib.hid hl
  have HQ := Lib.hid hq
  have HQF := Lib.hid hqf
  have HQB := Lib.hid hqb
  have HQN := Lib.hid hqn
  have HQA := Lib.hid hqa
  have HQZ := Lib.hid hqz
  have HXE := Lib.hid hX
  have HYE := Lib.hid hY
  have HZE := Lib.hid hZ
  have hfz3 : fsz f ≤ 300 := by omega
  clear hx hT0 hgood hfew his hof hsm hrf hl hq hqf hqb hqn hqa hqz hX hY hZ hal hfn hfb hfz hN hM
  go_enter Try.func6, Try.ntmps6
  go_wp2_with fail
  refine (awake_any _).mono ?_
  rintro e w1 ⟨rfl, hb1⟩
  obtain ⟨g0, g1, g2, g3, g4, g5, g6, g7, g8⟩ := (HX.out.step hb1).c9
  have HB1 := Lib.hid (HX.out.step hb1)
  clear hb1
  go_wp2_with (first
    | (go_at_call 24; refine (right_any t0 _ _ _ (fun b h => Nat.lt_of_lt_of_le h HB1.out.below.size) (HT.out.below (fun b h => h) HB1.out.below)).mono ?_; rintro e w2 ⟨rfl, hb2⟩; rw [← HR.out]; obtain ⟨f0, f1, f2, f3, f4, f5, f6, f7, f8⟩ := (HB1.out.step hb2).c9; have HB2 := Lib.hid (HB1.out.step hb2); clear hb2 g0 g1 g2 g3 g4 g5 g6 g7 g8)
    | (go_at_call 22; refine (of_any t0 _ _ _ (fun b h => Nat.lt_of_lt_of_le h HB2.out.below.size) (HT.out.below (fun b h => h) HB2.out.below) HSM.out).mono ?_; intro e w4 hp; obtain ⟨v3, rfl, hv3, hb3⟩ := hp.yes HO.out; obtain ⟨u3, z3, rfl⟩ := hv3.iface HNE.out; have HV := Lib.hid hv3; have HB4 := Lib.hid (HB2.out.step hb3); obtain ⟨W5, hW5⟩ : ∃ W, w4.alloc (.cells #[.bool a1, .string a2, .iface u3 z3] 52) = W := ⟨_, rfl⟩; clear hb3 hv3 hp f0 f1 f2 f3 f4 f5 f6 f7 f8))
  have hy : Box w4 W5 w4.heap.size #[.bool a1, .string a2, .iface u3 z3] 52 := by rw [← hW5]; exact Box.new w4 _ _
  have s0 : W5.cell? ⟨w4.heap.size, 0, none⟩ = some (.bool a1) := hy.cell 0
  have s1 : W5.cell? ⟨w4.heap.size, 1, none⟩ = some (.string a2) := hy.cell 1
  have s2 : W5.cell? ⟨w4.heap.size, 2, none⟩ = some (.iface u3 z3) := hy.cell 2
  have hF5 : FoAt W5 (fun b => b < W5.heap.size) f (.iface u3 z3) := FoAt.more (fun b h => by have := h.2; have := hy.below.size; omega) _ _ (HV.out.below (fun b h => h.2) hy.below)
  have hQ5 : FoAt W5 (fun b => b < W5.heap.size) q (.iface 52 (.agg #[.bool a1, .string a2, .iface u3 z3])) := by rw [HQ.out]; exact ⟨_, rfl, by omega, hF5⟩
  have hcF : ∀ w', Below W5.heap.size W5 w' → Calls Try.prog 26 #[.iface u3 z3] w' fun e w2 => ∃ A c, e = .returned (.slice A N c) ∧ StrsAt w2 (fun b => b < w2.heap.size) (.slice A N c) l ∧ Below w'.heap.size w' w2 := fun w' hb =>
    (free_any f _ (fun b => b < W5.heap.size) w' (fun b h => Nat.lt_of_lt_of_le h hb.size) (hF5.below (fun b h => h) hb) (by omega)).mono fun e w2 hp => by
      rw [← HL.out] at hp
      obtain ⟨v, rfl, ho, hb2⟩ := hp
      have hs := StrsAt.more (StrsAt.of_own ho (by omega)) (fun b h => h.2)
      obtain ⟨A, c, rfl⟩ := hs.form
      rw [← HNE1.out] at hs ⊢
      exact ⟨A, c, rfl, hs, hb2⟩
  have hcG : ∀ w', Below W5.heap.size W5 w' → Calls Try.prog 26 #[.iface 52 (.agg #[.bool a1, .string a2, .iface u3 z3])] w' fun e w2 => ∃ A c, e = .returned (.slice A M c) ∧ StrsAt w2 (fun b => b < w2.heap.size) (.slice A M c) (noN a2 l) ∧ Below w'.heap.size w' w2 := fun w' hb =>
    (free_any q _ (fun b => b < W5.heap.size) w' (fun b h => Nat.lt_of_lt_of_le h hb.size) (hQ5.below (fun b h => h) hb) (by have := HQZ.out; omega)).mono fun e w2 hp => by
      rw [HQF.out] at hp
      obtain ⟨v, rfl, ho, hb2⟩ := hp
      have hs := StrsAt.more (StrsAt.of_own ho (by have := noN_le a2 l; omega)) (fun b h => h.2)
      obtain ⟨A, c, rfl⟩ := hs.form
      rw [← HME.out] at hs ⊢
      exact ⟨A, c, rfl, hs, hb2⟩
  have hcB : ∀ w', Below W5.heap.size W5 w' → Calls Try.prog 28 #[.iface 52 (.agg #[.bool a1, .string a2, .iface u3 z3])] w' fun e w2 => ∃ A c, e = .returned (.slice A (Z + 1) c) ∧ StrsAt w2 (fun b => b < w2.heap.size) (.slice A (Z + 1) c) (a2 :: boundN f) ∧ Below w'.heap.size w' w2 := fun w' hb =>
    (bound_any q _ (fun b => b < W5.heap.size) w' (fun b h => Nat.lt_of_lt_of_le h hb.size) (hQ5.below (fun b h => h) hb) (by have := HQZ.out; omega)).mono fun e w2 hp => by
      rw [HQB.out] at hp
      obtain ⟨v, rfl, ho, hb2⟩ := hp
      have hs := StrsAt.more (StrsAt.of_own ho (by have := HZE.out; simp; omega)) (fun b h => h.2)
      obtain ⟨A, c, rfl⟩ := hs.form
      rw [show (a2 :: boundN f).length = Z + 1 by rw [HZE.out]; rfl] at hs ⊢
      exact ⟨A, c, rfl, hs, hb2⟩
  have HCF := Lib.hid hcF
  have HCG := Lib.hid hcG
  have HCB := Lib.hid hcB
  have HF5 := Lib.hid hF5
  have HQ5 := Lib.hid hQ5
  have HY := Lib.hid hy
  have HD : Below W5.heap.size W5 W5.drew := (Below.refl _ W5).drew
  have hstep := Lib.hid (show ∀ wc wn, Below W5.heap.size W5 wc → Below wc.heap.size wc wn → Below W5.heap.size W5 wn from fun wc wn h1 h2 => h1.trans (h2.mono h1.size))
  clear hcF hcG hcB hF5 hQ5 hy hW5
  go_region_held3 (fun w' => w'.cell? ⟨w4.heap.size, 0, none⟩ = some (.bool a1) ∧ w'.cell? ⟨w4.heap.size, 1, none⟩ = some (.string a2) ∧ w'.cell? ⟨w4.heap.size, 2, none⟩ = some (.iface u3 z3)) (go_keep)
    (first
      | (go_at_call 26; (with_reducible refine (HCF.out _ (by assumption)).mono ?_); intro e wA hq; obtain ⟨aA, mA, rfl, hsA, hlA⟩ := hq; have hbA : Below W5.heap.size W5 wA := hstep.out _ _ (by assumption) hlA; have HSA := Lib.hid hsA; have HLA := Lib.hid hlA; clear hsA hlA; have pA0 : wA.cell? ⟨w4.heap.size, 0, none⟩ = some (.bool a1) := (HY.out.step hbA).cell 0; have pA1 : wA.cell? ⟨w4.heap.size, 1, none⟩ = some (.string a2) := (HY.out.step hbA).cell 1; have pA2 : wA.cell? ⟨w4.heap.size, 2, none⟩ = some (.iface u3 z3) := (HY.out.step hbA).cell 2)
      | (go_at_call 26; (with_reducible refine (HCG.out _ (by assumption)).mono ?_); intro e wB hq; obtain ⟨aB, mB, rfl, hsB, hlB⟩ := hq; have hbB : Below W5.heap.size W5 wB := hstep.out _ _ (by assumption) hlB; have HSB := Lib.hid hsB; have HLB := Lib.hid hlB; clear hsB hlB; have pB0 : wB.cell? ⟨w4.heap.size, 0, none⟩ = some (.bool a1) := (HY.out.step hbB).cell 0; have pB1 : wB.cell? ⟨w4.heap.size, 1, none⟩ = some (.string a2) := (HY.out.step hbB).cell 1; have pB2 : wB.cell? ⟨w4.heap.size, 2, none⟩ = some (.iface u3 z3) := (HY.out.step hbB).cell 2)
      | (go_at_call 28; (with_reducible refine (HCB.out _ (by assumption)).mono ?_); intro e wC hq; obtain ⟨aC, mC, rfl, hsC, hlC⟩ := hq; have hbC : Below W5.heap.size W5 wC := hstep.out _ _ (by assumption) hlC; have HSC := Lib.hid hsC; have HLC := Lib.hid hlC; clear hsC hlC; have pC0 : wC.cell? ⟨w4.heap.size, 0, none⟩ = some (.bool a1) := (HY.out.step hbC).cell 0; have pC1 : wC.cell? ⟨w4.heap.size, 1, none⟩ = some (.string a2) := (HY.out.step hbC).cell 1; have pC2 : wC.cell? ⟨w4.heap.size, 2, none⟩ = some (.iface u3 z3) := (HY.out.step hbC).cell 2))
  go_wp2
  go_loopw [13, 47] (fun s_ a_ wr => ∃ (i m kk : Nat), i ≤ N ∧ a_ = .int .i64 i ∧ s_ = .int .i64 m ∧ Hid (m = (noN a2 (l.take i)).length) ∧ wr = wC.drewN kk) (fun _ a_ _ => N - (intOf a_).toNat)
  case atStart => exact ⟨0, 0, 0, Nat.zero_le _, rfl, rfl, Lib.hid (by simp [noN]), rfl⟩
  case round =>
    obtain ⟨i, m, kk, hi, rfl, rfl, hm, rfl⟩ := hrel
    by_cases hlt : i < N
    · have hSA2 : StrsAt wC (fun b => b < wC.heap.size) (.slice aA N mA) l := ((HSA.out.below (fun b h => h) HLB.out).more (fun b h => Nat.lt_of_lt_of_le h HLB.out.size) |>.below (fun b h => h) HLC.out).more (fun b h => Nat.lt_of_lt_of_le h HLC.out.size)
      have hSB2 : StrsAt wC (fun b => b < wC.heap.size) (.slice aB M mB) (noN a2 l) := (HSB.out.below (fun b h => h) HLC.out).more (fun b h => Nat.lt_of_lt_of_le h HLC.out.size)
      obtain ⟨b, o, rfl, hb, hc⟩ := hSA2.at_ HNE1.out (by omega)
      obtain ⟨x, hx⟩ : ∃ x, l[i]? = some x := ⟨_, List.getElem?_eq_getElem (by have := HNE1.out; omega)⟩
      have g1 := hc i x hx
      have hi1 : (0 : Int) ≤ i ∧ (i : Int) < N := by omega
      have htk := noN_take (name := a2) hx
      by_cases hxe : x = a2
      · subst hxe
        rw [if_pos rfl, List.append_nil] at htk
        have HTK := Lib.hid htk
        have hb1 : (x.toList == x.toList) = true := by simp
        clear htk hc hx hb hSA2 hSB2
        go_wp2
        go_roundw
        case rel => exact ⟨i + 1, m, kk, by omega, by go_num, rfl, Lib.hid (by rw [HTK.out]; exact hm.out), rfl⟩
        case measure => simp [intOf]; omega
      · rw [if_neg hxe] at htk
        have hat := noN_at hx hxe
        rw [← hm.out] at hat
        have hmM : m < M := by
          have h1 := (List.getElem?_eq_some_iff.1 hat).1
          have := HME.out; omega
        obtain ⟨b', o', rfl, hb', hc'⟩ := hSB2.at_ HME.out (by omega)
        have g2 := hc' m x hat
        have hb0 : (x.toList == a2.toList) = false := (Lib.bytes_beq_false_iff x a2).2 hxe
        have hb1 : (x.toList == x.toList) = true := by simp
        have hge : decide ((M : Int) ≤ m) = false := by simp; omega
        have hm1 : (0 : Int) ≤ m ∧ (m : Int) < M := by omega
        have HTK := Lib.hid (show m + 1 = (noN a2 (l.take (i + 1))).length by rw [htk, List.length_append, ← hm.out]; rfl)
        clear htk hc hx hb hSA2 hSB2 hat hc' hb' hxe
        go_wp2
        go_quiet (fail)
        go_wp2
        go_roundw
        case rel => exact ⟨i + 1, m + 1, _, by omega, by go_num, by go_num, HTK, rfl⟩
        case measure => simp [intOf]; omega
    · obtain rfl : m = M := by
        have h1 := hm.out
        rw [List.take_of_length_le (by have := HNE1.out; omega)] at h1
        rw [h1, HME.out]
      have hbk : Below W5.heap.size W5 (wC.drewN kk) := hbC.drewN kk
      have hbf : ∀ w', Below W5.heap.size W5 w' → Calls Try.prog 28 #[.iface u3 z3] w' fun e w2 => ∃ A c, e = .returned (.slice A Z c) ∧ Below w'.heap.size w' w2 := fun w' hb =>
        (bound_any f _ (fun b => b < W5.heap.size) w' (fun b h => Nat.lt_of_lt_of_le h hb.size) (HF5.out.below (fun b h => h) hb) (by omega)).mono fun e w2 hp => by
          obtain ⟨v, rfl, ho, hb2⟩ := hp
          rw [← HZE.out] at ho
          obtain ⟨A, c, rfl⟩ := row_slice' ho
          exact ⟨A, c, rfl, hb2⟩
      have hnq : ∀ w', Below W5.heap.size W5 w' → Calls Try.prog 30 #[.iface 52 (.agg #[.bool a1, .string a2, .iface u3 z3])] w' fun e w2 => e = .returned (.int .i64 ((X : Int) + 1)) ∧ Below w'.heap.size w' w2 := fun w' hb =>
        (nodes_any q _ (fun b => b < W5.heap.size) w' (fun b h => Nat.lt_of_lt_of_le h hb.size) (HQ5.out.below (fun b h => h) hb) (by have := HQN.out; have := HXE.out; omega)).mono fun e w2 hp => ⟨hp.1.trans (ret_int (by have := HQN.out; have := HXE.out; omega)), hp.2⟩
      have hnf : ∀ w', Below W5.heap.size W5 w' → Calls Try.prog 30 #[.iface u3 z3] w' fun e w2 => e = .returned (.int .i64 (X : Int)) ∧ Below w'.heap.size w' w2 := fun w' hb =>
        (nodes_any f _ (fun b => b < W5.heap.size) w' (fun b h => Nat.lt_of_lt_of_le h hb.size) (HF5.out.below (fun b h => h) hb) (by have := HXE.out; omega)).mono fun e w2 hp => ⟨hp.1.trans (ret_int (by have := HXE.out; omega)), hp.2⟩
      have haq : ∀ w', Below W5.heap.size W5 w' → Calls Try.prog 31 #[.iface 52 (.agg #[.bool a1, .string a2, .iface u3 z3])] w' fun e w2 => e = .returned (.int .i64 (Y : Int)) ∧ Below w'.heap.size w' w2 := fun w' hb =>
        (atoms_any q _ (fun b => b < W5.heap.size) w' (fun b h => Nat.lt_of_lt_of_le h hb.size) (HQ5.out.below (fun b h => h) hb) (by have := HQN.out; have := HXE.out; omega)).mono fun e w2 hp => ⟨hp.1.trans (ret_int (by have := HQA.out; have := HYE.out; omega)), hp.2⟩
      have haf : ∀ w', Below W5.heap.size W5 w' → Calls Try.prog 31 #[.iface u3 z3] w' fun e w2 => e = .returned (.int .i64 (Y : Int)) ∧ Below w'.heap.size w' w2 := fun w' hb =>
        (atoms_any f _ (fun b => b < W5.heap.size) w' (fun b h => Nat.lt_of_lt_of_le h hb.size) (HF5.out.below (fun b h => h) hb) (by have := HXE.out; omega)).mono fun e w2 hp => ⟨hp.1.trans (ret_int (by have := HYE.out; omega)), hp.2⟩
      obtain ⟨b3, o3, rfl, hb3, hc3⟩ := HSC.out.at_ (by rw [List.length_cons, HZE.out]) (by omega)
      have g3 : wC.cell? ⟨b3, o3, none⟩ = some (.string a2) := hc3 0 a2 rfl
      have HBF := Lib.hid hbf
      have HNQ := Lib.hid hnq
      have HNF := Lib.hid hnf
      have HAQ := Lib.hid haq
      have HAF := Lib.hid haf
      have hz1 : (a2.toList == a2.toList) = true := by simp
      clear hbf hnq hnf haq haf hc3 hb3 hm
      go_wp2_with (first
        | (go_at_call 28; refine (HBF.out _ (by assumption)).mono ?_; intro e w6 hq; obtain ⟨aD, mD, rfl, hlD⟩ := hq; have hb6 : Below W5.heap.size W5 w6 := hstep.out _ _ (by assumption) hlD; have g36 : w6.cell? ⟨b3, o3, none⟩ = some (.string a2) := (hlD.cell (p := ⟨b3, o3, none⟩) (cell_lt g3)).trans g3; clear hlD; have t60 : w6.cell? ⟨w4.heap.size, 0, none⟩ = some (.bool a1) := (HY.out.step hb6).cell 0; have t61 : w6.cell? ⟨w4.heap.size, 1, none⟩ = some (.string a2) := (HY.out.step hb6).cell 1; have t62 : w6.cell? ⟨w4.heap.size, 2, none⟩ = some (.iface u3 z3) := (HY.out.step hb6).cell 2)
        | (go_at_call 30; (with_reducible refine (HNQ.out _ (by assumption)).mono ?_); intro e w7 hq; obtain ⟨rfl, hlD⟩ := hq; have hb7 : Below W5.heap.size W5 w7 := hstep.out _ _ (by assumption) hlD; clear hlD)
        | (go_at_call 30; (with_reducible refine (HNF.out _ (by assumption)).mono ?_); intro e w8 hq; obtain ⟨rfl, hlD⟩ := hq; have hb8 : Below W5.heap.size W5 w8 := hstep.out _ _ (by assumption) hlD; clear hlD; have t80 : w8.cell? ⟨w4.heap.size, 0, none⟩ = some (.bool a1) := (HY.out.step hb8).cell 0; have t81 : w8.cell? ⟨w4.heap.size, 1, none⟩ = some (.string a2) := (HY.out.step hb8).cell 1; have t82 : w8.cell? ⟨w4.heap.size, 2, none⟩ = some (.iface u3 z3) := (HY.out.step hb8).cell 2)
        | (go_at_call 31; (with_reducible refine (HAQ.out _ (by assumption)).mono ?_); intro e w9 hq; obtain ⟨rfl, hlD⟩ := hq; have hb9 : Below W5.heap.size W5 w9 := hstep.out _ _ (by assumption) hlD; clear hlD)
        | (go_at_call 31; (with_reducible refine (HAF.out _ (by assumption)).mono ?_); intro e w10 hq; obtain ⟨rfl, hlD⟩ := hq; have hb10 : Below W5.heap.size W5 w10 := hstep.out _ _ (by assumption) hlD; clear hlD))
      go_ret
      have h45 := HY.out.below
      have hw4 := HB4.out.below
      exact ⟨rfl, hw4.trans ((h45.trans (hb10.mono h45.size)).mono hw4.size)⟩

theorem walk (t0 : Tr) (cs0 : List Value) (a1 : Bool) (a2 : ByteArray) (w2 : a2.size ≤ maxLen) (w : World) (hT0 : TreeAt w (fun b => b < w.heap.size) t0 cs0) :
    Calls Try.prog 6 #[.agg cs0.toArray, .bool a1, .string a2] w fun e w' => e = .returned (.bool true) ∧ Below w.heap.size w w' := by
  by_cases h1 : rightB t0 = true
  · by_cases h2 : a2.size ≤ 40
    · exact yes t0 cs0 a1 a2 h1 h2 w hT0
    · exact no t0 cs0 a1 a2 (.inr (by omega)) w hT0
  · exact no t0 cs0 a1 a2 (.inl (by simpa using h1)) w hT0


theorem laidOut : laidOutB Try.prog = true := by kernel_rfl

theorem own : ownKnob Try.prog.godebug = none := by kernel_rfl

set_option maxRecDepth 100000 in
theorem lifted (os : Os) (started : os.Started) (H : Type) (enc : TypeId × Value → H) :
    ReturnsInHanded {} Try.checked os 6 .any (Rows.formulaBindsSpec.pre6 enc Try.prog Try.f6 Rows.formulaBindsRow.domain false) (Rows.formulaBindsSpec.post enc Try.prog Try.f6 false true false false) := by
  refine returnsInHanded_of_change (C := Try.checked) own started (by kernel_rfl) Try.func6
    (ChangeSpec.witness6 (enc := enc) (C := Try.checked) false ⟨#[], #[.agg #[.int .i64 0, .bool false, .slice none 0 0, .string ByteArray.empty, .int .i64 0, .int .i64 0, .bool false, .bool false, .slice none 0 0], .bool false, .string ByteArray.empty], []⟩ 8 (by kernel_rfl) (by kernel_rfl) (by kernel_rfl) (by kernel_rfl)) ?_
  intro W base args ds gs before hval0 hW hcnd _
  have hval : ∀ (j : Nat) t v, Try.f6.params[j]? = some t → args[j]? = some v → Value.okWide Try.prog W .any base t v := hval0
  have hW' := hW
  obtain ⟨p, q, hA0, hV, rfl, hfz, hnd⟩ := hW
  have hA : DataW.TrodAll enc Try.prog W 0 (fun _ => true) true Try.f6.params.toList args.toList ds p := hA0
  rw [Try.params6] at hA hval
  obtain ⟨v0, vs0, d0, ds0, p0, q0, hargs, rfl, rfl, h0, r0⟩ := trodAll_cons hA
  obtain ⟨v1, vs1, d1, ds1, p1, q1, rfl, rfl, rfl, h1, r1⟩ := trodAll_cons r0
  obtain ⟨v2, vs2, d2, ds2, p2, q2, rfl, rfl, rfl, h2, r2⟩ := trodAll_cons r1
  obtain ⟨rfl, rfl, rfl⟩ := trodAll_nil r2
  obtain rfl : args = #[v0, v1, v2] := by cases args; simp_all
  obtain ⟨rfl, rfl⟩ := trodVars_none hV
  obtain ⟨cs0, rfl, hl0⟩ := okWide_struct Try.underlying29 (hval 0 29 v0 rfl rfl)
  have hl0' : cs0.toList.length = 9 := by rw [show Try.prog.cellsOf 29 = 9 by kernel_rfl] at hl0; simpa using hl0
  have h0k := h0
  obtain ⟨fuel0, hf0⟩ := h0
  obtain ⟨t0, hT0⟩ := open_tree fuel0 fuel0 (Nat.le_refl _) _ _ hl0' hf0
  obtain ⟨a1, rfl, rfl, rfl⟩ := open_bool Try.underlying4 (hval 1 4 v1 rfl rfl) h1
  obtain ⟨a2, rfl, rfl, rfl, w2⟩ := open_string Try.underlying9 (hval 2 9 v2 rfl rfl) h2
  clear hA0 hval0
  simp only [List.append_nil] at hW'
  have hlt0 : ∀ x ∈ p0, x.block < W.heap.size := fun x hx => by simpa using hW'.lt x (by simp [hx])
  refine (walk t0 cs0.toList a1 a2 w2 W hT0).mono fun e W' ⟨he, bel⟩ => ?_
  subst he
  exact ⟨_, rfl, _, _, _, [], _, [], hW', trodAll_mk1 (shut_bool Try.underlying4 _), (trodAll_cons_mk (Below.trod laidOut (by kernel_rfl) (of_decide_eq_true (by kernel_rfl)) h0k bel hlt0) (trodAll_cons_mk (shut_bool Try.underlying4 a1) (trodAll_cons_mk (shut_string Try.underlying9 w2) trodAll_mk0))), rfl, bel.frame _, fun h => by cases h⟩

theorem over : Rows.formulaBindsRow.holds Try.pinned (OpenSpec.ofChange Rows.formulaBindsSpec) :=
  OpenClaim.holds_of_wide 6 Try.f6 rfl rfl rfl rfl rfl rfl rfl ⟨rfl, rfl, rfl, rfl, rfl⟩ rfl rfl rfl rfl rfl (by kernel_rfl) Try.func6 (by kernel_rfl)
    (of_decide_eq_true (by kernel_rfl)) (by unfold Func.isWrapper; first | (rw [if_pos (by decide +kernel)]; kernel_rfl) | (rw [if_neg (by decide +kernel)]; exact ⟨rfl, rfl⟩))
    (fun os started H enc _ => lifted os started H enc)

/-- THE STATEMENT -/
theorem proved : Rows.FormulaBindsSaid := over
end Go.Proofs.Ytjbgdaojhdobkaa.formulaBinds
