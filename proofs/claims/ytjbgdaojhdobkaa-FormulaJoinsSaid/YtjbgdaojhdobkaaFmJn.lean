/-
  formula.All and formula.Any: the row's formulas, built anew and joined.
-/
import Derived.Test.YtjbgdaojhdobkaaFmFr
import Derived.Test.YtjbgdaojhdobkaaFmK
namespace Go.Proofs.Ytjbgdaojhdobkaa
open Go.RowKit
set_option linter.unusedSimpArgs false
set_option linter.unusedVariables false
namespace Fm

def joinStep (b : Bool) (acc g : Fo) : Fo := if b then .and acc g else .or acc g
def joinF (b : Bool) : List Fo → Fo
  | [] => .truth b
  | f :: fs => fs.foldl (joinStep b) f
theorem joinF_take {b : Bool} {f0 : Fo} {fs : List Fo} {i : Nat} {g : Fo} (h : fs[i]? = some g) : joinF b (f0 :: fs.take (i + 1)) = joinStep b (joinF b (f0 :: fs.take i)) g := by
  obtain ⟨hi, hg⟩ := List.getElem?_eq_some_iff.1 h
  show List.foldl (joinStep b) f0 (fs.take (i + 1)) = joinStep b (List.foldl (joinStep b) f0 (fs.take i)) g
  rw [List.take_succ_eq_append_getElem hi, List.foldl_append, hg]
  rfl
/-- formulas of small trees -/
def Fromt (ts : List Tr) (fs : List Fo) : Prop := ts.length = fs.length ∧ ∀ (i : Nat) (f : Fo), fs[i]? = some f → ∃ t, ts[i]? = some t ∧ RF t f ∧ Sm t

set_option maxRecDepth 100000 in
set_option maxHeartbeats 4000000 in
theorem all_any (ts : List Tr) (fs : List Fo) (A : Option Addr) (n c : Nat) (vs : List Value) (S : Nat → Prop) (w : World) (hS : ∀ b, S b → b < w.heap.size) (hn : n = fs.length) (h20 : n ≤ 1000) (hs : SS w S 1 (.slice A n c) n vs) (hv : FosAt w S fs vs) (hf : Fromt ts fs) :
    Calls Try.prog 33 #[.slice A n c] w fun e w' => ∃ v', e = .returned v' ∧ FoAt w' (Fr w w') (joinF true fs) v' ∧ Below w.heap.size w w' := by
  by_cases h0 : n = 0
  · subst h0
    have HN := Lib.hid (show fs = [] from List.eq_nil_of_length_eq_zero hn.symm)
    clear hn hs hv hf hS
    go_enter Try.func33, Try.ntmps33
    go_wp2
    go_ret
    exact ⟨_, rfl, by rw [HN.out]; rfl, Below.refl _ w⟩
  · have HFR := Lib.hid (show ∀ (i : Nat) (v : Value) (f : Fo), fs[i]? = some f → vs[i]? = some v → ∀ w', Below w.heap.size w w' → Calls Try.prog 68 #[v] w' fun e w2 => ∃ u z, e = .returned (.iface u z) ∧ FoAt w2 (Fr w' w2) f (.iface u z) ∧ Below w'.heap.size w' w2 from fun i v f hif hiv w' hb => by
      obtain ⟨t, -, hrf, hsm⟩ := hf.2 i f hif
      obtain ⟨v2, hv2, hfo⟩ := hv.2 i f hif
      rw [hiv] at hv2
      injection hv2 with hv2
      subst hv2
      refine (fresh_any t f v S w' (fun b h => Nat.lt_of_lt_of_le (hS b h) hb.size) (hfo.below hS hb) hrf hsm).mono ?_
      rintro e w2 ⟨v2, rfl, h1, h2⟩
      obtain ⟨u, z, rfl⟩ := h1.iface (ofF_ne (ofF_rf hrf))
      exact ⟨u, z, rfl, h1, h2⟩)
    have HONE := Lib.hid (show ∀ (i : Nat) (f : Fo), fs[i]? = some f → ∃ v, vs[i]? = some v ∧ v.oneCell' = true from fun i f h => by
      obtain ⟨v, h1, h2⟩ := hv.2 i f h
      exact ⟨v, h1, h2.one⟩)
    obtain ⟨b, o, rfl, hb, hc⟩ := hs.at_ (by omega)
    have HC := Lib.hid hc
    have hbl : b < w.heap.size := hS b hb
    obtain ⟨f0, fr, rfl⟩ : ∃ f0 fr, fs = f0 :: fr := by
      cases fs with
      | nil => simp at hn; omega
      | cons a l => exact ⟨a, l, rfl⟩
    have HN := Lib.hid (show n = fr.length + 1 by simpa using hn)
    obtain ⟨v0, hv0, ho0⟩ := HONE.out 0 f0 rfl
    have g0 : w.cell? ⟨b, o, none⟩ = some v0 := hc 0 v0 hv0
    have HF0 := Lib.hid (HFR.out 0 v0 f0 rfl hv0 w (Below.refl _ w))
    have hd0 : ((n : Int) == 0) = false := by simp; omega
    have hcn : n ≤ c := by obtain ⟨A', c', e, hcc, _⟩ := hs; injection e with _ _ e3; omega
    have hp0 : (0 : Int) < n := by omega
    have hp1 : (1 : Int) ≤ n := by omega
    obtain ⟨m, hm⟩ : ∃ m, n - 1 = m := ⟨_, rfl⟩
    have HM := Lib.hid (show m = fr.length by have := HN.out; omega)
    have hnm : n = m + 1 := by omega
    have hnm2 := Lib.hid hnm
    clear hn hs hv hf hS hc hv0 hb hnm
    go_enter Try.func33, Try.ntmps33
    go_wp2_with (go_at_call 68; (with_reducible refine HF0.out.mono ?_); rintro e w1 ⟨u1, z1, rfl, hv1, hb1⟩; have HV1 := Lib.hid hv1; have HB1 := Lib.hid hb1; clear hv1 hb1)
    all_goals
      go_loopw [3, 18] (fun acc_ a_ wr => ∃ (i : Nat) (u : TypeId) (z : Value), i ≤ m ∧ a_ = .int .i64 i ∧ acc_ = .iface u z ∧ Below w.heap.size w wr ∧ Hid (FoAt wr (Fr w wr) (joinF true (f0 :: fr.take i)) (.iface u z))) (fun _ a_ _ => m - (intOf a_).toNat)
      case atStart => exact ⟨0, u1, z1, Nat.zero_le _, rfl, rfl, HB1.out, Lib.hid HV1.out⟩
      case round =>
        obtain ⟨i, u, z, hi, rfl, rfl, hbel, hfo⟩ := hrel
        by_cases hlt : i < m
        · have hmc : m + 1 ≤ c ∨ m + 1 ≤ 1 := by have := hnm2.out; omega
          first
          | (exfalso; omega)
          | (obtain ⟨g, hg⟩ : ∃ g, fr[i]? = some g := ⟨_, List.getElem?_eq_getElem (by have := HM.out; omega)⟩
             obtain ⟨vg, hvg, hog⟩ := HONE.out (i + 1) g hg
             have g1 : wr.cell? ⟨b, o + 1 + i, none⟩ = some vg := (hbel.cell (p := ⟨b, o + 1 + i, none⟩) hbl).trans (by rw [show o + 1 + i = o + (i + 1) by omega]; exact HC.out (i + 1) vg hvg)
             have HG := Lib.hid (HFR.out (i + 1) vg g hg hvg wr hbel)
             have HTK := Lib.hid (joinF_take (b := true) (f0 := f0) hg)
             have HBL := Lib.hid hbel
             have hi1 : (0 : Int) ≤ i ∧ (i : Int) < m := by omega
             clear hvg hg hbel hmc
             go_wp2_with (go_at_call 68; (with_reducible refine HG.out.mono ?_); rintro e w2 ⟨u2, z2, rfl, hv2, hb2⟩; have HV2 := Lib.hid hv2; have HB2 := Lib.hid hb2; clear hv2 hb2)
             go_roundw
             case rel =>
               have hl1 := HBL.out.size
               have hl2 := HB2.out.size
               refine ⟨i + 1, _, _, by omega, by go_num, rfl, HBL.out.trans (HB2.out.mono hl1), Lib.hid ?_⟩
               rw [HTK.out]
               exact ⟨_, _, rfl, FoAt.more (fun b h => ⟨h.1, Nat.lt_of_lt_of_le h.2 hl2⟩) _ _ (hfo.out.below (fun b h => h.2) HB2.out), FoAt.more (fun b h => ⟨Nat.le_trans hl1 h.1, h.2⟩) _ _ HV2.out⟩
             case measure => simp [intOf]; omega)
        · have HE := Lib.hid (show fr.take i = fr from List.take_of_length_le (by have := HM.out; omega))
          go_wp2
          go_ret
          exact ⟨_, rfl, by have h := hfo.out; rw [HE.out] at h; exact h, hbel⟩

set_option maxRecDepth 100000 in
set_option maxHeartbeats 4000000 in
theorem any_any (ts : List Tr) (fs : List Fo) (A : Option Addr) (n c : Nat) (vs : List Value) (S : Nat → Prop) (w : World) (hS : ∀ b, S b → b < w.heap.size) (hn : n = fs.length) (h20 : n ≤ 1000) (hs : SS w S 1 (.slice A n c) n vs) (hv : FosAt w S fs vs) (hf : Fromt ts fs) :
    Calls Try.prog 35 #[.slice A n c] w fun e w' => ∃ v', e = .returned v' ∧ FoAt w' (Fr w w') (joinF false fs) v' ∧ Below w.heap.size w w' := by
  by_cases h0 : n = 0
  · subst h0
    have HN := Lib.hid (show fs = [] from List.eq_nil_of_length_eq_zero hn.symm)
    clear hn hs hv hf hS
    go_enter Try.func35, Try.ntmps35
    go_wp2
    go_ret
    exact ⟨_, rfl, by rw [HN.out]; rfl, Below.refl _ w⟩
  · have HFR := Lib.hid (show ∀ (i : Nat) (v : Value) (f : Fo), fs[i]? = some f → vs[i]? = some v → ∀ w', Below w.heap.size w w' → Calls Try.prog 68 #[v] w' fun e w2 => ∃ u z, e = .returned (.iface u z) ∧ FoAt w2 (Fr w' w2) f (.iface u z) ∧ Below w'.heap.size w' w2 from fun i v f hif hiv w' hb => by
      obtain ⟨t, -, hrf, hsm⟩ := hf.2 i f hif
      obtain ⟨v2, hv2, hfo⟩ := hv.2 i f hif
      rw [hiv] at hv2
      injection hv2 with hv2
      subst hv2
      refine (fresh_any t f v S w' (fun b h => Nat.lt_of_lt_of_le (hS b h) hb.size) (hfo.below hS hb) hrf hsm).mono ?_
      rintro e w2 ⟨v2, rfl, h1, h2⟩
      obtain ⟨u, z, rfl⟩ := h1.iface (ofF_ne (ofF_rf hrf))
      exact ⟨u, z, rfl, h1, h2⟩)
    have HONE := Lib.hid (show ∀ (i : Nat) (f : Fo), fs[i]? = some f → ∃ v, vs[i]? = some v ∧ v.oneCell' = true from fun i f h => by
      obtain ⟨v, h1, h2⟩ := hv.2 i f h
      exact ⟨v, h1, h2.one⟩)
    obtain ⟨b, o, rfl, hb, hc⟩ := hs.at_ (by omega)
    have HC := Lib.hid hc
    have hbl : b < w.heap.size := hS b hb
    obtain ⟨f0, fr, rfl⟩ : ∃ f0 fr, fs = f0 :: fr := by
      cases fs with
      | nil => simp at hn; omega
      | cons a l => exact ⟨a, l, rfl⟩
    have HN := Lib.hid (show n = fr.length + 1 by simpa using hn)
    obtain ⟨v0, hv0, ho0⟩ := HONE.out 0 f0 rfl
    have g0 : w.cell? ⟨b, o, none⟩ = some v0 := hc 0 v0 hv0
    have HF0 := Lib.hid (HFR.out 0 v0 f0 rfl hv0 w (Below.refl _ w))
    have hd0 : ((n : Int) == 0) = false := by simp; omega
    have hcn : n ≤ c := by obtain ⟨A', c', e, hcc, _⟩ := hs; injection e with _ _ e3; omega
    have hp0 : (0 : Int) < n := by omega
    have hp1 : (1 : Int) ≤ n := by omega
    obtain ⟨m, hm⟩ : ∃ m, n - 1 = m := ⟨_, rfl⟩
    have HM := Lib.hid (show m = fr.length by have := HN.out; omega)
    have hnm : n = m + 1 := by omega
    have hnm2 := Lib.hid hnm
    clear hn hs hv hf hS hc hv0 hb hnm
    go_enter Try.func35, Try.ntmps35
    go_wp2_with (go_at_call 68; (with_reducible refine HF0.out.mono ?_); rintro e w1 ⟨u1, z1, rfl, hv1, hb1⟩; have HV1 := Lib.hid hv1; have HB1 := Lib.hid hb1; clear hv1 hb1)
    all_goals
      go_loopw [3, 18] (fun acc_ a_ wr => ∃ (i : Nat) (u : TypeId) (z : Value), i ≤ m ∧ a_ = .int .i64 i ∧ acc_ = .iface u z ∧ Below w.heap.size w wr ∧ Hid (FoAt wr (Fr w wr) (joinF false (f0 :: fr.take i)) (.iface u z))) (fun _ a_ _ => m - (intOf a_).toNat)
      case atStart => exact ⟨0, u1, z1, Nat.zero_le _, rfl, rfl, HB1.out, Lib.hid HV1.out⟩
      case round =>
        obtain ⟨i, u, z, hi, rfl, rfl, hbel, hfo⟩ := hrel
        by_cases hlt : i < m
        · have hmc : m + 1 ≤ c ∨ m + 1 ≤ 1 := by have := hnm2.out; omega
          first
          | (exfalso; omega)
          | (obtain ⟨g, hg⟩ : ∃ g, fr[i]? = some g := ⟨_, List.getElem?_eq_getElem (by have := HM.out; omega)⟩
             obtain ⟨vg, hvg, hog⟩ := HONE.out (i + 1) g hg
             have g1 : wr.cell? ⟨b, o + 1 + i, none⟩ = some vg := (hbel.cell (p := ⟨b, o + 1 + i, none⟩) hbl).trans (by rw [show o + 1 + i = o + (i + 1) by omega]; exact HC.out (i + 1) vg hvg)
             have HG := Lib.hid (HFR.out (i + 1) vg g hg hvg wr hbel)
             have HTK := Lib.hid (joinF_take (b := false) (f0 := f0) hg)
             have HBL := Lib.hid hbel
             have hi1 : (0 : Int) ≤ i ∧ (i : Int) < m := by omega
             clear hvg hg hbel hmc
             go_wp2_with (go_at_call 68; (with_reducible refine HG.out.mono ?_); rintro e w2 ⟨u2, z2, rfl, hv2, hb2⟩; have HV2 := Lib.hid hv2; have HB2 := Lib.hid hb2; clear hv2 hb2)
             go_roundw
             case rel =>
               have hl1 := HBL.out.size
               have hl2 := HB2.out.size
               refine ⟨i + 1, _, _, by omega, by go_num, rfl, HBL.out.trans (HB2.out.mono hl1), Lib.hid ?_⟩
               rw [HTK.out]
               exact ⟨_, _, rfl, FoAt.more (fun b h => ⟨h.1, Nat.lt_of_lt_of_le h.2 hl2⟩) _ _ (hfo.out.below (fun b h => h.2) HB2.out), FoAt.more (fun b h => ⟨Nat.le_trans hl1 h.1, h.2⟩) _ _ HV2.out⟩
             case measure => simp [intOf]; omega)
        · have HE := Lib.hid (show fr.take i = fr from List.take_of_length_le (by have := HM.out; omega))
          go_wp2
          go_ret
          exact ⟨_, rfl, by have h := hfo.out; rw [HE.out] at h; exact h, hbel⟩

end Fm
end Go.Proofs.Ytjbgdaojhdobkaa
