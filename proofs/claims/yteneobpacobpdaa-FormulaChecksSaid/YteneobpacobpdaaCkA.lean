/-
  formula.small and formula.limited.
-/
import Derived.Test.YteneobpacobpdaaDcI
import Derived.Test.YteneobpacobpdaaFmH
namespace Go.Proofs.Yteneobpacobpdaa
open Go.RowKit Go.Sort
set_option linter.unusedSimpArgs false
set_option linter.unusedVariables false
namespace Dc
open Fm
attribute [local go_sem] run_store taNum_yes taNum_no taNum_nil taPow_yes taPow_no taPow_nil taAtom_yes taAtom_no taAtom_nil

def smallT : Tm → Bool
  | .num _ l => decide (digN (valN l) ≤ 40)
  | .pow t e => decide (e ≤ 8) && smallT t
  | .add l r => smallT l && smallT r
  | .sub l r => smallT l && smallT r
  | .mul l r => smallT l && smallT r
  | .neg t => smallT t
  | _ => true
theorem smallT_sub (t : Tm) (h1 : ∀ n l, t ≠ .num n l) (h2 : ∀ a e, t ≠ .pow a e) : smallT t = (subT t).all smallT := by
  cases t <;> first | (exact absurd rfl (h1 _ _)) | (exact absurd rfl (h2 _ _)) | simp [smallT, subT]
/-- neither a number nor a power -/
def NP (v : Value) : Prop := v = .nilIface ∨ ∃ u x, v = .iface u x ∧ u ≠ 45 ∧ u ≠ 108
theorem np_of {w : World} {S : Nat → Prop} {t : Tm} {v : Value} (hT : TmAt w S t v) (h1 : ∀ n l, t ≠ .num n l) (h2 : ∀ a e, t ≠ .pow a e) : NP v := by
  cases t with
  | odd =>
    rcases hT with rfl | ⟨u, a, rfl, hu⟩
    · exact .inl rfl
    · exact .inr ⟨u, _, rfl, fun e => hu (by rw [e]; decide), fun e => hu (by rw [e]; decide)⟩
  | num n l => exact absurd rfl (h1 _ _)
  | pow a e => exact absurd rfl (h2 _ _)
  | name s => obtain ⟨rfl, _⟩ := hT; exact .inr ⟨_, _, rfl, by decide, by decide⟩
  | neg t => obtain ⟨vt, rfl, _⟩ := hT; exact .inr ⟨_, _, rfl, by decide, by decide⟩
  | add l r => obtain ⟨vl, vr, rfl, _⟩ := hT; exact .inr ⟨_, _, rfl, by decide, by decide⟩
  | sub l r => obtain ⟨vl, vr, rfl, _⟩ := hT; exact .inr ⟨_, _, rfl, by decide, by decide⟩
  | mul l r => obtain ⟨vl, vr, rfl, _⟩ := hT; exact .inr ⟨_, _, rfl, by decide, by decide⟩
def BoolPost (b : Bool) (w : World) (e : Ending) (w' : World) : Prop := e = .returned (.bool b) ∧ Below w.heap.size w w'
def smallOk (t : Tm) : Prop := ∀ (v : Value) (S : Nat → Prop) (w : World), (∀ b, S b → b < w.heap.size) → TmAt w S t v → SmT t → Calls Try.prog 44 #[v] w (BoolPost (smallT t) w)
theorem smT_sub {t k : Tm} (h : SmT t) (hk : k ∈ subT t) : SmT k := by
  cases t with
  | odd => cases hk
  | num n l => cases hk
  | name s => cases hk
  | add l r => simp [subT] at hk; rcases hk with rfl | rfl; exact h.1; exact h.2
  | sub l r => simp [subT] at hk; rcases hk with rfl | rfl; exact h.1; exact h.2
  | mul l r => simp [subT] at hk; rcases hk with rfl | rfl; exact h.1; exact h.2
  | neg t => simp [subT] at hk; subst hk; exact h
  | pow t e => simp [subT] at hk; subst hk; exact h
theorem all_take_step {α : Type} (f : α → Bool) {l : List α} {i : Nat} {x : α} (h : l[i]? = some x) : (l.drop i).all f = (f x && (l.drop (i + 1)).all f) := by
  obtain ⟨hi, rfl⟩ := List.getElem?_eq_some_iff.1 h
  rw [List.drop_eq_getElem_cons hi, List.all_cons]

set_option maxRecDepth 100000 in
set_option maxHeartbeats 2000000 in
theorem small_num (n : Bool) (l : List Nat) : smallOk (.num n l) := by
  intro v S w hS hT hs
  obtain ⟨A, m, c, rfl, hA⟩ := hT
  have hm : l.length ≤ 1000000 := hs
  obtain ⟨W, hW⟩ : ∃ W, w.alloc (.cells #[.bool n, .slice A m c] 45) = W := ⟨_, rfl⟩
  have hx : Box w W w.heap.size #[.bool n, .slice A m c] 45 := by rw [← hW]; exact Box.new w _ _
  obtain ⟨s0, s1⟩ := hx.c2
  have HD := Lib.hid (digits_any n l _ S W (fun b hb => Nat.lt_of_lt_of_le (hS b hb) hx.below.size) (hA.below hS hx.below) hm)
  obtain ⟨D, hD⟩ : ∃ D, D = digN (valN l) := ⟨_, rfl⟩
  rw [← hD] at HD
  have hR : smallT (.num n l) = decide ((D : Int) ≤ 40) := by
    rw [hD]; unfold smallT; exact decide_eq_decide.2 (by omega)
  rw [hR]
  have HX := Lib.hid hx
  clear hA hx hD hR hS hs
  go_enter Try.func44, Try.ntmps44
  go_wp2_with (go_at_call 55; refine HD.out.mono ?_; rintro e w2 ⟨rfl, hb⟩)
  go_ret
  exact ⟨rfl, HX.out.below.trans (hb.mono HX.out.below.size)⟩

set_option maxRecDepth 100000 in
set_option maxHeartbeats 2000000 in
theorem small_other (T : Tm) (ha : ∀ n l, T ≠ .num n l) (hb : ∀ a e, T ≠ .pow a e) (ih : ∀ k ∈ subT T, smallOk k) : smallOk T := by
  intro v S w hS hT hs
  have hnp := np_of hT ha hb
  obtain ⟨vs, hvs, hsub⟩ := subs_any T v S w hT
  obtain ⟨n, hn⟩ : ∃ n, n = vs.length := ⟨_, rfl⟩
  have hn64 : n ≤ 2 := by rw [hn, hvs.1]; cases T <;> simp [subT]
  obtain ⟨R, hR⟩ : ∃ R, R = smallT T := ⟨_, rfl⟩
  rw [← hR]
  have HR := Lib.hid (show R = ((subT T).drop 0).all smallT by rw [hR, smallT_sub T ha hb]; rfl)
  have IH := Lib.hid ih
  have HVS := Lib.hid hvs
  have HSUB := Lib.hid hsub
  have HN := Lib.hid hn
  have HSM := Lib.hid hs
  have HBX := Lib.hid (Below.refl w.heap.size w)
  clear ih hvs hsub hn hR hT hs ha hb
  rcases hnp with rfl | ⟨u, z, rfl, hu1, hu2⟩
  · go_enter Try.func44, Try.ntmps44
    go_wp2_with (first | (go_at_call 51; refine HSUB.out.mono ?_; intro e w1 hp; obtain ⟨A, c, he, hss, hb1⟩ := hp; rw [← HN.out] at he hss; subst he; have HSS := Lib.hid hss; have HB1 := Lib.hid hb1; clear hss hb1))
    go_loopw [24] (fun a_ wr => ∃ i : Nat, i ≤ n ∧ a_ = .int .i64 i ∧ Hid (R = ((subT T).drop i).all smallT) ∧ Below w1.heap.size w1 wr) (fun a_ _ => n - (intOf a_).toNat)
    case atStart => exact ⟨0, Nat.zero_le _, rfl, HR, Below.refl _ _⟩
    case round =>
      obtain ⟨i, hi, rfl, hr, hbr⟩ := hrel
      by_cases hlt : i < n
      · obtain ⟨k, x, b, o, hk, hTk, rfl, hcell⟩ := sub_at HSS.out HVS.out (F := fun _ => False) (fun _ h => h.elim) (Owns.of_below hbr _) i hlt HN.out
        have hwr : Below w.heap.size w wr := (HBX.out.trans (HB1.out.mono HBX.out.size)).trans (hbr.mono (HBX.out.trans (HB1.out.mono HBX.out.size)).size)
        have hC := IH.out k (mem_at hk) x S wr (fun b hb => Nat.lt_of_lt_of_le (hS b hb) hwr.size) ((hTk.below (fun b hb => Nat.lt_of_lt_of_le (hS b hb) HBX.out.size) HB1.out).below (fun b hb => Nat.lt_of_lt_of_le (hS b hb) (HBX.out.trans (HB1.out.mono HBX.out.size)).size) hbr) (smT_sub HSM.out (mem_at hk))
        obtain ⟨q, hq⟩ : ∃ q, q = smallT k := ⟨_, rfl⟩
        rw [← hq] at hC
        have h2 := hr.out
        rw [all_take_step smallT hk, ← hq] at h2
        have HC := Lib.hid hC
        have H2 := Lib.hid h2
        have HBR := Lib.hid hbr
        clear hC hq h2 hTk hk hbr hr
        cases q
        · go_wp2_with (go_at_call 44; refine HC.out.mono ?_; rintro e w2 ⟨rfl, hb2⟩)
          go_ret
          have hwr2 := HBX.out.trans ((HB1.out.trans ((HBR.out.trans (hb2.mono HBR.out.size)).mono HB1.out.size)).mono HBX.out.size)
          exact ⟨by rw [H2.out]; rfl, hwr2⟩
        · go_wp2_with (go_at_call 44; refine HC.out.mono ?_; rintro e w2 ⟨rfl, hb2⟩)
          go_roundw
          case rel => exact ⟨i + 1, by omega, by go_num, Lib.hid (by rw [H2.out, Bool.true_and]), HBR.out.trans (hb2.mono HBR.out.size)⟩
          case measure => simp [intOf]; omega
      · have HF := Lib.hid (show R = true by rw [hr.out, List.drop_eq_nil_of_le (by rw [← HVS.out.1, ← HN.out]; omega)]; rfl)
        go_wp2
        go_ret
        exact ⟨by rw [HF.out]; rfl, HBX.out.trans ((HB1.out.trans (hbr.mono HB1.out.size)).mono HBX.out.size)⟩
  · go_enter Try.func44, Try.ntmps44
    go_wp2_with (first | (go_at_call 51; refine HSUB.out.mono ?_; intro e w1 hp; obtain ⟨A, c, he, hss, hb1⟩ := hp; rw [← HN.out] at he hss; subst he; have HSS := Lib.hid hss; have HB1 := Lib.hid hb1; clear hss hb1))
    go_loopw [24] (fun a_ wr => ∃ i : Nat, i ≤ n ∧ a_ = .int .i64 i ∧ Hid (R = ((subT T).drop i).all smallT) ∧ Below w1.heap.size w1 wr) (fun a_ _ => n - (intOf a_).toNat)
    case atStart => exact ⟨0, Nat.zero_le _, rfl, HR, Below.refl _ _⟩
    case round =>
      obtain ⟨i, hi, rfl, hr, hbr⟩ := hrel
      by_cases hlt : i < n
      · obtain ⟨k, x, b, o, hk, hTk, rfl, hcell⟩ := sub_at HSS.out HVS.out (F := fun _ => False) (fun _ h => h.elim) (Owns.of_below hbr _) i hlt HN.out
        have hwr : Below w.heap.size w wr := (HBX.out.trans (HB1.out.mono HBX.out.size)).trans (hbr.mono (HBX.out.trans (HB1.out.mono HBX.out.size)).size)
        have hC := IH.out k (mem_at hk) x S wr (fun b hb => Nat.lt_of_lt_of_le (hS b hb) hwr.size) ((hTk.below (fun b hb => Nat.lt_of_lt_of_le (hS b hb) HBX.out.size) HB1.out).below (fun b hb => Nat.lt_of_lt_of_le (hS b hb) (HBX.out.trans (HB1.out.mono HBX.out.size)).size) hbr) (smT_sub HSM.out (mem_at hk))
        obtain ⟨q, hq⟩ : ∃ q, q = smallT k := ⟨_, rfl⟩
        rw [← hq] at hC
        have h2 := hr.out
        rw [all_take_step smallT hk, ← hq] at h2
        have HC := Lib.hid hC
        have H2 := Lib.hid h2
        have HBR := Lib.hid hbr
        clear hC hq h2 hTk hk hbr hr
        cases q
        · go_wp2_with (go_at_call 44; refine HC.out.mono ?_; rintro e w2 ⟨rfl, hb2⟩)
          go_ret
          have hwr2 := HBX.out.trans ((HB1.out.trans ((HBR.out.trans (hb2.mono HBR.out.size)).mono HB1.out.size)).mono HBX.out.size)
          exact ⟨by rw [H2.out]; rfl, hwr2⟩
        · go_wp2_with (go_at_call 44; refine HC.out.mono ?_; rintro e w2 ⟨rfl, hb2⟩)
          go_roundw
          case rel => exact ⟨i + 1, by omega, by go_num, Lib.hid (by rw [H2.out, Bool.true_and]), HBR.out.trans (hb2.mono HBR.out.size)⟩
          case measure => simp [intOf]; omega
      · have HF := Lib.hid (show R = true by rw [hr.out, List.drop_eq_nil_of_le (by rw [← HVS.out.1, ← HN.out]; omega)]; rfl)
        go_wp2
        go_ret
        exact ⟨by rw [HF.out]; rfl, HBX.out.trans ((HB1.out.trans (hbr.mono HB1.out.size)).mono HBX.out.size)⟩

set_option maxRecDepth 100000 in
set_option maxHeartbeats 2000000 in
theorem small_pow (a : Tm) (e : Int) (ih : ∀ k ∈ subT (.pow a e), smallOk k) : smallOk (.pow a e) := by
  intro v S w hS hT hs
  obtain ⟨T, hTT⟩ : ∃ T, T = Tm.pow a e := ⟨_, rfl⟩
  have hT0 := hT
  obtain ⟨va, rfl, ha⟩ := hT0
  show Calls Try.prog 44 #[.iface 108 (.agg #[va, .int .i64 e])] w _
  obtain ⟨W, hW⟩ : ∃ W, w.alloc (.cells #[va, .int .i64 e] 108) = W := ⟨_, rfl⟩
  have hx : Box w W w.heap.size #[va, .int .i64 e] 108 := by rw [← hW]; exact Box.new w _ _
  obtain ⟨s0, s1⟩ := hx.c2
  have hov := ha.one
  by_cases he8 : 8 < e
  · have hR : smallT (.pow a e) = false := by unfold smallT; rw [decide_eq_false (by omega)]; rfl
    rw [hR]
    have HX := Lib.hid hx
    clear hR hx ha hT ih hTT hS hs
    go_enter Try.func44, Try.ntmps44
    go_wp2
    go_ret
    exact ⟨rfl, HX.out.below⟩
  · have hR0 : smallT (.pow a e) = ((subT (.pow a e)).drop 0).all smallT := by simp [smallT, subT]; omega
    rw [← hTT] at hR0 ih hT hs ⊢
    obtain ⟨vs, hvs, hsub⟩ := subs_any T _ S W (hT.below hS hx.below)
    obtain ⟨n, hn⟩ : ∃ n, n = vs.length := ⟨_, rfl⟩
    have hn64 : n ≤ 2 := by rw [hn, hvs.1]; cases T <;> simp [subT]
    obtain ⟨R, hR⟩ : ∃ R, R = smallT T := ⟨_, rfl⟩
    rw [← hR] at hR0 ⊢
    have HR := Lib.hid hR0
    have IH := Lib.hid ih
    have HVS := Lib.hid hvs
    have HSUB := Lib.hid hsub
    have HN := Lib.hid hn
    have HSM := Lib.hid hs
    have HBX := Lib.hid hx.below
    clear ih hvs hsub hn hR hR0 hT hs ha hx hTT
    go_enter Try.func44, Try.ntmps44
    go_wp2_with (first | (go_at_call 51; refine HSUB.out.mono ?_; intro e w1 hp; obtain ⟨A, c, he, hss, hb1⟩ := hp; rw [← HN.out] at he hss; subst he; have HSS := Lib.hid hss; have HB1 := Lib.hid hb1; clear hss hb1))
    go_loopw [24] (fun a_ wr => ∃ i : Nat, i ≤ n ∧ a_ = .int .i64 i ∧ Hid (R = ((subT T).drop i).all smallT) ∧ Below w1.heap.size w1 wr) (fun a_ _ => n - (intOf a_).toNat)
    case atStart => exact ⟨0, Nat.zero_le _, rfl, HR, Below.refl _ _⟩
    case round =>
      obtain ⟨i, hi, rfl, hr, hbr⟩ := hrel
      by_cases hlt : i < n
      · obtain ⟨k, x, b, o, hk, hTk, rfl, hcell⟩ := sub_at HSS.out HVS.out (F := fun _ => False) (fun _ h => h.elim) (Owns.of_below hbr _) i hlt HN.out
        have hwr : Below w.heap.size w wr := (HBX.out.trans (HB1.out.mono HBX.out.size)).trans (hbr.mono (HBX.out.trans (HB1.out.mono HBX.out.size)).size)
        have hC := IH.out k (mem_at hk) x S wr (fun b hb => Nat.lt_of_lt_of_le (hS b hb) hwr.size) ((hTk.below (fun b hb => Nat.lt_of_lt_of_le (hS b hb) HBX.out.size) HB1.out).below (fun b hb => Nat.lt_of_lt_of_le (hS b hb) (HBX.out.trans (HB1.out.mono HBX.out.size)).size) hbr) (smT_sub HSM.out (mem_at hk))
        obtain ⟨q, hq⟩ : ∃ q, q = smallT k := ⟨_, rfl⟩
        rw [← hq] at hC
        have h2 := hr.out
        rw [all_take_step smallT hk, ← hq] at h2
        have HC := Lib.hid hC
        have H2 := Lib.hid h2
        have HBR := Lib.hid hbr
        clear hC hq h2 hTk hk hbr hr
        cases q
        · go_wp2_with (go_at_call 44; refine HC.out.mono ?_; rintro e w2 ⟨rfl, hb2⟩)
          go_ret
          have hwr2 := HBX.out.trans ((HB1.out.trans ((HBR.out.trans (hb2.mono HBR.out.size)).mono HB1.out.size)).mono HBX.out.size)
          exact ⟨by rw [H2.out]; rfl, hwr2⟩
        · go_wp2_with (go_at_call 44; refine HC.out.mono ?_; rintro e w2 ⟨rfl, hb2⟩)
          go_roundw
          case rel => exact ⟨i + 1, by omega, by go_num, Lib.hid (by rw [H2.out, Bool.true_and]), HBR.out.trans (hb2.mono HBR.out.size)⟩
          case measure => simp [intOf]; omega
      · have HF := Lib.hid (show R = true by rw [hr.out, List.drop_eq_nil_of_le (by rw [← HVS.out.1, ← HN.out]; omega)]; rfl)
        go_wp2
        go_ret
        exact ⟨by rw [HF.out]; rfl, HBX.out.trans ((HB1.out.trans (hbr.mono HB1.out.size)).mono HBX.out.size)⟩
theorem small_any : ∀ t, smallOk t := by
  refine Tm.ind fun t ih => ?_
  by_cases ha : ∃ n l, t = .num n l
  · obtain ⟨n, l, rfl⟩ := ha; exact small_num n l
  · by_cases hb : ∃ a e, t = .pow a e
    · obtain ⟨a, e, rfl⟩ := hb; exact small_pow a e ih
    · exact small_other t (fun n l h => ha ⟨n, l, h⟩) (fun a e h => hb ⟨a, e, h⟩) ih
end Dc
end Go.Proofs.Yteneobpacobpdaa
