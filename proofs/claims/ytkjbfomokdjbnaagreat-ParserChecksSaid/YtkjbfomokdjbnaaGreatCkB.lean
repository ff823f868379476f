/-
  formula.small and formula.limited.
-/
import Derived.Test.YtkjbfomokdjbnaaGreatDcI
import Derived.Test.YtkjbfomokdjbnaaGreatFmG
namespace Go.Proofs.YtkjbfomokdjbnaaGreat
open Go.RowKit Go.Sort
set_option linter.unusedSimpArgs false
set_option linter.unusedVariables false
namespace Dc
open Fm
attribute [local go_sem] run_store taNum_yes taNum_no taNum_nil taPow_yes taPow_no taPow_nil taAtom_yes taAtom_no taAtom_nil

def smallT : Tm → Bool
  | .num _ l => decide (digN (valN l) ≤ 40)
  | .pow t e => decide (e ≤ 8) && smallT t
  | .add l r => smallT l && smallT r
  | .sub l r => smallT l && smallT r
  | .mul l r => smallT l && smallT r
  | .neg t => smallT t
  | _ => true
theorem smallT_sub (t : Tm) (h1 : ∀ n l, t ≠ .num n l) (h2 : ∀ a e, t ≠ .pow a e) : smallT t = (subT t).all smallT := by
  cases t <;> first | (exact absurd rfl (h1 _ _)) | (exact absurd rfl (h2 _ _)) | simp [smallT, subT]
/-- neither a number nor a power -/
def NP (v : Value) : Prop := v = .nilIface ∨ ∃ u x, v = .iface u x ∧ u ≠ 43 ∧ u ≠ 109
theorem np_of {w : World} {S : Nat → Prop} {t : Tm} {v : Value} (hT : TmAt w S t v) (h1 : ∀ n l, t ≠ .num n l) (h2 : ∀ a e, t ≠ .pow a e) : NP v := by
  cases t with
  | odd =>
    rcases hT with rfl | ⟨u, a, rfl, hu⟩
    · exact .inl rfl
    · exact .inr ⟨u, _, rfl, fun e => hu (by rw [e]; decide), fun e => hu (by rw [e]; decide)⟩
  | num n l => exact absurd rfl (h1 _ _)
  | pow a e => exact absurd rfl (h2 _ _)
  | name s => obtain ⟨rfl, _⟩ := hT; exact .inr ⟨_, _, rfl, by decide, by decide⟩
  | neg t => obtain ⟨vt, rfl, _⟩ := hT; exact .inr ⟨_, _, rfl, by decide, by decide⟩
  | add l r => obtain ⟨vl, vr, rfl, _⟩ := hT; exact .inr ⟨_, _, rfl, by decide, by decide⟩
  | sub l r => obtain ⟨vl, vr, rfl, _⟩ := hT; exact .inr ⟨_, _, rfl, by decide, by decide⟩
  | mul l r => obtain ⟨vl, vr, rfl, _⟩ := hT; exact .inr ⟨_, _, rfl, by decide, by decide⟩
def BoolPost (b : Bool) (w : World) (e : Ending) (w' : World) : Prop := e = .returned (.bool b) ∧ Below w.heap.size w w'
def smallOk (t : Tm) : Prop := ∀ (v : Value) (S : Nat → Prop) (w : World), (∀ b, S b → b < w.heap.size) → TmAt w S t v → SmT t → Calls Tryz.prog 37 #[v] w (BoolPost (smallT t) w)
theorem smT_sub {t k : Tm} (h : SmT t) (hk : k ∈ subT t) : SmT k := by
  cases t with
  | odd => cases hk
  | num n l => cases hk
  | name s => cases hk
  | add l r => simp [subT] at hk; rcases hk with rfl | rfl; exact h.1; exact h.2
  | sub l r => simp [subT] at hk; rcases hk with rfl | rfl; exact h.1; exact h.2
  | mul l r => simp [subT] at hk; rcases hk with rfl | rfl; exact h.1; exact h.2
  | neg t => simp [subT] at hk; subst hk; exact h
  | pow t e => simp [subT] at hk; subst hk; exact h
theorem all_take_step {α : Type} (f : α → Bool) {l : List α} {i : Nat} {x : α} (h : l[i]? = some x) : (l.drop i).all f = (f x && (l.drop (i + 1)).all f) := by
  obtain ⟨hi, rfl⟩ := List.getElem?_eq_some_iff.1 h
  rw [List.drop_eq_getElem_cons hi, List.all_cons]

set_option maxRecDepth 100000 in
set_option maxHeartbeats 2000000 in
theorem small_num (n : Bool) (l : List Nat) : smallOk (.num n l) := by
  intro v S w hS hT hs
  obtain ⟨A, m, c, rfl, hA⟩ := hT
  have hm : l.length ≤ 1000000 := hs
  obtain ⟨W, hW⟩ : ∃ W, w.alloc (.cells #[.bool n, .slice A m c] 43) = W := ⟨_, rfl⟩
  have hx : Box w W w.heap.size #[.bool n, .slice A m c] 43 := by rw [← hW]; exact Box.new w _ _
  obtain ⟨s0, s1⟩ := hx.c2
  have HD := Lib.hid (digits_any n l _ S W (fun b hb => Nat.lt_of_lt_of_le (hS b hb) hx.below.size) (hA.below hS hx.below) hm)
  obtain ⟨D, hD⟩ : ∃ D, D = digN (valN l) := ⟨_, rfl⟩
  rw [← hD] at HD
  have hR : smallT (.num n l) = decide ((D : Int) ≤ 40) := by
    rw [hD]; unfold smallT; exact decide_eq_decide.2 (by omega)
  rw [hR]
  have HX := Lib.hid hx
  clear hA hx hD hR hS hs
  go_enter Tryz.func37, Tryz.ntmps37
  go_wp2_with (go_at_call 47; refine HD.out.mono ?_; rintro e w2 ⟨rfl, hb⟩)
  go_ret
  exact ⟨rfl, HX.out.below.trans (hb.mono HX.out.below.size)⟩

set_option maxRecDepth 100000 in
set_option maxHeartbeats 2000000 in
theorem small_other (T : Tm) (ha : ∀ n l, T ≠ .num n l) (hb : ∀ a e, T ≠ .pow a e) (ih : ∀ k ∈ subT T, smallOk k) : smallOk T := by
  intro v S w hS hT hs
  have hnp := np_of hT ha hb
  obtain ⟨vs, hvs, hsub⟩ := subs_any T v S w hT
  obtain ⟨n, hn⟩ : ∃ n, n = vs.length := ⟨_, rfl⟩
  have hn64 : n ≤ 2 := by rw [hn, hvs.1]; cases T <;> simp [subT]
  obtain ⟨R, hR⟩ : ∃ R, R = smallT T := ⟨_, rfl⟩
  rw [← hR]
  have HR := Lib.hid (show R = ((subT T).drop 0).all smallT by rw [hR, smallT_sub T ha hb]; rfl)
  have IH := Lib.hid ih
  have HVS := Lib.hid hvs
  have HSUB := Lib.hid hsub
  have HN := Lib.hid hn
  have HSM := Lib.hid hs
  have HBX := Lib.hid (Below.refl w.heap.size w)
  clear ih hvs hsub hn hR hT hs ha hb
  rcases hnp with rfl | ⟨u, z, rfl, hu1, hu2⟩
  · go_enter Tryz.func37, Tryz.ntmps37
    go_wp2_with (first | (go_at_call 38; refine HSUB.out.mono ?_; intro e w1 hp; obtain ⟨A, c, he, hss, hb1⟩ := hp; rw [← HN.out] at he hss; subst he; have HSS := Lib.hid hss; have HB1 := Lib.hid hb1; clear hss hb1))
    go_loopw [24] (fun a_ wr => ∃ i : Nat, i ≤ n ∧ a_ = .int .i64 i ∧ Hid (R = ((subT T).drop i).all smallT) ∧ Below w1.heap.size w1 wr) (fun a_ _ => n - (intOf a_).toNat)
    case atStart => exact ⟨0, Nat.zero_le _, rfl, HR, Below.refl _ _⟩
    case round =>
      obtain ⟨i, hi, rfl, hr, hbr⟩ := hrel
      by_cases hlt : i < n
      · obtain ⟨k, x, b, o, hk, hTk, rfl, hcell⟩ := sub_at HSS.out HVS.out (F := fun _ => False) (fun _ h => h.elim) (Owns.of_below hbr _) i hlt HN.out
        have hwr : Below w.heap.size w wr := (HBX.out.trans (HB1.out.mono HBX.out.size)).trans (hbr.mono (HBX.out.trans (HB1.out.mono HBX.out.size)).size)
        have hC := IH.out k (mem_at hk) x S wr (fun b hb => Nat.lt_of_lt_of_le (hS b hb) hwr.size) ((hTk.below (fun b hb => Nat.lt_of_lt_of_le (hS b hb) HBX.out.size) HB1.out).below (fun b hb => Nat.lt_of_lt_of_le (hS b hb) (HBX.out.trans (HB1.out.mono HBX.out.size)).size) hbr) (smT_sub HSM.out (mem_at hk))
        obtain ⟨q, hq⟩ : ∃ q, q = smallT k := ⟨_, rfl⟩
        rw [← hq] at hC
        have h2 := hr.out
        rw [all_take_step smallT hk, ← hq] at h2
        have HC := Lib.hid hC
        have H2 := Lib.hid h2
        have HBR := Lib.hid hbr
        clear hC hq h2 hTk hk hbr hr
        cases q
        · go_wp2_with (go_at_call 37; refine HC.out.mono ?_; rintro e w2 ⟨rfl, hb2⟩)
          go_ret
          have hwr2 := HBX.out.trans ((HB1.out.trans ((HBR.out.trans (hb2.mono HBR.out.size)).mono HB1.out.size)).mono HBX.out.size)
          exact ⟨by rw [H2.out]; rfl, hwr2⟩
        · go_wp2_with (go_at_call 37; refine HC.out.mono ?_; rintro e w2 ⟨rfl, hb2⟩)
          go_roundw
          case rel => exact ⟨i + 1, by omega, by go_num, Lib.hid (by rw [H2.out, Bool.true_and]), HBR.out.trans (hb2.mono HBR.out.size)⟩
          case measure => simp [intOf]; omega
      · have HF := Lib.hid (show R = true by rw [hr.out, List.drop_eq_nil_of_le (by rw [← HVS.out.1, ← HN.out]; omega)]; rfl)
        go_wp2
        go_ret
        exact ⟨by rw [HF.out]; rfl, HBX.out.trans ((HB1.out.trans (hbr.mono HB1.out.size)).mono HBX.out.size)⟩
  · go_enter Tryz.func37, Tryz.ntmps37
    go_wp2_with (first | (go_at_call 38; refine HSUB.out.mono ?_; intro e w1 hp; obtain ⟨A, c, he, hss, hb1⟩ := hp; rw [← HN.out] at he hss; subst he; have HSS := Lib.hid hss; have HB1 := Lib.hid hb1; clear hss hb1))
    go_loopw [24] (fun a_ wr => ∃ i : Nat, i ≤ n ∧ a_ = .int .i64 i ∧ Hid (R = ((subT T).drop i).all smallT) ∧ Below w1.heap.size w1 wr) (fun a_ _ => n - (intOf a_).toNat)
    case atStart => exact ⟨0, Nat.zero_le _, rfl, HR, Below.refl _ _⟩
    case round =>
      obtain ⟨i, hi, rfl, hr, hbr⟩ := hrel
      by_cases hlt : i < n
      · obtain ⟨k, x, b, o, hk, hTk, rfl, hcell⟩ := sub_at HSS.out HVS.out (F := fun _ => False) (fun _ h => h.elim) (Owns.of_below hbr _) i hlt HN.out
        have hwr : Below w.heap.size w wr := (HBX.out.trans (HB1.out.mono HBX.out.size)).trans (hbr.mono (HBX.out.trans (HB1.out.mono HBX.out.size)).size)
        have hC := IH.out k (mem_at hk) x S wr (fun b hb => Nat.lt_of_lt_of_le (hS b hb) hwr.size) ((hTk.below (fun b hb => Nat.lt_of_lt_of_le (hS b hb) HBX.out.size) HB1.out).below (fun b hb => Nat.lt_of_lt_of_le (hS b hb) (HBX.out.trans (HB1.out.mono HBX.out.size)).size) hbr) (smT_sub HSM.out (mem_at hk))
        obtain ⟨q, hq⟩ : ∃ q, q = smallT k := ⟨_, rfl⟩
        rw [← hq] at hC
        have h2 := hr.out
        rw [all_take_step smallT hk, ← hq] at h2
        have HC := Lib.hid hC
        have H2 := Lib.hid h2
        have HBR := Lib.hid hbr
        clear hC hq h2 hTk hk hbr hr
        cases q
        · go_wp2_with (go_at_call 37; refine HC.out.mono ?_; rintro e w2 ⟨rfl, hb2⟩)
          go_ret
          have hwr2 := HBX.out.trans ((HB1.out.trans ((HBR.out.trans (hb2.mono HBR.out.size)).mono HB1.out.size)).mono HBX.out.size)
          exact ⟨by rw [H2.out]; rfl, hwr2⟩
        · go_wp2_with (go_at_call 37; refine HC.out.mono ?_; rintro e w2 ⟨rfl, hb2⟩)
          go_roundw
          case rel => exact ⟨i + 1, by omega, by go_num, Lib.hid (by rw [H2.out, Bool.true_and]), HBR.out.trans (hb2.mono HBR.out.size)⟩
          case measure => simp [intOf]; omega
      · have HF := Lib.hid (show R = true by rw [hr.out, List.drop_eq_nil_of_le (by rw [← HVS.out.1, ← HN.out]; omega)]; rfl)
        go_wp2
        go_ret
        exact ⟨by rw [HF.out]; rfl, HBX.out.trans ((HB1.out.trans (hbr.mono HB1.out.size)).mono HBX.out.size)⟩

set_option maxRecDepth 100000 in
set_option maxHeartbeats 2000000 in
theorem small_pow (a : Tm) (e : Int) (ih : ∀ k ∈ subT (.pow a e), smallOk k) : smallOk (.pow a e) := by
  intro v S w hS hT hs
  obtain ⟨T, hTT⟩ : ∃ T, T = Tm.pow a e := ⟨_, rfl⟩
  have hT0 := hT
  obtain ⟨va, rfl, ha⟩ := hT0
  show Calls Tryz.prog 37 #[.iface 109 (.agg #[va, .int .i64 e])] w _
  obtain ⟨W, hW⟩ : ∃ W, w.alloc (.cells #[va, .int .i64 e] 109) = W := ⟨_, rfl⟩
  have hx : Box w W w.heap.size #[va, .int .i64 e] 109 := by rw [← hW]; exact Box.new w _ _
  obtain ⟨s0, s1⟩ := hx.c2
  have hov := ha.one
  by_cases he8 : 8 < e
  · have hR : smallT (.pow a e) = false := by unfold smallT; rw [decide_eq_false (by omega)]; rfl
    rw [hR]
    have HX := Lib.hid hx
    clear hR hx ha hT ih hTT hS hs
    go_enter Tryz.func37, Tryz.ntmps37
    go_wp2
    go_ret
    exact ⟨rfl, HX.out.below⟩
  · have hR0 : smallT (.pow a e) = ((subT (.pow a e)).drop 0).all smallT := by simp [smallT, subT]; omega
    rw [← hTT] at hR0 ih hT hs ⊢
    obtain ⟨vs, hvs, hsub⟩ := subs_any T _ S W (hT.below hS hx.below)
    obtain ⟨n, hn⟩ : ∃ n, n = vs.length := ⟨_, rfl⟩
    have hn64 : n ≤ 2 := by rw [hn, hvs.1]; cases T <;> simp [subT]
    obtain ⟨R, hR⟩ : ∃ R, R = smallT T := ⟨_, rfl⟩
    rw [← hR] at hR0 ⊢
    have HR := Lib.hid hR0
    have IH := Lib.hid ih
    have HVS := Lib.hid hvs
    have HSUB := Lib.hid hsub
    have HN := Lib.hid hn
    have HSM := Lib.hid hs
    have HBX := Lib.hid hx.below
    clear ih hvs hsub hn hR hR0 hT hs ha hx hTT
    go_enter Tryz.func37, Tryz.ntmps37
    go_wp2_with (first | (go_at_call 38; refine HSUB.out.mono ?_; intro e w1 hp; obtain ⟨A, c, he, hss, hb1⟩ := hp; rw [← HN.out] at he hss; subst he; have HSS := Lib.hid hss; have HB1 := Lib.hid hb1; clear hss hb1))
    go_loopw [24] (fun a_ wr => ∃ i : Nat, i ≤ n ∧ a_ = .int .i64 i ∧ Hid (R = ((subT T).drop i).all smallT) ∧ Below w1.heap.size w1 wr) (fun a_ _ => n - (intOf a_).toNat)
    case atStart => exact ⟨0, Nat.zero_le _, rfl, HR, Below.refl _ _⟩
    case round =>
      obtain ⟨i, hi, rfl, hr, hbr⟩ := hrel
      by_cases hlt : i < n
      · obtain ⟨k, x, b, o, hk, hTk, rfl, hcell⟩ := sub_at HSS.out HVS.out (F := fun _ => False) (fun _ h => h.elim) (Owns.of_below hbr _) i hlt HN.out
        have hwr : Below w.heap.size w wr := (HBX.out.trans (HB1.out.mono HBX.out.size)).trans (hbr.mono (HBX.out.trans (HB1.out.mono HBX.out.size)).size)
        have hC := IH.out k (mem_at hk) x S wr (fun b hb => Nat.lt_of_lt_of_le (hS b hb) hwr.size) ((hTk.below (fun b hb => Nat.lt_of_lt_of_le (hS b hb) HBX.out.size) HB1.out).below (fun b hb => Nat.lt_of_lt_of_le (hS b hb) (HBX.out.trans (HB1.out.mono HBX.out.size)).size) hbr) (smT_sub HSM.out (mem_at hk))
        obtain ⟨q, hq⟩ : ∃ q, q = smallT k := ⟨_, rfl⟩
        rw [← hq] at hC
        have h2 := hr.out
        rw [all_take_step smallT hk, ← hq] at h2
        have HC := Lib.hid hC
        have H2 := Lib.hid h2
        have HBR := Lib.hid hbr
        clear hC hq h2 hTk hk hbr hr
        cases q
        · go_wp2_with (go_at_call 37; refine HC.out.mono ?_; rintro e w2 ⟨rfl, hb2⟩)
          go_ret
          have hwr2 := HBX.out.trans ((HB1.out.trans ((HBR.out.trans (hb2.mono HBR.out.size)).mono HB1.out.size)).mono HBX.out.size)
          exact ⟨by rw [H2.out]; rfl, hwr2⟩
        · go_wp2_with (go_at_call 37; refine HC.out.mono ?_; rintro e w2 ⟨rfl, hb2⟩)
          go_roundw
          case rel => exact ⟨i + 1, by omega, by go_num, Lib.hid (by rw [H2.out, Bool.true_and]), HBR.out.trans (hb2.mono HBR.out.size)⟩
          case measure => simp [intOf]; omega
      · have HF := Lib.hid (show R = true by rw [hr.out, List.drop_eq_nil_of_le (by rw [← HVS.out.1, ← HN.out]; omega)]; rfl)
        go_wp2
        go_ret
        exact ⟨by rw [HF.out]; rfl, HBX.out.trans ((HB1.out.trans (hbr.mono HB1.out.size)).mono HBX.out.size)⟩
theorem small_any : ∀ t, smallOk t := by
  refine Tm.ind fun t ih => ?_
  by_cases ha : ∃ n l, t = .num n l
  · obtain ⟨n, l, rfl⟩ := ha; exact small_num n l
  · by_cases hb : ∃ a e, t = .pow a e
    · obtain ⟨a, e, rfl⟩ := hb; exact small_pow a e ih
    · exact small_other t (fun n l h => ha ⟨n, l, h⟩) (fun a e h => hb ⟨a, e, h⟩) ih
end Dc
end Go.Proofs.YtkjbfomokdjbnaaGreat

/-
  formula.limited.
-/
namespace Go.Proofs.YtkjbfomokdjbnaaGreat
open Go.RowKit Go.Sort
set_option linter.unusedSimpArgs false
set_option linter.unusedVariables false
namespace Dc
open Fm
attribute [local go_sem] run_store taAtom_yes taAtom_no taAtom_nil

def okT (t : Tm) : Bool := decide (degT t ≤ 8) && (decide (wgtT t ≤ 320) && smallT t)
def limF : Fo → Bool
  | .atom l _ r => okT l && okT r
  | .not f => limF f
  | .and l r => limF l && limF r
  | .or l r => limF l && limF r
  | .implies l r => limF l && limF r
  | .iff l r => limF l && limF r
  | .quant _ _ f => limF f
  | _ => true
theorem limF_sub (t : Fo) (h : ∀ l e r, t ≠ .atom l e r) : limF t = (subF t).all limF := by
  cases t <;> first | (exact absurd rfl (h _ _ _)) | simp [limF, subF]
theorem smF_sub {t k : Fo} (h : SmF t) (hk : k ∈ subF t) : SmF k := by
  cases t with
  | odd => cases hk
  | truth b => cases hk
  | atom l e r => cases hk
  | not f => simp [subF] at hk; subst hk; exact h
  | and l r => simp [subF] at hk; rcases hk with rfl | rfl; exact h.1; exact h.2
  | or l r => simp [subF] at hk; rcases hk with rfl | rfl; exact h.1; exact h.2
  | implies l r => simp [subF] at hk; rcases hk with rfl | rfl; exact h.1; exact h.2
  | iff l r => simp [subF] at hk; rcases hk with rfl | rfl; exact h.1; exact h.2
  | quant a n f => simp [subF] at hk; subst hk; exact h
def limOk (t : Fo) : Prop := ∀ (v : Value) (S : Nat → Prop) (w : World), (∀ b, S b → b < w.heap.size) → FoAt w S t v → SmF t → Calls Tryz.prog 21 #[v] w (BoolPost (limF t) w)

set_option maxRecDepth 100000 in
set_option maxHeartbeats 2000000 in
theorem lim_other (t : Fo) (ha : ∀ l e r, t ≠ .atom l e r) (ih : ∀ k ∈ subF t, limOk k) : limOk t := by
  intro v S w hS hT hs
  have hta := na_atom (na_of hT ha)
  obtain ⟨W, hW⟩ : ∃ W, w.alloc (.cells #[.nilIface, .int .i64 0, .nilIface] 47) = W := ⟨_, rfl⟩
  have hbW : Below w.heap.size w W := by rw [← hW]; exact (Below.refl _ w).alloc (Nat.le_refl _) _
  have hTW : FoAt W S t v := hT.below hS hbW
  have hS' : ∀ b, S b → b < W.heap.size := fun b hb => Nat.lt_of_lt_of_le (hS b hb) hbW.size
  obtain ⟨vs, hvs, hsub⟩ := parts_any t v S W hTW
  obtain ⟨n, hn⟩ : ∃ n, n = vs.length := ⟨_, rfl⟩
  have hn64 : n ≤ 2 := by rw [hn, hvs.1]; cases t <;> simp [subF]
  obtain ⟨R, hR⟩ : ∃ R, R = limF t := ⟨_, rfl⟩
  rw [← hR]
  have HR := Lib.hid (show R = ((subF t).drop 0).all limF by rw [hR, limF_sub t ha]; rfl)
  have IH := Lib.hid ih
  have HVS := Lib.hid hvs
  have HSUB := Lib.hid hsub
  have HN := Lib.hid hn
  have HSM := Lib.hid hs
  have HS := Lib.hid hS'
  have HBW := Lib.hid hbW
  have HW := Lib.hid hW
  clear hW ih hvs hsub hn hR hs hT hTW hS hS' hbW ha
  go_enter Tryz.func21, Tryz.ntmps21
  go_wp2_with (first
    | (go_at_call 23; rw [HW.out]; refine HSUB.out.mono ?_; intro e w1 hp; obtain ⟨A, c, he, hss, hb1⟩ := hp; rw [← HN.out] at he hss; subst he; have HSS := Lib.hid hss; have HB1 := Lib.hid hb1; clear hss hb1 hta))
  go_loopw [42] (fun a_ wr => ∃ i : Nat, i ≤ n ∧ a_ = .int .i64 i ∧ Hid (R = ((subF t).drop i).all limF) ∧ Below w1.heap.size w1 wr) (fun a_ _ => n - (intOf a_).toNat)
  case atStart => exact ⟨0, Nat.zero_le _, rfl, HR, Below.refl _ _⟩
  case round =>
    obtain ⟨i, hi, rfl, hr, hbr⟩ := hrel
    by_cases hlt : i < n
    · obtain ⟨k, x, b, o, hk, hTk, rfl, hcell⟩ := subF_at HSS.out HVS.out (F := fun _ => False) (fun _ h => h.elim) (Owns.of_below hbr _) i hlt HN.out
      have hwr : Below W.heap.size W wr := HB1.out.trans (hbr.mono HB1.out.size)
      have hC := IH.out k (mem_at hk) x S wr (fun b hb => Nat.lt_of_lt_of_le (HS.out b hb) hwr.size) (hTk.below HS.out hwr) (smF_sub HSM.out (mem_at hk))
      obtain ⟨q, hq⟩ : ∃ q, q = limF k := ⟨_, rfl⟩
      rw [← hq] at hC
      have h2 := hr.out
      rw [all_take_step limF hk, ← hq] at h2
      have HC := Lib.hid hC
      have H2 := Lib.hid h2
      have HBR := Lib.hid hbr
      clear hC hq h2 hTk hk hbr hr
      cases q
      · go_wp2_with (first | (go_at_call 21; refine HC.out.mono ?_; rintro e w2 ⟨rfl, hb2⟩))
        go_ret
        exact ⟨by rw [H2.out]; rfl, HBW.out.trans ((HB1.out.trans ((HBR.out.trans (hb2.mono HBR.out.size)).mono HB1.out.size)).mono HBW.out.size)⟩
      · go_wp2_with (first | (go_at_call 21; refine HC.out.mono ?_; rintro e w2 ⟨rfl, hb2⟩))
        go_roundw
        case rel => exact ⟨i + 1, by omega, by go_num, Lib.hid (by rw [H2.out, Bool.true_and]), HBR.out.trans (hb2.mono HBR.out.size)⟩
        case measure => simp [intOf]; omega
    · have HF := Lib.hid (show R = true by rw [hr.out, List.drop_eq_nil_of_le (by rw [← HVS.out.1, ← HN.out]; omega)]; rfl)
      go_wp2
      go_ret
      exact ⟨by rw [HF.out]; rfl, HBW.out.trans ((HB1.out.trans (hbr.mono HB1.out.size)).mono HBW.out.size)⟩

set_option maxRecDepth 100000 in
set_option maxHeartbeats 4000000 in
theorem lim_atom (l : Tm) (rel : Int) (r : Tm) : limOk (.atom l rel r) := by
  intro v S w hS hT hs
  obtain ⟨vl, vr, rfl, hl, hr⟩ := hT
  show Calls Tryz.prog 21 #[.iface 47 (.agg #[vl, .int .i64 rel, vr])] w _
  have hc0 := hl.one
  have hc2 := hr.one
  obtain ⟨W, hW⟩ : ∃ W, w.alloc (.cells #[vl, .int .i64 rel, vr] 47) = W := ⟨_, rfl⟩
  have hx : Box w W w.heap.size #[vl, .int .i64 rel, vr] 47 := by rw [← hW]; exact Box.new w _ _
  have s0 : W.cell? ⟨w.heap.size, 0, none⟩ = some vl := hx.cell 0
  have s2 : W.cell? ⟨w.heap.size, 2, none⟩ = some vr := hx.cell 2
  have hcl := cells_one hc0
  simp only [Value.cells] at hcl
  have hcr := cells_one hc2
  simp only [Value.cells] at hcr
  have hWs : W.heap.size = w.heap.size + 1 := by rw [← hW]; simp
  obtain ⟨R, hR⟩ : ∃ R, R = limF (.atom l rel r) := ⟨_, rfl⟩
  rw [← hR]
  have HR := Lib.hid (show R = ([l, r].drop 0).all okT by rw [hR]; simp [limF])
  have hts : TmsAt W S [l, r] [vl, vr] := TmsAt.two (hl.below hS hx.below) (hr.below hS hx.below)
  have HTS := Lib.hid hts
  have HSM := Lib.hid (show ∀ t ∈ [l, r], SmT t from fun t ht => by simp at ht; rcases ht with rfl | rfl; exact hs.1; exact hs.2)
  have HS := Lib.hid (show ∀ b, S b → b < W.heap.size from fun b hb => Nat.lt_of_lt_of_le (hS b hb) hx.below.size)
  have HX := Lib.hid hx
  have HWS := Lib.hid hWs
  clear hx hl hr hS hR hts hs hWs
  go_enter Tryz.func21, Tryz.ntmps21
  go_wp2_with fail
  clear hW
  have hal : ∀ j u, [vl, vr][j]? = some u → (W.alloc (.cells #[vl, vr] 45)).cell? ⟨W.heap.size, j, none⟩ = some u := fun j u hj => by
    rw [cell_new]; simpa using hj
  have HAL := Lib.hid hal
  have hbA : Below W.heap.size W (W.alloc (.cells #[vl, vr] 45)) := (Below.refl _ _).alloc (Nat.le_refl _) _
  have HBA := Lib.hid hbA
  obtain ⟨W1, hW1⟩ : ∃ W1, W.alloc (.cells #[vl, vr] 45) = W1 := ⟨_, rfl⟩
  rw [hW1] at HAL HBA
  rw [hW1]
  have hW1s : W1.heap.size = W.heap.size + 1 := by rw [← hW1]; simp
  have HW1 := Lib.hid hW1s
  clear hal hbA hW1 hW1s
  go_loopw [21] (fun a_ wr => ∃ i : Nat, i ≤ 2 ∧ a_ = .int .i64 i ∧ Hid (R = ([l, r].drop i).all okT) ∧ Below W1.heap.size W1 wr) (fun a_ _ => 2 - (intOf a_).toNat)
  case atStart => exact ⟨0, Nat.zero_le _, rfl, HR, Below.refl _ _⟩
  case round =>
    obtain ⟨i, hi, rfl, hr, hbr⟩ := hrel
    have hbw : Below w.heap.size w wr := HX.out.below.trans ((HBA.out.trans (hbr.mono HBA.out.size)).mono HX.out.below.size)
    have HBW := Lib.hid hbw
    by_cases hlt : i < 2
    · obtain ⟨t, ht⟩ : ∃ t, [l, r][i]? = some t := ⟨_, List.getElem?_eq_getElem hlt⟩
      obtain ⟨x, hx, hTx⟩ := HTS.out.2 i t ht
      have hcell : wr.cell? ⟨W.heap.size, i, none⟩ = some x := (hbr.cell (p := ⟨W.heap.size, i, none⟩) (by have := HW1.out; show W.heap.size < _; omega)).trans (HAL.out i x hx)
      have hTw : ∀ w', Below wr.heap.size wr w' → TmAt w' S t x := fun w' h => ((hTx.below HS.out (HBA.out.trans (hbr.mono HBA.out.size))).below (fun b hb => Nat.lt_of_lt_of_le (HS.out b hb) (Nat.le_trans HBA.out.size hbr.size)) h)
      have hSw : ∀ w', Below wr.heap.size wr w' → ∀ b, S b → b < w'.heap.size := fun w' h b hb => Nat.lt_of_lt_of_le (HS.out b hb) (Nat.le_trans HBA.out.size (Nat.le_trans hbr.size h.size))
      have hsm := HSM.out t (List.mem_of_getElem? ht)
      obtain ⟨D, hD⟩ : ∃ D, D = degT t := ⟨_, rfl⟩
      obtain ⟨G, hG⟩ : ∃ G, G = wgtT t := ⟨_, rfl⟩
      obtain ⟨q, hq⟩ : ∃ q, q = smallT t := ⟨_, rfl⟩
      have HD := Lib.hid (show ∀ w', Below wr.heap.size wr w' → Calls Tryz.prog 35 #[x] w' (NumPost D w') from fun w' h => by rw [hD]; exact deg_any t x S w' (hSw w' h) (hTw w' h) hsm)
      have HG := Lib.hid (show ∀ w', Below wr.heap.size wr w' → Calls Tryz.prog 36 #[x] w' (NumPost G w') from fun w' h => by rw [hG]; exact wgt_any t x S w' (hSw w' h) (hTw w' h) hsm)
      have HQ := Lib.hid (show ∀ w', Below wr.heap.size wr w' → Calls Tryz.prog 37 #[x] w' (BoolPost q w') from fun w' h => by rw [hq]; exact small_any t x S w' (hSw w' h) (hTw w' h) hsm)
      have h2 := hr.out
      rw [all_take_step okT ht] at h2
      have H2 := Lib.hid (show R = ((decide (D ≤ 8) && (decide (G ≤ 320) && q)) && ([l, r].drop (i + 1)).all okT) by rw [h2, hD, hG, hq]; rfl)
      have HBR := Lib.hid hbr
      have hst := Lib.hid (show ∀ wc wn, Below wr.heap.size wr wc → Below wc.heap.size wc wn → Below wr.heap.size wr wn from fun wc wn h1 h2 => h1.trans (h2.mono h1.size))
      have hz : Below wr.heap.size wr wr := Below.refl _ _
      have hoc : x.oneCell' = true := hTx.one
      clear hD hG hq hTw hSw hsm h2 hr hbr hTx hx ht hbw
      by_cases hd8 : 8 < D
      · have hd8' : (8 : Int) < D := by omega
        go_wp2_with (go_at_call 35; (with_reducible refine (HD.out _ hz).mono ?_); rintro e wa ⟨rfl, hla⟩; have hza := hst.out _ _ hz hla; clear hla)
        go_ret
        exact ⟨by rw [H2.out, decide_eq_false (by omega)]; rfl, HBW.out.trans (hza.mono HBW.out.size)⟩
      · have hd8' : ¬ (8 : Int) < D := by omega
        have hdd : decide ((8 : Int) < D) = false := by simp; omega
        by_cases hg : 320 < G
        · have hg' : (320 : Int) < G := by omega
          go_wp2_with (first
            | (go_at_call 35; (with_reducible refine (HD.out _ hz).mono ?_); rintro e wa ⟨rfl, hla⟩; have hza := hst.out _ _ hz hla; clear hla)
            | (go_at_call 36; (with_reducible refine (HG.out _ hza).mono ?_); rintro e wb ⟨rfl, hlb⟩; have hzb := hst.out _ _ hza hlb; clear hlb))
          go_ret
          exact ⟨by rw [H2.out, decide_eq_false (show ¬ G ≤ 320 by omega)]; simp, HBW.out.trans (hzb.mono HBW.out.size)⟩
        · have hg' : ¬ (320 : Int) < G := by omega
          have hgg : decide ((320 : Int) < G) = false := by simp; omega
          have HE := Lib.hid (show R = (q && ([l, r].drop (i + 1)).all okT) by rw [H2.out, decide_eq_true (by omega), decide_eq_true (show G ≤ 320 by omega)]; simp)
          cases q
          · go_wp2_with (first
              | (go_at_call 35; (with_reducible refine (HD.out _ hz).mono ?_); rintro e wa ⟨rfl, hla⟩; have hza := hst.out _ _ hz hla; clear hla)
              | (go_at_call 36; (with_reducible refine (HG.out _ hza).mono ?_); rintro e wb ⟨rfl, hlb⟩; have hzb := hst.out _ _ hza hlb; clear hlb)
              | (go_at_call 37; (with_reducible refine (HQ.out _ hzb).mono ?_); rintro e wc ⟨rfl, hlc⟩; have hzc := hst.out _ _ hzb hlc; clear hlc))
            go_ret
            exact ⟨by rw [HE.out]; rfl, HBW.out.trans (hzc.mono HBW.out.size)⟩
          · go_wp2_with (first
              | (go_at_call 35; (with_reducible refine (HD.out _ hz).mono ?_); rintro e wa ⟨rfl, hla⟩; have hza := hst.out _ _ hz hla; clear hla)
              | (go_at_call 36; (with_reducible refine (HG.out _ hza).mono ?_); rintro e wb ⟨rfl, hlb⟩; have hzb := hst.out _ _ hza hlb; clear hlb)
              | (go_at_call 37; (with_reducible refine (HQ.out _ hzb).mono ?_); rintro e wc ⟨rfl, hlc⟩; have hzc := hst.out _ _ hzb hlc; clear hlc))
            go_roundw
            case rel => exact ⟨i + 1, by omega, by go_num, Lib.hid (by rw [HE.out, Bool.true_and]), HBR.out.trans (hzc.mono HBR.out.size)⟩
            case measure => simp [intOf]; omega
    · have HF := Lib.hid (show R = true by rw [hr.out, List.drop_eq_nil_of_le (by simp; omega)]; rfl)
      have h2i : i = 2 := by omega
      subst h2i
      go_wp2_with (first
        | (go_at_call 23; refine (parts_Atom vl vr rel _).mono ?_; intro e w3 hp; obtain ⟨A, c, rfl, _, hb3⟩ := hp))
      refine wp_loop_rounds 1 ?_
      rw [rounds_succ]
      go_wp2
      go_ret
      exact ⟨by rw [HF.out]; rfl, HBW.out.trans (hb3.mono HBW.out.size)⟩
theorem lim_any : ∀ t, limOk t := by
  refine Fo.ind fun f ih => ?_
  by_cases ha : ∃ l e r, f = .atom l e r
  · obtain ⟨l, e, r, rfl⟩ := ha; exact lim_atom l e r
  · exact lim_other f (fun l e r h => ha ⟨l, e, r, h⟩) ih
end Dc
end Go.Proofs.YtkjbfomokdjbnaaGreat
