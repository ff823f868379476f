/-
  formula.termNodes, Nodes, Atoms: how many.
-/
import Derived.Test.YtjbgdaojhdobkaaFmN
import Derived.Lib.QuietBelow
namespace Go.Proofs.Ytjbgdaojhdobkaa
open Go.RowKit Go.Sort
set_option linter.unusedSimpArgs false
set_option linter.unusedVariables false
namespace Fm
attribute [local go_sem] run_store taAtom_yes taAtom_no taAtom_nil

def tn : Tm → Nat
  | .add l r => tn l + tn r + 1
  | .sub l r => tn l + tn r + 1
  | .mul l r => tn l + tn r + 1
  | .neg t => tn t + 1
  | .pow t _ => tn t + 1
  | _ => 1
def sumL {α : Type} (f : α → Nat) : List α → Nat
  | [] => 0
  | k :: l => f k + sumL f l
theorem sumL_take {α : Type} (f : α → Nat) (l : List α) (i : Nat) : sumL f (l.take i) ≤ sumL f l := by
  induction l generalizing i with
  | nil => simp
  | cons k l ih =>
    match i with
    | 0 => simp [sumL]
    | i + 1 => rw [List.take_succ_cons]; unfold sumL; have := ih i; omega
theorem sumL_succ {α : Type} (f : α → Nat) (l : List α) (i : Nat) (k : α) (h : l[i]? = some k) : sumL f (l.take (i + 1)) = sumL f (l.take i) + f k := by
  induction l generalizing i with
  | nil => simp at h
  | cons a l ih =>
    match i with
    | 0 => simp at h; subst h; simp [sumL]
    | i + 1 => rw [List.take_succ_cons, List.take_succ_cons]; unfold sumL; rw [ih i (by simpa using h)]; omega
theorem tn_sub (t : Tm) : tn t = sumL tn (subT t) + 1 := by cases t <;> simp [tn, subT, sumL] <;> omega
/-- the nodes of a formula -/
def fnn : Fo → Nat
  | .atom l _ r => tn l + tn r + 1
  | .not f => fnn f + 1
  | .and l r => fnn l + fnn r + 1
  | .or l r => fnn l + fnn r + 1
  | .implies l r => fnn l + fnn r + 1
  | .iff l r => fnn l + fnn r + 1
  | .quant _ _ f => fnn f + 1
  | _ => 1
def atomsF : Fo → Nat
  | .atom _ _ _ => 1
  | .not f => atomsF f
  | .and l r => atomsF l + atomsF r
  | .or l r => atomsF l + atomsF r
  | .implies l r => atomsF l + atomsF r
  | .iff l r => atomsF l + atomsF r
  | .quant _ _ f => atomsF f
  | _ => 0
theorem fnn_sub (t : Fo) (h : ∀ l e r, t ≠ .atom l e r) : fnn t = sumL fnn (subF t) + 1 := by cases t <;> first | (exact absurd rfl (h _ _ _)) | (simp [fnn, subF, sumL]; try omega)
theorem atomsF_sub (t : Fo) (h : ∀ l e r, t ≠ .atom l e r) : atomsF t = sumL atomsF (subF t) := by cases t <;> first | (exact absurd rfl (h _ _ _)) | simp [atomsF, subF, sumL]
theorem atomsF_le (t : Fo) : atomsF t ≤ fnn t := by
  induction t <;> simp [atomsF, fnn] <;> omega

set_option maxRecDepth 100000 in
set_option maxHeartbeats 2000000 in
theorem termNodes_any : ∀ (t : Tm) (v : Value) (S : Nat → Prop) (w : World), (∀ b, S b → b < w.heap.size) → TmAt w S t v → tn t ≤ 1000000 →
    Calls Try.prog 66 #[v] w fun e w' => e = .returned (.int .i64 (tn t)) ∧ Below w.heap.size w w' := by
  refine Tm.ind fun t ih => ?_
  intro v S w hS hT hb
  obtain ⟨vs, hvs, hsub⟩ := subs_any t v S w hT
  obtain ⟨n, hn⟩ : ∃ n, n = vs.length := ⟨_, rfl⟩
  have hn64 : n ≤ 2 := by rw [hn, hvs.1]; cases t <;> simp [subT]
  have hts := tn_sub t
  obtain ⟨N, hN⟩ : ∃ N, N = tn t := ⟨_, rfl⟩
  rw [← hN] at hb hts ⊢
  have IH := Lib.hid ih
  have HVS := Lib.hid hvs
  have HSUB := Lib.hid hsub
  have HN := Lib.hid hn
  have HTS := Lib.hid hts
  clear ih hvs hsub hn hts hN hT
  go_enter Try.func66, Try.ntmps66
  go_wp2_with (first
    | (go_at_call 86; refine HSUB.out.mono ?_; intro e w1 hp; obtain ⟨A, c, he, hss, hb1⟩ := hp; rw [← HN.out] at he hss; subst he; have HSS := Lib.hid hss; have HB1 := Lib.hid hb1; clear hss hb1))
  go_loopw [3, 9] (fun s_ a_ wr => ∃ (i m : Nat), i ≤ n ∧ a_ = .int .i64 i ∧ s_ = .int .i64 m ∧ Hid (m = sumL tn ((subT t).take i) + 1) ∧ Below w1.heap.size w1 wr) (fun _ a_ _ => n - (intOf a_).toNat)
  case atStart => exact ⟨0, 1, Nat.zero_le _, rfl, rfl, Lib.hid (by simp [sumL]), Below.refl _ _⟩
  case round =>
    obtain ⟨i, m, hi, rfl, rfl, hm, hbr⟩ := hrel
    by_cases hlt : i < n
    · obtain ⟨k, x, b, o, hk, hTk, rfl, hcell⟩ := sub_at HSS.out HVS.out (F := fun _ => False) (fun _ h => h.elim) (Owns.of_below hbr _) i hlt HN.out
      have hwr : Below w.heap.size w wr := HB1.out.trans (hbr.mono HB1.out.size)
      have h1 := sumL_succ tn (subT t) i k hk
      have h2 := sumL_take tn (subT t) (i + 1)
      have hm1 := hm.out
      have h3 := HTS.out
      have hmb : m + tn k ≤ 1000000 := by omega
      obtain ⟨M, hM⟩ : ∃ M, M = tn k := ⟨_, rfl⟩
      have hC := IH.out k (mem_at hk) x S wr (fun b hb => Nat.lt_of_lt_of_le (hS b hb) hwr.size) (hTk.below hS hwr) (by omega)
      rw [← hM] at hC hmb
      have HC := Lib.hid hC
      have HM2 := Lib.hid (show m + M = sumL tn ((subT t).take (i + 1)) + 1 by omega)
      have HBR := Lib.hid hbr
      clear hC hM h1 h2 h3 hm1 hTk hk hbr
      go_wp2_with (first | (go_at_call 66; refine HC.out.mono ?_; rintro e w2 ⟨rfl, hb2⟩))
      go_roundw
      case rel => exact ⟨i + 1, m + M, by omega, by go_num, by go_num, HM2, HBR.out.trans (hb2.mono HBR.out.size)⟩
      case measure => simp [intOf]; omega
    · have HM3 := Lib.hid (show m = N by
        have h1 := hm.out
        rw [List.take_of_length_le (by rw [← HVS.out.1, ← HN.out]; omega)] at h1
        have h2 := HTS.out
        omega)
      go_wp2
      go_ret
      exact ⟨by rw [HM3.out]; rfl, HB1.out.trans (hbr.mono HB1.out.size)⟩

/-- no atom -/
def NA (v : Value) : Prop := v = .nilIface ∨ ∃ u x, v = .iface u x ∧ u ≠ 91
theorem na_of {w : World} {S : Nat → Prop} {f : Fo} {v : Value} (hT : FoAt w S f v) (ha : ∀ l e r, f ≠ .atom l e r) : NA v := by
  cases f with
  | odd =>
    rcases hT with rfl | ⟨u, a, rfl, hu⟩
    · exact .inl rfl
    · exact .inr ⟨u, _, rfl, fun e => hu (by rw [e]; decide)⟩
  | truth b => cases hT; exact .inr ⟨_, _, rfl, by decide⟩
  | atom l e r => exact absurd rfl (ha _ _ _)
  | quant a n b => obtain ⟨vt, rfl, _⟩ := hT; exact .inr ⟨_, _, rfl, by decide⟩
  | not f => obtain ⟨vt, rfl, _⟩ := hT; exact .inr ⟨_, _, rfl, by decide⟩
  | and l r => obtain ⟨vl, vr, rfl, _⟩ := hT; exact .inr ⟨_, _, rfl, by decide⟩
  | or l r => obtain ⟨vl, vr, rfl, _⟩ := hT; exact .inr ⟨_, _, rfl, by decide⟩
  | implies l r => obtain ⟨vl, vr, rfl, _⟩ := hT; exact .inr ⟨_, _, rfl, by decide⟩
  | iff l r => obtain ⟨vl, vr, rfl, _⟩ := hT; exact .inr ⟨_, _, rfl, by decide⟩
theorem na_atom {v : Value} (h : NA v) (w : World) : (Instr.typeAssert v 43 91 true).run Try.prog w = .ok (.tuple #[.agg #[.nilIface, .int .i64 0, .nilIface], .bool false]) w := by
  rcases h with rfl | ⟨u, x, rfl, hu⟩
  · exact taAtom_nil w
  · exact taAtom_no u x w hu
theorem sum_fnn_le (l : List Fo) : sumL fnn l ≤ sumL fnn l := Nat.le_refl _
theorem fnn_le' (k : Fo) : fnn k ≤ fnn k := Nat.le_refl _
theorem atomsF_le' (k : Fo) : atomsF k ≤ fnn k := atomsF_le k
theorem sum_atomsF_le (l : List Fo) : sumL atomsF l ≤ sumL fnn l := by
  induction l with
  | nil => simp [sumL]
  | cons a l ih => unfold sumL; have := atomsF_le a; omega
def nodesOk (t : Fo) : Prop := ∀ (v : Value) (S : Nat → Prop) (w : World), (∀ b, S b → b < w.heap.size) → FoAt w S t v → fnn t ≤ 1000000 →
    Calls Try.prog 30 #[v] w fun e w' => e = .returned (.int .i64 (fnn t)) ∧ Below w.heap.size w w'
def atomsOk (t : Fo) : Prop := ∀ (v : Value) (S : Nat → Prop) (w : World), (∀ b, S b → b < w.heap.size) → FoAt w S t v → fnn t ≤ 1000000 →
    Calls Try.prog 31 #[v] w fun e w' => e = .returned (.int .i64 (atomsF t)) ∧ Below w.heap.size w w'

set_option maxRecDepth 100000 in
set_option maxHeartbeats 2000000 in
theorem atoms_other (t : Fo) (ha : ∀ l e r, t ≠ .atom l e r) (ih : ∀ k ∈ subF t, atomsOk k) : atomsOk t := by
  intro v S w hS hT hb
  have hta := na_atom (na_of hT ha)
  obtain ⟨W, hW⟩ : ∃ W, w.alloc (.cells #[.nilIface, .int .i64 0, .nilIface] 91) = W := ⟨_, rfl⟩
  have hbW : Below w.heap.size w W := by rw [← hW]; exact (Below.refl _ w).alloc (Nat.le_refl _) _
  have hTW : FoAt W S t v := hT.below hS hbW
  have hS' : ∀ b, S b → b < W.heap.size := fun b hb => Nat.lt_of_lt_of_le (hS b hb) hbW.size
  obtain ⟨vs, hvs, hsub⟩ := parts_any t v S W hTW
  obtain ⟨n, hn⟩ : ∃ n, n = vs.length := ⟨_, rfl⟩
  have hn64 : n ≤ 2 := by rw [hn, hvs.1]; cases t <;> simp [subF]
  have hts := atomsF_sub t ha
  have hsz := fnn_sub t ha
  obtain ⟨N, hN⟩ : ∃ N, N = atomsF t := ⟨_, rfl⟩
  rw [← hN] at hts ⊢
  have IH := Lib.hid ih
  have HVS := Lib.hid hvs
  have HSUB := Lib.hid hsub
  have HN := Lib.hid hn
  have HTS := Lib.hid hts
  have HSZ := Lib.hid hsz
  have HBB := Lib.hid hb
  have HS := Lib.hid hS'
  have HBW := Lib.hid hbW
  have HW := Lib.hid hW
  clear hW ih hvs hsub hn hts hsz hb hN hT hTW hS hS' hbW ha
  go_enter Try.func31, Try.ntmps31
  go_wp2_with (first
    | (go_at_call 67; rw [HW.out]; refine HSUB.out.mono ?_; intro e w1 hp; obtain ⟨A, c, he, hss, hb1⟩ := hp; rw [← HN.out] at he hss; subst he; have HSS := Lib.hid hss; have HB1 := Lib.hid hb1; clear hss hb1 hta))
  go_loopw [3, 19] (fun s_ a_ wr => ∃ (i m : Nat), i ≤ n ∧ a_ = .int .i64 i ∧ s_ = .int .i64 m ∧ Hid (m = sumL atomsF ((subF t).take i) + 0) ∧ Below w1.heap.size w1 wr) (fun _ a_ _ => n - (intOf a_).toNat)
  case atStart => exact ⟨0, 0, Nat.zero_le _, rfl, rfl, Lib.hid (by simp [sumL]), Below.refl _ _⟩
  case round =>
    obtain ⟨i, m, hi, rfl, rfl, hm, hbr⟩ := hrel
    by_cases hlt : i < n
    · obtain ⟨k, x, b, o, hk, hTk, rfl, hcell⟩ := subF_at HSS.out HVS.out (F := fun _ => False) (fun _ h => h.elim) (Owns.of_below hbr _) i hlt HN.out
      have hwr : Below W.heap.size W wr := HB1.out.trans (hbr.mono HB1.out.size)
      have h1 := sumL_succ atomsF (subF t) i k hk
      have h2 := sumL_take fnn (subF t) (i + 1)
      have h2' := sumL_succ fnn (subF t) i k hk
      have h4 := sum_atomsF_le ((subF t).take i)
      have h5 := atomsF_le' k
      have hm1 := hm.out
      have h3 := HSZ.out
      have h6 := HBB.out
      have hmb : m + atomsF k ≤ 1000000 := by omega
      obtain ⟨M, hM⟩ : ∃ M, M = atomsF k := ⟨_, rfl⟩
      have hC := IH.out k (mem_at hk) x S wr (fun b hb => Nat.lt_of_lt_of_le (HS.out b hb) hwr.size) (hTk.below HS.out hwr) (by omega)
      rw [← hM] at hC hmb
      have HC := Lib.hid hC
      have HM2 := Lib.hid (show m + M = sumL atomsF ((subF t).take (i + 1)) + 0 by omega)
      have HBR := Lib.hid hbr
      clear hC hM h1 h2 h3 h2' h4 h5 h6 hm1 hTk hk hbr
      go_wp2_with (first | (go_at_call 31; refine HC.out.mono ?_; rintro e w2 ⟨rfl, hb2⟩))
      go_roundw
      case rel => exact ⟨i + 1, m + M, by omega, by go_num, by go_num, HM2, HBR.out.trans (hb2.mono HBR.out.size)⟩
      case measure => simp [intOf]; omega
    · have HM3 := Lib.hid (show m = N by
        have h1 := hm.out
        rw [List.take_of_length_le (by rw [← HVS.out.1, ← HN.out]; omega)] at h1
        have h2 := HTS.out
        omega)
      go_wp2
      go_ret
      exact ⟨by rw [HM3.out]; rfl, (HBW.out.trans (HB1.out.mono HBW.out.size)).trans (hbr.mono (Nat.le_trans HBW.out.size HB1.out.size))⟩

set_option maxRecDepth 100000 in
set_option maxHeartbeats 2000000 in
theorem nodes_other (t : Fo) (ha : ∀ l e r, t ≠ .atom l e r) (ih : ∀ k ∈ subF t, nodesOk k) : nodesOk t := by
  intro v S w hS hT hb
  have hta := na_atom (na_of hT ha)
  obtain ⟨W, hW⟩ : ∃ W, w.alloc (.cells #[.nilIface, .int .i64 0, .nilIface] 91) = W := ⟨_, rfl⟩
  have hbW : Below w.heap.size w W := by rw [← hW]; exact (Below.refl _ w).alloc (Nat.le_refl _) _
  have hTW : FoAt W S t v := hT.below hS hbW
  have hS' : ∀ b, S b → b < W.heap.size := fun b hb => Nat.lt_of_lt_of_le (hS b hb) hbW.size
  obtain ⟨vs, hvs, hsub⟩ := parts_any t v S W hTW
  obtain ⟨n, hn⟩ : ∃ n, n = vs.length := ⟨_, rfl⟩
  have hn64 : n ≤ 2 := by rw [hn, hvs.1]; cases t <;> simp [subF]
  have hts := fnn_sub t ha
  have hsz := fnn_sub t ha
  obtain ⟨N, hN⟩ : ∃ N, N = fnn t := ⟨_, rfl⟩
  rw [← hN] at hts ⊢
  have IH := Lib.hid ih
  have HVS := Lib.hid hvs
  have HSUB := Lib.hid hsub
  have HN := Lib.hid hn
  have HTS := Lib.hid hts
  have HSZ := Lib.hid hsz
  have HBB := Lib.hid hb
  have HS := Lib.hid hS'
  have HBW := Lib.hid hbW
  have HW := Lib.hid hW
  clear hW ih hvs hsub hn hts hsz hb hN hT hTW hS hS' hbW ha
  go_enter Try.func30, Try.ntmps30
  go_wp2_with (first
    | (go_at_call 67; rw [HW.out]; refine HSUB.out.mono ?_; intro e w1 hp; obtain ⟨A, c, he, hss, hb1⟩ := hp; rw [← HN.out] at he hss; subst he; have HSS := Lib.hid hss; have HB1 := Lib.hid hb1; clear hss hb1 hta))
  go_loopw [3, 26] (fun s_ a_ wr => ∃ (i m : Nat), i ≤ n ∧ a_ = .int .i64 i ∧ s_ = .int .i64 m ∧ Hid (m = sumL fnn ((subF t).take i) + 1) ∧ Below w1.heap.size w1 wr) (fun _ a_ _ => n - (intOf a_).toNat)
  case atStart => exact ⟨0, 1, Nat.zero_le _, rfl, rfl, Lib.hid (by simp [sumL]), Below.refl _ _⟩
  case round =>
    obtain ⟨i, m, hi, rfl, rfl, hm, hbr⟩ := hrel
    by_cases hlt : i < n
    · obtain ⟨k, x, b, o, hk, hTk, rfl, hcell⟩ := subF_at HSS.out HVS.out (F := fun _ => False) (fun _ h => h.elim) (Owns.of_below hbr _) i hlt HN.out
      have hwr : Below W.heap.size W wr := HB1.out.trans (hbr.mono HB1.out.size)
      have h1 := sumL_succ fnn (subF t) i k hk
      have h2 := sumL_take fnn (subF t) (i + 1)
      have h2' := sumL_succ fnn (subF t) i k hk
      have h4 := sum_fnn_le ((subF t).take i)
      have h5 := fnn_le' k
      have hm1 := hm.out
      have h3 := HSZ.out
      have h6 := HBB.out
      have hmb : m + fnn k ≤ 1000000 := by omega
      obtain ⟨M, hM⟩ : ∃ M, M = fnn k := ⟨_, rfl⟩
      have hC := IH.out k (mem_at hk) x S wr (fun b hb => Nat.lt_of_lt_of_le (HS.out b hb) hwr.size) (hTk.below HS.out hwr) (by omega)
      rw [← hM] at hC hmb
      have HC := Lib.hid hC
      have HM2 := Lib.hid (show m + M = sumL fnn ((subF t).take (i + 1)) + 1 by omega)
      have HBR := Lib.hid hbr
      clear hC hM h1 h2 h3 h2' h4 h5 h6 hm1 hTk hk hbr
      go_wp2_with (first | (go_at_call 30; refine HC.out.mono ?_; rintro e w2 ⟨rfl, hb2⟩))
      go_roundw
      case rel => exact ⟨i + 1, m + M, by omega, by go_num, by go_num, HM2, HBR.out.trans (hb2.mono HBR.out.size)⟩
      case measure => simp [intOf]; omega
    · have HM3 := Lib.hid (show m = N by
        have h1 := hm.out
        rw [List.take_of_length_le (by rw [← HVS.out.1, ← HN.out]; omega)] at h1
        have h2 := HTS.out
        omega)
      go_wp2
      go_ret
      exact ⟨by rw [HM3.out]; rfl, (HBW.out.trans (HB1.out.mono HBW.out.size)).trans (hbr.mono (Nat.le_trans HBW.out.size HB1.out.size))⟩

set_option maxRecDepth 100000 in
set_option maxHeartbeats 2000000 in
theorem atoms_atom (l : Tm) (rel : Int) (r : Tm) : atomsOk (.atom l rel r) := by
  intro v S w hS hT hb
  obtain ⟨vl, vr, rfl, hl, hr⟩ := hT
  show Calls Try.prog 31 #[.iface 91 (.agg #[vl, .int .i64 rel, vr])] w _
  have hc0 := hl.one
  have hc2 := hr.one
  clear hb hl hr hS
  go_enter Try.func31, Try.ntmps31
  go_wp2_with (first
    | (go_at_call 67; refine (parts_Atom vl vr rel _).mono ?_; intro e w3 hp; obtain ⟨A, c, rfl, _, hb3⟩ := hp))
  refine wp_loop_rounds 1 ?_
  rw [rounds_succ]
  go_wp2
  go_ret
  exact ⟨rfl, ((Below.refl _ w).alloc (Nat.le_refl _) _).trans (hb3.mono (by simp))⟩
theorem atoms_any : ∀ t, atomsOk t := by
  refine Fo.ind fun f ih => ?_
  by_cases ha : ∃ l e r, f = .atom l e r
  · obtain ⟨l, e, r, rfl⟩ := ha; exact atoms_atom l e r
  · exact atoms_other f (fun l e r h => ha ⟨l, e, r, h⟩) ih

end Fm
end Go.Proofs.Ytjbgdaojhdobkaa
