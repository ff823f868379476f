/-
  Chapter 37's laws: right; the reference's Canon; ranges of numbers and lengths of texts.
-/
import Derived.Test.YtkjbfomokdjbnaaDoorPl
import Derived.Test.YtkjbfomokdjbnaaDoorFmOpn
import Derived.Test.YtkjbfomokdjbnaaDoorPrG
import Derived.Test.YtkjbfomokdjbnaaDoorFmZ
import Derived.Test.YtkjbfomokdjbnaaDoorFmG
namespace Go.Proofs.YtkjbfomokdjbnaaDoor
open Go.RowKit
set_option linter.unusedSimpArgs false
set_option linter.unusedVariables false
namespace Pr
open Fm Dc Pl
attribute [local go_sem] run_store

def rightTB (t : Tr) : Bool := fewB t 200 && isF t true
set_option maxRecDepth 100000 in
set_option maxHeartbeats 2000000 in
theorem rightT_any (t : Tr) (cs : List Value) (S : Nat → Prop) (w : World) (hS : ∀ b, S b → b < w.heap.size) (hT : TreeAt w S t cs) :
    Calls Tryd.prog 8 #[.agg cs.toArray, .bool true] w fun e w' => e = .returned (.bool (rightTB t)) ∧ Below w.heap.size w w' := by
  obtain ⟨A1, n1, c1, A2, n2, c2, k, neg, nm, ex, rl, tr, al, rfl⟩ := hT.nine
  have hx := Box.new w #[.int .i64 k, .bool neg, .slice A1 n1 c1, .string nm, .int .i64 ex, .int .i64 rl, .bool tr, .bool al, .slice A2 n2 c2] TT
  have HX := Lib.hid hx
  have HT := Lib.hid hT
  have HS := Lib.hid hS
  obtain ⟨R, hR⟩ : ∃ R, R = fewB t 200 := ⟨_, rfl⟩
  have HR := Lib.hid hR
  have HRB := Lib.hid (show rightTB t = (R && isF t true) by unfold rightTB; rw [hR])
  clear hx hT hR hS
  cases R
  · go_enter Tryd.func8, Tryd.ntmps8
    go_wp2_with (first
      | (go_at_call 21; refine (few_any t _ S 200 _ (fun b h => Nat.lt_of_lt_of_le (HS.out b h) HX.out.below.size) (HT.out.below HS.out HX.out.below) (by omega) (by omega)).mono ?_; rintro e w2 ⟨rfl, hb2⟩; rw [← HR.out]))
    go_ret
    exact ⟨by rw [HRB.out]; rfl, HX.out.below.trans (hb2.mono HX.out.below.size)⟩
  · go_enter Tryd.func8, Tryd.ntmps8
    go_wp2_with (first
      | (go_at_call 21; refine (few_any t _ S 200 _ (fun b h => Nat.lt_of_lt_of_le (HS.out b h) HX.out.below.size) (HT.out.below HS.out HX.out.below) (by omega) (by omega)).mono ?_; rintro e w2 ⟨rfl, hb2⟩; rw [← HR.out]; (obtain ⟨f0, f1, f2, f3, f4, f5, f6, f7, f8⟩ := (HX.out.step hb2).c9); have HB2 := Lib.hid (HX.out.step hb2); clear hb2)
      | (go_at_call 22; refine (is_any t _ S true _ (fun b h => Nat.lt_of_lt_of_le (HS.out b h) HB2.out.below.size) (HT.out.below HS.out HB2.out.below)).mono ?_; rintro e w4 ⟨rfl, hb4⟩; have HB4 := Lib.hid (HB2.out.step hb4); clear hb4))
    go_ret
    exact ⟨by rw [HRB.out]; rfl, HB4.out.below⟩

def rightFB (t : Tr) : Bool := fewB t 200 && isF t false
set_option maxRecDepth 100000 in
set_option maxHeartbeats 2000000 in
theorem rightF_any (t : Tr) (cs : List Value) (S : Nat → Prop) (w : World) (hS : ∀ b, S b → b < w.heap.size) (hT : TreeAt w S t cs) :
    Calls Tryd.prog 8 #[.agg cs.toArray, .bool false] w fun e w' => e = .returned (.bool (rightFB t)) ∧ Below w.heap.size w w' := by
  obtain ⟨A1, n1, c1, A2, n2, c2, k, neg, nm, ex, rl, tr, al, rfl⟩ := hT.nine
  have hx := Box.new w #[.int .i64 k, .bool neg, .slice A1 n1 c1, .string nm, .int .i64 ex, .int .i64 rl, .bool tr, .bool al, .slice A2 n2 c2] TT
  have HX := Lib.hid hx
  have HT := Lib.hid hT
  have HS := Lib.hid hS
  obtain ⟨R, hR⟩ : ∃ R, R = fewB t 200 := ⟨_, rfl⟩
  have HR := Lib.hid hR
  have HRB := Lib.hid (show rightFB t = (R && isF t false) by unfold rightFB; rw [hR])
  clear hx hT hR hS
  cases R
  · go_enter Tryd.func8, Tryd.ntmps8
    go_wp2_with (first
      | (go_at_call 21; refine (few_any t _ S 200 _ (fun b h => Nat.lt_of_lt_of_le (HS.out b h) HX.out.below.size) (HT.out.below HS.out HX.out.below) (by omega) (by omega)).mono ?_; rintro e w2 ⟨rfl, hb2⟩; rw [← HR.out]))
    go_ret
    exact ⟨by rw [HRB.out]; rfl, HX.out.below.trans (hb2.mono HX.out.below.size)⟩
  · go_enter Tryd.func8, Tryd.ntmps8
    go_wp2_with (first
      | (go_at_call 21; refine (few_any t _ S 200 _ (fun b h => Nat.lt_of_lt_of_le (HS.out b h) HX.out.below.size) (HT.out.below HS.out HX.out.below) (by omega) (by omega)).mono ?_; rintro e w2 ⟨rfl, hb2⟩; rw [← HR.out]; (obtain ⟨f0, f1, f2, f3, f4, f5, f6, f7, f8⟩ := (HX.out.step hb2).c9); have HB2 := Lib.hid (HX.out.step hb2); clear hb2)
      | (go_at_call 22; refine (is_any t _ S false _ (fun b h => Nat.lt_of_lt_of_le (HS.out b h) HB2.out.below.size) (HT.out.below HS.out HB2.out.below)).mono ?_; rintro e w4 ⟨rfl, hb4⟩; have HB4 := Lib.hid (HB2.out.step hb4); clear hb4))
    go_ret
    exact ⟨by rw [HRB.out]; rfl, HB4.out.below⟩

mutual
theorem nn_canT : ∀ t : Tr, nn (canonT t) = nn t
  | .mk h ks => by rw [canonT_mk]; unfold nn; rw [nnL_canL ks]
theorem nnL_canL : ∀ ks : List Tr, nnL (canonL ks) = nnL ks
  | [] => by unfold canonL; rfl
  | k :: ks => by unfold canonL nnL; rw [nn_canT k, nnL_canL ks]
end
set_option maxRecDepth 100000 in
set_option maxHeartbeats 4000000 in
/-- the reference's canonical form -/
theorem rcanon_any (t : Tr) (cs : List Value) (S : Nat → Prop) (w : World) (hS : ∀ b, S b → b < w.heap.size) (hT : TreeAt w S t cs) (hsm : Sm t) (hnn : nn t ≤ 100000) :
    Calls Tryd.prog 17 #[.agg cs.toArray] w (TreePost (plusT (canonT t)) w) := by
  obtain ⟨A1, n1, c1, A2, n2, c2, k, neg, nm, ex, rl, tr, al, rfl⟩ := hT.nine
  have hx := (Box.new w #[.int .i64 k, .bool neg, .slice A1 n1 c1, .string nm, .int .i64 ex, .int .i64 rl, .bool tr, .bool al, .slice A2 n2 c2] TT).alloc (.cells #[.int .i64 0, .bool false, .slice none 0 0, .string ⟨#[]⟩, .int .i64 0, .int .i64 0, .bool false, .bool false, .slice none 0 0] TT)
  have hy := Box.second w (.cells #[.int .i64 k, .bool neg, .slice A1 n1 c1, .string nm, .int .i64 ex, .int .i64 rl, .bool tr, .bool al, .slice A2 n2 c2] TT) #[.int .i64 0, .bool false, .slice none 0 0, .string ⟨#[]⟩, .int .i64 0, .int .i64 0, .bool false, .bool false, .slice none 0 0] TT
  have HC := Lib.hid (fun w' (hb : Below w.heap.size w w') => canon_any t _ S w' (fun b h => Nat.lt_of_lt_of_le (hS b h) hb.size) (hT.below hS hb) hsm hnn)
  have HN := Lib.hid (show nn (canonT t) ≤ 100000 by rw [nn_canT]; exact hnn)
  have HX := Lib.hid hx
  have HY := Lib.hid hy
  obtain ⟨C, hC⟩ : ∃ C, C = canonT t := ⟨_, rfl⟩
  rw [← hC] at HC HN ⊢
  clear hx hy hT hS hsm hnn hC
  go_enter Tryd.func17, Tryd.ntmps17
  go_wp2_with fail
  refine (HC.out _ HX.out.below).mono ?_
  rintro e w1 ⟨a1, a2, a3, a4, a5, a6, rfl, hTC, hb1⟩
  have hP := plus_any C _ (Fr _ w1) w1 (fun b h => h.2) hTC HN.out
  unfold hdC at hP
  have HP := Lib.hid hP
  have HX1 := Lib.hid (HX.out.step hb1)
  have HY1 := Lib.hid (HY.out.step hb1)
  have HB1 := Lib.hid hb1
  clear hP hTC hb1
  go_wp2_with fail
  refine HP.out.mono ?_
  rintro e w2 ⟨b1, b2, b3, b4, b5, b6, rfl, hT2, hb2⟩
  have HT2 := Lib.hid hT2
  have hbY := HY1.out.step hb2
  have xc := hbY.cell
  have xf := hbY.fz
  have HBY := Lib.hid hbY
  have HB2 := Lib.hid hb2
  clear hT2 hb2 hbY
  go_wp2_with fail
  refine bodyPost_ret (v := .agg #[.int .i64 (plusT C).h.k, .bool (plusT C).h.neg, .slice b1 b2 b3, .string (plusT C).h.name, .int .i64 (plusT C).h.exp, .int .i64 (plusT C).h.rel, .bool (plusT C).h.truth, .bool (plusT C).h.all, .slice b4 b5 b6]) (by simp [results, Tryd.results17, go_sem, xc, xf]) rfl ?_
  have hbel := HBY.out.below
  refine ⟨b1, b2, b3, b4, b5, b6, rfl, TreeAt.more (fun b hb => ?_) _ _ (HT2.out.set9 (X := w.heap.size + 1) (fun h => ?_) _ _ _ _ _ _ _ _ _), below_set9 hbel (Nat.le_succ _) _ _ _ _ _ _ _ _ _⟩
  · show w.heap.size ≤ b ∧ b < (set9 w2 (w.heap.size + 1) _ _ _ _ _ _ _ _ _).heap.size
    rw [size_set9]
    have h1 := HB1.out.size
    have h2 := HB2.out.size
    have h3 := hbel.size
    simp at h1
    rcases hb with hb | hb
    · have h4 := hb.1; have h5 := hb.2; simp at h4; exact ⟨by omega, by omega⟩
    · exact ⟨by have := hb.1; omega, hb.2⟩
  · have h1 := HB1.out.size
    simp at h1
    rcases h with h | h
    · have := h.1; simp at this; omega
    · have := h.1; omega

/-! ### numbers replaced, on trees and on terms -/
mutual
theorem plus_pos : ∀ t : Tr, NmT t → plusT t = posT t
  | .mk h ks, hn => by
    unfold NmT at hn
    by_cases hq : h.k = 1 ∧ h.neg = true
    · rw [plus_num hq, posT_num hq.1 (by rw [hn.2.1]; exact hq.2), hn.1]
    · rw [plus_mk hq, posT_mk (by rw [hn.2.1]; exact hq), ← plusL_map, plusL_pos ks hn.2.2]
theorem plusL_pos : ∀ ks : List Tr, NmL ks → plusL ks = posL ks
  | [], _ => by unfold plusL posL; rfl
  | k :: ks, hn => by
    unfold NmL at hn
    unfold plusL posL
    rw [plus_pos k hn.1, plusL_pos ks hn.2]
end
theorem posT_one (h : Hd) (hk : h.k ≠ 1) (ks : List Tr) : posT (.mk h ks) = .mk h (posL ks) := posT_mk (fun e => hk e.1)
theorem posL_two (a b : Tr) : posL [a, b] = [posT a, posT b] := by rw [posL_map]; rfl
theorem posL_one (a : Tr) : posL [a] = [posT a] := by rw [posL_map]; rfl
theorem plain_pr : ∀ t : Tm, plainT (prT t) = posT (plainT t)
  | .odd => by rw [show prT .odd = .num false [] from rfl]; rw [show plainT .odd = .mk (hd0 1) [] from rfl, posT_mk (by simp [hd0, normB])]; unfold posL; rfl
  | .num n l => by
    show plainT (posTm (.num (normB n l) (trimN l))) = posT (.mk { hd0 1 with neg := normB n l, abs := trimN l } [])
    have e := normB_idem n l
    cases hb : normB n l with
    | false =>
      rw [hb] at e
      rw [posT_mk (fun h => by have := h.2; rw [e] at this; cases this)]
      unfold posL
      show Tr.mk { hd0 1 with neg := normB false (trimN l), abs := trimN (trimN l) } [] = _
      rw [e, trimN_idem]
    | true =>
      rw [hb] at e
      rw [posT_num rfl e]
      show Tr.mk (hd0 6) [.mk { hd0 1 with neg := normB false (trimN l), abs := trimN (trimN l) } []] = _
      rfl
  | .name s => by rw [show plainT (.name s) = .mk { hd0 2 with name := s } [] from rfl, posT_one _ (by simp [hd0])]; unfold posL; rfl
  | .add l r => by rw [show plainT (.add l r) = .mk (hd0 3) [plainT l, plainT r] from rfl, posT_one _ (by simp [hd0]), posL_two, ← plain_pr l, ← plain_pr r]; rfl
  | .sub l r => by rw [show plainT (.sub l r) = .mk (hd0 4) [plainT l, plainT r] from rfl, posT_one _ (by simp [hd0]), posL_two, ← plain_pr l, ← plain_pr r]; rfl
  | .mul l r => by rw [show plainT (.mul l r) = .mk (hd0 5) [plainT l, plainT r] from rfl, posT_one _ (by simp [hd0]), posL_two, ← plain_pr l, ← plain_pr r]; rfl
  | .neg t => by rw [show plainT (.neg t) = .mk (hd0 6) [plainT t] from rfl, posT_one _ (by simp [hd0]), posL_one, ← plain_pr t]; rfl
  | .pow t e => by
    rw [show plainT (.pow t e) = .mk { hd0 7 with exp := max e 0 } [plainT t] from rfl, posT_one _ (by simp [hd0]), posL_one, ← plain_pr t]
    show Tr.mk { hd0 7 with exp := max (max e 0) 0 } [plainT (prT t)] = _
    rw [show max (max e 0) 0 = max e 0 by omega]
theorem relR_idem (e : Int) : relR (relR e) = relR e := by
  obtain ⟨h1, h2⟩ := relR_in e
  show (if relR e < 1 ∨ 6 < relR e then 3 else relR e) = relR e
  rw [if_neg (by omega)]
theorem plainF_pr : ∀ f : Fo, plainF (prF f) = posT (plainF f)
  | .odd => by rw [show plainF .odd = .mk { hd0 8 with truth := false } [] from rfl, posT_one _ (by simp [hd0])]; unfold posL; rfl
  | .truth b => by rw [show plainF (.truth b) = .mk { hd0 8 with truth := b } [] from rfl, posT_one _ (by simp [hd0])]; unfold posL; rfl
  | .atom l e r => by
    rw [show plainF (.atom l e r) = .mk { hd0 9 with rel := relR e } [plainT l, plainT r] from rfl, posT_one _ (by simp [hd0]), posL_two, ← plain_pr l, ← plain_pr r]
    show Tr.mk { hd0 9 with rel := relR (relR e) } [plainT (prT l), plainT (prT r)] = _
    rw [relR_idem]
  | .not f => by rw [show plainF (.not f) = .mk (hd0 10) [plainF f] from rfl, posT_one _ (by simp [hd0]), posL_one, ← plainF_pr f]; rfl
  | .and l r => by rw [show plainF (.and l r) = .mk (hd0 11) [plainF l, plainF r] from rfl, posT_one _ (by simp [hd0]), posL_two, ← plainF_pr l, ← plainF_pr r]; rfl
  | .or l r => by rw [show plainF (.or l r) = .mk (hd0 12) [plainF l, plainF r] from rfl, posT_one _ (by simp [hd0]), posL_two, ← plainF_pr l, ← plainF_pr r]; rfl
  | .implies l r => by rw [show plainF (.implies l r) = .mk (hd0 13) [plainF l, plainF r] from rfl, posT_one _ (by simp [hd0]), posL_two, ← plainF_pr l, ← plainF_pr r]; rfl
  | .iff l r => by rw [show plainF (.iff l r) = .mk (hd0 14) [plainF l, plainF r] from rfl, posT_one _ (by simp [hd0]), posL_two, ← plainF_pr l, ← plainF_pr r]; rfl
  | .quant a n f => by rw [show plainF (.quant a n f) = .mk { hd0 15 with name := n, all := a } [plainF f] from rfl, posT_one _ (by simp [hd0]), posL_one, ← plainF_pr f]; rfl

/-! ### ranges and lengths -/
def bdT : Tm → Prop
  | .num _ l => l.length ≤ 20 ∧ ∀ x ∈ l, x < 4294967296
  | .name s => s.size ≤ 40
  | .add l r => bdT l ∧ bdT r
  | .sub l r => bdT l ∧ bdT r
  | .mul l r => bdT l ∧ bdT r
  | .neg t => bdT t
  | .pow t e => bdT t ∧ e ≤ 9223372036854775807
  | .odd => True
def bdF : Fo → Prop
  | .atom l _ r => bdT l ∧ bdT r
  | .not f => bdF f
  | .and l r => bdF l ∧ bdF r
  | .or l r => bdF l ∧ bdF r
  | .implies l r => bdF l ∧ bdF r
  | .iff l r => bdF l ∧ bdF r
  | .quant _ n f => n.size ≤ 40 ∧ bdF f
  | _ => True
theorem wf_exp {e : Int} (h : (Lit.int .i64 e).wf = true) : e ≤ 9223372036854775807 := by
  have : -9223372036854775808 ≤ e ∧ e ≤ 9223372036854775807 := by simpa [Lit.wf, IntKind.min, IntKind.max, IntKind.bits, IntKind.signed] using h
  exact this.2
theorem bd_of {t : Tr} {tm : Tm} (h : RT t tm) : Sm t → WfT t → bdT tm := by
  induction h with
  | num h hk => intro hs hw; unfold Sm at hs; unfold WfT at hw; exact ⟨Nat.le_trans (trimN_le h.abs) hs.1, fun x hx => hw.1.2 x (List.mem_of_mem_take hx)⟩
  | name h hk => intro hs hw; unfold Sm at hs; exact hs.2.1
  | add h a b p q hk ha hb ia ib => intro hs hw; unfold Sm SmL SmL SmL at hs; unfold WfT WfL WfL WfL at hw; exact ⟨ia hs.2.2.1 hw.2.1, ib hs.2.2.2.1 hw.2.2.1⟩
  | sub h a b p q hk ha hb ia ib => intro hs hw; unfold Sm SmL SmL SmL at hs; unfold WfT WfL WfL WfL at hw; exact ⟨ia hs.2.2.1 hw.2.1, ib hs.2.2.2.1 hw.2.2.1⟩
  | mul h a b p q hk ha hb ia ib => intro hs hw; unfold Sm SmL SmL SmL at hs; unfold WfT WfL WfL WfL at hw; exact ⟨ia hs.2.2.1 hw.2.1, ib hs.2.2.2.1 hw.2.2.1⟩
  | neg h a p hk ha ia => intro hs hw; unfold Sm SmL SmL at hs; unfold WfT WfL WfL at hw; exact ia hs.2.2.1 hw.2.1
  | pow h a p hk he ha ia => intro hs hw; unfold Sm SmL SmL at hs; unfold WfT WfL WfL at hw; exact ⟨ia hs.2.2.1 hw.2.1, wf_exp hw.1.1⟩
theorem bdF_of {t : Tr} {f : Fo} (h : RF t f) : Sm t → WfT t → bdF f := by
  induction h with
  | truth h hk => intro hs hw; trivial
  | atom h a b p q hk hr ha hb => intro hs hw; unfold Sm SmL SmL SmL at hs; unfold WfT WfL WfL WfL at hw; exact ⟨bd_of ha hs.2.2.1 hw.2.1, bd_of hb hs.2.2.2.1 hw.2.2.1⟩
  | not h a p hk ha ia => intro hs hw; unfold Sm SmL SmL at hs; unfold WfT WfL WfL at hw; exact ia hs.2.2.1 hw.2.1
  | and h a b p q hk ha hb ia ib => intro hs hw; unfold Sm SmL SmL SmL at hs; unfold WfT WfL WfL WfL at hw; exact ⟨ia hs.2.2.1 hw.2.1, ib hs.2.2.2.1 hw.2.2.1⟩
  | or h a b p q hk ha hb ia ib => intro hs hw; unfold Sm SmL SmL SmL at hs; unfold WfT WfL WfL WfL at hw; exact ⟨ia hs.2.2.1 hw.2.1, ib hs.2.2.2.1 hw.2.2.1⟩
  | implies h a b p q hk ha hb ia ib => intro hs hw; unfold Sm SmL SmL SmL at hs; unfold WfT WfL WfL WfL at hw; exact ⟨ia hs.2.2.1 hw.2.1, ib hs.2.2.2.1 hw.2.2.1⟩
  | iff h a b p q hk ha hb ia ib => intro hs hw; unfold Sm SmL SmL SmL at hs; unfold WfT WfL WfL WfL at hw; exact ⟨ia hs.2.2.1 hw.2.1, ib hs.2.2.2.1 hw.2.2.1⟩
  | quant h a p hk ha ia => intro hs hw; unfold Sm SmL SmL at hs; unfold WfT WfL WfL at hw; exact ⟨hs.2.1, ia hs.2.2.1 hw.2.1⟩
theorem bd_pr : ∀ t : Tm, bdT t → bdT (prT t)
  | .odd, _ => ⟨Nat.zero_le _, fun x h => absurd h List.not_mem_nil⟩
  | .num n l, h => by
    show bdT (posTm (.num (normB n l) (trimN l)))
    have h1 : bdT (.num false (trimN l)) := ⟨Nat.le_trans (trimN_le l) h.1, fun x hx => h.2 x (List.mem_of_mem_take hx)⟩
    cases normB n l with
    | false => exact h1
    | true => exact h1
  | .name s, h => h
  | .add l r, h => ⟨bd_pr l h.1, bd_pr r h.2⟩
  | .sub l r, h => ⟨bd_pr l h.1, bd_pr r h.2⟩
  | .mul l r, h => ⟨bd_pr l h.1, bd_pr r h.2⟩
  | .neg t, h => bd_pr t h
  | .pow t e, h => ⟨bd_pr t h.1, by have := h.2; show max e 0 ≤ _; omega⟩
theorem bdF_pr : ∀ f : Fo, bdF f → bdF (prF f)
  | .odd, _ => trivial
  | .truth b, _ => trivial
  | .atom l e r, h => ⟨bd_pr l h.1, bd_pr r h.2⟩
  | .not f, h => bdF_pr f h
  | .and l r, h => ⟨bdF_pr l h.1, bdF_pr r h.2⟩
  | .or l r, h => ⟨bdF_pr l h.1, bdF_pr r h.2⟩
  | .implies l r, h => ⟨bdF_pr l h.1, bdF_pr r h.2⟩
  | .iff l r, h => ⟨bdF_pr l h.1, bdF_pr r h.2⟩
  | .quant a n f, h => ⟨h.1, bdF_pr f h.2⟩
theorem tn_pr : ∀ t : Tm, tn (prT t) ≤ 2 * tn t
  | .odd => by decide
  | .num n l => by
    show tn (posTm (.num (normB n l) (trimN l))) ≤ 2 * 1
    cases normB n l with
    | false => exact Nat.le_succ 1
    | true => exact Nat.le_refl 2
  | .name s => Nat.le_succ 1
  | .add l r => by have := tn_pr l; have := tn_pr r; show tn (prT l) + tn (prT r) + 1 ≤ 2 * (tn l + tn r + 1); omega
  | .sub l r => by have := tn_pr l; have := tn_pr r; show tn (prT l) + tn (prT r) + 1 ≤ 2 * (tn l + tn r + 1); omega
  | .mul l r => by have := tn_pr l; have := tn_pr r; show tn (prT l) + tn (prT r) + 1 ≤ 2 * (tn l + tn r + 1); omega
  | .neg t => by have := tn_pr t; show tn (prT t) + 1 ≤ 2 * (tn t + 1); omega
  | .pow t e => by have := tn_pr t; show tn (prT t) + 1 ≤ 2 * (tn t + 1); omega
theorem fnn_pr : ∀ f : Fo, fnn (prF f) ≤ 2 * fnn f
  | .odd => by decide
  | .truth b => Nat.le_succ 1
  | .atom l e r => by have := tn_pr l; have := tn_pr r; show tn (prT l) + tn (prT r) + 1 ≤ 2 * (tn l + tn r + 1); omega
  | .not f => by have := fnn_pr f; show fnn (prF f) + 1 ≤ 2 * (fnn f + 1); omega
  | .and l r => by have := fnn_pr l; have := fnn_pr r; show fnn (prF l) + fnn (prF r) + 1 ≤ 2 * (fnn l + fnn r + 1); omega
  | .or l r => by have := fnn_pr l; have := fnn_pr r; show fnn (prF l) + fnn (prF r) + 1 ≤ 2 * (fnn l + fnn r + 1); omega
  | .implies l r => by have := fnn_pr l; have := fnn_pr r; show fnn (prF l) + fnn (prF r) + 1 ≤ 2 * (fnn l + fnn r + 1); omega
  | .iff l r => by have := fnn_pr l; have := fnn_pr r; show fnn (prF l) + fnn (prF r) + 1 ≤ 2 * (fnn l + fnn r + 1); omega
  | .quant a n f => by have := fnn_pr f; show fnn (prF f) + 1 ≤ 2 * (fnn f + 1); omega
theorem fmt_len (neg : Bool) (N k : Nat) (hk : 1 ≤ k) (h : (revd N).length ≤ k) : (fmtS neg N).data.toList.length ≤ k + 1 := by
  show (fmtL neg N).length ≤ k + 1
  unfold fmtL
  split
  · simp
  · rw [List.length_append, List.length_map, List.length_reverse]
    split <;> simp <;> omega
theorem par_le (b : Bool) (s : List UInt8) : (par b s).length ≤ s.length + 2 := by
  unfold par; split <;> simp
theorem txt_len : ∀ t : Tm, bdT t → (txtT t).length ≤ 300 * tn t
  | .odd, _ => Nat.zero_le _
  | .num n l, h => by
    have := fmt_len n (valN l) 200 (by decide) (by have := revd_len_val l h.2; have := h.1; omega)
    show (fmtS n (valN l)).data.toList.length ≤ 300 * 1
    omega
  | .name s, h => by
    have : s.data.toList.length = s.size := rfl
    have h' : s.size ≤ 40 := h
    show s.data.toList.length ≤ 300 * 1
    omega
  | .add l r, h => by
    have h1 := txt_len l h.1
    have h2 := txt_len r h.2
    have h3 := par_le (decide (strT l < 1)) (txtT l)
    have h4 := par_le (decide (strT r < 2)) (txtT r)
    unfold txtT tn
    simp only [List.length_append, List.length_cons, List.length_nil]
    omega
  | .sub l r, h => by
    have h1 := txt_len l h.1
    have h2 := txt_len r h.2
    have h3 := par_le (decide (strT l < 1)) (txtT l)
    have h4 := par_le (decide (strT r < 2)) (txtT r)
    unfold txtT tn
    simp only [List.length_append, List.length_cons, List.length_nil]
    omega
  | .mul l r, h => by
    have h1 := txt_len l h.1
    have h2 := txt_len r h.2
    have h3 := par_le (decide (strT l < 2)) (txtT l)
    have h4 := par_le (decide (strT r < 3)) (txtT r)
    unfold txtT tn
    simp only [List.length_append, List.length_cons, List.length_nil]
    omega
  | .neg t, h => by
    have h1 := txt_len t h
    have h3 := par_le (decide (strT t < 3)) (txtT t)
    unfold txtT tn
    simp only [List.length_cons]
    omega
  | .pow t e, h => by
    have h1 := txt_len t h.1
    have h3 := par_le (decide (strT t < 5)) (txtT t)
    have h5 := fmt_len false e.toNat 40 (by decide) (revd_len 40 _ (Nat.lt_of_le_of_lt (m := 9223372036854775807) (by have := h.2; omega) (by decide)))
    unfold txtT tn
    simp only [List.length_append, List.length_cons]
    omega
theorem relS_len (e : Int) : (relS e).length ≤ 2 := by
  unfold relS
  split; decide
  split; decide
  split; decide
  split; decide
  split <;> decide
theorem txtF_len : ∀ f : Fo, bdF f → (txtF f).length ≤ 300 * fnn f
  | .odd, _ => Nat.zero_le _
  | .truth b, _ => by cases b <;> decide
  | .atom l e r, h => by
    have h1 := txt_len l h.1
    have h2 := txt_len r h.2
    have h3 := par_le (decide (strT l < 1)) (txtT l)
    have h4 := par_le (decide (strT r < 1)) (txtT r)
    have h5 := relS_len e
    unfold txtF fnn inT
    simp only [List.length_append, List.length_cons, List.length_nil]
    omega
  | .not f, h => by
    have h1 := txtF_len f h
    have h3 := par_le (decide (strF f < 5)) (txtF f)
    unfold txtF fnn
    simp only [List.length_append, List.length_cons, List.length_nil]
    omega
  | .and l r, h => by
    have h1 := txtF_len l h.1
    have h2 := txtF_len r h.2
    have h3 := par_le (decide (strF l < 4)) (txtF l)
    have h4 := par_le (decide (strF r < 5)) (txtF r)
    unfold txtF fnn
    simp only [List.length_append, List.length_cons, List.length_nil]
    omega
  | .or l r, h => by
    have h1 := txtF_len l h.1
    have h2 := txtF_len r h.2
    have h3 := par_le (decide (strF l < 3)) (txtF l)
    have h4 := par_le (decide (strF r < 4)) (txtF r)
    unfold txtF fnn
    simp only [List.length_append, List.length_cons, List.length_nil]
    omega
  | .implies l r, h => by
    have h1 := txtF_len l h.1
    have h2 := txtF_len r h.2
    have h3 := par_le (decide (strF l < 3)) (txtF l)
    have h4 := par_le (decide (strF r < 2)) (txtF r)
    unfold txtF fnn
    simp only [List.length_append, List.length_cons, List.length_nil]
    omega
  | .iff l r, h => by
    have h1 := txtF_len l h.1
    have h2 := txtF_len r h.2
    have h3 := par_le (decide (strF l < 1)) (txtF l)
    have h4 := par_le (decide (strF r < 2)) (txtF r)
    unfold txtF fnn
    simp only [List.length_append, List.length_cons, List.length_nil]
    omega
  | .quant a n f, h => by
    have h1 := txtF_len f h.2
    have h3 := par_le (decide (strF f < 0)) (txtF f)
    have h5 : n.data.toList.length = n.size := rfl
    have h6 := h.1
    unfold txtF fnn
    cases a <;> simp only [List.length_append, List.length_cons, List.length_nil, if_true, Bool.false_eq_true, if_false] <;> omega
theorem exp_pr : ∀ t : Tm, bdT t → ∀ e ∈ expT (prT t), 0 ≤ e ∧ e ≤ 9223372036854775807
  | .odd, _, e, he => absurd he List.not_mem_nil
  | .num n l, _, e, he => by
    have : expT (posTm (.num (normB n l) (trimN l))) = [] := by cases normB n l <;> rfl
    have he' : e ∈ expT (posTm (.num (normB n l) (trimN l))) := he
    rw [this] at he'
    exact absurd he' List.not_mem_nil
  | .name s, _, e, he => absurd he List.not_mem_nil
  | .add l r, h, e, he => by rcases List.mem_append.1 he with he | he; exact exp_pr l h.1 e he; exact exp_pr r h.2 e he
  | .sub l r, h, e, he => by rcases List.mem_append.1 he with he | he; exact exp_pr l h.1 e he; exact exp_pr r h.2 e he
  | .mul l r, h, e, he => by rcases List.mem_append.1 he with he | he; exact exp_pr l h.1 e he; exact exp_pr r h.2 e he
  | .neg t, h, e, he => exp_pr t h e he
  | .pow t x, h, e, he => by
    rcases List.mem_cons.1 he with he | he
    · subst he; have := h.2; omega
    · exact exp_pr t h.1 e he
theorem expF_pr : ∀ f : Fo, bdF f → ∀ e ∈ expF (prF f), 0 ≤ e ∧ e ≤ 9223372036854775807
  | .odd, _, e, he => absurd he List.not_mem_nil
  | .truth b, _, e, he => absurd he List.not_mem_nil
  | .atom l x r, h, e, he => by rcases List.mem_append.1 he with he | he; exact exp_pr l h.1 e he; exact exp_pr r h.2 e he
  | .not f, h, e, he => expF_pr f h e he
  | .and l r, h, e, he => by rcases List.mem_append.1 he with he | he; exact expF_pr l h.1 e he; exact expF_pr r h.2 e he
  | .or l r, h, e, he => by rcases List.mem_append.1 he with he | he; exact expF_pr l h.1 e he; exact expF_pr r h.2 e he
  | .implies l r, h, e, he => by rcases List.mem_append.1 he with he | he; exact expF_pr l h.1 e he; exact expF_pr r h.2 e he
  | .iff l r, h, e, he => by rcases List.mem_append.1 he with he | he; exact expF_pr l h.1 e he; exact expF_pr r h.2 e he
  | .quant a n f, h, e, he => expF_pr f h.2 e he
theorem tnn_eq {t : Tr} {tm : Tm} (h : RT t tm) : tn tm = nn t := by
  induction h with
  | num h hk => unfold nn nnL; simp [tn]
  | name h hk => unfold nn nnL; simp [tn]
  | add h a b p q hk ha hb ia ib => unfold nn nnL nnL nnL tn; omega
  | sub h a b p q hk ha hb ia ib => unfold nn nnL nnL nnL tn; omega
  | mul h a b p q hk ha hb ia ib => unfold nn nnL nnL nnL tn; omega
  | neg h a p hk ha ia => unfold nn nnL nnL tn; omega
  | pow h a p hk he ha ia => unfold nn nnL nnL tn; omega
theorem fnnn_eq {t : Tr} {f : Fo} (h : RF t f) : fnn f = nn t := by
  induction h with
  | truth h hk => unfold nn nnL; simp [fnn]
  | atom h a b p q hk hr ha hb => have := tnn_eq ha; have := tnn_eq hb; unfold nn nnL nnL nnL fnn; omega
  | not h a p hk ha ia => unfold nn nnL nnL fnn; omega
  | and h a b p q hk ha hb ia ib => unfold nn nnL nnL nnL fnn; omega
  | or h a b p q hk ha hb ia ib => unfold nn nnL nnL nnL fnn; omega
  | implies h a b p q hk ha hb ia ib => unfold nn nnL nnL nnL fnn; omega
  | iff h a b p q hk ha hb ia ib => unfold nn nnL nnL nnL fnn; omega
  | quant h a p hk ha ia => unfold nn nnL nnL fnn; omega
end Pr
end Go.Proofs.YtkjbfomokdjbnaaDoor
