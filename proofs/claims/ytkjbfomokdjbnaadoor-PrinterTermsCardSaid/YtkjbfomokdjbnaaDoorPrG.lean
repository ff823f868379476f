/-
  printer.Canonical, printer.Format, printer.Term.
-/
import Derived.Test.YtkjbfomokdjbnaaDoorPrN
import Derived.Test.YtkjbfomokdjbnaaDoorPrP
import Derived.Test.YtkjbfomokdjbnaaDoorSpF
import Derived.Test.YtkjbfomokdjbnaaDoorFmOf
namespace Go.Proofs.YtkjbfomokdjbnaaDoor
open Go.RowKit
set_option linter.unusedSimpArgs false
set_option linter.unusedVariables false
namespace Pr
open Fm Dc

/-! ### what counts as something else, written as that -/
def canTm : Tm → Tm
  | .odd => .num false []
  | .num n l => .num (normB n l) (trimN l)
  | .name s => .name s
  | .add l r => .add (canTm l) (canTm r)
  | .sub l r => .sub (canTm l) (canTm r)
  | .mul l r => .mul (canTm l) (canTm r)
  | .neg t => .neg (canTm t)
  | .pow t e => .pow (canTm t) (max e 0)
def canFo : Fo → Fo
  | .odd => .truth false
  | .truth b => .truth b
  | .atom l e r => .atom (canTm l) (relR e) (canTm r)
  | .not f => .not (canFo f)
  | .and l r => .and (canFo l) (canFo r)
  | .or l r => .or (canFo l) (canFo r)
  | .implies l r => .implies (canFo l) (canFo r)
  | .iff l r => .iff (canFo l) (canFo r)
  | .quant a n f => .quant a n (canFo f)
theorem rt_can : ∀ t : Tm, RT (plainT t) (canTm t)
  | .odd => RT.num (hd0 1) rfl
  | .num n l => by
    have h := RT.num { hd0 1 with neg := normB n l, abs := trimN l } rfl
    have e1 : normB (normB n l) (trimN l) = normB n l := normB_idem n l
    have e2 : trimN (trimN l) = trimN l := trimN_idem l
    simp only [e1, e2] at h
    exact h
  | .name s => RT.name { hd0 2 with name := s } rfl
  | .add l r => RT.add (hd0 3) _ _ _ _ rfl (rt_can l) (rt_can r)
  | .sub l r => RT.sub (hd0 4) _ _ _ _ rfl (rt_can l) (rt_can r)
  | .mul l r => RT.mul (hd0 5) _ _ _ _ rfl (rt_can l) (rt_can r)
  | .neg t => RT.neg (hd0 6) _ _ rfl (rt_can t)
  | .pow t e => RT.pow { hd0 7 with exp := max e 0 } _ _ rfl (by show 0 ≤ max e 0; omega) (rt_can t)
theorem relR_in (r : Int) : 1 ≤ relR r ∧ relR r ≤ 6 := by unfold relR; split <;> omega
theorem rf_can : ∀ f : Fo, RF (plainF f) (canFo f)
  | .odd => RF.truth (hd0 8) rfl
  | .truth b => RF.truth { hd0 8 with truth := b } rfl
  | .atom l e r => RF.atom { hd0 9 with rel := relR e } _ _ _ _ rfl (relR_in e) (rt_can l) (rt_can r)
  | .not f => RF.not (hd0 10) _ _ rfl (rf_can f)
  | .and l r => RF.and (hd0 11) _ _ _ _ rfl (rf_can l) (rf_can r)
  | .or l r => RF.or (hd0 12) _ _ _ _ rfl (rf_can l) (rf_can r)
  | .implies l r => RF.implies (hd0 13) _ _ _ _ rfl (rf_can l) (rf_can r)
  | .iff l r => RF.iff (hd0 14) _ _ _ _ rfl (rf_can l) (rf_can r)
  | .quant a n f => RF.quant { hd0 15 with all := a, name := n } _ _ rfl (rf_can f)
/-- the term, the formula that is written -/
def prT (t : Tm) : Tm := posTm (canTm t)
def prF (f : Fo) : Fo := posF (canFo f)
theorem evT_pos {t : Tm} (h : evT t) : evT (posTm t) := by
  induction t with
  | num n l => cases n <;> exact trivial
  | add l r il ir => exact ⟨il h.1, ir h.2⟩
  | sub l r il ir => exact ⟨il h.1, ir h.2⟩
  | mul l r il ir => exact ⟨il h.1, ir h.2⟩
  | neg t it => exact it h
  | pow t e it => exact it h
  | name s => exact trivial
  | odd => exact h
theorem evT_can : ∀ t : Tm, evT (canTm t)
  | .odd => trivial
  | .num n l => trivial
  | .name s => trivial
  | .add l r => ⟨evT_can l, evT_can r⟩
  | .sub l r => ⟨evT_can l, evT_can r⟩
  | .mul l r => ⟨evT_can l, evT_can r⟩
  | .neg t => evT_can t
  | .pow t e => evT_can t
theorem evF_pr : ∀ f : Fo, evF (prF f)
  | .odd => trivial
  | .truth b => trivial
  | .atom l e r => ⟨evT_pos (evT_can l), evT_pos (evT_can r)⟩
  | .not f => evF_pr f
  | .and l r => ⟨evF_pr l, evF_pr r⟩
  | .or l r => ⟨evF_pr l, evF_pr r⟩
  | .implies l r => ⟨evF_pr l, evF_pr r⟩
  | .iff l r => ⟨evF_pr l, evF_pr r⟩
  | .quant a n f => evF_pr f
theorem smT_pos {t : Tm} (h : SmT t) : SmT (posTm t) := by
  induction t with
  | num n l => cases n <;> exact h
  | add l r il ir => exact ⟨il h.1, ir h.2⟩
  | sub l r il ir => exact ⟨il h.1, ir h.2⟩
  | mul l r il ir => exact ⟨il h.1, ir h.2⟩
  | neg t it => exact it h
  | pow t e it => exact it h
  | name s => exact trivial
  | odd => exact trivial
theorem smT_can {t : Tm} (h : SmT t) : SmT (canTm t) := by
  induction t with
  | num n l => exact Nat.le_trans (trimN_le l) h
  | add l r il ir => exact ⟨il h.1, ir h.2⟩
  | sub l r il ir => exact ⟨il h.1, ir h.2⟩
  | mul l r il ir => exact ⟨il h.1, ir h.2⟩
  | neg t it => exact it h
  | pow t e it => exact it h
  | name s => exact trivial
  | odd => exact Nat.zero_le _
theorem smF_pr {f : Fo} (h : SmF f) : SmF (prF f) := by
  induction f with
  | odd => exact trivial
  | truth b => exact trivial
  | atom l e r => exact ⟨smT_pos (smT_can h.1), smT_pos (smT_can h.2)⟩
  | not f it => exact it h
  | and l r il ir => exact ⟨il h.1, ir h.2⟩
  | or l r il ir => exact ⟨il h.1, ir h.2⟩
  | implies l r il ir => exact ⟨il h.1, ir h.2⟩
  | iff l r il ir => exact ⟨il h.1, ir h.2⟩
  | quant a n f it => exact it h
mutual
theorem sm_pos : ∀ t : Tr, Sm t → Sm (posT t)
  | .mk h ks, hs => by
    unfold Sm at hs
    by_cases hq : h.k = 1 ∧ normB h.neg h.abs = true
    · rw [posT_num hq.1 hq.2]
      have := trimN_le h.abs
      unfold Sm SmL Sm SmL
      exact ⟨by decide, by decide, ⟨by show (trimN h.abs).length ≤ 20; omega, show (⟨#[]⟩ : ByteArray).size ≤ 40 from by decide, trivial⟩, trivial⟩
    · rw [posT_mk hq]
      unfold Sm
      exact ⟨hs.1, hs.2.1, smL_pos ks hs.2.2⟩
theorem smL_pos : ∀ ks : List Tr, SmL ks → SmL (posL ks)
  | [], _ => by unfold posL SmL; trivial
  | k :: ks, hs => by
    unfold SmL at hs
    unfold posL SmL
    exact ⟨sm_pos k hs.1, smL_pos ks hs.2⟩
end

theorem strF_pos : ∀ f : Fo, 0 ≤ strF f := by intro f; cases f <;> simp [strF]
theorem strT_pos : ∀ t : Tm, 1 ≤ strT t := by intro t; cases t <;> simp [strT]
theorem inF_zero (f : Fo) : inF f 0 = txtF f := by unfold inF; rw [decide_eq_false (by have := strF_pos f; omega)]; rfl
theorem inT_one (t : Tm) : inT t 1 = txtT t := by unfold inT; rw [decide_eq_false (by have := strT_pos t; omega)]; rfl

/-! ### Canonical -/
def CanPost (g : Fo) (w : World) (e : Ending) (w' : World) : Prop := ∃ v, e = .returned v ∧ FoAt w' (Fr w w') g v ∧ Below w.heap.size w w'
set_option maxRecDepth 100000 in
set_option maxHeartbeats 2000000 in
theorem canonical_any (f : Fo) (v : Value) (S : Nat → Prop) (w : World) (hS : ∀ b, S b → b < w.heap.size) (hT : FoAt w S f v) (hs : SmF f) (hsm : Sm (plainF f)) :
    Calls Tryd.prog 14 #[v] w (CanPost (prF f) w) := by
  have HP := Lib.hid (sp_any f v S w hS hT hs)
  have hov := hT.one
  obtain ⟨t, ht⟩ : ∃ t, t = plainF f := ⟨_, rfl⟩
  obtain ⟨g, hg⟩ : ∃ g, g = prF f := ⟨_, rfl⟩
  rw [← ht] at HP hsm
  rw [← hg]
  have HG := Lib.hid (show ofF (posT t) = some g by rw [ht, hg]; exact ofF_rf (rf_pos (rf_can f)))
  have HSM := Lib.hid hsm
  have HSP := Lib.hid (sm_pos t hsm)
  clear hT hS hs hsm ht hg
  go_enter Tryd.func14, Tryd.ntmps14
  go_wp2_with fail
  refine HP.out.mono ?_
  rintro e w1 ⟨A1, n1, c1, A2, n2, c2, rfl, hT, hb1⟩
  have hC := pos_any t _ (Fr w w1) w1 HSM.out (fun x hx => hx.2) hT
  unfold hdC at hC
  have HC := Lib.hid hC
  have HB1 := Lib.hid hb1
  clear hC hT hb1
  go_wp2_with fail
  refine HC.out.mono ?_
  rintro e w2 ⟨B1, m1, d1, B2, m2, d2, rfl, ⟨Sn, hT2, hSn⟩, hO⟩
  have hb2 : Below w.heap.size w w2 := HB1.out.trans (hO.below w.heap.size (fun x hx => hx.1) HB1.out.size)
  have hC := of_any (posT t) _ Sn w2 (fun x hx => (hSn x hx).2) (TreeSp.at_ _ _ _ hT2) HSP.out
  unfold hdC at hC
  have HC2 := Lib.hid hC
  have HB2 := Lib.hid hb2
  clear hC hT2 hSn hO hb2
  go_wp2_with fail
  refine HC2.out.mono ?_
  intro e w3 hq
  obtain ⟨v3, rfl, hv3, hb3⟩ := hq.yes HG.out
  have hov3 := hv3.one
  have HV3 := Lib.hid hv3
  have HB3 := Lib.hid hb3
  clear hq hv3 hb3
  go_wp2
  go_ret
  have h2 := HB2.out.size
  exact ⟨v3, rfl, FoAt.more (fun x hx => ⟨Nat.le_trans h2 hx.1, hx.2⟩) _ _ HV3.out, HB2.out.trans (HB3.out.mono h2)⟩

theorem Bo.fresh {w : World} {b : Nat} (hb : w.heap[b]? = some (.cells #[.pointer none, .slice none 0 0] TBld (0, 0))) : Bo b w.heap.size [] w :=
  ⟨(Array.getElem?_eq_some_iff.1 hb).1, Nat.le_refl _, _, _, .inl rfl, hb, ⟨by simp [Lib.byteCells], .inl ⟨rfl, rfl⟩⟩⟩

/-! ### Format -/
set_option maxRecDepth 100000 in
set_option maxHeartbeats 4000000 in
theorem format_err (f : Fo) (v : Value) (S : Nat → Prop) (w : World) (hS : ∀ b, S b → b < w.heap.size) (hT : FoAt w S f v) (hs : SmF f) (hn : nmdT (plainF f) = false) :
    Calls Tryd.prog 10 #[v] w fun e w' => e = .returned (.tuple #[.string ⟨#[]⟩, .int .i64 7]) ∧ Below w.heap.size w w' := by
  have HP := Lib.hid (sp_any f v S w hS hT hs)
  have hov := hT.one
  obtain ⟨t, ht⟩ : ∃ t, t = plainF f := ⟨_, rfl⟩
  rw [← ht] at HP hn
  have HN := Lib.hid hn
  clear hT hS hs ht hn
  go_enter Tryd.func10, Tryd.ntmps10
  go_wp2_with fail
  refine HP.out.mono ?_
  rintro e w1 ⟨A1, n1, c1, A2, n2, c2, rfl, hT, hb1⟩
  have hbel : Below w1.heap.size w1 (w1.alloc (.cells #[.int .i64 t.h.k, .bool t.h.neg, .slice A1 n1 c1, .string t.h.name, .int .i64 t.h.exp, .int .i64 t.h.rel, .bool t.h.truth, .bool t.h.all, .slice A2 n2 c2] TT)) := (Below.refl _ _).alloc (Nat.le_refl _) _
  have hC := named_any t _ (Fr w w1) (w1.alloc (.cells #[.int .i64 t.h.k, .bool t.h.neg, .slice A1 n1 c1, .string t.h.name, .int .i64 t.h.exp, .int .i64 t.h.rel, .bool t.h.truth, .bool t.h.all, .slice A2 n2 c2] TT)) (fun x hx => Nat.lt_of_lt_of_le hx.2 hbel.size) ((TreeSp.at_ _ _ _ hT).below (fun x hx => hx.2) hbel)
  unfold hdC at hC
  rw [HN.out] at hC
  have HC := Lib.hid hC
  have HB1 := Lib.hid (hb1.trans (hbel.mono hb1.size))
  clear hC hT hb1 hbel
  go_wp2_with fail
  refine HC.out.mono ?_
  rintro e w2 ⟨rfl, hb2⟩
  have HB2 := Lib.hid (HB1.out.trans (hb2.mono HB1.out.size))
  clear hb2
  go_wp2
  go_ret2
  exact ⟨rfl, HB2.out⟩

set_option maxRecDepth 100000 in
set_option maxHeartbeats 4000000 in
theorem format_ok (f : Fo) (v : Value) (S : Nat → Prop) (w : World) (hS : ∀ b, S b → b < w.heap.size) (hT : FoAt w S f v) (hs : SmF f) (hsm : Sm (plainF f)) (hn : nmdT (plainF f) = true)
    (hI : ∀ e ∈ expF (prF f), ItW w e) (hlen : (txtF (prF f)).length ≤ 140737488355328) (D : ByteArray) (hD : D = bsL (txtF (prF f))) :
    Calls Tryd.prog 10 #[v] w fun e w' => e = .returned (.tuple #[.string D, .int .i64 0]) ∧ Below w.heap.size w w' := by
  have HP := Lib.hid (sp_any f v S w hS hT hs)
  have hov := hT.one
  have HCN := Lib.hid (fun w' (hb : Below w.heap.size w w') => canonical_any f v S w' (fun x hx => Nat.lt_of_lt_of_le (hS x hx) hb.size) (hT.below hS hb) hs hsm)
  obtain ⟨t, ht⟩ : ∃ t, t = plainF f := ⟨_, rfl⟩
  obtain ⟨g, hg⟩ : ∃ g, g = prF f := ⟨_, rfl⟩
  have hsg : SmF g := by rw [hg]; exact smF_pr hs
  have heg : evF g := by rw [hg]; exact evF_pr f
  rw [← ht] at HP hn
  rw [← hg] at HCN hI hlen hD
  have HN := Lib.hid hn
  have HI := Lib.hid hI
  have HLEN := Lib.hid hlen
  have HD := Lib.hid hD
  have HSG := Lib.hid hsg
  have HEG := Lib.hid heg
  clear hT hS hs ht hn hI hlen hD hsg heg hg hsm
  go_enter Tryd.func10, Tryd.ntmps10
  go_wp2_with fail
  refine HP.out.mono ?_
  rintro e w1 ⟨A1, n1, c1, A2, n2, c2, rfl, hT, hb1⟩
  have hbel : Below w1.heap.size w1 (w1.alloc (.cells #[.int .i64 t.h.k, .bool t.h.neg, .slice A1 n1 c1, .string t.h.name, .int .i64 t.h.exp, .int .i64 t.h.rel, .bool t.h.truth, .bool t.h.all, .slice A2 n2 c2] TT)) := (Below.refl _ _).alloc (Nat.le_refl _) _
  have hC := named_any t _ (Fr w w1) (w1.alloc (.cells #[.int .i64 t.h.k, .bool t.h.neg, .slice A1 n1 c1, .string t.h.name, .int .i64 t.h.exp, .int .i64 t.h.rel, .bool t.h.truth, .bool t.h.all, .slice A2 n2 c2] TT)) (fun x hx => Nat.lt_of_lt_of_le hx.2 hbel.size) ((TreeSp.at_ _ _ _ hT).below (fun x hx => hx.2) hbel)
  unfold hdC at hC
  rw [HN.out] at hC
  have HC := Lib.hid hC
  have HB1 := Lib.hid (hb1.trans (hbel.mono hb1.size))
  clear hC hT hb1 hbel
  go_wp2_with fail
  refine HC.out.mono ?_
  rintro e w2 ⟨rfl, hb2⟩
  have HB2 := Lib.hid (HB1.out.trans (hb2.mono HB1.out.size))
  clear hb2
  go_wp2_with fail
  have hbel : Below w2.heap.size w2 (w2.alloc (.cells #[.pointer none, .slice none 0 0] TBld)) := (Below.refl _ _).alloc (Nat.le_refl _) _
  have HB3 := Lib.hid (HB2.out.trans (hbel.mono HB2.out.size))
  clear hbel
  refine (HCN.out _ HB3.out).mono ?_
  rintro e w4 ⟨v4, rfl, hv4, hb4⟩
  have hov4 := hv4.one
  have hbx := (hb4.block w2.heap.size (by simp)).trans (heap_alloc_new w2 (.cells #[.pointer none, .slice none 0 0] TBld))
  have HBO := Lib.hid (Bo.fresh hbx)
  have HB4 := Lib.hid (HB3.out.trans (hb4.mono HB3.out.size))
  have hsz4 := hb4.size
  simp at hsz4
  have HWF := Lib.hid (wf_any w g v4 (Fr (w2.alloc (.cells #[.pointer none, .slice none 0 0] TBld)) w4) w2.heap.size w4.heap.size [] 0 w4 HB4.out HB2.out.size
    (fun x hx => ⟨hx.2, by have h1 := hx.1; have h2 := hx.2; simp at h1; rintro (e | e) <;> omega⟩) hv4 HSG.out HEG.out HI.out HBO.out (by rw [inF_zero]; simpa using HLEN.out))
  clear hv4 hb4 hbx
  go_wp2_with fail
  refine HWF.out.mono ?_
  rintro e w5 ⟨rfl, hB5, hO5, hQ5⟩
  rw [inF_zero, List.nil_append] at hB5
  have hs5 := hO5.size
  have HB5 := Lib.hid (HB4.out.trans (hO5.below (B := w.heap.size) HB4.out.size (fun x hx => by have := HB2.out.size; rcases hx with h | h <;> omega)))
  have HST := Lib.hid (Builder_String_any_k w2.heap.size w2.heap.size _ w5 hB5.is (by omega))
  clear hB5 hO5 hQ5
  go_wp2_with fail
  refine HST.out.mono ?_
  rintro e w6 ⟨rfl, -, hb6, -⟩
  have HB6 := Lib.hid (HB5.out.trans (hb6.mono HB2.out.size))
  clear hb6
  go_wp2
  go_ret2
  exact ⟨by rw [HD.out]; rfl, HB6.out⟩

/-! ### Term -/
set_option maxRecDepth 100000 in
set_option maxHeartbeats 4000000 in
theorem term_err (f : Tm) (v : Value) (S : Nat → Prop) (w : World) (hS : ∀ b, S b → b < w.heap.size) (hT : TmAt w S f v) (hs : SmT f) (hn : nmdT (plainT f) = false) :
    Calls Tryd.prog 13 #[v] w fun e w' => e = .returned (.tuple #[.string ⟨#[]⟩, .int .i64 7]) ∧ Below w.heap.size w w' := by
  have HP := Lib.hid (spTerm_any f v S w hS hT hs)
  have hov := hT.one
  obtain ⟨t, ht⟩ : ∃ t, t = plainT f := ⟨_, rfl⟩
  rw [← ht] at HP hn
  have HN := Lib.hid hn
  clear hT hS hs ht hn
  go_enter Tryd.func13, Tryd.ntmps13
  go_wp2_with fail
  refine HP.out.mono ?_
  rintro e w1 ⟨A1, n1, c1, A2, n2, c2, rfl, hT, hb1⟩
  have hbel : Below w1.heap.size w1 (w1.alloc (.cells #[.int .i64 t.h.k, .bool t.h.neg, .slice A1 n1 c1, .string t.h.name, .int .i64 t.h.exp, .int .i64 t.h.rel, .bool t.h.truth, .bool t.h.all, .slice A2 n2 c2] TT)) := (Below.refl _ _).alloc (Nat.le_refl _) _
  have hC := named_any t _ (Fr w w1) (w1.alloc (.cells #[.int .i64 t.h.k, .bool t.h.neg, .slice A1 n1 c1, .string t.h.name, .int .i64 t.h.exp, .int .i64 t.h.rel, .bool t.h.truth, .bool t.h.all, .slice A2 n2 c2] TT)) (fun x hx => Nat.lt_of_lt_of_le hx.2 hbel.size) ((TreeSp.at_ _ _ _ hT).below (fun x hx => hx.2) hbel)
  unfold hdC at hC
  rw [HN.out] at hC
  have HC := Lib.hid hC
  have HB1 := Lib.hid (hb1.trans (hbel.mono hb1.size))
  clear hC hT hb1 hbel
  go_wp2_with fail
  refine HC.out.mono ?_
  rintro e w2 ⟨rfl, hb2⟩
  have HB2 := Lib.hid (HB1.out.trans (hb2.mono HB1.out.size))
  clear hb2
  go_wp2
  go_ret2
  exact ⟨rfl, HB2.out⟩

set_option maxRecDepth 100000 in
set_option maxHeartbeats 4000000 in
theorem term_ok (f : Tm) (v : Value) (S : Nat → Prop) (w : World) (hS : ∀ b, S b → b < w.heap.size) (hT : TmAt w S f v) (hs : SmT f) (hsm : Sm (plainT f)) (hn : nmdT (plainT f) = true)
    (hI : ∀ e ∈ expT (prT f), ItW w e) (hlen : (txtT (prT f)).length ≤ 140737488355328) (D : ByteArray) (hD : D = bsL (txtT (prT f))) :
    Calls Tryd.prog 13 #[v] w fun e w' => e = .returned (.tuple #[.string D, .int .i64 0]) ∧ Below w.heap.size w w' := by
  have HP := Lib.hid (spTerm_any f v S w hS hT hs)
  have hov := hT.one
  obtain ⟨t, ht⟩ : ∃ t, t = plainT f := ⟨_, rfl⟩
  obtain ⟨g, hg⟩ : ∃ g, g = prT f := ⟨_, rfl⟩
  have hsg : SmT g := by rw [hg]; exact smT_pos (smT_can hs)
  have heg : evT g := by rw [hg]; exact evT_pos (evT_can f)
  rw [← ht] at HP hn hsm
  rw [← hg] at hI hlen hD
  have HG := Lib.hid (show ofT (posT t) = some g by rw [ht, hg]; exact ofT_rt (rt_pos (rt_can f)))
  have HN := Lib.hid hn
  have HI := Lib.hid hI
  have HLEN := Lib.hid hlen
  have HD := Lib.hid hD
  have HSG := Lib.hid hsg
  have HEG := Lib.hid heg
  have HSM := Lib.hid hsm
  have HSP := Lib.hid (sm_pos t hsm)
  clear hT hS hs ht hn hI hlen hD hsg heg hg hsm
  go_enter Tryd.func13, Tryd.ntmps13
  go_wp2_with fail
  refine HP.out.mono ?_
  rintro e w1 ⟨A1, n1, c1, A2, n2, c2, rfl, hT, hb1⟩
  have hx := Box.new w1 #[.int .i64 t.h.k, .bool t.h.neg, .slice A1 n1 c1, .string t.h.name, .int .i64 t.h.exp, .int .i64 t.h.rel, .bool t.h.truth, .bool t.h.all, .slice A2 n2 c2] TT
  have hbel := hx.below
  have hT1 := hT.below (fun x hx => hx.2) hbel
  have hC := named_any t _ (Fr w w1) (w1.alloc (.cells #[.int .i64 t.h.k, .bool t.h.neg, .slice A1 n1 c1, .string t.h.name, .int .i64 t.h.exp, .int .i64 t.h.rel, .bool t.h.truth, .bool t.h.all, .slice A2 n2 c2] TT)) (fun x hx => Nat.lt_of_lt_of_le hx.2 hbel.size) (TreeSp.at_ _ _ _ hT1)
  unfold hdC at hC
  rw [HN.out] at hC
  have HC := Lib.hid hC
  have HX := Lib.hid hx
  have HT1 := Lib.hid hT1
  have HB1 := Lib.hid (hb1.trans (hbel.mono hb1.size))
  have hs1 := hb1.size
  clear hC hT hb1 hbel hT1 hx
  go_wp2_with fail
  refine HC.out.mono ?_
  rintro e w2 ⟨rfl, hb2⟩
  have HB2 := Lib.hid (HB1.out.trans (hb2.mono HB1.out.size))
  obtain ⟨p0, p1, p2, p3, p4, p5, p6, p7, p8⟩ := (HX.out.step hb2).c9
  have hC := pos_any t _ (Fr w w1) w2 HSM.out (fun x hx => by have h1 := hb2.size; have h2 := hx.2; simp at h1; omega) (HT1.out.below (fun x hx => by have h2 := hx.2; simp; omega) hb2)
  unfold hdC at hC
  have HC2 := Lib.hid hC
  clear hb2 hC
  go_wp2_with fail
  refine HC2.out.mono ?_
  rintro e w3 ⟨B1, m1, d1, B2, m2, d2, rfl, ⟨Sn, hT2, hSn⟩, hO⟩
  have HB3 := Lib.hid (show Below w.heap.size w w3 from HB2.out.trans (hO.below w.heap.size (fun x hx => hx.1) HB2.out.size))
  have hC := ofTerm_any (posT t) _ Sn w3 (fun x hx => (hSn x hx).2) (TreeSp.at_ _ _ _ hT2) HSP.out
  unfold hdC at hC
  have HC3 := Lib.hid hC
  clear hC hT2 hSn hO
  go_wp2_with fail
  refine HC3.out.mono ?_
  intro e w4 hq
  obtain ⟨v4, rfl, hv4, hb4⟩ := hq.yes HG.out
  have hov4 := hv4.one
  have HV4 := Lib.hid hv4
  have hs4 := hb4.size
  have HB4 := Lib.hid (HB3.out.trans (hb4.mono HB3.out.size))
  clear hq hv4 hb4
  go_wp2_with fail
  have hbel : Below w4.heap.size w4 (w4.alloc (.cells #[.pointer none, .slice none 0 0] TBld)) := (Below.refl _ _).alloc (Nat.le_refl _) _
  have HB5 := Lib.hid (HB4.out.trans (hbel.mono HB4.out.size))
  have HBO := Lib.hid (Bo.fresh (heap_alloc_new w4 (.cells #[.pointer none, .slice none 0 0] TBld)))
  have h45 : (w4.alloc (.cells #[.pointer none, .slice none 0 0] TBld)).heap.size = w4.heap.size + 1 := by simp
  have HWF := Lib.hid (wt_any w g v4 (Fr w3 w4) w4.heap.size (w4.alloc (.cells #[.pointer none, .slice none 0 0] TBld)).heap.size [] 1 (w4.alloc (.cells #[.pointer none, .slice none 0 0] TBld)) HB5.out HB4.out.size
    (fun x hx => ⟨by have h2 := hx.2; omega, by have h2 := hx.2; rintro (e | e) <;> omega⟩) (HV4.out.below (fun x hx => hx.2) hbel) HSG.out HEG.out HI.out HBO.out (by rw [inT_one]; simpa using HLEN.out))
  clear hbel h45
  refine HWF.out.mono ?_
  rintro e w6 ⟨rfl, hB6, hO6, hQ6⟩
  rw [inT_one, List.nil_append] at hB6
  have hs6 := hO6.size
  simp at hs6
  have h44 := HB4.out.size
  have h45 : (w4.alloc (.cells #[.pointer none, .slice none 0 0] TBld)).heap.size = w4.heap.size + 1 := by simp
  have HB6 := Lib.hid (HB5.out.trans (hO6.below (B := w.heap.size) HB5.out.size (fun x hx => by rcases hx with h | h <;> omega)))
  clear h45
  have HST := Lib.hid (Builder_String_any_k w4.heap.size w4.heap.size _ w6 hB6.is (by omega))
  clear hB6 hO6 hQ6
  go_wp2_with fail
  refine HST.out.mono ?_
  rintro e w7 ⟨rfl, -, hb7, -⟩
  have HB7 := Lib.hid (HB6.out.trans (hb7.mono HB4.out.size))
  clear hb7
  go_wp2
  go_ret2
  exact ⟨by rw [HD.out]; rfl, HB7.out⟩
end Pr
end Go.Proofs.YtkjbfomokdjbnaaDoor
