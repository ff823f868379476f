/-
  Chapter 37's laws: right; the reference's Canon; ranges of numbers and lengths of texts.
-/
import Derived.Test.YteneobpacobpdaaGreatDoorHy
import Derived.Test.YteneobpacobpdaaGreatDoorPl
import Derived.Test.YteneobpacobpdaaGreatDoorFmOpn
import Derived.Test.YteneobpacobpdaaGreatDoorPrG
import Derived.Test.YteneobpacobpdaaGreatDoorFmZ
import Derived.Test.YteneobpacobpdaaGreatDoorFmG
set_option linter.unusedSimpArgs false
set_option linter.unusedVariables false
set_option maxRecDepth 100000
set_option maxHeartbeats 16000000
namespace Go.Proofs.YteneobpacobpdaaGreatDoor
open Go.RowKit
namespace Pr
open Fm Dc Pl
attribute [local go_sem] run_store
def rightFB (t : Tr) : Bool := fewB t 200 && isF t false
theorem rightF_any (t : Tr) (cs : List Value) (S : Nat → Prop) (w : World) (hS : ∀ b, S b → b < w.heap.size) (hT : TreeAt w S t cs) :
  Calls Tryz.prog 9 #[.agg cs.toArray, .bool false] w fun e w' => e = .returned (.bool (rightFB t)) ∧ Below w.heap.size w w' := by
 obtain ⟨A1, n1, c1, A2, n2, c2, k, neg, nm, ex, rl, tr, al, rfl⟩ := hT.nine
 have hx := Box.new w #[.int .i64 k, .bool neg, .slice A1 n1 c1, .string nm, .int .i64 ex, .int .i64 rl, .bool tr, .bool al, .slice A2 n2 c2] TT
 have HX := h_ hx
 have HT := h_ hT
 have HS := h_ hS
 obtain ⟨R, hR⟩ : ∃ R, R = fewB t 200 := ⟨_, rfl⟩
 have HR := h_ hR
 have HRB := h_ (show rightFB t = (R && isF t false) by unfold rightFB; rw [hR])
 clear hx hT hR hS
 cases R
 ·go_enter Tryz.func9, Tryz.ntmps9
  go_wp2_with (first
   |(go_at_call 21; refine (few_any t _ S 200 _ (fun b h => Nat.lt_of_lt_of_le (HS.out b h) HX.out.below.size) (HT.out.below HS.out HX.out.below) (by omega) (by omega)).mono ?_; rintro e w2 ⟨rfl, hb2⟩; rw [← HR.out]))
  go_ret
  exact ⟨by rw [HRB.out]; rfl, HX.out.below.trans (hb2.mono HX.out.below.size)⟩
 ·go_enter Tryz.func9, Tryz.ntmps9
  go_wp2_with (first
   |(go_at_call 21; refine (few_any t _ S 200 _ (fun b h => Nat.lt_of_lt_of_le (HS.out b h) HX.out.below.size) (HT.out.below HS.out HX.out.below) (by omega) (by omega)).mono ?_; rintro e w2 ⟨rfl, hb2⟩; rw [← HR.out]; (obtain ⟨f0, f1, f2, f3, f4, f5, f6, f7, f8⟩ := (HX.out.step hb2).c9); have HB2 := h_ (HX.out.step hb2); clear hb2)
   |(go_at_call 22; refine (is_any t _ S false _ (fun b h => Nat.lt_of_lt_of_le (HS.out b h) HB2.out.below.size) (HT.out.below HS.out HB2.out.below)).mono ?_; rintro e w4 ⟨rfl, hb4⟩; have HB4 := h_ (HB2.out.step hb4); clear hb4))
  go_ret
  exact ⟨by rw [HRB.out]; rfl, HB4.out.below⟩
def bdT : Tm → Prop
 | .num _ l => l.length ≤ 20 ∧ ∀ x ∈ l, x < 4294967296
 | .name s => s.size ≤ 40
 | .add l r => bdT l ∧ bdT r
 | .sub l r => bdT l ∧ bdT r
 | .mul l r => bdT l ∧ bdT r
 | .neg t => bdT t
 | .pow t e => bdT t ∧ e ≤ 9223372036854775807
 | .odd => True
def bdF : Fo → Prop
 | .atom l _ r => bdT l ∧ bdT r
 | .not f => bdF f
 | .and l r => bdF l ∧ bdF r
 | .or l r => bdF l ∧ bdF r
 | .implies l r => bdF l ∧ bdF r
 | .iff l r => bdF l ∧ bdF r
 | .quant _ n f => n.size ≤ 40 ∧ bdF f
 | _ => True
theorem wf_exp {e : Int} (h : (Lit.int .i64 e).wf = true) : e ≤ 9223372036854775807 := by
 have : -9223372036854775808 ≤ e ∧ e ≤ 9223372036854775807 := by simpa [Lit.wf, IntKind.min, IntKind.max, IntKind.bits, IntKind.signed] using h
 exact this.2
theorem bd_of {t : Tr} {tm : Tm} (h : RT t tm) : Sm t → WfT t → bdT tm := by
 induction h with
 | num h hk => intro hs hw; unfold Sm at hs; unfold WfT at hw; exact ⟨Nat.le_trans (trimN_le h.abs) hs.1, fun x hx => hw.1.2 x (List.mem_of_mem_take hx)⟩
 | name h hk => intro hs hw; unfold Sm at hs; exact hs.2.1
 | add h a b p q hk ha hb ia ib => intro hs hw; unfold Sm SmL SmL SmL at hs; unfold WfT WfL WfL WfL at hw; exact ⟨ia hs.2.2.1 hw.2.1, ib hs.2.2.2.1 hw.2.2.1⟩
 | sub h a b p q hk ha hb ia ib => intro hs hw; unfold Sm SmL SmL SmL at hs; unfold WfT WfL WfL WfL at hw; exact ⟨ia hs.2.2.1 hw.2.1, ib hs.2.2.2.1 hw.2.2.1⟩
 | mul h a b p q hk ha hb ia ib => intro hs hw; unfold Sm SmL SmL SmL at hs; unfold WfT WfL WfL WfL at hw; exact ⟨ia hs.2.2.1 hw.2.1, ib hs.2.2.2.1 hw.2.2.1⟩
 | neg h a p hk ha ia => intro hs hw; unfold Sm SmL SmL at hs; unfold WfT WfL WfL at hw; exact ia hs.2.2.1 hw.2.1
 | pow h a p hk he ha ia => intro hs hw; unfold Sm SmL SmL at hs; unfold WfT WfL WfL at hw; exact ⟨ia hs.2.2.1 hw.2.1, wf_exp hw.1.1⟩
theorem bdF_of {t : Tr} {f : Fo} (h : RF t f) : Sm t → WfT t → bdF f := by
 induction h with
 | truth h hk => intro hs hw; trivial
 | atom h a b p q hk hr ha hb => intro hs hw; unfold Sm SmL SmL SmL at hs; unfold WfT WfL WfL WfL at hw; exact ⟨bd_of ha hs.2.2.1 hw.2.1, bd_of hb hs.2.2.2.1 hw.2.2.1⟩
 | not h a p hk ha ia => intro hs hw; unfold Sm SmL SmL at hs; unfold WfT WfL WfL at hw; exact ia hs.2.2.1 hw.2.1
 | and h a b p q hk ha hb ia ib => intro hs hw; unfold Sm SmL SmL SmL at hs; unfold WfT WfL WfL WfL at hw; exact ⟨ia hs.2.2.1 hw.2.1, ib hs.2.2.2.1 hw.2.2.1⟩
 | or h a b p q hk ha hb ia ib => intro hs hw; unfold Sm SmL SmL SmL at hs; unfold WfT WfL WfL WfL at hw; exact ⟨ia hs.2.2.1 hw.2.1, ib hs.2.2.2.1 hw.2.2.1⟩
 | implies h a b p q hk ha hb ia ib => intro hs hw; unfold Sm SmL SmL SmL at hs; unfold WfT WfL WfL WfL at hw; exact ⟨ia hs.2.2.1 hw.2.1, ib hs.2.2.2.1 hw.2.2.1⟩
 | iff h a b p q hk ha hb ia ib => intro hs hw; unfold Sm SmL SmL SmL at hs; unfold WfT WfL WfL WfL at hw; exact ⟨ia hs.2.2.1 hw.2.1, ib hs.2.2.2.1 hw.2.2.1⟩
 | quant h a p hk ha ia => intro hs hw; unfold Sm SmL SmL at hs; unfold WfT WfL WfL at hw; exact ⟨hs.2.1, ia hs.2.2.1 hw.2.1⟩
theorem bd_pr : ∀ t : Tm, bdT t → bdT (prT t)
 | .odd, _ => ⟨Nat.zero_le _, fun x h => absurd h List.not_mem_nil⟩
 | .num n l, h => by
  show bdT (posTm (.num (normB n l) (trimN l)))
  have h1 : bdT (.num false (trimN l)) := ⟨Nat.le_trans (trimN_le l) h.1, fun x hx => h.2 x (List.mem_of_mem_take hx)⟩
  cases normB n l with
  | false => exact h1
  | true => exact h1
 | .name s, h => h
 | .add l r, h => ⟨bd_pr l h.1, bd_pr r h.2⟩
 | .sub l r, h => ⟨bd_pr l h.1, bd_pr r h.2⟩
 | .mul l r, h => ⟨bd_pr l h.1, bd_pr r h.2⟩
 | .neg t, h => bd_pr t h
 | .pow t e, h => ⟨bd_pr t h.1, by have := h.2; show max e 0 ≤ _; omega⟩
theorem bdF_pr : ∀ f : Fo, bdF f → bdF (prF f)
 | .odd, _ => trivial
 | .truth b, _ => trivial
 | .atom l e r, h => ⟨bd_pr l h.1, bd_pr r h.2⟩
 | .not f, h => bdF_pr f h
 | .and l r, h => ⟨bdF_pr l h.1, bdF_pr r h.2⟩
 | .or l r, h => ⟨bdF_pr l h.1, bdF_pr r h.2⟩
 | .implies l r, h => ⟨bdF_pr l h.1, bdF_pr r h.2⟩
 | .iff l r, h => ⟨bdF_pr l h.1, bdF_pr r h.2⟩
 | .quant a n f, h => ⟨h.1, bdF_pr f h.2⟩
theorem tn_pr : ∀ t : Tm, tn (prT t) ≤ 2 * tn t
 | .odd => by decide
 | .num n l => by
  show tn (posTm (.num (normB n l) (trimN l))) ≤ 2 * 1
  cases normB n l with
  | false => exact Nat.le_succ 1
  | true => exact Nat.le_refl 2
 | .name s => Nat.le_succ 1
 | .add l r => by have := tn_pr l; have := tn_pr r; show tn (prT l) + tn (prT r) + 1 ≤ 2 * (tn l + tn r + 1); omega
 | .sub l r => by have := tn_pr l; have := tn_pr r; show tn (prT l) + tn (prT r) + 1 ≤ 2 * (tn l + tn r + 1); omega
 | .mul l r => by have := tn_pr l; have := tn_pr r; show tn (prT l) + tn (prT r) + 1 ≤ 2 * (tn l + tn r + 1); omega
 | .neg t => by have := tn_pr t; show tn (prT t) + 1 ≤ 2 * (tn t + 1); omega
 | .pow t e => by have := tn_pr t; show tn (prT t) + 1 ≤ 2 * (tn t + 1); omega
theorem fnn_pr : ∀ f : Fo, fnn (prF f) ≤ 2 * fnn f
 | .odd => by decide
 | .truth b => Nat.le_succ 1
 | .atom l e r => by have := tn_pr l; have := tn_pr r; show tn (prT l) + tn (prT r) + 1 ≤ 2 * (tn l + tn r + 1); omega
 | .not f => by have := fnn_pr f; show fnn (prF f) + 1 ≤ 2 * (fnn f + 1); omega
 | .and l r => by have := fnn_pr l; have := fnn_pr r; show fnn (prF l) + fnn (prF r) + 1 ≤ 2 * (fnn l + fnn r + 1); omega
 | .or l r => by have := fnn_pr l; have := fnn_pr r; show fnn (prF l) + fnn (prF r) + 1 ≤ 2 * (fnn l + fnn r + 1); omega
 | .implies l r => by have := fnn_pr l; have := fnn_pr r; show fnn (prF l) + fnn (prF r) + 1 ≤ 2 * (fnn l + fnn r + 1); omega
 | .iff l r => by have := fnn_pr l; have := fnn_pr r; show fnn (prF l) + fnn (prF r) + 1 ≤ 2 * (fnn l + fnn r + 1); omega
 | .quant a n f => by have := fnn_pr f; show fnn (prF f) + 1 ≤ 2 * (fnn f + 1); omega
theorem fmt_len (neg : Bool) (N k : Nat) (hk : 1 ≤ k) (h : (revd N).length ≤ k) : (fmtS neg N).data.toList.length ≤ k + 1 := by
 show (fmtL neg N).length ≤ k + 1
 unfold fmtL
 split
 ·simp
 ·rw [List.length_append, List.length_map, List.length_reverse]
  split <;> simp <;> omega
theorem par_le (b : Bool) (s : List UInt8) : (par b s).length ≤ s.length + 2 := by
 unfold par; split <;> simp
theorem txt_len : ∀ t : Tm, bdT t → (txtT t).length ≤ 300 * tn t
 | .odd, _ => Nat.zero_le _
 | .num n l, h => by
  have := fmt_len n (valN l) 200 (by decide) (by have := revd_len_val l h.2; have := h.1; omega)
  show (fmtS n (valN l)).data.toList.length ≤ 300 * 1
  omega
 | .name s, h => by
  have : s.data.toList.length = s.size := rfl
  have h' : s.size ≤ 40 := h
  show s.data.toList.length ≤ 300 * 1
  omega
 | .add l r, h => by
  have h1 := txt_len l h.1
  have h2 := txt_len r h.2
  have h3 := par_le (decide (strT l < 1)) (txtT l)
  have h4 := par_le (decide (strT r < 2)) (txtT r)
  unfold txtT tn
  simp only [List.length_append, List.length_cons, List.length_nil]
  omega
 | .sub l r, h => by
  have h1 := txt_len l h.1
  have h2 := txt_len r h.2
  have h3 := par_le (decide (strT l < 1)) (txtT l)
  have h4 := par_le (decide (strT r < 2)) (txtT r)
  unfold txtT tn
  simp only [List.length_append, List.length_cons, List.length_nil]
  omega
 | .mul l r, h => by
  have h1 := txt_len l h.1
  have h2 := txt_len r h.2
  have h3 := par_le (decide (strT l < 2)) (txtT l)
  have h4 := par_le (decide (strT r < 3)) (txtT r)
  unfold txtT tn
  simp only [List.length_append, List.length_cons, List.length_nil]
  omega
 | .neg t, h => by
  have h1 := txt_len t h
  have h3 := par_le (decide (strT t < 3)) (txtT t)
  unfold txtT tn
  simp only [List.length_cons]
  omega
 | .pow t e, h => by
  have h1 := txt_len t h.1
  have h3 := par_le (decide (strT t < 5)) (txtT t)
  have h5 := fmt_len false e.toNat 40 (by decide) (revd_len 40 _ (Nat.lt_of_le_of_lt (m := 9223372036854775807) (by have := h.2; omega) (by decide)))
  unfold txtT tn
  simp only [List.length_append, List.length_cons]
  omega
theorem relS_len (e : Int) : (relS e).length ≤ 2 := by
 unfold relS
 split; decide
 split; decide
 split; decide
 split; decide
 split <;> decide
theorem txtF_len : ∀ f : Fo, bdF f → (txtF f).length ≤ 300 * fnn f
 | .odd, _ => Nat.zero_le _
 | .truth b, _ => by cases b <;> decide
 | .atom l e r, h => by
  have h1 := txt_len l h.1
  have h2 := txt_len r h.2
  have h3 := par_le (decide (strT l < 1)) (txtT l)
  have h4 := par_le (decide (strT r < 1)) (txtT r)
  have h5 := relS_len e
  unfold txtF fnn inT
  simp only [List.length_append, List.length_cons, List.length_nil]
  omega
 | .not f, h => by
  have h1 := txtF_len f h
  have h3 := par_le (decide (strF f < 5)) (txtF f)
  unfold txtF fnn
  simp only [List.length_append, List.length_cons, List.length_nil]
  omega
 | .and l r, h => by
  have h1 := txtF_len l h.1
  have h2 := txtF_len r h.2
  have h3 := par_le (decide (strF l < 4)) (txtF l)
  have h4 := par_le (decide (strF r < 5)) (txtF r)
  unfold txtF fnn
  simp only [List.length_append, List.length_cons, List.length_nil]
  omega
 | .or l r, h => by
  have h1 := txtF_len l h.1
  have h2 := txtF_len r h.2
  have h3 := par_le (decide (strF l < 3)) (txtF l)
  have h4 := par_le (decide (strF r < 4)) (txtF r)
  unfold txtF fnn
  simp only [List.length_append, List.length_cons, List.length_nil]
  omega
 | .implies l r, h => by
  have h1 := txtF_len l h.1
  have h2 := txtF_len r h.2
  have h3 := par_le (decide (strF l < 3)) (txtF l)
  have h4 := par_le (decide (strF r < 2)) (txtF r)
  unfold txtF fnn
  simp only [List.length_append, List.length_cons, List.length_nil]
  omega
 | .iff l r, h => by
  have h1 := txtF_len l h.1
  have h2 := txtF_len r h.2
  have h3 := par_le (decide (strF l < 1)) (txtF l)
  have h4 := par_le (decide (strF r < 2)) (txtF r)
  unfold txtF fnn
  simp only [List.length_append, List.length_cons, List.length_nil]
  omega
 | .quant a n f, h => by
  have h1 := txtF_len f h.2
  have h3 := par_le (decide (strF f < 0)) (txtF f)
  have h5 : n.data.toList.length = n.size := rfl
  have h6 := h.1
  unfold txtF fnn
  cases a <;> simp only [List.length_append, List.length_cons, List.length_nil, if_true, Bool.false_eq_true, if_false] <;> omega
theorem exp_pr : ∀ t : Tm, bdT t → ∀ e ∈ expT (prT t), 0 ≤ e ∧ e ≤ 9223372036854775807
 | .odd, _, e, he => absurd he List.not_mem_nil
 | .num n l, _, e, he => by
  have : expT (posTm (.num (normB n l) (trimN l))) = [] := by cases normB n l <;> rfl
  have he' : e ∈ expT (posTm (.num (normB n l) (trimN l))) := he
  rw [this] at he'
  exact absurd he' List.not_mem_nil
 | .name s, _, e, he => absurd he List.not_mem_nil
 | .add l r, h, e, he => by rcases List.mem_append.1 he with he | he; exact exp_pr l h.1 e he; exact exp_pr r h.2 e he
 | .sub l r, h, e, he => by rcases List.mem_append.1 he with he | he; exact exp_pr l h.1 e he; exact exp_pr r h.2 e he
 | .mul l r, h, e, he => by rcases List.mem_append.1 he with he | he; exact exp_pr l h.1 e he; exact exp_pr r h.2 e he
 | .neg t, h, e, he => exp_pr t h e he
 | .pow t x, h, e, he => by
  rcases List.mem_cons.1 he with he | he
  ·subst he; have := h.2; omega
  ·exact exp_pr t h.1 e he
theorem expF_pr : ∀ f : Fo, bdF f → ∀ e ∈ expF (prF f), 0 ≤ e ∧ e ≤ 9223372036854775807
 | .odd, _, e, he => absurd he List.not_mem_nil
 | .truth b, _, e, he => absurd he List.not_mem_nil
 | .atom l x r, h, e, he => by rcases List.mem_append.1 he with he | he; exact exp_pr l h.1 e he; exact exp_pr r h.2 e he
 | .not f, h, e, he => expF_pr f h e he
 | .and l r, h, e, he => by rcases List.mem_append.1 he with he | he; exact expF_pr l h.1 e he; exact expF_pr r h.2 e he
 | .or l r, h, e, he => by rcases List.mem_append.1 he with he | he; exact expF_pr l h.1 e he; exact expF_pr r h.2 e he
 | .implies l r, h, e, he => by rcases List.mem_append.1 he with he | he; exact expF_pr l h.1 e he; exact expF_pr r h.2 e he
 | .iff l r, h, e, he => by rcases List.mem_append.1 he with he | he; exact expF_pr l h.1 e he; exact expF_pr r h.2 e he
 | .quant a n f, h, e, he => expF_pr f h.2 e he
theorem tnn_eq {t : Tr} {tm : Tm} (h : RT t tm) : tn tm = nn t := by
 induction h with
 | num h hk => unfold nn nnL; simp [tn]
 | name h hk => unfold nn nnL; simp [tn]
 | add h a b p q hk ha hb ia ib => unfold nn nnL nnL nnL tn; omega
 | sub h a b p q hk ha hb ia ib => unfold nn nnL nnL nnL tn; omega
 | mul h a b p q hk ha hb ia ib => unfold nn nnL nnL nnL tn; omega
 | neg h a p hk ha ia => unfold nn nnL nnL tn; omega
 | pow h a p hk he ha ia => unfold nn nnL nnL tn; omega
theorem fnnn_eq {t : Tr} {f : Fo} (h : RF t f) : fnn f = nn t := by
 induction h with
 | truth h hk => unfold nn nnL; simp [fnn]
 | atom h a b p q hk hr ha hb => have := tnn_eq ha; have := tnn_eq hb; unfold nn nnL nnL nnL fnn; omega
 | not h a p hk ha ia => unfold nn nnL nnL fnn; omega
 | and h a b p q hk ha hb ia ib => unfold nn nnL nnL nnL fnn; omega
 | or h a b p q hk ha hb ia ib => unfold nn nnL nnL nnL fnn; omega
 | implies h a b p q hk ha hb ia ib => unfold nn nnL nnL nnL fnn; omega
 | iff h a b p q hk ha hb ia ib => unfold nn nnL nnL nnL fnn; omega
 | quant h a p hk ha ia => unfold nn nnL nnL fnn; omega
end Pr
end Go.Proofs.YteneobpacobpdaaGreatDoor
