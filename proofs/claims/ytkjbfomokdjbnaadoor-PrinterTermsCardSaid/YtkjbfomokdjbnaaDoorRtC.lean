/-
  The reference's text of a printable term, of a printable formula.
-/
import Derived.Test.YtkjbfomokdjbnaaDoorRtA
import Derived.Test.YtkjbfomokdjbnaaDoorRtB
import Derived.Test.YtkjbfomokdjbnaaDoorRtD
import Derived.Test.YtkjbfomokdjbnaaDoorPrL
namespace Go.Proofs.YtkjbfomokdjbnaaDoor
open Go.RowKit
set_option linter.unusedSimpArgs false
set_option linter.unusedVariables false
namespace Rt
open Fm Dc Pr
/-- its numbers are not negative, its exponents are in range -/
def gT : Tm → Prop
  | .odd => False
  | .num neg l => neg = false ∧ l.length ≤ 20 ∧ ∀ x ∈ l, x < 4294967296
  | .name s => True
  | .add l r => gT l ∧ gT r
  | .sub l r => gT l ∧ gT r
  | .mul l r => gT l ∧ gT r
  | .neg t => gT t
  | .pow t e => gT t ∧ 0 ≤ e ∧ e ≤ 9223372036854775807
def gF : Fo → Prop
  | .odd => False
  | .truth b => True
  | .atom l e r => gT l ∧ gT r
  | .not f => gF f
  | .and l r => gF l ∧ gF r
  | .or l r => gF l ∧ gF r
  | .implies l r => gF l ∧ gF r
  | .iff l r => gF l ∧ gF r
  | .quant a n f => gF f
theorem gT_pr : ∀ t : Tm, bdT t → gT (prT t)
  | .odd, _ => ⟨rfl, by decide, fun x hx => by cases hx⟩
  | .num n l, h => by
    have hl : (trimN l).length ≤ 20 := by have := trimN_le l; have := h.1; omega
    have hx : ∀ x ∈ trimN l, x < 4294967296 := fun x hx => h.2 x (List.mem_of_mem_take hx)
    show gT (posTm (.num (normB n l) (trimN l)))
    cases normB n l
    · exact ⟨rfl, hl, hx⟩
    · exact ⟨rfl, hl, hx⟩
  | .name s, _ => trivial
  | .add l r, h => ⟨gT_pr l h.1, gT_pr r h.2⟩
  | .sub l r, h => ⟨gT_pr l h.1, gT_pr r h.2⟩
  | .mul l r, h => ⟨gT_pr l h.1, gT_pr r h.2⟩
  | .neg t, h => gT_pr t h
  | .pow t e, h => by
    have h2 := h.2
    exact ⟨gT_pr t h.1, show (0 : Int) ≤ max e 0 by omega, show max e 0 ≤ (9223372036854775807 : Int) by omega⟩
theorem gF_pr : ∀ f : Fo, bdF f → gF (prF f)
  | .odd, _ => trivial
  | .truth b, _ => trivial
  | .atom l e r, h => ⟨gT_pr l h.1, gT_pr r h.2⟩
  | .not f, h => gF_pr f h
  | .and l r, h => ⟨gF_pr l h.1, gF_pr r h.2⟩
  | .or l r, h => ⟨gF_pr l h.1, gF_pr r h.2⟩
  | .implies l r, h => ⟨gF_pr l h.1, gF_pr r h.2⟩
  | .iff l r, h => ⟨gF_pr l h.1, gF_pr r h.2⟩
  | .quant a n f, h => gF_pr f h.2
theorem par_t (s : List UInt8) : bsR (par true s) = ⟨#[40]⟩ ++ bsR s ++ ⟨#[41]⟩ := by
  have e : par true s = [40] ++ s ++ [41] := by unfold par; simp
  rw [e, bs_app, bs_app]
  rfl
theorem in_of (T : Tr) (st r : Int) (s : List UInt8) (hst : StC T.h.k st) (ht : TxC T (bsR s)) (hs : s.length ≤ 1900000) : InC T r (bsR (par (decide (st < r)) s)) := by
  cases T with
  | mk h ks =>
    by_cases hp : st < r
    · rw [decide_eq_true hp, par_t]
      exact in_true h ks (bsR s) r st hst ht (decide_eq_true hp) (by rw [bs_sz]; omega)
    · rw [decide_eq_false hp]
      exact in_false h ks (bsR s) r st hst ht (decide_eq_false hp) (by rw [bs_sz]; omega)
theorem tw_of (h : Hd) (a b : Tr) (x y : Int) (m l1 l2 : List UInt8) (ia : InC a x (bsR l1)) (ib : InC b y (bsR l2)) (h1 : l1.length ≤ 2000000) (hm : m.length ≤ 100) (h2 : l2.length ≤ 2000000) :
    TwC (.mk h [a, b]) x (bsR m) y (bsR (l1 ++ m ++ l2)) := by
  rw [bs_app, bs_app]
  exact two_of h a b x y _ _ _ ia ib ⟨by rw [bs_sz]; omega, by rw [bs_sz]; omega, by rw [bs_sz]; omega⟩
theorem par_ge (b : Bool) (s : List UInt8) : s.length ≤ (par b s).length := by unfold par; split <;> simp <;> omega
theorem st_T : ∀ t : Tm, gT t → StC (plainT t).h.k (strT t)
  | .odd, h => h.elim
  | .num _ _, _ => st_1
  | .name _, _ => st_2
  | .add _ _, _ => st_3
  | .sub _ _, _ => st_4
  | .mul _ _, _ => st_5
  | .neg _, _ => st_6
  | .pow _ _, _ => st_7
theorem st_F : ∀ f : Fo, gF f → StC (plainF f).h.k (strF f)
  | .odd, h => h.elim
  | .truth _, _ => st_8
  | .atom _ _ _, _ => st_9
  | .not _, _ => st_10
  | .and _ _, _ => st_11
  | .or _ _, _ => st_12
  | .implies _ _, _ => st_13
  | .iff _ _, _ => st_14
  | .quant _ _ _, _ => st_15
theorem bs_self (s : ByteArray) : bsR s.data.toList = s := rfl
theorem e_len {e : Int} (h0 : 0 ≤ e) (h1 : e ≤ 9223372036854775807) : (bsR (fmtL false e.toNat)).size ≤ 100 := by
  rw [bs_sz]
  have h1 := revd_len 40 e.toNat (Nat.lt_of_le_of_lt (m := 9223372036854775807) (by omega) (by decide))
  have h2 := fmt_len false e.toNat 40 (by decide) h1
  have h3 : (fmtS false e.toNat).data.toList = fmtL false e.toNat := rfl
  rw [h3] at h2
  omega
theorem tx_T : ∀ t : Tm, gT t → (txtT t).length ≤ 1900000 → TxC (plainT t) (bsR (txtT t))
  | .odd, h, _ => h.elim
  | .num neg l, h, _ => by
    obtain ⟨rfl, hl, hx⟩ := h
    have hn : normB false l = false := by unfold normB; simp
    have e : plainT (.num false l) = .mk { hd0 1 with abs := trimN l } [] := by show Tr.mk { hd0 1 with neg := normB false l, abs := trimN l } [] = _; rw [hn]; rfl
    have e2 : bsR (txtT (.num false l)) = bsR (fmtL false (valN (trimN l))) := by rw [valN_trim]; rfl
    rw [e, e2]
    exact tx_1 (trimN l) _ fun v S w hS ha => decimal_any false (trimN l) v S w hS ha (by have := trimN_le l; omega)
  | .name s, h, _ => tx_2 s
  | .add l r, h, hs => by
    have e : txtT (.add l r) = par (decide (strT l < 1)) (txtT l) ++ [32, 43, 32] ++ par (decide (strT r < 2)) (txtT r) := rfl
    rw [e] at hs ⊢
    simp only [List.length_append] at hs
    have h1 := par_ge (decide (strT l < 1)) (txtT l)
    have h2 := par_ge (decide (strT r < 2)) (txtT r)
    exact tx_3 _ _ _ (tw_of _ _ _ 1 2 [32, 43, 32] _ _ (in_of _ _ _ _ (st_T l h.1) (tx_T l h.1 (by omega)) (by omega)) (in_of _ _ _ _ (st_T r h.2) (tx_T r h.2 (by omega)) (by omega)) (by omega) (by decide) (by omega))
  | .sub l r, h, hs => by
    have e : txtT (.sub l r) = par (decide (strT l < 1)) (txtT l) ++ [32, 45, 32] ++ par (decide (strT r < 2)) (txtT r) := rfl
    rw [e] at hs ⊢
    simp only [List.length_append] at hs
    have h1 := par_ge (decide (strT l < 1)) (txtT l)
    have h2 := par_ge (decide (strT r < 2)) (txtT r)
    exact tx_4 _ _ _ (tw_of _ _ _ 1 2 [32, 45, 32] _ _ (in_of _ _ _ _ (st_T l h.1) (tx_T l h.1 (by omega)) (by omega)) (in_of _ _ _ _ (st_T r h.2) (tx_T r h.2 (by omega)) (by omega)) (by omega) (by decide) (by omega))
  | .mul l r, h, hs => by
    have e : txtT (.mul l r) = par (decide (strT l < 2)) (txtT l) ++ [42] ++ par (decide (strT r < 3)) (txtT r) := rfl
    rw [e] at hs ⊢
    simp only [List.length_append] at hs
    have h1 := par_ge (decide (strT l < 2)) (txtT l)
    have h2 := par_ge (decide (strT r < 3)) (txtT r)
    exact tx_5 _ _ _ (tw_of _ _ _ 2 3 [42] _ _ (in_of _ _ _ _ (st_T l h.1) (tx_T l h.1 (by omega)) (by omega)) (in_of _ _ _ _ (st_T r h.2) (tx_T r h.2 (by omega)) (by omega)) (by omega) (by decide) (by omega))
  | .neg t, h, hs => by
    have e : txtT (.neg t) = [45] ++ par (decide (strT t < 3)) (txtT t) := rfl
    rw [e] at hs ⊢
    simp only [List.length_append] at hs
    have h1 := par_ge (decide (strT t < 3)) (txtT t)
    rw [bs_app]
    exact tx_6 _ _ (in_of _ _ _ _ (st_T t h) (tx_T t h (by omega)) (by omega)) (by rw [bs_sz]; omega)
  | .pow t e, h, hs => by
    have e1 : txtT (.pow t e) = par (decide (strT t < 5)) (txtT t) ++ [94] ++ fmtL false e.toNat := by
      show par (decide (strT t < 5)) (txtT t) ++ 94 :: (fmtS false e.toNat).data.toList = _
      rw [show (fmtS false e.toNat).data.toList = fmtL false e.toNat from rfl]
      simp
    have e2 : plainT (.pow t e) = .mk { hd0 7 with exp := e } [plainT t] := by show Tr.mk { hd0 7 with exp := max e 0 } [plainT t] = _; rw [show max e 0 = e from by have := h.2.1; omega]
    rw [e1] at hs ⊢
    simp only [List.length_append] at hs
    have h1 := par_ge (decide (strT t < 5)) (txtT t)
    rw [e2, bs_app, bs_app]
    have hsm := small_any e.toNat e.toNat (Nat.le_refl _) (by have := h.2.2; omega)
    rw [show ((e.toNat : Nat) : Int) = e from by have := h.2.1; omega] at hsm
    exact tx_7 e _ _ _ (in_of _ _ _ _ (st_T t h.1) (tx_T t h.1 (by omega)) (by omega)) hsm (by rw [bs_sz]; omega) (e_len h.2.1 h.2.2)
theorem rel_is (e : Int) : (relR e = 1 ∧ relS e = [60]) ∨ (relR e = 2 ∧ relS e = [60, 61]) ∨ (relR e = 3 ∧ relS e = [61]) ∨ (relR e = 4 ∧ relS e = [60, 62]) ∨ (relR e = 5 ∧ relS e = [62, 61]) ∨ (relR e = 6 ∧ relS e = [62]) := by
  unfold relR relS
  by_cases h : e < 1 ∨ 6 < e
  · rw [if_pos h]
    refine .inr (.inr (.inl ⟨rfl, ?_⟩))
    rw [if_neg (by omega), if_neg (by omega), if_neg (by omega), if_neg (by omega), if_neg (by omega)]
  · rw [if_neg h]
    rcases (by omega : e = 1 ∨ e = 2 ∨ e = 3 ∨ e = 4 ∨ e = 5 ∨ e = 6) with rfl | rfl | rfl | rfl | rfl | rfl <;> simp
theorem tx_F : ∀ f : Fo, gF f → (txtF f).length ≤ 1900000 → TxC (plainF f) (bsR (txtF f))
  | .odd, h, _ => h.elim
  | .truth b, _, _ => by
    cases b
    · exact tx_8_false
    · exact tx_8_true
  | .atom l e r, h, hs => by
    have e1 : txtF (.atom l e r) = par (decide (strT l < 1)) (txtT l) ++ (32 :: (relS e ++ [32])) ++ par (decide (strT r < 1)) (txtT r) := rfl
    have e2 : plainF (.atom l e r) = .mk { hd0 9 with rel := relR e } [plainT l, plainT r] := rfl
    rw [e1] at hs ⊢
    rw [e2]
    simp only [List.length_append] at hs
    have h1 := par_ge (decide (strT l < 1)) (txtT l)
    have h2 := par_ge (decide (strT r < 1)) (txtT r)
    have hw := fun (hd : Hd) (m : List UInt8) (hm : m.length ≤ 100) => tw_of hd _ _ 1 1 m _ _ (in_of _ _ 1 _ (st_T l h.1) (tx_T l h.1 (by omega)) (by omega)) (in_of _ _ 1 _ (st_T r h.2) (tx_T r h.2 (by omega)) (by omega)) (by omega) hm (by omega)
    rcases rel_is e with ⟨a, b⟩ | ⟨a, b⟩ | ⟨a, b⟩ | ⟨a, b⟩ | ⟨a, b⟩ | ⟨a, b⟩ <;> rw [a, b]
    · exact tx_9_1 _ _ _ (hw _ [32, 60, 32] (by decide))
    · exact tx_9_2 _ _ _ (hw _ [32, 60, 61, 32] (by decide))
    · exact tx_9_3 _ _ _ (hw _ [32, 61, 32] (by decide))
    · exact tx_9_4 _ _ _ (hw _ [32, 60, 62, 32] (by decide))
    · exact tx_9_5 _ _ _ (hw _ [32, 62, 61, 32] (by decide))
    · exact tx_9_6 _ _ _ (hw _ [32, 62, 32] (by decide))
  | .not f, h, hs => by
    have e : txtF (.not f) = [110, 111, 116, 32] ++ par (decide (strF f < 5)) (txtF f) := rfl
    rw [e] at hs ⊢
    simp only [List.length_append] at hs
    have h1 := par_ge (decide (strF f < 5)) (txtF f)
    rw [bs_app]
    exact tx_10 _ _ (in_of _ _ _ _ (st_F f h) (tx_F f h (by omega)) (by omega)) (by rw [bs_sz]; omega)
  | .and l r, h, hs => by
    have e : txtF (.and l r) = par (decide (strF l < 4)) (txtF l) ++ [32, 97, 110, 100, 32] ++ par (decide (strF r < 5)) (txtF r) := rfl
    rw [e] at hs ⊢
    simp only [List.length_append] at hs
    have h1 := par_ge (decide (strF l < 4)) (txtF l)
    have h2 := par_ge (decide (strF r < 5)) (txtF r)
    exact tx_11 _ _ _ (tw_of _ _ _ 4 5 [32, 97, 110, 100, 32] _ _ (in_of _ _ _ _ (st_F l h.1) (tx_F l h.1 (by omega)) (by omega)) (in_of _ _ _ _ (st_F r h.2) (tx_F r h.2 (by omega)) (by omega)) (by omega) (by decide) (by omega))
  | .or l r, h, hs => by
    have e : txtF (.or l r) = par (decide (strF l < 3)) (txtF l) ++ [32, 111, 114, 32] ++ par (decide (strF r < 4)) (txtF r) := rfl
    rw [e] at hs ⊢
    simp only [List.length_append] at hs
    have h1 := par_ge (decide (strF l < 3)) (txtF l)
    have h2 := par_ge (decide (strF r < 4)) (txtF r)
    exact tx_12 _ _ _ (tw_of _ _ _ 3 4 [32, 111, 114, 32] _ _ (in_of _ _ _ _ (st_F l h.1) (tx_F l h.1 (by omega)) (by omega)) (in_of _ _ _ _ (st_F r h.2) (tx_F r h.2 (by omega)) (by omega)) (by omega) (by decide) (by omega))
  | .implies l r, h, hs => by
    have e : txtF (.implies l r) = par (decide (strF l < 3)) (txtF l) ++ [32, 105, 109, 112, 108, 105, 101, 115, 32] ++ par (decide (strF r < 2)) (txtF r) := rfl
    rw [e] at hs ⊢
    simp only [List.length_append] at hs
    have h1 := par_ge (decide (strF l < 3)) (txtF l)
    have h2 := par_ge (decide (strF r < 2)) (txtF r)
    exact tx_13 _ _ _ (tw_of _ _ _ 3 2 [32, 105, 109, 112, 108, 105, 101, 115, 32] _ _ (in_of _ _ _ _ (st_F l h.1) (tx_F l h.1 (by omega)) (by omega)) (in_of _ _ _ _ (st_F r h.2) (tx_F r h.2 (by omega)) (by omega)) (by omega) (by decide) (by omega))
  | .iff l r, h, hs => by
    have e : txtF (.iff l r) = par (decide (strF l < 1)) (txtF l) ++ [32, 105, 102, 102, 32] ++ par (decide (strF r < 2)) (txtF r) := rfl
    rw [e] at hs ⊢
    simp only [List.length_append] at hs
    have h1 := par_ge (decide (strF l < 1)) (txtF l)
    have h2 := par_ge (decide (strF r < 2)) (txtF r)
    exact tx_14 _ _ _ (tw_of _ _ _ 1 2 [32, 105, 102, 102, 32] _ _ (in_of _ _ _ _ (st_F l h.1) (tx_F l h.1 (by omega)) (by omega)) (in_of _ _ _ _ (st_F r h.2) (tx_F r h.2 (by omega)) (by omega)) (by omega) (by decide) (by omega))
  | .quant a n f, h, hs => by
    have e : txtF (.quant a n f) = (if a then [102, 111, 114, 97, 108, 108, 32] else [101, 120, 105, 115, 116, 115, 32]) ++ n.data.toList ++ [46, 32] ++ par (decide (strF f < 0)) (txtF f) := rfl
    rw [e] at hs ⊢
    simp only [List.length_append] at hs
    have h1 := par_ge (decide (strF f < 0)) (txtF f)
    have hnz : n.size ≤ 2000000 := by
      have : n.data.toList.length = n.size := rfl
      omega
    rw [bs_app, bs_app, bs_app, bs_self]
    have hin := in_of _ _ 0 _ (st_F f h) (tx_F f h (by omega)) (by omega)
    cases a
    · exact tx_15_false n _ _ hin (by rw [bs_sz]; omega) hnz
    · exact tx_15_true n _ _ hin (by rw [bs_sz]; omega) hnz
/-- the reference's text of a canonical tree -/
theorem text_F (f : Fo) (hb : bdF f) (hn : fnn f ≤ 3000) : TxC (plainF (prF f)) (bsL (txtF (prF f))) := by
  refine tx_F _ (gF_pr f hb) ?_
  have h1 := txtF_len _ (bdF_pr f hb)
  have h2 := fnn_pr f
  omega
theorem text_T (t : Tm) (hb : bdT t) (hn : tn t ≤ 3000) : TxC (plainT (prT t)) (bsL (txtT (prT t))) := by
  refine tx_T _ (gT_pr t hb) ?_
  have h1 := txt_len _ (bd_pr t hb)
  have h2 := tn_pr t
  omega
end Rt
end Go.Proofs.YtkjbfomokdjbnaaDoor
