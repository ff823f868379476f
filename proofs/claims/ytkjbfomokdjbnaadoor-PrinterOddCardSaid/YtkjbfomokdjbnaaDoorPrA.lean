/-
  The printer, in plain Lean: negative numbers replaced by negations; the strengths; the texts of terms and formulas.
-/
import Derived.Test.YtkjbfomokdjbnaaDoorFmFr
import Derived.Test.YtkjbfomokdjbnaaDoorDcF
namespace Go.Proofs.YtkjbfomokdjbnaaDoor
open Go.RowKit
set_option linter.unusedSimpArgs false
set_option linter.unusedVariables false
namespace Pr
open Fm Dc

mutual
/-- every negative number replaced by a negation -/
def posT : Tr → Tr
  | .mk h ks => if h.k = 1 ∧ normB h.neg h.abs = true then .mk (hd0 6) [.mk { hd0 1 with abs := trimN h.abs } []] else .mk h (posL ks)
def posL : List Tr → List Tr
  | [] => []
  | k :: ks => posT k :: posL ks
end
theorem posT_num {h : Hd} {ks : List Tr} (hk : h.k = 1) (hn : normB h.neg h.abs = true) : posT (.mk h ks) = .mk (hd0 6) [.mk { hd0 1 with abs := trimN h.abs } []] := by
  conv => lhs; unfold posT
  rw [if_pos ⟨hk, hn⟩]
theorem posT_mk {h : Hd} {ks : List Tr} (hn : ¬ (h.k = 1 ∧ normB h.neg h.abs = true)) : posT (.mk h ks) = .mk h (posL ks) := by
  conv => lhs; unfold posT
  rw [if_neg hn]
theorem posL_map : ∀ ks, posL ks = ks.map posT
  | [] => by unfold posL; rfl
  | k :: ks => by unfold posL; rw [posL_map ks]; rfl
def posTm : Tm → Tm
  | .num true l => .neg (.num false l)
  | .add l r => .add (posTm l) (posTm r)
  | .sub l r => .sub (posTm l) (posTm r)
  | .mul l r => .mul (posTm l) (posTm r)
  | .neg t => .neg (posTm t)
  | .pow t e => .pow (posTm t) e
  | t => t
def posF : Fo → Fo
  | .atom l e r => .atom (posTm l) e (posTm r)
  | .not f => .not (posF f)
  | .and l r => .and (posF l) (posF r)
  | .or l r => .or (posF l) (posF r)
  | .implies l r => .implies (posF l) (posF r)
  | .iff l r => .iff (posF l) (posF r)
  | .quant a n f => .quant a n (posF f)
  | f => f
theorem rt_pos {t : Tr} {p : Tm} (h : RT t p) : RT (posT t) (posTm p) := by
  induction h with
  | num h hk =>
    by_cases hn : normB h.neg h.abs = true
    · rw [posT_num hk hn, hn]
      have h1 := RT.num { hd0 1 with abs := trimN h.abs } rfl
      rw [show normB ({ hd0 1 with abs := trimN h.abs } : Hd).neg ({ hd0 1 with abs := trimN h.abs } : Hd).abs = false from rfl, show trimN ({ hd0 1 with abs := trimN h.abs } : Hd).abs = trimN h.abs from trimN_idem h.abs] at h1
      exact RT.neg (hd0 6) _ _ rfl h1
    · rw [posT_mk (fun e => hn e.2), show normB h.neg h.abs = false by simpa using hn]
      have h1 := RT.num h hk
      rw [show normB h.neg h.abs = false by simpa using hn] at h1
      unfold posL
      exact h1
  | name h hk => rw [posT_mk (fun e => by omega)]; unfold posL; exact RT.name h hk
  | add h a b p q hk ha hb ia ib => rw [posT_mk (fun e => by omega), posL_map]; exact RT.add h _ _ _ _ hk ia ib
  | sub h a b p q hk ha hb ia ib => rw [posT_mk (fun e => by omega), posL_map]; exact RT.sub h _ _ _ _ hk ia ib
  | mul h a b p q hk ha hb ia ib => rw [posT_mk (fun e => by omega), posL_map]; exact RT.mul h _ _ _ _ hk ia ib
  | neg h a p hk ha ia => rw [posT_mk (fun e => by omega), posL_map]; exact RT.neg h _ _ hk ia
  | pow h a p hk he ha ia => rw [posT_mk (fun e => by omega), posL_map]; exact RT.pow h _ _ hk he ia
theorem rf_pos {t : Tr} {f : Fo} (h : RF t f) : RF (posT t) (posF f) := by
  induction h with
  | truth h hk => rw [posT_mk (fun e => by omega)]; unfold posL; exact RF.truth h hk
  | atom h a b p q hk hr ha hb => rw [posT_mk (fun e => by omega), posL_map]; exact RF.atom h _ _ _ _ hk hr (rt_pos ha) (rt_pos hb)
  | not h a p hk ha ia => rw [posT_mk (fun e => by omega), posL_map]; exact RF.not h _ _ hk ia
  | and h a b p q hk ha hb ia ib => rw [posT_mk (fun e => by omega), posL_map]; exact RF.and h _ _ _ _ hk ia ib
  | or h a b p q hk ha hb ia ib => rw [posT_mk (fun e => by omega), posL_map]; exact RF.or h _ _ _ _ hk ia ib
  | implies h a b p q hk ha hb ia ib => rw [posT_mk (fun e => by omega), posL_map]; exact RF.implies h _ _ _ _ hk ia ib
  | iff h a b p q hk ha hb ia ib => rw [posT_mk (fun e => by omega), posL_map]; exact RF.iff h _ _ _ _ hk ia ib
  | quant h a p hk ha ia => rw [posT_mk (fun e => by omega), posL_map]; exact RF.quant h _ _ hk ia

/-! ### the texts -/
abbrev Txt := List UInt8
def par (b : Bool) (s : Txt) : Txt := if b then 40 :: (s ++ [41]) else s
def strT : Tm → Int
  | .add _ _ => 1
  | .sub _ _ => 1
  | .mul _ _ => 2
  | .neg _ => 3
  | .pow _ _ => 4
  | _ => 5
def txtT : Tm → Txt
  | .odd => []
  | .num neg l => (fmtS neg (valN l)).data.toList
  | .name s => s.data.toList
  | .add l r => par (decide (strT l < 1)) (txtT l) ++ [32, 43, 32] ++ par (decide (strT r < 2)) (txtT r)
  | .sub l r => par (decide (strT l < 1)) (txtT l) ++ [32, 45, 32] ++ par (decide (strT r < 2)) (txtT r)
  | .mul l r => par (decide (strT l < 2)) (txtT l) ++ [42] ++ par (decide (strT r < 3)) (txtT r)
  | .neg t => 45 :: par (decide (strT t < 3)) (txtT t)
  | .pow t e => par (decide (strT t < 5)) (txtT t) ++ 94 :: (fmtS false e.toNat).data.toList
/-- a term of which a strength is required -/
def inT (t : Tm) (k : Int) : Txt := par (decide (strT t < k)) (txtT t)
def relS (r : Int) : Txt := if r = 1 then [60] else if r = 2 then [60, 61] else if r = 4 then [60, 62] else if r = 5 then [62, 61] else if r = 6 then [62] else [61]
def strF : Fo → Int
  | .quant _ _ _ => 0
  | .iff _ _ => 1
  | .implies _ _ => 2
  | .or _ _ => 3
  | .and _ _ => 4
  | .not _ => 5
  | _ => 6
def txtF : Fo → Txt
  | .odd => []
  | .truth b => if b then [116, 114, 117, 101] else [102, 97, 108, 115, 101]
  | .atom l e r => inT l 1 ++ (32 :: (relS e ++ [32])) ++ inT r 1
  | .not f => [110, 111, 116, 32] ++ par (decide (strF f < 5)) (txtF f)
  | .and l r => par (decide (strF l < 4)) (txtF l) ++ [32, 97, 110, 100, 32] ++ par (decide (strF r < 5)) (txtF r)
  | .or l r => par (decide (strF l < 3)) (txtF l) ++ [32, 111, 114, 32] ++ par (decide (strF r < 4)) (txtF r)
  | .implies l r => par (decide (strF l < 3)) (txtF l) ++ [32, 105, 109, 112, 108, 105, 101, 115, 32] ++ par (decide (strF r < 2)) (txtF r)
  | .iff l r => par (decide (strF l < 1)) (txtF l) ++ [32, 105, 102, 102, 32] ++ par (decide (strF r < 2)) (txtF r)
  | .quant a n f => (if a then [102, 111, 114, 97, 108, 108, 32] else [101, 120, 105, 115, 116, 115, 32]) ++ n.data.toList ++ [46, 32] ++ par (decide (strF f < 0)) (txtF f)
def inF (f : Fo) (k : Int) : Txt := par (decide (strF f < k)) (txtF f)
end Pr
end Go.Proofs.YtkjbfomokdjbnaaDoor
