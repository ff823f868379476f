/-
  The plain law of names: Free and Bound give what the reference gives.
-/
import Derived.Test.YtjbgdaojhdobkaaFmV
import Derived.Test.YtjbgdaojhdobkaaFmZn
import Derived.Test.YtjbgdaojhdobkaaFmPa
namespace Go.Proofs.Ytjbgdaojhdobkaa
open Go.RowKit
set_option linter.unusedSimpArgs false
set_option linter.unusedVariables false
namespace Fm

theorem freeT_of {t : Tr} {tm : Tm} (h : RT t tm) : ∀ (g : ByteArray → Int) (bd out : List ByteArray), (∀ x, g x = 0 ↔ x ∉ bd) → (namesT tm).foldl (fun s nm => freeStep s g nm) out = freeR t bd out := by
  induction h with
  | num h hk => intro g bd out hg; unfold freeR freeRL; rw [if_neg (by omega)]; rfl
  | name h hk =>
    intro g bd out hg
    unfold freeR freeRL
    show freeStep out g h.name = _
    unfold freeStep
    by_cases hc : g h.name = 0 ∧ h.name ∉ out
    · rw [if_pos hc, if_pos ⟨hk, (hg _).1 hc.1, hc.2⟩]
    · rw [if_neg hc, if_neg (fun hh => hc ⟨(hg _).2 hh.2.1, hh.2.2⟩)]
  | add h a b p q hk ha hb ia ib => intro g bd out hg; unfold freeR; rw [if_neg (by omega), if_neg (by omega)]; unfold freeRL freeRL freeRL namesT; rw [List.foldl_append, ia g bd out hg, ib g bd _ hg]
  | sub h a b p q hk ha hb ia ib => intro g bd out hg; unfold freeR; rw [if_neg (by omega), if_neg (by omega)]; unfold freeRL freeRL freeRL namesT; rw [List.foldl_append, ia g bd out hg, ib g bd _ hg]
  | mul h a b p q hk ha hb ia ib => intro g bd out hg; unfold freeR; rw [if_neg (by omega), if_neg (by omega)]; unfold freeRL freeRL freeRL namesT; rw [List.foldl_append, ia g bd out hg, ib g bd _ hg]
  | neg h a p hk ha ia => intro g bd out hg; unfold freeR; rw [if_neg (by omega), if_neg (by omega)]; unfold freeRL freeRL namesT; rw [ia g bd out hg]
  | pow h a p hk he ha ia => intro g bd out hg; unfold freeR; rw [if_neg (by omega), if_neg (by omega)]; unfold freeRL freeRL namesT; rw [ia g bd out hg]
theorem freeF_of {t : Tr} {f : Fo} (h : RF t f) : ∀ (g : ByteArray → Int) (bd out : List ByteArray), (∀ x, g x = 0 ↔ x ∉ bd) → (∀ x, 0 ≤ g x) → walkS freeStep f g out = freeR t bd out := by
  induction h with
  | truth h hk => intro g bd out hg h0; unfold freeR freeRL; rw [if_neg (by omega)]; rfl
  | atom h a b p q hk hr ha hb =>
    intro g bd out hg h0
    unfold freeR; rw [if_neg (by omega), if_neg (by omega)]; unfold freeRL freeRL freeRL walkS
    rw [freeT_of ha g bd out hg, freeT_of hb g bd _ hg]
  | not h a p hk ha ia => intro g bd out hg h0; unfold freeR; rw [if_neg (by omega), if_neg (by omega)]; unfold freeRL freeRL walkS; rw [ia g bd out hg h0]
  | and h a b p q hk ha hb ia ib => intro g bd out hg h0; unfold freeR; rw [if_neg (by omega), if_neg (by omega)]; unfold freeRL freeRL freeRL walkS; rw [ia g bd out hg h0, ib g bd _ hg h0]
  | or h a b p q hk ha hb ia ib => intro g bd out hg h0; unfold freeR; rw [if_neg (by omega), if_neg (by omega)]; unfold freeRL freeRL freeRL walkS; rw [ia g bd out hg h0, ib g bd _ hg h0]
  | implies h a b p q hk ha hb ia ib => intro g bd out hg h0; unfold freeR; rw [if_neg (by omega), if_neg (by omega)]; unfold freeRL freeRL freeRL walkS; rw [ia g bd out hg h0, ib g bd _ hg h0]
  | iff h a b p q hk ha hb ia ib => intro g bd out hg h0; unfold freeR; rw [if_neg (by omega), if_neg (by omega)]; unfold freeRL freeRL freeRL walkS; rw [ia g bd out hg h0, ib g bd _ hg h0]
  | quant h a p hk ha ia =>
    intro g bd out hg h0
    unfold freeR; rw [if_neg (by omega), if_pos hk]; unfold freeRL freeRL walkS
    refine ia (incG g h.name) (bd ++ [h.name]) out (fun x => ?_) (fun x => ?_)
    · unfold incG
      by_cases e : x = h.name
      · rw [if_pos e]; have := h0 h.name; constructor
        · intro hh; omega
        · intro hh; exact absurd (by rw [e]; simp) hh
      · rw [if_neg e, hg x]; simp [e]
    · unfold incG
      by_cases e : x = h.name
      · rw [if_pos e]; have := h0 h.name; omega
      · rw [if_neg e]; exact h0 x
theorem free_same {t : Tr} {f : Fo} (h : RF t f) : freeN f = freeR t [] [] := freeF_of h (fun _ => 0) [] [] (fun x => by simp) (fun _ => Int.le_refl _)

/-! ### the quantifiers -/
theorem partsL_append (a b : List (Tr × Int)) : partsL (a ++ b) = partsL a ++ partsL b := by unfold partsL; rw [List.filter_append]
theorem partsL_cons (p : Tr × Int) (l : List (Tr × Int)) : partsL (p :: l) = (if termK p.1.h.k then [] else [p]) ++ partsL l := by
  unfold partsL; rw [List.filter_cons]; cases termK p.1.h.k <;> simp
theorem flatF_mk (h : Hd) (ks : List Tr) (d : Int) : flatF (.mk h ks) d = (.mk h ks, d) :: flatL ks (d + 1) := by conv => lhs; unfold flatF
theorem flatL_one (a : Tr) (d : Int) : flatL [a] d = flatF a d := by unfold flatL flatL; simp
theorem flatL_two (a b : Tr) (d : Int) : flatL [a, b] d = flatF a d ++ flatF b d := by unfold flatL; rw [flatL_one]
theorem flatL_nil (d : Int) : flatL [] d = [] := by unfold flatL; rfl
theorem termK_of {k : Int} (h : 1 ≤ k ∧ k ≤ 7) : termK k = true := by simp [termK, h]
theorem termK_no {k : Int} (h : 8 ≤ k) : termK k = false := by simp [termK]; omega
theorem partsT {t : Tr} {tm : Tm} (h : RT t tm) : ∀ d, partsL (flatF t d) = [] := by
  induction h with
  | num h hk => intro d; rw [flatF_mk, partsL_cons, flatL_nil, termK_of (by show 1 ≤ h.k ∧ h.k ≤ 7; omega)]; rfl
  | name h hk => intro d; rw [flatF_mk, partsL_cons, flatL_nil, termK_of (by show 1 ≤ h.k ∧ h.k ≤ 7; omega)]; rfl
  | add h a b p q hk ha hb ia ib => intro d; rw [flatF_mk, partsL_cons, flatL_two, partsL_append, ia, ib, termK_of (by show 1 ≤ h.k ∧ h.k ≤ 7; omega)]; rfl
  | sub h a b p q hk ha hb ia ib => intro d; rw [flatF_mk, partsL_cons, flatL_two, partsL_append, ia, ib, termK_of (by show 1 ≤ h.k ∧ h.k ≤ 7; omega)]; rfl
  | mul h a b p q hk ha hb ia ib => intro d; rw [flatF_mk, partsL_cons, flatL_two, partsL_append, ia, ib, termK_of (by show 1 ≤ h.k ∧ h.k ≤ 7; omega)]; rfl
  | neg h a p hk ha ia => intro d; rw [flatF_mk, partsL_cons, flatL_one, ia, termK_of (by show 1 ≤ h.k ∧ h.k ≤ 7; omega)]; rfl
  | pow h a p hk he ha ia => intro d; rw [flatF_mk, partsL_cons, flatL_one, ia, termK_of (by show 1 ≤ h.k ∧ h.k ≤ 7; omega)]; rfl
/-- the subformulas and their trees, in order, with their depths -/
def subsF : Fo → Int → List (Fo × Int)
  | .not f, d => (.not f, d) :: subsF f (d + 1)
  | .and l r, d => (.and l r, d) :: (subsF l (d + 1) ++ subsF r (d + 1))
  | .or l r, d => (.or l r, d) :: (subsF l (d + 1) ++ subsF r (d + 1))
  | .implies l r, d => (.implies l r, d) :: (subsF l (d + 1) ++ subsF r (d + 1))
  | .iff l r, d => (.iff l r, d) :: (subsF l (d + 1) ++ subsF r (d + 1))
  | .quant a n f, d => (.quant a n f, d) :: subsF f (d + 1)
  | f, d => [(f, d)]
theorem partsF {t : Tr} {f : Fo} (h : RF t f) : ∀ d, partsL (flatF t d) = match t with
    | .mk h ks => (.mk h ks, d) :: (match f with | .atom _ _ _ => [] | _ => partsL (flatL ks (d + 1))) := by
  cases h with
  | truth h hk => intro d; rw [flatF_mk, partsL_cons, flatL_nil, termK_no (by show 8 ≤ h.k; omega)]; rfl
  | atom h a b p q hk hr ha hb => intro d; rw [flatF_mk, partsL_cons, flatL_two, partsL_append, partsT ha, partsT hb, termK_no (by show 8 ≤ h.k; omega)]; rfl
  | not h a p hk ha => intro d; rw [flatF_mk, partsL_cons, termK_no (by show 8 ≤ h.k; omega)]; rfl
  | and h a b p q hk ha hb => intro d; rw [flatF_mk, partsL_cons, termK_no (by show 8 ≤ h.k; omega)]; rfl
  | or h a b p q hk ha hb => intro d; rw [flatF_mk, partsL_cons, termK_no (by show 8 ≤ h.k; omega)]; rfl
  | implies h a b p q hk ha hb => intro d; rw [flatF_mk, partsL_cons, termK_no (by show 8 ≤ h.k; omega)]; rfl
  | iff h a b p q hk ha hb => intro d; rw [flatF_mk, partsL_cons, termK_no (by show 8 ≤ h.k; omega)]; rfl
  | quant h a p hk ha => intro d; rw [flatF_mk, partsL_cons, termK_no (by show 8 ≤ h.k; omega)]; rfl
theorem qNames_append (a b : List (Tr × Int)) : qNames (a ++ b) = qNames a ++ qNames b := by unfold qNames; rw [List.filter_append, List.map_append]
theorem qNames_cons (p : Tr × Int) (l : List (Tr × Int)) : qNames (p :: l) = (if p.1.h.k = 15 then [p.1.h.name] else []) ++ qNames l := by
  unfold qNames; rw [List.filter_cons]; by_cases h : p.1.h.k = 15 <;> simp [h]
theorem bound_same {t : Tr} {f : Fo} (h : RF t f) : ∀ d, qNames (partsL (flatF t d)) = boundN f := by
  induction h with
  | truth h hk => intro d; rw [partsF (.truth h hk)]; simp only; rw [qNames_cons, if_neg (by show h.k ≠ 15; omega), flatL_nil]; rfl
  | atom h a b p q hk hr ha hb => intro d; rw [partsF (.atom h a b p q hk hr ha hb)]; simp only; rw [qNames_cons, if_neg (by show h.k ≠ 15; omega)]; rfl
  | not h a p hk ha ia => intro d; rw [partsF (.not h a p hk ha)]; simp only; rw [qNames_cons, if_neg (by show h.k ≠ 15; omega), flatL_one, ia]; rfl
  | and h a b p q hk ha hb ia ib => intro d; rw [partsF (.and h a b p q hk ha hb)]; simp only; rw [qNames_cons, if_neg (by show h.k ≠ 15; omega), flatL_two, partsL_append, qNames_append, ia, ib]; rfl
  | or h a b p q hk ha hb ia ib => intro d; rw [partsF (.or h a b p q hk ha hb)]; simp only; rw [qNames_cons, if_neg (by show h.k ≠ 15; omega), flatL_two, partsL_append, qNames_append, ia, ib]; rfl
  | implies h a b p q hk ha hb ia ib => intro d; rw [partsF (.implies h a b p q hk ha hb)]; simp only; rw [qNames_cons, if_neg (by show h.k ≠ 15; omega), flatL_two, partsL_append, qNames_append, ia, ib]; rfl
  | iff h a b p q hk ha hb ia ib => intro d; rw [partsF (.iff h a b p q hk ha hb)]; simp only; rw [qNames_cons, if_neg (by show h.k ≠ 15; omega), flatL_two, partsL_append, qNames_append, ia, ib]; rfl
  | quant h a p hk ha ia => intro d; rw [partsF (.quant h a p hk ha)]; simp only; rw [qNames_cons, if_pos (by exact hk), flatL_one, ia]; rfl
theorem tn_nn {t : Tr} {tm : Tm} (h : RT t tm) : (namesT tm).length ≤ nn t := by
  induction h with
  | num h hk => simp [namesT]
  | name h hk => unfold nn nnL; simp [namesT]
  | add h a b p q hk ha hb ia ib => unfold nn nnL nnL nnL namesT; rw [List.length_append]; omega
  | sub h a b p q hk ha hb ia ib => unfold nn nnL nnL nnL namesT; rw [List.length_append]; omega
  | mul h a b p q hk ha hb ia ib => unfold nn nnL nnL nnL namesT; rw [List.length_append]; omega
  | neg h a p hk ha ia => unfold nn nnL nnL namesT; omega
  | pow h a p hk he ha ia => unfold nn nnL nnL namesT; omega
theorem fsz_nn {t : Tr} {f : Fo} (h : RF t f) : fsz f ≤ nn t := by
  induction h with
  | truth h hk => unfold nn nnL; simp [fsz]
  | atom h a b p q hk hr ha hb => unfold nn nnL nnL nnL fsz; have := tn_nn ha; have := tn_nn hb; omega
  | not h a p hk ha ia => unfold nn nnL nnL fsz; omega
  | and h a b p q hk ha hb ia ib => unfold nn nnL nnL nnL fsz; omega
  | or h a b p q hk ha hb ia ib => unfold nn nnL nnL nnL fsz; omega
  | implies h a b p q hk ha hb ia ib => unfold nn nnL nnL nnL fsz; omega
  | iff h a b p q hk ha hb ia ib => unfold nn nnL nnL nnL fsz; omega
  | quant h a p hk ha ia => unfold nn nnL nnL fsz; omega
end Fm
end Go.Proofs.Ytjbgdaojhdobkaa
