/-
  Check and the reference's Check: the plain law.
-/
import Derived.Test.YteneobpacobpdaaCkD
import Derived.Test.YteneobpacobpdaaFmBi
import Derived.Test.YteneobpacobpdaaFmNa
namespace Go.Proofs.Yteneobpacobpdaa
open Go.RowKit
set_option linter.unusedSimpArgs false
set_option linter.unusedVariables false
namespace Ch
open Fm Va Dc

/-! ### rows without repetition -/
theorem sub_len {α : Type} [DecidableEq α] : ∀ (a b : List α), a.Nodup → (∀ x ∈ a, x ∈ b) → a.length ≤ b.length
  | [], b, _, _ => Nat.zero_le _
  | x :: a, b, hn, h => by
    have hx : x ∈ b := h x (List.mem_cons_self ..)
    rw [List.nodup_cons] at hn
    have ih := sub_len a (b.erase x) hn.2 (fun y hy => (List.mem_erase_of_ne (by intro e; subst e; exact hn.1 hy)).2 (h y (List.mem_cons_of_mem _ hy)))
    rw [List.length_erase_of_mem hx] at ih
    have := List.length_pos_of_mem hx
    rw [List.length_cons]; omega
theorem addN_nodup {L : List ByteArray} (h : L.Nodup) (s : ByteArray) : (addN L s).Nodup := by
  unfold addN
  split
  · exact h
  · rename_i hs
    rw [List.nodup_append]
    exact ⟨h, by simp, by rintro a ha b hb rfl; simp at hb; subst hb; exact hs ha⟩
theorem fold_nodup (l : List ByteArray) : ∀ L : List ByteArray, L.Nodup → (l.foldl addN L).Nodup := by
  induction l with
  | nil => intro L h; exact h
  | cons a l ih => intro L h; exact ih _ (addN_nodup h a)
theorem fold_mem (l : List ByteArray) : ∀ (L : List ByteArray) (x : ByteArray), x ∈ l.foldl addN L ↔ x ∈ L ∨ x ∈ l := by
  induction l with
  | nil => intro L x; simp
  | cons a l ih => intro L x; rw [List.foldl_cons, ih, addN_mem, List.mem_cons, or_assoc]
theorem dist_len {a b : List ByteArray} (h : ∀ x, x ∈ a ↔ x ∈ b) : (a.foldl addN []).length = (b.foldl addN []).length := by
  apply Nat.le_antisymm
  · refine sub_len _ _ (fold_nodup a [] (by simp)) (fun x hx => ?_)
    rw [fold_mem] at hx ⊢
    rcases hx with hx | hx
    · exact .inl hx
    · exact .inr ((h x).1 hx)
  · refine sub_len _ _ (fold_nodup b [] (by simp)) (fun x hx => ?_)
    rw [fold_mem] at hx ⊢
    rcases hx with hx | hx
    · exact .inl hx
    · exact .inr ((h x).2 hx)

/-! ### the names of a tree -/
def nmL (L : List (Tr × Int)) : List ByteArray := (L.filter fun p => decide (p.1.h.k = 2 ∨ p.1.h.k = 15)).map fun p => p.1.h.name
theorem nmL_take {L : List (Tr × Int)} {i : Nat} {p : Tr × Int} (h : L[i]? = some p) : nmL (L.take (i + 1)) = nmL (L.take i) ++ (if p.1.h.k = 2 ∨ p.1.h.k = 15 then [p.1.h.name] else []) := by
  obtain ⟨hi, rfl⟩ := List.getElem?_eq_some_iff.1 h
  rw [List.take_succ_eq_append_getElem hi]
  unfold nmL
  rw [List.filter_append, List.map_append]
  by_cases hk : L[i].1.h.k = 2 ∨ L[i].1.h.k = 15 <;> simp [hk]
theorem nmL_len (L : List (Tr × Int)) (i : Nat) : (nmL (L.take i)).length ≤ L.length := by
  unfold nmL
  have := List.length_filter_le (fun p : Tr × Int => decide (p.1.h.k = 2 ∨ p.1.h.k = 15)) (L.take i)
  have : (L.take i).length ≤ L.length := by rw [List.length_take]; omega
  rw [List.length_map]
  omega
theorem nmL_append (a b : List (Tr × Int)) : nmL (a ++ b) = nmL a ++ nmL b := by unfold nmL; rw [List.filter_append, List.map_append]
theorem nmL_cons (p : Tr × Int) (l : List (Tr × Int)) : nmL (p :: l) = (if p.1.h.k = 2 ∨ p.1.h.k = 15 then [p.1.h.name] else []) ++ nmL l := by
  unfold nmL; rw [List.filter_cons]; by_cases h : p.1.h.k = 2 ∨ p.1.h.k = 15 <;> simp [h]
theorem nmL_no {h : Hd} {ks : List Tr} (d : Int) (hk : h.k ≠ 2 ∧ h.k ≠ 15) : nmL (flatF (.mk h ks) d) = nmL (flatL ks (d + 1)) := by
  rw [flatF_mk, nmL_cons, if_neg (by show ¬ (h.k = 2 ∨ h.k = 15); omega)]; rfl
theorem nm_tm {t : Tr} {tm : Tm} (h : RT t tm) : ∀ d, nmL (flatF t d) = namesT tm := by
  induction h with
  | num h hk => intro d; rw [nmL_no d (by omega), flatL_nil]; rfl
  | name h hk => intro d; rw [flatF_mk, nmL_cons, if_pos (.inl hk), flatL_nil]; rfl
  | add h a b p q hk ha hb ia ib => intro d; rw [nmL_no d (by omega), flatL_two, nmL_append, ia, ib]; rfl
  | sub h a b p q hk ha hb ia ib => intro d; rw [nmL_no d (by omega), flatL_two, nmL_append, ia, ib]; rfl
  | mul h a b p q hk ha hb ia ib => intro d; rw [nmL_no d (by omega), flatL_two, nmL_append, ia, ib]; rfl
  | neg h a p hk ha ia => intro d; rw [nmL_no d (by omega), flatL_one, ia]; rfl
  | pow h a p hk he ha ia => intro d; rw [nmL_no d (by omega), flatL_one, ia]; rfl
theorem nm_fo {t : Tr} {f : Fo} (h : RF t f) : ∀ (d : Int) (x : ByteArray), x ∈ nmL (flatF t d) ↔ x ∈ namesF f ∨ x ∈ boundN f := by
  induction h with
  | truth h hk => intro d x; rw [nmL_no d (by omega), flatL_nil]; simp [nmL, namesF, boundN]
  | atom h a b p q hk hr ha hb => intro d x; rw [nmL_no d (by omega), flatL_two, nmL_append, nm_tm ha, nm_tm hb]; simp [namesF, boundN]
  | not h a p hk ha ia => intro d x; rw [nmL_no d (by omega), flatL_one, ia]; rfl
  | and h a b p q hk ha hb ia ib => intro d x; rw [nmL_no d (by omega), flatL_two, nmL_append, List.mem_append, ia, ib]; simp only [namesF, boundN, List.mem_append]; constructor <;> (rintro ((h | h) | (h | h)) <;> simp [h])
  | or h a b p q hk ha hb ia ib => intro d x; rw [nmL_no d (by omega), flatL_two, nmL_append, List.mem_append, ia, ib]; simp only [namesF, boundN, List.mem_append]; constructor <;> (rintro ((h | h) | (h | h)) <;> simp [h])
  | implies h a b p q hk ha hb ia ib => intro d x; rw [nmL_no d (by omega), flatL_two, nmL_append, List.mem_append, ia, ib]; simp only [namesF, boundN, List.mem_append]; constructor <;> (rintro ((h | h) | (h | h)) <;> simp [h])
  | iff h a b p q hk ha hb ia ib => intro d x; rw [nmL_no d (by omega), flatL_two, nmL_append, List.mem_append, ia, ib]; simp only [namesF, boundN, List.mem_append]; constructor <;> (rintro ((h | h) | (h | h)) <;> simp [h])
  | quant h a p hk ha ia => intro d x; rw [flatF_mk, nmL_cons, if_pos (.inr hk), flatL_one, List.mem_append, ia, show ((Tr.mk h [a], d) : Tr × Int).1.h.name = h.name from rfl]; simp only [namesF, boundN, List.mem_cons, List.mem_singleton, List.not_mem_nil, or_false]; constructor <;> rintro (h | h | h) <;> simp [h]

/-! ### counts -/
theorem tn_eq {t : Tr} {tm : Tm} (h : RT t tm) : tn tm = nn t := by
  induction h with
  | num h hk => unfold nn nnL; simp [tn]
  | name h hk => unfold nn nnL; simp [tn]
  | add h a b p q hk ha hb ia ib => unfold nn nnL nnL nnL tn; omega
  | sub h a b p q hk ha hb ia ib => unfold nn nnL nnL nnL tn; omega
  | mul h a b p q hk ha hb ia ib => unfold nn nnL nnL nnL tn; omega
  | neg h a p hk ha ia => unfold nn nnL nnL tn; omega
  | pow h a p hk he ha ia => unfold nn nnL nnL tn; omega
theorem fnn_eq {t : Tr} {f : Fo} (h : RF t f) : fnn f = nn t := by
  induction h with
  | truth h hk => unfold nn nnL; simp [fnn]
  | atom h a b p q hk hr ha hb => unfold nn nnL nnL nnL fnn; have := tn_eq ha; have := tn_eq hb; omega
  | not h a p hk ha ia => unfold nn nnL nnL fnn; omega
  | and h a b p q hk ha hb ia ib => unfold nn nnL nnL nnL fnn; omega
  | or h a b p q hk ha hb ia ib => unfold nn nnL nnL nnL fnn; omega
  | implies h a b p q hk ha hb ia ib => unfold nn nnL nnL nnL fnn; omega
  | iff h a b p q hk ha hb ia ib => unfold nn nnL nnL nnL fnn; omega
  | quant h a p hk ha ia => unfold nn nnL nnL fnn; omega
def atL (L : List (Tr × Int)) : Nat := (L.filter fun p => decide (p.1.h.k = 9)).length
theorem atL_append (a b : List (Tr × Int)) : atL (a ++ b) = atL a + atL b := by unfold atL; rw [List.filter_append, List.length_append]
theorem atL_cons (p : Tr × Int) (l : List (Tr × Int)) : atL (p :: l) = (if p.1.h.k = 9 then 1 else 0) + atL l := by
  unfold atL; rw [List.filter_cons]; by_cases h : p.1.h.k = 9 <;> simp [h]; omega
theorem atL_take {L : List (Tr × Int)} {i : Nat} {p : Tr × Int} (h : L[i]? = some p) : atL (L.take (i + 1)) = atL (L.take i) + (if p.1.h.k = 9 then 1 else 0) := by
  obtain ⟨hi, rfl⟩ := List.getElem?_eq_some_iff.1 h
  rw [List.take_succ_eq_append_getElem hi, atL_append, atL_cons]; rfl
theorem atL_len (L : List (Tr × Int)) (i : Nat) : atL (L.take i) ≤ L.length := by
  unfold atL
  have := List.length_filter_le (fun p : Tr × Int => decide (p.1.h.k = 9)) (L.take i)
  have : (L.take i).length ≤ L.length := by rw [List.length_take]; omega
  omega
theorem at_eq {t : Tr} {f : Fo} (h : RF t f) : ∀ d, atL (partsL (flatF t d)) = atomsF f := by
  induction h with
  | truth h hk => intro d; rw [partsF (.truth h hk)]; simp only; rw [atL_cons, if_neg (by show h.k ≠ 9; omega), flatL_nil]; rfl
  | atom h a b p q hk hr ha hb => intro d; rw [partsF (.atom h a b p q hk hr ha hb)]; simp only; rw [atL_cons, if_pos (show ((Tr.mk h [a, b], d) : Tr × Int).1.h.k = 9 from hk)]; rfl
  | not h a p hk ha ia => intro d; rw [partsF (.not h a p hk ha)]; simp only; rw [atL_cons, if_neg (by show h.k ≠ 9; omega), flatL_one, ia]; simp [atomsF]
  | and h a b p q hk ha hb ia ib => intro d; rw [partsF (.and h a b p q hk ha hb)]; simp only; rw [atL_cons, if_neg (by show h.k ≠ 9; omega), flatL_two, partsL_append, atL_append, ia, ib]; simp [atomsF]
  | or h a b p q hk ha hb ia ib => intro d; rw [partsF (.or h a b p q hk ha hb)]; simp only; rw [atL_cons, if_neg (by show h.k ≠ 9; omega), flatL_two, partsL_append, atL_append, ia, ib]; simp [atomsF]
  | implies h a b p q hk ha hb ia ib => intro d; rw [partsF (.implies h a b p q hk ha hb)]; simp only; rw [atL_cons, if_neg (by show h.k ≠ 9; omega), flatL_two, partsL_append, atL_append, ia, ib]; simp [atomsF]
  | iff h a b p q hk ha hb ia ib => intro d; rw [partsF (.iff h a b p q hk ha hb)]; simp only; rw [atL_cons, if_neg (by show h.k ≠ 9; omega), flatL_two, partsL_append, atL_append, ia, ib]; simp [atomsF]
  | quant h a p hk ha ia => intro d; rw [partsF (.quant h a p hk ha)]; simp only; rw [atL_cons, if_neg (by show h.k ≠ 9; omega), flatL_one, ia]; simp [atomsF]

/-! ### the limits -/
theorem rt_to {t : Tr} {tm : Tm} (h : RT t tm) : ofT t = some tm := by
  induction h with
  | num h hk => unfold ofT; simp [kidsT, hk, ofTs, mkT]
  | name h hk => unfold ofT; simp [kidsT, hk, ofTs, mkT]
  | add h a b p q hk ha hb ia ib => unfold ofT; simp [kidsT, hk, ofTs, mkT, ia, ib]
  | sub h a b p q hk ha hb ia ib => unfold ofT; simp [kidsT, hk, ofTs, mkT, ia, ib]
  | mul h a b p q hk ha hb ia ib => unfold ofT; simp [kidsT, hk, ofTs, mkT, ia, ib]
  | neg h a p hk ha ia => unfold ofT; simp [kidsT, hk, ofTs, mkT, ia]
  | pow h a p hk he ha ia => unfold ofT; simp [kidsT, hk, ofTs, mkT, ia]; omega
def degR (t : Tr) : Nat := match ofT t with | some x => degT x | none => 0
def wgtR (t : Tr) : Nat := match ofT t with | some x => wgtT x | none => 0
theorem degR_of {t : Tr} {tm : Tm} (h : RT t tm) : degR t = degT tm := by unfold degR; rw [rt_to h]
theorem wgtR_of {t : Tr} {tm : Tm} (h : RT t tm) : wgtR t = wgtT tm := by unfold wgtR; rw [rt_to h]
def kidB (a : Tr) : Bool := decide (8 < degR a) || decide (320 < wgtR a)
def viol (p : Tr) : Bool := (decide (p.h.k = 1) && decide (40 < digN (valN p.h.abs))) || ((decide (p.h.k = 7) && decide (8 < p.h.exp)) || (decide (p.h.k = 9) && p.kids.any kidB))
theorem any_mk (h : Hd) (ks : List Tr) (d : Int) : (flatF (.mk h ks) d).any (fun p => viol p.1) = (viol (.mk h ks) || (flatL ks (d + 1)).any (fun p => viol p.1)) := by rw [flatF_mk, List.any_cons]
theorem viol_no {h : Hd} {ks : List Tr} (hk : h.k ≠ 1 ∧ h.k ≠ 7 ∧ h.k ≠ 9) : viol (.mk h ks) = false := by
  unfold viol; simp [Tr.h, hk.1, hk.2.1, hk.2.2]
theorem lim_tm {t : Tr} {tm : Tm} (h : RT t tm) : ∀ d, (flatF t d).any (fun p => viol p.1) = !smallT tm := by
  induction h with
  | num h hk => intro d; rw [any_mk, flatL_nil]; simp [viol, Tr.h, hk, smallT, valN_trim]; by_cases h : 40 < digN (valN h.abs) <;> simp [h] <;> omega
  | name h hk => intro d; rw [any_mk, flatL_nil, viol_no (by omega)]; rfl
  | add h a b p q hk ha hb ia ib => intro d; rw [any_mk, viol_no (by omega), flatL_two, List.any_append, ia, ib]; simp [smallT]
  | sub h a b p q hk ha hb ia ib => intro d; rw [any_mk, viol_no (by omega), flatL_two, List.any_append, ia, ib]; simp [smallT]
  | mul h a b p q hk ha hb ia ib => intro d; rw [any_mk, viol_no (by omega), flatL_two, List.any_append, ia, ib]; simp [smallT]
  | neg h a p hk ha ia => intro d; rw [any_mk, viol_no (by omega), flatL_one, ia]; simp [smallT]
  | pow h a p hk he ha ia => intro d; rw [any_mk, flatL_one, ia]; simp [viol, Tr.h, hk, smallT]; by_cases h : 8 < h.exp <;> simp [h] <;> omega
theorem lim_fo {t : Tr} {f : Fo} (h : RF t f) : ∀ d, (flatF t d).any (fun p => viol p.1) = !limF f := by
  induction h with
  | truth h hk => intro d; rw [any_mk, viol_no (by omega), flatL_nil]; rfl
  | atom h a b p q hk hr ha hb =>
    intro d; rw [any_mk, flatL_two, List.any_append, lim_tm ha, lim_tm hb]
    have e : viol (.mk h [a, b]) = (kidB a || kidB b) := by simp [viol, Tr.h, Tr.kids, hk]
    rw [e]
    unfold kidB limF okT
    rw [degR_of ha, degR_of hb, wgtR_of ha, wgtR_of hb]
    by_cases h1 : 8 < degT p <;> by_cases h2 : 320 < wgtT p <;> by_cases h3 : 8 < degT q <;> by_cases h4 : 320 < wgtT q <;> cases smallT p <;> cases smallT q <;> simp [h1, h2, h3, h4] <;> omega
  | not h a p hk ha ia => intro d; rw [any_mk, viol_no (by omega), flatL_one, ia]; simp [limF]
  | and h a b p q hk ha hb ia ib => intro d; rw [any_mk, viol_no (by omega), flatL_two, List.any_append, ia, ib]; simp [limF]
  | or h a b p q hk ha hb ia ib => intro d; rw [any_mk, viol_no (by omega), flatL_two, List.any_append, ia, ib]; simp [limF]
  | implies h a b p q hk ha hb ia ib => intro d; rw [any_mk, viol_no (by omega), flatL_two, List.any_append, ia, ib]; simp [limF]
  | iff h a b p q hk ha hb ia ib => intro d; rw [any_mk, viol_no (by omega), flatL_two, List.any_append, ia, ib]; simp [limF]
  | quant h a p hk ha ia => intro d; rw [any_mk, viol_no (by omega), flatL_one, ia]; simp [limF]

/-! ### the rules on names -/
abbrev vld (x : ByteArray) : Bool := validB x.data.toList
def badB (o : List ByteArray) : List ByteArray → List ByteArray → Bool
  | _, [] => false
  | pre, x :: l => decide (x ∈ pre) || (decide (x ∈ o) || badB o (pre ++ [x]) l)
def rBad (t : Tr) : Bool := !(nmL (flatF t 0)).all vld || badB (freeR t [] []) [] (qNames (partsL (flatF t 0)))
def rBig (t : Tr) : Bool := decide (4000 < nn t) || (decide (16 < atL (partsL (flatF t 0))) || decide (4 < ((nmL (flatF t 0)).foldl addN []).length))
def rCheck (t : Tr) : Int := if rBad t = true then 7 else if rBig t = true then 8 else if (flatF t 0).any (fun p => viol p.1) = true then 8 else 0

theorem ckn (l : List ByteArray) : ∀ s : CkS, (l.foldl ckStep s).2 = (l.foldl addN s.2.1, s.2.2 && l.all vld) := by
  induction l with
  | nil => intro s; simp
  | cons a l ih => intro s; rw [List.foldl_cons, ih]; unfold ckStep; simp [vld, Bool.and_assoc]
def bOk (q : List ByteArray) : List ByteArray → Bool
  | [] => true
  | x :: l => vld x && (!decide (x ∈ q) && bOk (addN q x) l)
theorem ckb (l : List ByteArray) : ∀ (s : CkS) (q : List ByteArray), (l.foldl bStep (s, q)).1.2 = (l.foldl addN s.2.1, s.2.2 && bOk q l) ∧ (l.foldl bStep (s, q)).2 = l.foldl addN q := by
  induction l with
  | nil => intro s q; simp [bOk]
  | cons a l ih =>
    intro s q
    rw [List.foldl_cons]
    obtain ⟨h1, h2⟩ := ih (bStep (s, q) a).1 (bStep (s, q) a).2
    refine ⟨h1.trans ?_, h2⟩
    rw [show bOk q (a :: l) = (vld a && (!decide (a ∈ q) && bOk (addN q a) l)) from rfl]
    unfold bStep ckStep
    by_cases h : a ∈ q <;> simp [h, vld, Bool.and_assoc]
theorem fstep (L q : List ByteArray) : ∀ v : Bool, L.foldl (fStep q) v = (v && L.all fun x => !decide (x ∈ q)) := by
  induction L with
  | nil => intro v; simp
  | cons a L ih => intro v; rw [List.foldl_cons, ih]; unfold fStep; by_cases h : a ∈ q <;> simp [h]
theorem ok_eq (f : Fo) : ckOk f = ((namesF f).all vld && bOk [] (boundN f) && (freeN f).all fun x => !decide (x ∈ boundN f)) := by
  obtain ⟨h1, h2⟩ := ckb (boundN f) (ckS1 f) []
  unfold ckOk
  rw [fstep]
  have e1 : (ckS2 f).1.2.2 = ((namesF f).all vld && bOk [] (boundN f)) := by
    show ((boundN f).foldl bStep (ckS1 f, [])).1.2.2 = _
    rw [h1]
    show (_, ((ckS1 f).2.2 && _)).2 = _
    dsimp only
    unfold ckS1
    rw [ckn]; simp
  have e2 : ∀ x, x ∈ (ckS2 f).2 ↔ x ∈ boundN f := fun x => by
    show x ∈ ((boundN f).foldl bStep (ckS1 f, [])).2 ↔ _
    rw [h2, fold_mem]; simp
  rw [e1]
  have e3 : (fun x => !decide (x ∈ (ckS2 f).2)) = (fun x => !decide (x ∈ boundN f)) := by funext x; simp [e2 x]
  rw [e3]
theorem dist_eq (f : Fo) : (ckS2 f).1.2.1 = (namesF f ++ boundN f).foldl addN [] := by
  show ((boundN f).foldl bStep (ckS1 f, [])).1.2.1 = _
  rw [(ckb (boundN f) (ckS1 f) []).1, List.foldl_append]
  show (boundN f).foldl addN (ckS1 f).2.1 = _
  unfold ckS1
  rw [ckn]
theorem bad_iff (o : List ByteArray) (l : List ByteArray) : ∀ (pre q : List ByteArray), (∀ x, x ∈ q ↔ x ∈ pre) → l.all vld = true → badB o pre l = !(bOk q l && l.all fun x => !decide (x ∈ o)) := by
  induction l with
  | nil => intro pre q hq hv; simp [badB, bOk]
  | cons a l ih =>
    intro pre q hq hv
    rw [List.all_cons, Bool.and_eq_true] at hv
    unfold badB bOk
    rw [ih (pre ++ [a]) (addN q a) (fun x => by rw [addN_mem, hq, List.mem_append, List.mem_singleton]) hv.2, hv.1, List.all_cons]
    have e : decide (a ∈ q) = decide (a ∈ pre) := by simp [hq]
    rw [e]
    cases decide (a ∈ pre) <;> cases decide (a ∈ o) <;> cases bOk (addN q a) l <;> simp
theorem bOk_valid (l : List ByteArray) : ∀ q : List ByteArray, bOk q l = true → l.all vld = true := by
  induction l with
  | nil => intro q _; rfl
  | cons a l ih =>
    intro q h
    unfold bOk at h
    simp only [Bool.and_eq_true] at h
    rw [List.all_cons, Bool.and_eq_true]
    exact ⟨h.1, ih _ h.2.2⟩
theorem disj_comm (a b : List ByteArray) : (a.all fun x => !decide (x ∈ b)) = (b.all fun x => !decide (x ∈ a)) := by
  rw [Bool.eq_iff_iff, List.all_eq_true, List.all_eq_true]
  constructor
  · intro h x hx
    simp only [Bool.not_eq_true', decide_eq_false_iff_not] at h ⊢
    exact fun hx2 => h x hx2 hx
  · intro h x hx
    simp only [Bool.not_eq_true', decide_eq_false_iff_not] at h ⊢
    exact fun hx2 => h x hx2 hx
theorem bad_eq {t : Tr} {f : Fo} (h : RF t f) : rBad t = !ckOk f := by
  have hall : (nmL (flatF t 0)).all vld = ((namesF f).all vld && (boundN f).all vld) := by
    rw [Bool.eq_iff_iff, Bool.and_eq_true, List.all_eq_true, List.all_eq_true, List.all_eq_true]
    constructor
    · intro h1; exact ⟨fun x hx => h1 x ((nm_fo h 0 x).2 (.inl hx)), fun x hx => h1 x ((nm_fo h 0 x).2 (.inr hx))⟩
    · rintro ⟨h1, h2⟩ x hx; rcases (nm_fo h 0 x).1 hx with h3 | h3; exact h1 x h3; exact h2 x h3
  unfold rBad
  rw [hall, bound_same h, ok_eq, free_same h, disj_comm]
  cases hn : (namesF f).all vld
  · simp
  · cases hb : (boundN f).all vld
    · have : bOk [] (boundN f) = false := by
        cases h2 : bOk [] (boundN f)
        · rfl
        · rw [bOk_valid _ _ h2] at hb; cases hb
      rw [this]; simp
    · rw [bad_iff (freeR t [] []) (boundN f) [] [] (fun x => Iff.rfl) hb]; simp
theorem check_eq {t : Tr} {f : Fo} (h : RF t f) : rCheck t = checkF f := by
  unfold rCheck checkF
  rw [bad_eq h]
  cases ckOk f
  · simp
  · have hbig : (rBig t || (flatF t 0).any fun p => viol p.1) = ckBig f := by
      unfold rBig ckBig
      rw [fnn_eq h, at_eq h, lim_fo h, dist_eq, dist_len (a := nmL (flatF t 0)) (b := namesF f ++ boundN f) (fun x => by rw [nm_fo h, List.mem_append])]
      simp [Bool.or_assoc]
    rw [← hbig]
    cases rBig t <;> cases ((flatF t 0).any fun p => viol p.1) <;> simp
end Ch
end Go.Proofs.Yteneobpacobpdaa
