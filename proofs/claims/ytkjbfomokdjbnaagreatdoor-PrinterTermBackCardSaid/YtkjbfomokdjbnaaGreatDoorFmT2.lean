/-
  integer.Same, and what it goes by.
-/
import Derived.Test.YtkjbfomokdjbnaaGreatDoorFmI
import Derived.Lib.QuietBelow
import Derived.Test.YtkjbfomokdjbnaaGreatDoorFmW
import Derived.Test.YtkjbfomokdjbnaaGreatDoorFmOf
import Derived.Test.YtkjbfomokdjbnaaGreatDoorFmPF
import Derived.Test.YtkjbfomokdjbnaaGreatDoorFmT
import Derived.Lib.SlicesS
namespace Go.Proofs.YtkjbfomokdjbnaaGreatDoor
open Go.RowKit Go.Sort
set_option linter.unusedSimpArgs false
set_option linter.unusedVariables false
namespace Fm

def sg (neg : Bool) (l : List Nat) : Int := if (trimN l).length = 0 then 0 else if neg then -1 else 1
theorem isZero_any (l : List Nat) (v : Value) (S : Nat → Prop) (w : World) (h : AbsAt w S v l) (r : Bool) (hr : r = decide ((trimN l).length = 0)) :
    Calls Tryz.prog 59 #[v] w fun e w' => e = .returned (.bool r) ∧ w = w' := by
  obtain ⟨n, hn⟩ : ∃ n, n = (trimN l).length := ⟨_, rfl⟩
  have HT := Lib.hid (trim_any l v S w h)
  rw [← hn] at HT
  have hd : ((n : Int) == 0) = r := by rw [hr, ← hn, Bool.eq_iff_iff]; simp
  clear hr hn h
  go_enter Tryz.func59, Tryz.ntmps59
  go_wp2_with (go_at_call 74; refine HT.out.mono ?_; intro e w1 hq; obtain ⟨⟨A1, c1, rfl, hA⟩, hw⟩ := hq; obtain rfl : w = w1 := hw.symm)
  go_ret
  exact ⟨by rw [← hd]; rfl, rfl⟩
set_option maxHeartbeats 1000000 in
theorem sign_any (neg : Bool) (l : List Nat) (v : Value) (S : Nat → Prop) (w : World) (hS : ∀ b, S b → b < w.heap.size) (h : AbsAt w S v l) :
    Calls Tryz.prog 37 #[.agg #[.bool neg, v]] w fun e w' => e = .returned (.int .i64 (sg neg l)) ∧ Below w.heap.size w w' := by
  obtain ⟨A, c, rfl⟩ := h.form
  obtain ⟨n, hn⟩ : ∃ n, n = l.length := ⟨_, rfl⟩
  rw [← hn] at h ⊢
  obtain ⟨r, hr⟩ : ∃ r, r = decide ((trimN l).length = 0) := ⟨_, rfl⟩
  have HS := Lib.hid (show sg neg l = if r then 0 else if neg then -1 else 1 by unfold sg; rw [hr]; by_cases e : (trimN l).length = 0 <;> simp [e])
  have hb := (Below.refl w.heap.size w).alloc (Nat.le_refl _) (.cells #[.bool neg, .slice A n c] 25)
  have HZ := Lib.hid (isZero_any l _ S _ (h.below hS hb) r hr)
  have HB := Lib.hid hb
  clear hr hn h hb
  cases r
  · cases neg
    all_goals
      go_enter Tryz.func37, Tryz.ntmps37
      go_wp2_with (go_at_call 59; refine HZ.out.mono ?_; rintro e w1 ⟨rfl, rfl⟩)
      go_ret
      exact ⟨by rw [HS.out]; rfl, HB.out⟩
  · go_enter Tryz.func37, Tryz.ntmps37
    go_wp2_with (go_at_call 59; refine HZ.out.mono ?_; rintro e w1 ⟨rfl, rfl⟩)
    go_ret
    exact ⟨by rw [HS.out]; rfl, HB.out⟩
end Fm
end Go.Proofs.YtkjbfomokdjbnaaGreatDoor

/-
  The plain law of formulas: what is accepted, and the canonical tree.
-/
namespace Go.Proofs.YtkjbfomokdjbnaaGreatDoor
open Go.RowKit
set_option linter.unusedSimpArgs false
set_option linter.unusedVariables false
namespace Fm

/-- a tree and its term, a tree and its formula -/
inductive RT : Tr → Tm → Prop
  | num (h : Hd) (hk : h.k = 1) : RT (.mk h []) (.num (normB h.neg h.abs) (trimN h.abs))
  | name (h : Hd) (hk : h.k = 2) : RT (.mk h []) (.name h.name)
  | add (h : Hd) (a b : Tr) (p q : Tm) (hk : h.k = 3) (ha : RT a p) (hb : RT b q) : RT (.mk h [a, b]) (.add p q)
  | sub (h : Hd) (a b : Tr) (p q : Tm) (hk : h.k = 4) (ha : RT a p) (hb : RT b q) : RT (.mk h [a, b]) (.sub p q)
  | mul (h : Hd) (a b : Tr) (p q : Tm) (hk : h.k = 5) (ha : RT a p) (hb : RT b q) : RT (.mk h [a, b]) (.mul p q)
  | neg (h : Hd) (a : Tr) (p : Tm) (hk : h.k = 6) (ha : RT a p) : RT (.mk h [a]) (.neg p)
  | pow (h : Hd) (a : Tr) (p : Tm) (hk : h.k = 7) (he : 0 ≤ h.exp) (ha : RT a p) : RT (.mk h [a]) (.pow p h.exp)
inductive RF : Tr → Fo → Prop
  | truth (h : Hd) (hk : h.k = 8) : RF (.mk h []) (.truth h.truth)
  | atom (h : Hd) (a b : Tr) (p q : Tm) (hk : h.k = 9) (hr : 1 ≤ h.rel ∧ h.rel ≤ 6) (ha : RT a p) (hb : RT b q) : RF (.mk h [a, b]) (.atom p h.rel q)
  | not (h : Hd) (a : Tr) (p : Fo) (hk : h.k = 10) (ha : RF a p) : RF (.mk h [a]) (.not p)
  | and (h : Hd) (a b : Tr) (p q : Fo) (hk : h.k = 11) (ha : RF a p) (hb : RF b q) : RF (.mk h [a, b]) (.and p q)
  | or (h : Hd) (a b : Tr) (p q : Fo) (hk : h.k = 12) (ha : RF a p) (hb : RF b q) : RF (.mk h [a, b]) (.or p q)
  | implies (h : Hd) (a b : Tr) (p q : Fo) (hk : h.k = 13) (ha : RF a p) (hb : RF b q) : RF (.mk h [a, b]) (.implies p q)
  | iff (h : Hd) (a b : Tr) (p q : Fo) (hk : h.k = 14) (ha : RF a p) (hb : RF b q) : RF (.mk h [a, b]) (.iff p q)
  | quant (h : Hd) (a : Tr) (p : Fo) (hk : h.k = 15) (ha : RF a p) : RF (.mk h [a]) (.quant h.all h.name p)
theorem rt_of : ∀ (t : Tr) (tm : Tm), ofT t = some tm → RT t tm := by
  refine Tr.ind fun h ks ih => ?_
  intro tm ht
  unfold ofT at ht
  split at ht
  case isFalse => cases ht
  rename_i hc
  obtain ⟨ps, hps, rfl⟩ := Option.map_eq_some_iff.1 ht
  have hl := ofTs_len hps
  rcases (show h.k = 1 ∨ h.k = 2 ∨ h.k = 6 ∨ h.k = 7 ∨ h.k = 3 ∨ h.k = 4 ∨ h.k = 5 by
    have := hc.1; unfold kidsT at this; split at this <;> (try split at this) <;> (try split at this) <;> (try omega); cases this) with hk | hk | hk | hk | hk | hk | hk
  all_goals
    have h1 := hc.1
    unfold kidsT at h1
    simp only [hk] at h1
    simp at h1
  · obtain rfl : ks = [] := by simpa using h1.symm
    have em : mkT h ps = .num (normB h.neg h.abs) (trimN h.abs) := by unfold mkT; rw [if_pos hk]
    rw [em]; exact .num h hk
  · obtain rfl : ks = [] := by simpa using h1.symm
    have em : mkT h ps = .name h.name := by unfold mkT; simp [hk]
    rw [em]; exact .name h hk
  · obtain ⟨a, rfl⟩ := List.length_eq_one_iff.1 h1.symm
    obtain ⟨p, ha, rfl⟩ := ofTs_one hps
    have em : mkT h [p] = .neg p := by unfold mkT; simp [hk]
    rw [em]; exact .neg h a p hk (ih a (by simp) p ha)
  · obtain ⟨a, rfl⟩ := List.length_eq_one_iff.1 h1.symm
    obtain ⟨p, ha, rfl⟩ := ofTs_one hps
    have em : mkT h [p] = .pow p h.exp := by unfold mkT; simp [hk]
    rw [em]; exact .pow h a p hk (by have := hc.2; omega) (ih a (by simp) p ha)
  · obtain ⟨a, b, rfl⟩ := len_two h1.symm
    obtain ⟨p, q, ha, hb, rfl⟩ := ofTs_two hps
    have em : mkT h [p, q] = .add p q := by unfold mkT; simp [hk]
    rw [em]; exact .add h a b p q hk (ih a (by simp) p ha) (ih b (by simp) q hb)
  · obtain ⟨a, b, rfl⟩ := len_two h1.symm
    obtain ⟨p, q, ha, hb, rfl⟩ := ofTs_two hps
    have em : mkT h [p, q] = .sub p q := by unfold mkT; simp [hk]
    rw [em]; exact .sub h a b p q hk (ih a (by simp) p ha) (ih b (by simp) q hb)
  · obtain ⟨a, b, rfl⟩ := len_two h1.symm
    obtain ⟨p, q, ha, hb, rfl⟩ := ofTs_two hps
    have em : mkT h [p, q] = .mul p q := by unfold mkT; simp [hk]
    rw [em]; exact .mul h a b p q hk (ih a (by simp) p ha) (ih b (by simp) q hb)
theorem ofT_rt {t : Tr} {tm : Tm} (h : RT t tm) : ofT t = some tm := by
  induction h with
  | num h hk => unfold ofT; rw [if_pos (by simp [kidsT, hk])]; unfold ofTs; simp [mkT, hk]
  | name h hk => unfold ofT; rw [if_pos (by simp [kidsT, hk])]; unfold ofTs; simp [mkT, hk]
  | add h a b p q hk ha hb ia ib => unfold ofT; rw [if_pos (by simp [kidsT, hk])]; unfold ofTs ofTs ofTs; simp [mkT, hk, ia, ib]
  | sub h a b p q hk ha hb ia ib => unfold ofT; rw [if_pos (by simp [kidsT, hk])]; unfold ofTs ofTs ofTs; simp [mkT, hk, ia, ib]
  | mul h a b p q hk ha hb ia ib => unfold ofT; rw [if_pos (by simp [kidsT, hk])]; unfold ofTs ofTs ofTs; simp [mkT, hk, ia, ib]
  | neg h a p hk ha ia => unfold ofT; rw [if_pos (by simp [kidsT, hk])]; unfold ofTs ofTs; simp [mkT, hk, ia]
  | pow h a p hk he ha ia => unfold ofT; rw [if_pos (by simp [kidsT, hk]; omega)]; unfold ofTs ofTs; simp [mkT, hk, ia]
/-! ### who is accepted -/
end Fm
end Go.Proofs.YtkjbfomokdjbnaaGreatDoor

/-
  formula.sameTree and formula.Same: equality of canonical trees.
-/
namespace Go.Proofs.YtkjbfomokdjbnaaGreatDoor
open Go.RowKit
open Go.Sort
set_option linter.unusedSimpArgs false
set_option linter.unusedVariables false
namespace Fm

mutual
/-- the numbers of a tree are in canonical form -/
def NmT : Tr → Prop
  | .mk h ks => trimN h.abs = h.abs ∧ normB h.neg h.abs = h.neg ∧ NmL ks
def NmL : List Tr → Prop
  | [] => True
  | k :: ks => NmT k ∧ NmL ks
end
theorem NmL.at_ : ∀ {l : List Tr} (h : NmL l) {i : Nat} {k : Tr}, l[i]? = some k → NmT k
  | [], _, i, k, h => by simp at h
  | a :: l, hs, i, k, h => by
    unfold NmL at hs
    match i with
    | 0 => simp at h; subst h; exact hs.1
    | i + 1 => exact NmL.at_ hs.2 (by simpa using h)
theorem nmT_plainT (tm : Tm) : NmT (plainT tm) := by
  induction tm with
  | odd => unfold plainT NmT NmL; exact ⟨rfl, rfl, trivial⟩
  | num neg abs => unfold plainT NmT NmL; exact ⟨trimN_idem abs, normB_idem neg abs, trivial⟩
  | name s => unfold plainT NmT NmL; exact ⟨rfl, rfl, trivial⟩
  | add l r hl hr => unfold plainT NmT NmL NmL NmL; exact ⟨rfl, rfl, hl, hr, trivial⟩
  | sub l r hl hr => unfold plainT NmT NmL NmL NmL; exact ⟨rfl, rfl, hl, hr, trivial⟩
  | mul l r hl hr => unfold plainT NmT NmL NmL NmL; exact ⟨rfl, rfl, hl, hr, trivial⟩
  | neg t ht => unfold plainT NmT NmL NmL; exact ⟨rfl, rfl, ht, trivial⟩
  | pow t e ht => unfold plainT NmT NmL NmL; exact ⟨rfl, rfl, ht, trivial⟩
end Fm
end Go.Proofs.YtkjbfomokdjbnaaGreatDoor
