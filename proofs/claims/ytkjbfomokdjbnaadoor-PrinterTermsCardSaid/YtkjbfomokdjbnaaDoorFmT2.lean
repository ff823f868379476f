/-
  integer.Same, and what it goes by.
-/
import Derived.Test.YtkjbfomokdjbnaaDoorFmI
import Derived.Lib.QuietBelow
import Derived.Test.YtkjbfomokdjbnaaDoorFmW
import Derived.Test.YtkjbfomokdjbnaaDoorFmOf
import Derived.Test.YtkjbfomokdjbnaaDoorFmPF
import Derived.Test.YtkjbfomokdjbnaaDoorFmT
import Derived.Lib.SlicesS
namespace Go.Proofs.YtkjbfomokdjbnaaDoor
open Go.RowKit Go.Sort
set_option linter.unusedSimpArgs false
set_option linter.unusedVariables false
namespace Fm

def sg (neg : Bool) (l : List Nat) : Int := if (trimN l).length = 0 then 0 else if neg then -1 else 1
theorem isZero_any (l : List Nat) (v : Value) (S : Nat → Prop) (w : World) (h : AbsAt w S v l) (r : Bool) (hr : r = decide ((trimN l).length = 0)) :
    Calls Tryd.prog 74 #[v] w fun e w' => e = .returned (.bool r) ∧ w = w' := by
  obtain ⟨n, hn⟩ : ∃ n, n = (trimN l).length := ⟨_, rfl⟩
  have HT := Lib.hid (trim_any l v S w h)
  rw [← hn] at HT
  have hd : ((n : Int) == 0) = r := by rw [hr, ← hn, Bool.eq_iff_iff]; simp
  clear hr hn h
  go_enter Tryd.func74, Tryd.ntmps74
  go_wp2_with (go_at_call 80; refine HT.out.mono ?_; intro e w1 hq; obtain ⟨⟨A1, c1, rfl, hA⟩, hw⟩ := hq; obtain rfl : w = w1 := hw.symm)
  go_ret
  exact ⟨by rw [← hd]; rfl, rfl⟩
set_option maxHeartbeats 1000000 in
theorem sign_any (neg : Bool) (l : List Nat) (v : Value) (S : Nat → Prop) (w : World) (hS : ∀ b, S b → b < w.heap.size) (h : AbsAt w S v l) :
    Calls Tryd.prog 61 #[.agg #[.bool neg, v]] w fun e w' => e = .returned (.int .i64 (sg neg l)) ∧ Below w.heap.size w w' := by
  obtain ⟨A, c, rfl⟩ := h.form
  obtain ⟨n, hn⟩ : ∃ n, n = l.length := ⟨_, rfl⟩
  rw [← hn] at h ⊢
  obtain ⟨r, hr⟩ : ∃ r, r = decide ((trimN l).length = 0) := ⟨_, rfl⟩
  have HS := Lib.hid (show sg neg l = if r then 0 else if neg then -1 else 1 by unfold sg; rw [hr]; by_cases e : (trimN l).length = 0 <;> simp [e])
  have hb := (Below.refl w.heap.size w).alloc (Nat.le_refl _) (.cells #[.bool neg, .slice A n c] 25)
  have HZ := Lib.hid (isZero_any l _ S _ (h.below hS hb) r hr)
  have HB := Lib.hid hb
  clear hr hn h hb
  cases r
  · cases neg
    all_goals
      go_enter Tryd.func61, Tryd.ntmps61
      go_wp2_with (go_at_call 74; refine HZ.out.mono ?_; rintro e w1 ⟨rfl, rfl⟩)
      go_ret
      exact ⟨by rw [HS.out]; rfl, HB.out⟩
  · go_enter Tryd.func61, Tryd.ntmps61
    go_wp2_with (go_at_call 74; refine HZ.out.mono ?_; rintro e w1 ⟨rfl, rfl⟩)
    go_ret
    exact ⟨by rw [HS.out]; rfl, HB.out⟩
end Fm
end Go.Proofs.YtkjbfomokdjbnaaDoor

/-
  The plain law of formulas: what is accepted, and the canonical tree.
-/
namespace Go.Proofs.YtkjbfomokdjbnaaDoor
open Go.RowKit
set_option linter.unusedSimpArgs false
set_option linter.unusedVariables false
namespace Fm

/-- a tree and its term, a tree and its formula -/
inductive RT : Tr → Tm → Prop
  | num (h : Hd) (hk : h.k = 1) : RT (.mk h []) (.num (normB h.neg h.abs) (trimN h.abs))
  | name (h : Hd) (hk : h.k = 2) : RT (.mk h []) (.name h.name)
  | add (h : Hd) (a b : Tr) (p q : Tm) (hk : h.k = 3) (ha : RT a p) (hb : RT b q) : RT (.mk h [a, b]) (.add p q)
  | sub (h : Hd) (a b : Tr) (p q : Tm) (hk : h.k = 4) (ha : RT a p) (hb : RT b q) : RT (.mk h [a, b]) (.sub p q)
  | mul (h : Hd) (a b : Tr) (p q : Tm) (hk : h.k = 5) (ha : RT a p) (hb : RT b q) : RT (.mk h [a, b]) (.mul p q)
  | neg (h : Hd) (a : Tr) (p : Tm) (hk : h.k = 6) (ha : RT a p) : RT (.mk h [a]) (.neg p)
  | pow (h : Hd) (a : Tr) (p : Tm) (hk : h.k = 7) (he : 0 ≤ h.exp) (ha : RT a p) : RT (.mk h [a]) (.pow p h.exp)
inductive RF : Tr → Fo → Prop
  | truth (h : Hd) (hk : h.k = 8) : RF (.mk h []) (.truth h.truth)
  | atom (h : Hd) (a b : Tr) (p q : Tm) (hk : h.k = 9) (hr : 1 ≤ h.rel ∧ h.rel ≤ 6) (ha : RT a p) (hb : RT b q) : RF (.mk h [a, b]) (.atom p h.rel q)
  | not (h : Hd) (a : Tr) (p : Fo) (hk : h.k = 10) (ha : RF a p) : RF (.mk h [a]) (.not p)
  | and (h : Hd) (a b : Tr) (p q : Fo) (hk : h.k = 11) (ha : RF a p) (hb : RF b q) : RF (.mk h [a, b]) (.and p q)
  | or (h : Hd) (a b : Tr) (p q : Fo) (hk : h.k = 12) (ha : RF a p) (hb : RF b q) : RF (.mk h [a, b]) (.or p q)
  | implies (h : Hd) (a b : Tr) (p q : Fo) (hk : h.k = 13) (ha : RF a p) (hb : RF b q) : RF (.mk h [a, b]) (.implies p q)
  | iff (h : Hd) (a b : Tr) (p q : Fo) (hk : h.k = 14) (ha : RF a p) (hb : RF b q) : RF (.mk h [a, b]) (.iff p q)
  | quant (h : Hd) (a : Tr) (p : Fo) (hk : h.k = 15) (ha : RF a p) : RF (.mk h [a]) (.quant h.all h.name p)
theorem ofFs_one {a : Tr} {ps : List Fo} (h : ofFs [a] = some ps) : ∃ p, ofF a = some p ∧ ps = [p] := by
  unfold ofFs at h
  cases ha : ofF a with
  | none => rw [ha] at h; cases h
  | some p =>
    rw [ha] at h
    refine ⟨p, rfl, ?_⟩
    simp [ofFs] at h
    exact h.symm
theorem ofFs_two {a b : Tr} {ps : List Fo} (h : ofFs [a, b] = some ps) : ∃ p q, ofF a = some p ∧ ofF b = some q ∧ ps = [p, q] := by
  unfold ofFs at h
  cases ha : ofF a with
  | none => rw [ha] at h; cases h
  | some p =>
    rw [ha] at h
    simp only [Option.map_eq_some_iff] at h
    obtain ⟨qs, hq, rfl⟩ := h
    obtain ⟨q, hb, rfl⟩ := ofFs_one hq
    exact ⟨p, q, rfl, hb, rfl⟩
theorem rt_of : ∀ (t : Tr) (tm : Tm), ofT t = some tm → RT t tm := by
  refine Tr.ind fun h ks ih => ?_
  intro tm ht
  unfold ofT at ht
  split at ht
  case isFalse => cases ht
  rename_i hc
  obtain ⟨ps, hps, rfl⟩ := Option.map_eq_some_iff.1 ht
  have hl := ofTs_len hps
  rcases (show h.k = 1 ∨ h.k = 2 ∨ h.k = 6 ∨ h.k = 7 ∨ h.k = 3 ∨ h.k = 4 ∨ h.k = 5 by
    have := hc.1; unfold kidsT at this; split at this <;> (try split at this) <;> (try split at this) <;> (try omega); cases this) with hk | hk | hk | hk | hk | hk | hk
  all_goals
    have h1 := hc.1
    unfold kidsT at h1
    simp only [hk] at h1
    simp at h1
  · obtain rfl : ks = [] := by simpa using h1.symm
    have em : mkT h ps = .num (normB h.neg h.abs) (trimN h.abs) := by unfold mkT; rw [if_pos hk]
    rw [em]; exact .num h hk
  · obtain rfl : ks = [] := by simpa using h1.symm
    have em : mkT h ps = .name h.name := by unfold mkT; simp [hk]
    rw [em]; exact .name h hk
  · obtain ⟨a, rfl⟩ := List.length_eq_one_iff.1 h1.symm
    obtain ⟨p, ha, rfl⟩ := ofTs_one hps
    have em : mkT h [p] = .neg p := by unfold mkT; simp [hk]
    rw [em]; exact .neg h a p hk (ih a (by simp) p ha)
  · obtain ⟨a, rfl⟩ := List.length_eq_one_iff.1 h1.symm
    obtain ⟨p, ha, rfl⟩ := ofTs_one hps
    have em : mkT h [p] = .pow p h.exp := by unfold mkT; simp [hk]
    rw [em]; exact .pow h a p hk (by have := hc.2; omega) (ih a (by simp) p ha)
  · obtain ⟨a, b, rfl⟩ := len_two h1.symm
    obtain ⟨p, q, ha, hb, rfl⟩ := ofTs_two hps
    have em : mkT h [p, q] = .add p q := by unfold mkT; simp [hk]
    rw [em]; exact .add h a b p q hk (ih a (by simp) p ha) (ih b (by simp) q hb)
  · obtain ⟨a, b, rfl⟩ := len_two h1.symm
    obtain ⟨p, q, ha, hb, rfl⟩ := ofTs_two hps
    have em : mkT h [p, q] = .sub p q := by unfold mkT; simp [hk]
    rw [em]; exact .sub h a b p q hk (ih a (by simp) p ha) (ih b (by simp) q hb)
  · obtain ⟨a, b, rfl⟩ := len_two h1.symm
    obtain ⟨p, q, ha, hb, rfl⟩ := ofTs_two hps
    have em : mkT h [p, q] = .mul p q := by unfold mkT; simp [hk]
    rw [em]; exact .mul h a b p q hk (ih a (by simp) p ha) (ih b (by simp) q hb)
theorem rf_of : ∀ (t : Tr) (f : Fo), ofF t = some f → RF t f := by
  refine Tr.ind fun h ks ih => ?_
  intro f ht
  unfold ofF at ht
  split at ht
  case isFalse => cases ht
  rename_i hc
  by_cases h9 : h.k = 9
  · rw [if_pos h9] at ht
    obtain ⟨ps, hps, rfl⟩ := Option.map_eq_some_iff.1 ht
    have h1 := hc.1
    unfold kidsF at h1
    simp only [h9] at h1
    simp at h1
    obtain ⟨a, b, rfl⟩ := len_two h1.symm
    obtain ⟨p, q, ha, hb, rfl⟩ := ofTs_two hps
    exact .atom h a b p q h9 (by have := hc.2; omega) (rt_of a p ha) (rt_of b q hb)
  · rw [if_neg h9] at ht
    obtain ⟨ps, hps, rfl⟩ := Option.map_eq_some_iff.1 ht
    rcases (show h.k = 8 ∨ h.k = 10 ∨ h.k = 15 ∨ h.k = 11 ∨ h.k = 12 ∨ h.k = 13 ∨ h.k = 14 by
      have := hc.1; unfold kidsF at this; split at this <;> (try split at this) <;> (try split at this) <;> (try omega); cases this) with hk | hk | hk | hk | hk | hk | hk
    all_goals
      have h1 := hc.1
      unfold kidsF at h1
      simp only [hk] at h1
      simp at h1
    · obtain rfl : ks = [] := by simpa using h1.symm
      have em : mkF h ps = .truth h.truth := by unfold mkF; rw [if_pos hk]
      rw [em]; exact .truth h hk
    · obtain ⟨a, rfl⟩ := List.length_eq_one_iff.1 h1.symm
      obtain ⟨p, ha, rfl⟩ := ofFs_one hps
      have em : mkF h [p] = .not p := by unfold mkF; simp [hk]
      rw [em]; exact .not h a p hk (ih a (by simp) p ha)
    · obtain ⟨a, rfl⟩ := List.length_eq_one_iff.1 h1.symm
      obtain ⟨p, ha, rfl⟩ := ofFs_one hps
      have em : mkF h [p] = .quant h.all h.name p := by unfold mkF; simp [hk]
      rw [em]; exact .quant h a p hk (ih a (by simp) p ha)
    · obtain ⟨a, b, rfl⟩ := len_two h1.symm
      obtain ⟨p, q, ha, hb, rfl⟩ := ofFs_two hps
      have em : mkF h [p, q] = .and p q := by unfold mkF; simp [hk]
      rw [em]; exact .and h a b p q hk (ih a (by simp) p ha) (ih b (by simp) q hb)
    · obtain ⟨a, b, rfl⟩ := len_two h1.symm
      obtain ⟨p, q, ha, hb, rfl⟩ := ofFs_two hps
      have em : mkF h [p, q] = .or p q := by unfold mkF; simp [hk]
      rw [em]; exact .or h a b p q hk (ih a (by simp) p ha) (ih b (by simp) q hb)
    · obtain ⟨a, b, rfl⟩ := len_two h1.symm
      obtain ⟨p, q, ha, hb, rfl⟩ := ofFs_two hps
      have em : mkF h [p, q] = .implies p q := by unfold mkF; simp [hk]
      rw [em]; exact .implies h a b p q hk (ih a (by simp) p ha) (ih b (by simp) q hb)
    · obtain ⟨a, b, rfl⟩ := len_two h1.symm
      obtain ⟨p, q, ha, hb, rfl⟩ := ofFs_two hps
      have em : mkF h [p, q] = .iff p q := by unfold mkF; simp [hk]
      rw [em]; exact .iff h a b p q hk (ih a (by simp) p ha) (ih b (by simp) q hb)
theorem ofT_rt {t : Tr} {tm : Tm} (h : RT t tm) : ofT t = some tm := by
  induction h with
  | num h hk => unfold ofT; rw [if_pos (by simp [kidsT, hk])]; unfold ofTs; simp [mkT, hk]
  | name h hk => unfold ofT; rw [if_pos (by simp [kidsT, hk])]; unfold ofTs; simp [mkT, hk]
  | add h a b p q hk ha hb ia ib => unfold ofT; rw [if_pos (by simp [kidsT, hk])]; unfold ofTs ofTs ofTs; simp [mkT, hk, ia, ib]
  | sub h a b p q hk ha hb ia ib => unfold ofT; rw [if_pos (by simp [kidsT, hk])]; unfold ofTs ofTs ofTs; simp [mkT, hk, ia, ib]
  | mul h a b p q hk ha hb ia ib => unfold ofT; rw [if_pos (by simp [kidsT, hk])]; unfold ofTs ofTs ofTs; simp [mkT, hk, ia, ib]
  | neg h a p hk ha ia => unfold ofT; rw [if_pos (by simp [kidsT, hk])]; unfold ofTs ofTs; simp [mkT, hk, ia]
  | pow h a p hk he ha ia => unfold ofT; rw [if_pos (by simp [kidsT, hk]; omega)]; unfold ofTs ofTs; simp [mkT, hk, ia]
theorem plainF_of {t : Tr} {f : Fo} (h : RF t f) : Sm t → plainF f = canonT t ∧ SmF f := by
  induction h with
  | truth h hk =>
    intro _
    rw [canonT_mk, show canonH h = { hd0 8 with truth := h.truth } by unfold canonH; simp [hk]]
    unfold canonL
    exact ⟨rfl, trivial⟩
  | atom h a b p q hk hr ha hb =>
    intro hs
    unfold Sm SmL SmL at hs
    obtain ⟨e1, s1⟩ := plain_of a p (ofT_rt ha) hs.2.2.1
    obtain ⟨e2, s2⟩ := plain_of b q (ofT_rt hb) hs.2.2.2.1
    rw [canonT_mk, canonL_two, show canonH h = { hd0 9 with rel := h.rel } by unfold canonH; simp [hk]]
    exact ⟨by show Tr.mk { hd0 9 with rel := relR h.rel } [plainT p, plainT q] = _; rw [e1, e2]; unfold relR; rw [if_neg (by omega)], s1, s2⟩
  | not h a p hk ha ih =>
    intro hs
    unfold Sm SmL at hs
    obtain ⟨e1, s1⟩ := ih hs.2.2.1
    rw [canonT_mk, canonL_one, show canonH h = hd0 10 by unfold canonH; simp [hk]]
    exact ⟨by show Tr.mk _ [plainF p] = _; rw [e1], s1⟩
  | quant h a p hk ha ih =>
    intro hs
    unfold Sm SmL at hs
    obtain ⟨e1, s1⟩ := ih hs.2.2.1
    rw [canonT_mk, canonL_one, show canonH h = { hd0 15 with all := h.all, name := h.name } by unfold canonH; simp [hk]]
    exact ⟨by show Tr.mk _ [plainF p] = _; rw [e1], s1⟩
  | and h a b p q hk ha hb ia ib =>
    intro hs
    unfold Sm SmL SmL at hs
    obtain ⟨e1, s1⟩ := ia hs.2.2.1
    obtain ⟨e2, s2⟩ := ib hs.2.2.2.1
    rw [canonT_mk, canonL_two, show canonH h = hd0 11 by unfold canonH; simp [hk]]
    exact ⟨by show Tr.mk _ [plainF p, plainF q] = _; rw [e1, e2], s1, s2⟩
  | or h a b p q hk ha hb ia ib =>
    intro hs
    unfold Sm SmL SmL at hs
    obtain ⟨e1, s1⟩ := ia hs.2.2.1
    obtain ⟨e2, s2⟩ := ib hs.2.2.2.1
    rw [canonT_mk, canonL_two, show canonH h = hd0 12 by unfold canonH; simp [hk]]
    exact ⟨by show Tr.mk _ [plainF p, plainF q] = _; rw [e1, e2], s1, s2⟩
  | implies h a b p q hk ha hb ia ib =>
    intro hs
    unfold Sm SmL SmL at hs
    obtain ⟨e1, s1⟩ := ia hs.2.2.1
    obtain ⟨e2, s2⟩ := ib hs.2.2.2.1
    rw [canonT_mk, canonL_two, show canonH h = hd0 13 by unfold canonH; simp [hk]]
    exact ⟨by show Tr.mk _ [plainF p, plainF q] = _; rw [e1, e2], s1, s2⟩
  | iff h a b p q hk ha hb ia ib =>
    intro hs
    unfold Sm SmL SmL at hs
    obtain ⟨e1, s1⟩ := ia hs.2.2.1
    obtain ⟨e2, s2⟩ := ib hs.2.2.2.1
    rw [canonT_mk, canonL_two, show canonH h = hd0 14 by unfold canonH; simp [hk]]
    exact ⟨by show Tr.mk _ [plainF p, plainF q] = _; rw [e1, e2], s1, s2⟩

/-! ### who is accepted -/
theorem isL_ofFs : ∀ (ks : List Tr), (∀ k ∈ ks, isF k false = (ofF k).isSome) → isL ks false = (ofFs ks).isSome
  | [], _ => by rw [isL_nil]; unfold ofFs; rfl
  | k :: ks, h => by
    rw [isL_cons, h k (by simp), isL_ofFs ks (fun j hj => h j (by simp [hj]))]
    conv => rhs; unfold ofFs
    cases ofF k <;> simp
theorem isF_ofF : ∀ (t : Tr), isF t false = (ofF t).isSome := by
  refine Tr.ind fun h ks ih => ?_
  have hL := isL_ofFs ks ih
  have hT := isL_ofTs ks (fun k _ => isF_ofT k)
  by_cases hc : kidsF h.k = some ks.length ∧ ¬ (h.k = 9 ∧ (h.rel < 1 ∨ 6 < h.rel))
  · by_cases h9 : h.k = 9
    · have e : ofF (.mk h ks) = (ofTs ks).map (mkA h) := by conv => lhs; unfold ofF; rw [if_pos hc, if_pos h9]
      rw [e]
      have h1 := hc.1
      unfold kidsF at h1
      simp only [h9] at h1
      simp at h1
      rw [isF_yes h ks false ⟨by simp [kidsN, h9, ← h1], by simp [termK, h9], fun hb => by rcases hb with hb | hb; omega; exact hc.2 hb⟩]
      simp [kidsN, h9, hT]
    · have e : ofF (.mk h ks) = (ofFs ks).map (mkF h) := by conv => lhs; unfold ofF; rw [if_pos hc, if_neg h9]
      rw [e]
      rcases (show h.k = 8 ∨ h.k = 10 ∨ h.k = 15 ∨ h.k = 11 ∨ h.k = 12 ∨ h.k = 13 ∨ h.k = 14 by
        have := hc.1; unfold kidsF at this; split at this <;> (try split at this) <;> (try split at this) <;> (try omega); cases this) with hk | hk | hk | hk | hk | hk | hk
      all_goals
        have h1 := hc.1
        unfold kidsF at h1
        simp only [hk] at h1
        simp at h1
        rw [isF_yes h ks false ⟨by simp [kidsN, hk, ← h1], by simp [termK, hk], fun hb => by rcases hb with hb | hb <;> omega⟩]
      · obtain rfl : ks = [] := by simpa using h1.symm
        simp [kidsN, hk, isL_nil, ofFs]
      all_goals simp [kidsN, hk, hL]
  · have e : ofF (.mk h ks) = none := by conv => lhs; unfold ofF; rw [if_neg hc]
    rw [e]
    refine isF_no h ks false fun hh => hc ?_
    obtain ⟨h1, h2, h3⟩ := hh
    refine ⟨?_, fun hb => h3 (.inr hb)⟩
    unfold termK at h2
    by_cases hlo : 8 ≤ h.k ∧ h.k ≤ 15
    · rcases (show h.k = 8 ∨ h.k = 9 ∨ h.k = 10 ∨ h.k = 11 ∨ h.k = 12 ∨ h.k = 13 ∨ h.k = 14 ∨ h.k = 15 by omega) with hk | hk | hk | hk | hk | hk | hk | hk
      all_goals
        unfold kidsN at h1
        unfold kidsF
        simp [hk] at h1 ⊢
        omega
    · exfalso
      have h4 : (kidsN h.k).1 = -1 := by
        have h5 : ¬ (1 ≤ h.k ∧ h.k ≤ 7) := by intro h6; simp [h6] at h2
        unfold kidsN
        rw [if_neg (by omega), if_neg (by omega), if_neg (by omega), if_neg (by omega), if_neg (by omega)]
      rw [h4] at h1
      omega
end Fm
end Go.Proofs.YtkjbfomokdjbnaaDoor

/-
  formula.sameTree and formula.Same: equality of canonical trees.
-/
namespace Go.Proofs.YtkjbfomokdjbnaaDoor
open Go.RowKit
open Go.Sort
set_option linter.unusedSimpArgs false
set_option linter.unusedVariables false
namespace Fm

mutual
/-- the numbers of a tree are in canonical form -/
def NmT : Tr → Prop
  | .mk h ks => trimN h.abs = h.abs ∧ normB h.neg h.abs = h.neg ∧ NmL ks
def NmL : List Tr → Prop
  | [] => True
  | k :: ks => NmT k ∧ NmL ks
end
theorem NmL.at_ : ∀ {l : List Tr} (h : NmL l) {i : Nat} {k : Tr}, l[i]? = some k → NmT k
  | [], _, i, k, h => by simp at h
  | a :: l, hs, i, k, h => by
    unfold NmL at hs
    match i with
    | 0 => simp at h; subst h; exact hs.1
    | i + 1 => exact NmL.at_ hs.2 (by simpa using h)
theorem nmT_plainT (tm : Tm) : NmT (plainT tm) := by
  induction tm with
  | odd => unfold plainT NmT NmL; exact ⟨rfl, rfl, trivial⟩
  | num neg abs => unfold plainT NmT NmL; exact ⟨trimN_idem abs, normB_idem neg abs, trivial⟩
  | name s => unfold plainT NmT NmL; exact ⟨rfl, rfl, trivial⟩
  | add l r hl hr => unfold plainT NmT NmL NmL NmL; exact ⟨rfl, rfl, hl, hr, trivial⟩
  | sub l r hl hr => unfold plainT NmT NmL NmL NmL; exact ⟨rfl, rfl, hl, hr, trivial⟩
  | mul l r hl hr => unfold plainT NmT NmL NmL NmL; exact ⟨rfl, rfl, hl, hr, trivial⟩
  | neg t ht => unfold plainT NmT NmL NmL; exact ⟨rfl, rfl, ht, trivial⟩
  | pow t e ht => unfold plainT NmT NmL NmL; exact ⟨rfl, rfl, ht, trivial⟩
theorem nmT_plainF (f : Fo) : NmT (plainF f) := by
  induction f with
  | odd => unfold plainF NmT NmL; exact ⟨rfl, rfl, trivial⟩
  | truth b => unfold plainF NmT NmL; exact ⟨rfl, rfl, trivial⟩
  | atom l rel r => unfold plainF NmT NmL NmL NmL; exact ⟨rfl, rfl, nmT_plainT l, nmT_plainT r, trivial⟩
  | not f hf => unfold plainF NmT NmL NmL; exact ⟨rfl, rfl, hf, trivial⟩
  | and l r hl hr => unfold plainF NmT NmL NmL NmL; exact ⟨rfl, rfl, hl, hr, trivial⟩
  | or l r hl hr => unfold plainF NmT NmL NmL NmL; exact ⟨rfl, rfl, hl, hr, trivial⟩
  | implies l r hl hr => unfold plainF NmT NmL NmL NmL; exact ⟨rfl, rfl, hl, hr, trivial⟩
  | iff l r hl hr => unfold plainF NmT NmL NmL NmL; exact ⟨rfl, rfl, hl, hr, trivial⟩
  | quant a nm f hf => unfold plainF NmT NmL NmL; exact ⟨rfl, rfl, hf, trivial⟩

end Fm
end Go.Proofs.YtkjbfomokdjbnaaDoor
