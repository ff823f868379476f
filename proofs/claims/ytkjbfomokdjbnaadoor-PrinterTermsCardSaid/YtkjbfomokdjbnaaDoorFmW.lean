/-
  The plain law of terms: what is accepted, and the canonical tree.
-/
import Derived.Test.YtkjbfomokdjbnaaDoorFmC
import Derived.Test.YtkjbfomokdjbnaaDoorFmT
namespace Go.Proofs.YtkjbfomokdjbnaaDoor
open Go.RowKit
set_option linter.unusedSimpArgs false
set_option linter.unusedVariables false
namespace Fm

theorem trimLen_take (l : List Nat) (n : Nat) : ∀ m, m ≤ n → trimLen (l.take n) m = trimLen l m
  | 0, _ => by unfold trimLen; rfl
  | m + 1, h => by
    unfold trimLen
    have : (l.take n).getD m 1 = l.getD m 1 := by simp [List.getD, List.getElem?_take, show m < n by omega]
    rw [this, trimLen_take l n m (by omega)]
theorem trimLen_idem (l : List Nat) : ∀ n, trimLen l (trimLen l n) = trimLen l n
  | 0 => by unfold trimLen; rfl
  | n + 1 => by
    by_cases h : l.getD n 1 = 0
    · have e : trimLen l (n + 1) = trimLen l n := by conv => lhs; unfold trimLen; rw [if_pos h]
      rw [e]; exact trimLen_idem l n
    · have e : trimLen l (n + 1) = n + 1 := by conv => lhs; unfold trimLen; rw [if_neg h]
      rw [e, e]
theorem trimN_idem (l : List Nat) : trimN (trimN l) = trimN l := by
  have e : trimLen (trimN l) (trimN l).length = trimLen l l.length := by
    rw [trimN_len]
    conv => lhs; arg 1; unfold trimN
    rw [trimLen_take _ _ _ (Nat.le_refl _), trimLen_idem]
  show (trimN l).take (trimLen (trimN l) (trimN l).length) = trimN l
  rw [e]
  exact List.take_of_length_le (by rw [trimN_len]; exact Nat.le_refl _)
theorem normB_idem (neg : Bool) (l : List Nat) : normB (normB neg l) (trimN l) = normB neg l := by
  unfold normB; rw [trimN_idem]; cases neg <;> simp

theorem ofTs_one {a : Tr} {ps : List Tm} (h : ofTs [a] = some ps) : ∃ p, ofT a = some p ∧ ps = [p] := by
  unfold ofTs at h
  cases ha : ofT a with
  | none => rw [ha] at h; cases h
  | some p =>
    rw [ha] at h
    refine ⟨p, rfl, ?_⟩
    simp [ofTs] at h
    exact h.symm
theorem ofTs_two {a b : Tr} {ps : List Tm} (h : ofTs [a, b] = some ps) : ∃ p q, ofT a = some p ∧ ofT b = some q ∧ ps = [p, q] := by
  unfold ofTs at h
  cases ha : ofT a with
  | none => rw [ha] at h; cases h
  | some p =>
    rw [ha] at h
    simp only [Option.map_eq_some_iff] at h
    obtain ⟨qs, hq, rfl⟩ := h
    obtain ⟨q, hb, rfl⟩ := ofTs_one hq
    exact ⟨p, q, rfl, hb, rfl⟩
theorem len_two {α : Type} {l : List α} (h : l.length = 2) : ∃ a b, l = [a, b] := by
  match l, h with
  | [a, b], _ => exact ⟨a, b, rfl⟩
theorem canonL_one (a : Tr) : canonL [a] = [canonT a] := by unfold canonL canonL; rfl
theorem canonL_two (a b : Tr) : canonL [a, b] = [canonT a, canonT b] := by unfold canonL; rw [canonL_one]

theorem plain_of : ∀ (t : Tr) (tm : Tm), ofT t = some tm → Sm t → plainT tm = canonT t ∧ SmT tm := by
  refine Tr.ind fun h ks ih => ?_
  intro tm ht hsm
  unfold ofT at ht
  split at ht
  case isFalse => cases ht
  rename_i hc
  obtain ⟨ps, hps, rfl⟩ := Option.map_eq_some_iff.1 ht
  have hl := ofTs_len hps
  unfold Sm at hsm
  rw [canonT_mk]
  rcases (show h.k = 1 ∨ h.k = 2 ∨ h.k = 6 ∨ h.k = 7 ∨ h.k = 3 ∨ h.k = 4 ∨ h.k = 5 by
    have := hc.1; unfold kidsT at this; split at this <;> (try split at this) <;> (try split at this) <;> (try omega); cases this) with hk | hk | hk | hk | hk | hk | hk
  all_goals
    have h1 := hc.1
    unfold kidsT at h1
    simp only [hk] at h1
    simp at h1
  · obtain rfl : ks = [] := by simpa using h1.symm
    unfold mkT canonH canonL
    rw [if_pos hk, if_pos hk]
    refine ⟨?_, ?_⟩
    · show Tr.mk _ [] = _
      rw [normB_idem, trimN_idem]
    · show (trimN h.abs).length ≤ 1000000
      have := trimLen_le h.abs h.abs.length
      rw [trimN_len]; have := hsm.1; omega
  · obtain rfl : ks = [] := by simpa using h1.symm
    have em : mkT h ps = .name h.name := by unfold mkT; simp [hk]
    have ec : canonH h = { hd0 2 with name := h.name } := by unfold canonH; simp [hk]
    rw [em, ec]
    unfold canonL
    exact ⟨rfl, trivial⟩
  · obtain ⟨a, rfl⟩ := List.length_eq_one_iff.1 h1.symm
    obtain ⟨p, ha, rfl⟩ := ofTs_one hps
    have hs2 := hsm.2.2
    unfold SmL SmL at hs2
    obtain ⟨e1, s1⟩ := ih a (by simp) p ha hs2.1
    have em : mkT h [p] = .neg p := by unfold mkT; simp [hk]
    have ec : canonH h = hd0 6 := by unfold canonH; simp [hk]
    rw [em, ec, canonL_one]
    exact ⟨by show Tr.mk _ [plainT p] = _; rw [e1], s1⟩
  · obtain ⟨a, rfl⟩ := List.length_eq_one_iff.1 h1.symm
    obtain ⟨p, ha, rfl⟩ := ofTs_one hps
    have hs2 := hsm.2.2
    unfold SmL SmL at hs2
    obtain ⟨e1, s1⟩ := ih a (by simp) p ha hs2.1
    have em : mkT h [p] = .pow p h.exp := by unfold mkT; simp [hk]
    have ec : canonH h = { hd0 7 with exp := h.exp } := by unfold canonH; simp [hk]
    rw [em, ec, canonL_one]
    exact ⟨by show Tr.mk _ [plainT p] = _; rw [e1]; have : max h.exp 0 = h.exp := by { have := hc.2; omega }; rw [this], s1⟩
  · obtain ⟨a, b, rfl⟩ := len_two h1.symm
    obtain ⟨p, q, ha, hb, rfl⟩ := ofTs_two hps
    have hs2 := hsm.2.2
    unfold SmL SmL at hs2
    obtain ⟨e1, s1⟩ := ih a (by simp) p ha hs2.1
    obtain ⟨e2, s2⟩ := ih b (by simp) q hb hs2.2.1
    have em : mkT h [p, q] = .add p q := by unfold mkT; simp [hk]
    have ec : canonH h = hd0 3 := by unfold canonH; simp [hk]
    rw [em, ec, canonL_two]
    exact ⟨by show Tr.mk _ [plainT p, plainT q] = _; rw [e1, e2], s1, s2⟩
  · obtain ⟨a, b, rfl⟩ := len_two h1.symm
    obtain ⟨p, q, ha, hb, rfl⟩ := ofTs_two hps
    have hs2 := hsm.2.2
    unfold SmL SmL at hs2
    obtain ⟨e1, s1⟩ := ih a (by simp) p ha hs2.1
    obtain ⟨e2, s2⟩ := ih b (by simp) q hb hs2.2.1
    have em : mkT h [p, q] = .sub p q := by unfold mkT; simp [hk]
    have ec : canonH h = hd0 4 := by unfold canonH; simp [hk]
    rw [em, ec, canonL_two]
    exact ⟨by show Tr.mk _ [plainT p, plainT q] = _; rw [e1, e2], s1, s2⟩
  · obtain ⟨a, b, rfl⟩ := len_two h1.symm
    obtain ⟨p, q, ha, hb, rfl⟩ := ofTs_two hps
    have hs2 := hsm.2.2
    unfold SmL SmL at hs2
    obtain ⟨e1, s1⟩ := ih a (by simp) p ha hs2.1
    obtain ⟨e2, s2⟩ := ih b (by simp) q hb hs2.2.1
    have em : mkT h [p, q] = .mul p q := by unfold mkT; simp [hk]
    have ec : canonH h = hd0 5 := by unfold canonH; simp [hk]
    rw [em, ec, canonL_two]
    exact ⟨by show Tr.mk _ [plainT p, plainT q] = _; rw [e1, e2], s1, s2⟩

/-! ### who is accepted -/
theorem isL_ofTs : ∀ (ks : List Tr), (∀ k ∈ ks, isF k true = (ofT k).isSome) → isL ks true = (ofTs ks).isSome
  | [], _ => by rw [isL_nil]; unfold ofTs; rfl
  | k :: ks, h => by
    rw [isL_cons, h k (by simp), isL_ofTs ks (fun j hj => h j (by simp [hj]))]
    conv => rhs; unfold ofTs
    cases ofT k <;> simp
theorem isF_ofT : ∀ (t : Tr), isF t true = (ofT t).isSome := by
  refine Tr.ind fun h ks ih => ?_
  have hL := isL_ofTs ks ih
  by_cases hc : kidsT h.k = some ks.length ∧ ¬ (h.k = 7 ∧ h.exp < 0)
  · have e : ofT (.mk h ks) = (ofTs ks).map (mkT h) := by conv => lhs; unfold ofT; rw [if_pos hc]
    rw [e]
    have hk : (kidsN h.k) = ((ks.length : Int), true) ∧ termK h.k = true ∧ h.k ≠ 9 := by
      have h1 := hc.1
      unfold kidsT at h1
      unfold kidsN termK
      split at h1
      · rename_i h2; injection h1 with h1; rw [← h1]; rcases h2 with h2 | h2 <;> simp [h2]
      · split at h1
        · rename_i h2; injection h1 with h1; rw [← h1]; rcases h2 with h2 | h2 <;> simp [h2]
        · split at h1
          · rename_i h2; injection h1 with h1; rw [← h1]; rcases h2 with h2 | h2 | h2 <;> simp [h2]
          · cases h1
    rw [isF_yes h ks true ⟨by rw [hk.1], hk.2.1, fun hb => by rcases hb with hb | hb; exact hc.2 hb; exact hk.2.2 hb.1⟩, hk.1]
    simp [hL]
  · have e : ofT (.mk h ks) = none := by conv => lhs; unfold ofT; rw [if_neg hc]
    rw [e]
    refine isF_no h ks true fun hh => hc ?_
    obtain ⟨h1, h2, h3⟩ := hh
    unfold termK at h2
    simp only [Bool.and_eq_true, decide_eq_true_eq] at h2
    refine ⟨?_, fun hb => h3 (.inl hb)⟩
    rcases (show h.k = 1 ∨ h.k = 2 ∨ h.k = 6 ∨ h.k = 7 ∨ h.k = 3 ∨ h.k = 4 ∨ h.k = 5 by omega) with hk | hk | hk | hk | hk | hk | hk
    all_goals
      unfold kidsN at h1
      unfold kidsT
      simp [hk] at h1 ⊢
      omega
end Fm
end Go.Proofs.YtkjbfomokdjbnaaDoor
