/-
  Plain laws: what the reference of the lexer computes, and that it is what the lexer computes.
-/
import Derived.Test.YtkjbfomokdjbnaaLxPlain
namespace Go.Proofs.Ytkjbfomokdjbnaa
namespace Lx
set_option linter.unusedSimpArgs false
set_option linter.unusedVariables false

def numB (l : Bytes) : Bool := !l.isEmpty && l.all dig
def nameB : Bytes → Bool
  | [] => false
  | c :: x => ltr c && x.all aln
def signs : List Bytes := [[43], [45], [42], [94], [40], [41], [61], [60, 62], [60], [60, 61], [62], [62, 61], [44], [46]]
def isSign (l : Bytes) : Bool := signs.contains l
def kindR (l : Bytes) : Nat := if numB l then 1 else if nameB l then (if isWord l then 3 else 2) else if isSign l then 4 else 0
def wrongR (l : Bytes) : Nat :=
  if kindR l = 1 ∧ 1 < l.length ∧ (l.headD 0).toNat = 48 then 6
  else if (kindR l = 1 ∧ 40 < l.length) ∨ ((kindR l = 2 ∨ kindR l = 3) ∧ 16 < l.length) then 8 else 0
def tokLen (r : Bytes) : Nat :=
  match r with
  | [] => 0
  | c :: _ => if dig c then run dig r else if ltr c then run aln r else signLen r

theorem tokLen_le (r : Bytes) : tokLen r ≤ r.length := by
  match r with
  | [] => simp [tokLen]
  | c :: x =>
    unfold tokLen
    dsimp only
    split
    · exact run_le _ _
    · split
      · exact run_le _ _
      · exact signLen_le _

theorem all_take (p : UInt8 → Bool) (r : Bytes) (n : Nat) (hn : n ≤ r.length) : (r.take n).all p = true ↔ n ≤ run p r := by
  induction r generalizing n with
  | nil => simp only [List.length_nil] at hn; have : n = 0 := by omega
           subst this; simp
  | cons c r ih =>
    match n with
    | 0 => simp
    | n + 1 =>
      rw [List.take_succ_cons, List.all_cons, Bool.and_eq_true, run_cons, ih n (by simpa using hn)]
      by_cases hc : p c = true
      · rw [if_pos hc]; simp [hc]
      · rw [if_neg hc]; simp [hc]

theorem dig_ltr (c : UInt8) (h : dig c = true) : ltr c = false := by
  unfold dig at h; unfold ltr; simp at h ⊢; omega
theorem sign1 (c : UInt8) : isSign [c] = sg1 c := by
  unfold isSign signs sg1
  rw [Bool.eq_iff_iff]
  simp [← UInt8.toNat_inj]
  omega
theorem sign2 (c d : UInt8) : isSign [c, d] = sg2 c d := by
  unfold isSign signs sg2
  rw [Bool.eq_iff_iff]
  simp [← UInt8.toNat_inj]
  omega
theorem sign3 (c d e : UInt8) (x : Bytes) : isSign (c :: d :: e :: x) = false := by
  unfold isSign signs
  simp
theorem sg_dig (c : UInt8) (h : dig c = true) : sg1 c = false ∧ ∀ d, sg2 c d = false := by
  unfold dig at h
  refine ⟨?_, fun d => ?_⟩
  · unfold sg1; simp at h ⊢; omega
  · unfold sg2; simp at h ⊢; omega
theorem sg_ltr (c : UInt8) (h : ltr c = true) : sg1 c = false ∧ ∀ d, sg2 c d = false := by
  unfold ltr at h
  refine ⟨?_, fun d => ?_⟩
  · unfold sg1; simp at h ⊢; omega
  · unfold sg2; simp at h ⊢; omega
theorem sg2_sg1 (c d : UInt8) (h : sg2 c d = true) : sg1 c = true := by
  unfold sg2 at h; unfold sg1; simp at h ⊢; omega
theorem isSign_head (c : UInt8) (x : Bytes) (h1 : sg1 c = false) (h2 : ∀ d, sg2 c d = false) : isSign (c :: x) = false := by
  match x with
  | [] => rw [sign1, h1]
  | [d] => rw [sign2, h2]
  | d :: e :: y => rw [sign3]

/-- a beginning of a rest is a token exactly if it is no longer than the longest one -/
theorem kindR_take (r : Bytes) (n : Nat) (h1 : 1 ≤ n) (hn : n ≤ r.length) : kindR (r.take n) ≠ 0 ↔ n ≤ tokLen r := by
  match r with
  | [] => simp at hn; omega
  | c :: x =>
    obtain ⟨m, rfl⟩ : ∃ m, n = m + 1 := ⟨n - 1, by omega⟩
    have hm : m ≤ x.length := by simpa using hn
    rw [List.take_succ_cons]
    unfold kindR tokLen
    dsimp only
    by_cases hd : dig c = true
    · have hnum : numB (c :: x.take m) = true ↔ m + 1 ≤ run dig (c :: x) := by
        unfold numB
        have := all_take dig (c :: x) (m + 1) hn
        rw [List.take_succ_cons] at this
        simpa using this
      rw [if_pos hd]
      by_cases hk : m + 1 ≤ run dig (c :: x)
      · rw [if_pos (hnum.2 hk)]; simp [hk]
      · rw [if_neg (fun h => hk (hnum.1 h))]
        have hname : nameB (c :: x.take m) = false := by simp [nameB, dig_ltr c hd]
        have hs := isSign_head c (x.take m) (sg_dig c hd).1 (sg_dig c hd).2
        simp [hname, hs, hk]
    · have hnum : numB (c :: x.take m) = false := by simp [numB, hd]
      rw [if_neg hd]
      simp only [hnum, Bool.false_eq_true, if_false]
      by_cases hl : ltr c = true
      · rw [if_pos hl]
        have hname : nameB (c :: x.take m) = true ↔ m + 1 ≤ run aln (c :: x) := by
          unfold nameB
          rw [run_cons, if_pos (by simp [aln, hl]), Bool.and_eq_true, all_take aln x m hm]
          simp [hl]
        by_cases hk : m + 1 ≤ run aln (c :: x)
        · rw [if_pos (hname.2 hk)]
          split <;> simp [hk]
        · rw [if_neg (fun h => hk (hname.1 h))]
          have hs := isSign_head c (x.take m) (sg_ltr c hl).1 (sg_ltr c hl).2
          simp [hs, hk]
      · rw [if_neg hl]
        have hname : nameB (c :: x.take m) = false := by simp [nameB, hl]
        simp only [hname, Bool.false_eq_true, if_false]
        have key : isSign (c :: x.take m) = true ↔ m + 1 ≤ signLen (c :: x) := by
          match m, x, hm with
          | 0, [], _ => rw [List.take_zero, sign1]; simp only [signLen]; split <;> simp_all
          | 0, d :: y, _ =>
            rw [List.take_zero, sign1]
            simp only [signLen]
            by_cases g2 : sg2 c d = true
            · simp [g2, sg2_sg1 c d g2]
            · by_cases g1 : sg1 c = true
              · simp [g1, g2]
              · simp [g1, g2]
          | 1, d :: y, _ =>
            rw [List.take_succ_cons, List.take_zero, sign2]
            simp only [signLen]
            by_cases g2 : sg2 c d = true
            · simp [g2]
            · by_cases g1 : sg1 c = true
              · simp [g1, g2]
              · simp [g1, g2]
          | k + 2, d :: e :: y, _ =>
            rw [List.take_succ_cons, List.take_succ_cons, sign3]
            have : signLen (c :: d :: e :: y) ≤ 2 := by simp only [signLen]; split <;> (try split) <;> omega
            simp
            omega
        by_cases hs : isSign (c :: x.take m) = true
        · rw [if_pos hs]; simp [key.1 hs]
        · rw [if_neg hs]
          have : ¬ m + 1 ≤ signLen (c :: x) := fun h => hs (key.2 h)
          simp [this]

/-- the head's token by the reference's way -/
theorem next_ref (c : UInt8) (x : Bytes) :
    next (c :: x) = if tokLen (c :: x) = 0 then (0, 0, 6) else if wrongR ((c :: x).take (tokLen (c :: x))) ≠ 0 then (0, 0, wrongR ((c :: x).take (tokLen (c :: x)))) else (kindR ((c :: x).take (tokLen (c :: x))), tokLen (c :: x), 0) := by
  unfold next
  dsimp only
  by_cases hd : dig c = true
  · rw [if_pos hd]
    have ht : tokLen (c :: x) = run dig (c :: x) := by simp [tokLen, hd]
    rw [ht]
    have hp := run_pos dig c x hd
    have hle := run_le dig (c :: x)
    generalize hn : run dig (c :: x) = n at *
    obtain ⟨m, rfl⟩ : ∃ m, n = m + 1 := ⟨n - 1, by omega⟩
    have hnum : numB ((c :: x).take (m + 1)) = true := by
      have := (all_take dig (c :: x) (m + 1) hle).2 (by omega)
      unfold numB
      rw [this]
      simp
    have hk : kindR ((c :: x).take (m + 1)) = 1 := by unfold kindR; rw [if_pos hnum]
    have hlen : ((c :: x).take (m + 1)).length = m + 1 := by rw [List.length_take]; omega
    have hh : ((c :: x).take (m + 1)).headD 0 = c := by rw [List.take_succ_cons]; rfl
    generalize (c :: x).take (m + 1) = t at *
    rw [if_neg (Nat.succ_ne_zero m)]
    by_cases h1 : c.toNat = 48 ∧ 1 < m + 1
    · have hw : wrongR t = 6 := by unfold wrongR; rw [if_pos ⟨hk, by rw [hlen]; exact h1.2, by rw [hh]; exact h1.1⟩]
      rw [if_pos h1, hw]; rfl
    · have h1' : ¬ (kindR t = 1 ∧ 1 < t.length ∧ (t.headD 0).toNat = 48) := fun h => h1 ⟨by rw [← hh]; exact h.2.2, by rw [← hlen]; exact h.2.1⟩
      rw [if_neg h1]
      by_cases h2 : 40 < m + 1
      · have hw : wrongR t = 8 := by unfold wrongR; rw [if_neg h1', if_pos (Or.inl ⟨hk, by rw [hlen]; exact h2⟩)]
        rw [if_pos h2, hw]; rfl
      · have hw : wrongR t = 0 := by unfold wrongR; rw [if_neg h1', if_neg (by rw [hk, hlen]; omega)]
        rw [if_neg h2, hw, hk]; rfl
  · rw [if_neg hd]
    by_cases hl : ltr c = true
    · rw [if_pos hl]
      have ht : tokLen (c :: x) = run aln (c :: x) := by simp [tokLen, hd, hl]
      rw [ht]
      have hp := run_pos aln c x (by simp [aln, hl])
      have hle := run_le aln (c :: x)
      generalize hn : run aln (c :: x) = n at *
      obtain ⟨m, rfl⟩ : ∃ m, n = m + 1 := ⟨n - 1, by omega⟩
      have hnum : numB ((c :: x).take (m + 1)) = false := by rw [List.take_succ_cons]; simp [numB, hd]
      have hname : nameB ((c :: x).take (m + 1)) = true := by
        rw [List.take_succ_cons]
        unfold nameB
        rw [run_cons, if_pos (by simp [aln, hl])] at hn
        have := (all_take aln x m (by simpa using hle)).2 (by omega)
        show (ltr c && (x.take m).all aln) = true
        rw [this, hl]; rfl
      have hk : kindR ((c :: x).take (m + 1)) = if isWord ((c :: x).take (m + 1)) then 3 else 2 := by unfold kindR; rw [hnum, hname]; rfl
      have hlen : ((c :: x).take (m + 1)).length = m + 1 := by rw [List.length_take]; omega
      have hk2 : kindR ((c :: x).take (m + 1)) = 2 ∨ kindR ((c :: x).take (m + 1)) = 3 := by rw [hk]; split <;> simp
      generalize (c :: x).take (m + 1) = t at *
      rw [if_neg (Nat.succ_ne_zero m)]
      by_cases h2 : 16 < m + 1
      · have hw : wrongR t = 8 := by unfold wrongR; rw [if_neg (by omega), if_pos (Or.inr ⟨hk2, by rw [hlen]; exact h2⟩)]
        rw [if_pos h2, hw]; rfl
      · have hw : wrongR t = 0 := by unfold wrongR; rw [if_neg (by omega), if_neg (by omega)]
        rw [if_neg h2, hw, hk]; rfl
    · rw [if_neg hl]
      have ht : tokLen (c :: x) = signLen (c :: x) := by simp [tokLen, hd, hl]
      have hle := tokLen_le (c :: x)
      have hkt := kindR_take (c :: x) (tokLen (c :: x))
      rw [ht] at hle hkt ⊢
      by_cases h0 : signLen (c :: x) = 0
      · rw [if_neg (by omega), if_pos h0]
      · rw [if_pos (by omega), if_neg h0]
        have hk := (hkt (by omega) hle).2 (Nat.le_refl _)
        have hk4 : kindR ((c :: x).take (signLen (c :: x))) = 4 := by
          generalize signLen (c :: x) = n at *
          obtain ⟨m, rfl⟩ : ∃ m, n = m + 1 := ⟨n - 1, by omega⟩
          rw [List.take_succ_cons] at *
          unfold kindR at *
          have hnum : numB (c :: x.take m) = false := by simp [numB, hd]
          have hname : nameB (c :: x.take m) = false := by simp [nameB, hl]
          simp only [hnum, hname, Bool.false_eq_true, if_false] at *
          split
          · rfl
          · rename_i hh; rw [if_neg hh] at hk; exact absurd rfl hk
        have hw : wrongR ((c :: x).take (signLen (c :: x))) = 0 := by unfold wrongR; rw [hk4, if_neg (by omega), if_neg (by omega)]
        rw [hw, hk4]
        rfl

end Lx
end Go.Proofs.Ytkjbfomokdjbnaa
