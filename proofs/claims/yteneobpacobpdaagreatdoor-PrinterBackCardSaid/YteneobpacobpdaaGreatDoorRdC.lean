/-
  Numbers without leading zero limbs; what is parsed is printable; how many parentheses a parse takes: in plain Lean.
-/
import Derived.Test.YteneobpacobpdaaGreatDoorRd
import Derived.Test.YteneobpacobpdaaGreatDoorPrG
import Derived.Test.YteneobpacobpdaaGreatDoorPrL
set_option linter.unusedSimpArgs false
set_option linter.unusedVariables false
namespace Go.Proofs.YteneobpacobpdaaGreatDoor
open Go.RowKit
namespace Rd
open Lx Fm Dc Pr Pa
theorem trimLen_cons (x : Nat) (xs : List Nat) : ∀ n, n ≤ xs.length → trimLen (x :: xs) (n + 1) = if trimLen xs n = 0 then (if x = 0 then 0 else 1) else trimLen xs n + 1
 | 0, _ => by by_cases hx : x = 0 <;> simp [trimLen, hx]
 | n + 1, h => by
  have ih := trimLen_cons x xs n (by omega)
  rw [show trimLen (x :: xs) (n + 1 + 1) = if (x :: xs).getD (n + 1) 1 = 0 then trimLen (x :: xs) (n + 1) else n + 1 + 1 from rfl, show trimLen xs (n + 1) = if xs.getD n 1 = 0 then trimLen xs n else n + 1 from rfl, show (x :: xs).getD (n + 1) 1 = xs.getD n 1 from by simp [List.getD]]
  by_cases h0 : xs.getD n 1 = 0
  ·rw [if_pos h0, if_pos h0, ih]
  ·rw [if_neg h0, if_neg h0, if_neg (by omega)]
theorem trimN_nil (l : List Nat) : trimN l = [] ↔ trimLen l l.length = 0 := by
 rw [← List.length_eq_zero_iff, trimN_len]
theorem trimN_cons (x : Nat) (xs : List Nat) : trimN (x :: xs) = if trimN xs = [] ∧ x = 0 then [] else x :: trimN xs := by
 have h := trimLen_cons x xs xs.length (Nat.le_refl _)
 have e := trimN_nil xs
 unfold trimN at e ⊢
 rw [List.length_cons, h]
 by_cases h0 : trimLen xs xs.length = 0
 ·rw [if_pos h0]
  by_cases hx : x = 0
  ·rw [if_pos hx, if_pos ⟨e.2 h0, hx⟩]
   rfl
  ·rw [if_neg hx, if_neg (fun h => hx h.2), h0]
   rfl
 ·rw [if_neg h0, if_neg (fun h => h0 (e.1 h.1))]
  rfl
theorem limbF_zero (k : Nat) : limbF k 0 = [] := by cases k <;> rfl
theorem limbF_trim : ∀ (l : List Nat) (k : Nat), l.length ≤ k → (∀ x ∈ l, x < 4294967296) → limbF k (valN l) = trimN l
 | [], k, _, _ => by rw [valN_nil, limbF_zero]; rfl
 | x :: xs, 0, h, _ => by simp at h
 | x :: xs, k + 1, h, hx => by
  have ih := limbF_trim xs k (by simpa using h) (fun y hy => hx y (List.mem_cons_of_mem _ hy))
  have h1 := hx x List.mem_cons_self
  have hz : trimN xs = [] ↔ valN xs = 0 := by rw [← trim_zero, List.length_eq_zero_iff]
  rw [trimN_cons, valN_cons]
  show (if x + 4294967296 * valN xs = 0 then [] else (x + 4294967296 * valN xs) % 4294967296 :: limbF k ((x + 4294967296 * valN xs) / 4294967296)) = _
  rw [show (x + 4294967296 * valN xs) % 4294967296 = x by omega, show (x + 4294967296 * valN xs) / 4294967296 = valN xs by omega, ih]
  by_cases h0 : valN xs = 0 ∧ x = 0
  ·rw [if_pos (by omega), if_pos ⟨hz.2 h0.1, h0.2⟩]
  ·rw [if_neg (by omega), if_neg (fun e => h0 ⟨hz.1 e.1, e.2⟩)]
theorem limbF_more : ∀ (j k n : Nat), n < 4294967296 ^ j → j ≤ k → limbF k n = limbF j n
 | 0, k, n, h, _ => by
  obtain rfl : n = 0 := by simpa using h
  rw [limbF_zero]; rfl
 | j + 1, k + 1, n, h, hk => by
  show (if n = 0 then [] else n % 4294967296 :: limbF k (n / 4294967296)) = if n = 0 then [] else n % 4294967296 :: limbF j (n / 4294967296)
  rw [limbF_more j k (n / 4294967296) (by rw [Nat.pow_succ] at h; exact Nat.div_lt_of_lt_mul (by rw [Nat.mul_comm]; exact h)) (by omega)]
theorem limbF_len : ∀ (k n : Nat), (limbF k n).length ≤ k
 | 0, n => Nat.le_refl _
 | k + 1, n => by
  unfold limbF
  split
  ·simp
  ·have := limbF_len k (n / 4294967296)
   simp only [List.length_cons]; omega
theorem big_pow : 10 ^ 40 < 4294967296 ^ 8 := by decide
theorem limbs_val {l : List Nat} (hl : trimN l = l) (hx : ∀ x ∈ l, x < 4294967296) (h : valN l < 10 ^ 40) : limbs (valN l) = l := by
 have h1 := limbF_trim l (max 8 l.length) (by omega) hx
 rw [limbF_more 8 _ _ (Nat.lt_trans h big_pow) (by omega), hl] at h1
 exact h1
theorem revd_pow : ∀ (m n : Nat), n ≤ m → n < 10 ^ (revd n).length
 | 0, n, h => by
  obtain rfl : n = 0 := by omega
  exact Nat.pow_pos (by decide)
 | m + 1, n, h => by
  by_cases hp : 0 < n
  ·have ih := revd_pow m (n / 10) (by omega)
   rw [revd_pos hp, List.length_cons, Nat.pow_succ]
   omega
  ·obtain rfl : n = 0 := by omega
   exact Nat.pow_pos (by decide)
theorem digN_lt {n : Nat} (h : digN n ≤ 40) : n < 10 ^ 40 := by
 have h1 := revd_pow n n (Nat.le_refl _)
 unfold digN at h
 exact Nat.lt_of_lt_of_le h1 (Nat.pow_le_pow_right (by decide) (by omega))
theorem rd_eq : ∀ t : Tm, okR t → dgR t = true → gdT (rd t) = true → rd t = t
 | .odd, h, _, _ => h.elim
 | .num neg l, h, hd, _ => by
  obtain rfl : neg = false := h.1
  simp only [dgR, decide_eq_true_eq] at hd
  show Tm.num false (limbs (decV (numS (valN l)))) = _
  rw [decV_numS, limbs_val h.2.1 h.2.2 (digN_lt hd)]
 | .name s, _, _, _ => rfl
 | .add l r, h, hd, hg => by
  simp only [dgR, Bool.and_eq_true] at hd
  simp only [rd, gdT, Bool.and_eq_true] at hg
  simp only [rd]
  rw [rd_eq l h.1 hd.1 hg.1.1, rd_eq r h.2 hd.2 hg.1.2]
 | .sub l r, h, hd, hg => by
  simp only [dgR, Bool.and_eq_true] at hd
  simp only [rd, gdT, Bool.and_eq_true] at hg
  simp only [rd]
  rw [rd_eq l h.1 hd.1 hg.1.1, rd_eq r h.2 hd.2 hg.1.2]
 | .mul l r, h, hd, hg => by
  simp only [dgR, Bool.and_eq_true] at hd
  simp only [rd, gdT, Bool.and_eq_true] at hg
  simp only [rd]
  rw [rd_eq l h.1 hd.1 hg.1.1, rd_eq r h.2 hd.2 hg.1.2]
 | .neg t, h, hd, hg => by
  simp only [rd]
  rw [rd_eq t h hd hg]
 | .pow t e, h, hd, hg => by
  simp only [rd, gdT, Bool.and_eq_true, decide_eq_true_eq] at hg
  simp only [rd]
  rw [rd_eq t h.1 hd hg.1.1]
  have h8 := hg.1.2
  unfold expN at h8 ⊢
  rw [decV_numS] at h8 ⊢
  have := h.2.1
  congr 1
  omega
theorem rdF_eq : ∀ f : Fo, okF f → dgF f = true → gdF (rdF f) = true → rdF f = f
 | .odd, h, _, _ => h.elim
 | .truth b, _, _, _ => rfl
 | .atom l e r, h, hd, hg => by
  simp only [dgF, Bool.and_eq_true] at hd
  simp only [rdF, gdF, Bool.and_eq_true] at hg
  simp only [rdF]
  rw [rd_eq l h.1 hd.1 hg.1, rd_eq r h.2.2 hd.2 hg.2]
 | .not f, h, hd, hg => by
  simp only [rdF]
  rw [rdF_eq f h hd hg]
 | .and l r, h, hd, hg => by
  simp only [dgF, Bool.and_eq_true] at hd
  simp only [rdF, gdF, Bool.and_eq_true] at hg
  simp only [rdF]
  rw [rdF_eq l h.1 hd.1 hg.1, rdF_eq r h.2 hd.2 hg.2]
 | .or l r, h, hd, hg => by
  simp only [dgF, Bool.and_eq_true] at hd
  simp only [rdF, gdF, Bool.and_eq_true] at hg
  simp only [rdF]
  rw [rdF_eq l h.1 hd.1 hg.1, rdF_eq r h.2 hd.2 hg.2]
 | .implies l r, h, hd, hg => by
  simp only [dgF, Bool.and_eq_true] at hd
  simp only [rdF, gdF, Bool.and_eq_true] at hg
  simp only [rdF]
  rw [rdF_eq l h.1 hd.1 hg.1, rdF_eq r h.2 hd.2 hg.2]
 | .iff l r, h, hd, hg => by
  simp only [dgF, Bool.and_eq_true] at hd
  simp only [rdF, gdF, Bool.and_eq_true] at hg
  simp only [rdF]
  rw [rdF_eq l h.1 hd.1 hg.1, rdF_eq r h.2 hd.2 hg.2]
 | .quant a n f, h, hd, hg => by
  simp only [rdF]
  rw [rdF_eq f h.2 hd hg]
theorem lex_lim {s : Bytes} {L : List Tk} (h : Sy s L false) {T : List Tok} {q : Nat} (hx : lex s = (T, q, 0)) : False := by
 by_cases hl : s.length ≤ 4000
 ·rw [lex_small _ hl, if_neg (by rw [h.lim 0]; decide)] at hx
  have := congrArg (fun z => z.2.2) hx
  simp only [h.lim 0] at this
  exact absurd this (by decide)
 ·rw [lex_long _ (by omega)] at hx
  have := congrArg (fun z => z.2.2) hx
  simp at this
theorem read_F (f : Fo) (h : okF f) : Gives (txtF f) f := by
 rcases gives_F f h with hp | hp
 ·obtain ⟨g, T, t, e, hx, hB, hr, ho, -⟩ := parse_ok hp
  cases e
  have hd : dgF f = true := by
   cases hd : dgF f with
   | true => rfl
   | false =>
    have hy := sy_F f h
    rw [hd] at hy
    exact (lex_lim hy hx).elim
  have hT : TokOk T := by have := tokOk_lex (txtF f); rw [hx] at this; exact this
  have hg : gdF (rdF f) = true := Big.good hT hB _ rfl ho rfl
  rw [rdF_eq f h hd hg] at hp
  exact .inl hp
 ·exact .inr hp
def NamOk (T : List Tok) : Prop := ∀ t ∈ T, t.kind = 2 → Nm t.text
theorem NamOk.pk {T : List Tok} (h : NamOk T) (s : PS) (hk : (Pa.pk T s).kind = 2) : Nm (Pa.pk T s).text := by
 have hlt := pk_lt (s := s) (T := T) (by omega)
 have e : Pa.pk T s = T[s.next] := by unfold Pa.pk; rw [List.getElem?_eq_getElem hlt]; rfl
 rw [e] at hk ⊢
 exact h _ (List.getElem_mem hlt) hk
theorem can_ok : ∀ t : Tm, okR t → canTm t = t
 | .odd, h => h.elim
 | .num neg l, h => by
  obtain rfl : neg = false := h.1
  show Tm.num (normB false l) (trimN l) = _
  rw [h.2.1]; rfl
 | .name s, _ => rfl
 | .add l r, h => by simp only [canTm]; rw [can_ok l h.1, can_ok r h.2]
 | .sub l r, h => by simp only [canTm]; rw [can_ok l h.1, can_ok r h.2]
 | .mul l r, h => by simp only [canTm]; rw [can_ok l h.1, can_ok r h.2]
 | .neg t, h => by simp only [canTm]; rw [can_ok t h]
 | .pow t e, h => by simp only [canTm]; rw [can_ok t h.1]; congr 1; have := h.2.1; omega
theorem pos_ok : ∀ t : Tm, okR t → posTm t = t
 | .odd, h => h.elim
 | .num neg l, h => by
  obtain rfl : neg = false := h.1
  rfl
 | .name s, _ => rfl
 | .add l r, h => by simp only [posTm]; rw [pos_ok l h.1, pos_ok r h.2]
 | .sub l r, h => by simp only [posTm]; rw [pos_ok l h.1, pos_ok r h.2]
 | .mul l r, h => by simp only [posTm]; rw [pos_ok l h.1, pos_ok r h.2]
 | .neg t, h => by simp only [posTm]; rw [pos_ok t h]
 | .pow t e, h => by simp only [posTm]; rw [pos_ok t h.1]
theorem relR_ok {e : Int} (h : 1 ≤ e ∧ e ≤ 6) : relR e = e := by unfold relR; rw [if_neg (by omega)]
theorem canF_ok : ∀ f : Fo, okF f → canFo f = f
 | .odd, h => h.elim
 | .truth b, _ => rfl
 | .atom l e r, h => by simp only [canFo]; rw [can_ok l h.1, can_ok r h.2.2, relR_ok h.2.1]
 | .not f, h => by simp only [canFo]; rw [canF_ok f h]
 | .and l r, h => by simp only [canFo]; rw [canF_ok l h.1, canF_ok r h.2]
 | .or l r, h => by simp only [canFo]; rw [canF_ok l h.1, canF_ok r h.2]
 | .implies l r, h => by simp only [canFo]; rw [canF_ok l h.1, canF_ok r h.2]
 | .iff l r, h => by simp only [canFo]; rw [canF_ok l h.1, canF_ok r h.2]
 | .quant a n f, h => by simp only [canFo]; rw [canF_ok f h.2]
theorem posF_ok : ∀ f : Fo, okF f → posF f = f
 | .odd, h => h.elim
 | .truth b, _ => rfl
 | .atom l e r, h => by simp only [posF]; rw [pos_ok l h.1, pos_ok r h.2.2]
 | .not f, h => by simp only [posF]; rw [posF_ok f h]
 | .and l r, h => by simp only [posF]; rw [posF_ok l h.1, posF_ok r h.2]
 | .or l r, h => by simp only [posF]; rw [posF_ok l h.1, posF_ok r h.2]
 | .implies l r, h => by simp only [posF]; rw [posF_ok l h.1, posF_ok r h.2]
 | .iff l r, h => by simp only [posF]; rw [posF_ok l h.1, posF_ok r h.2]
 | .quant a n f, h => by simp only [posF]; rw [posF_ok f h.2]
theorem pr_ok (f : Fo) (h : okF f) : prF f = f := by unfold prF; rw [canF_ok f h, posF_ok f h]
theorem nm_valid {l : Bytes} (h : Va.validB l = true) : Nm l := by
 unfold Va.validB at h
 simp only [Bool.and_eq_true, decide_eq_true_eq, Bool.not_eq_true'] at h
 obtain ⟨h1, h2, h3⟩ := h
 match l, h2 with
 | c :: r, h2 =>
  unfold nameB at h2
  simp only [Bool.and_eq_true] at h2
  refine ⟨h3, ?_, h1, c, r, rfl, ?_, h2.1, ?_⟩
  ·rw [List.all_cons, h2.2]
   unfold aln
   rw [h2.1]; rfl
  ·cases hd : dig c with
   | false => rfl
   | true => have := dig_ltr c hd; rw [h2.1] at this; cases this
  ·cases hb : bl c with
   | false => rfl
   | true => have := bl_ltr c hb; rw [h2.1] at this; cases this
theorem valid_nm {l : Bytes} (h : Nm l) : Va.validB l = true := by
 unfold Va.validB
 rw [decide_eq_true h.len, h.wd]
 have ha := h.all
 obtain ⟨c, r, rfl, h1, h2, h3⟩ := h.hd
 rw [List.all_cons, Bool.and_eq_true] at ha
 show (true && ((ltr c && r.all aln) && !false)) = true
 rw [h2, ha.2]
 rfl
theorem nmd_in {h : Hd} {ks : List Tr} (hk : h.k ≠ 2 ∧ h.k ≠ 15) : nmdT (.mk h ks) = nmdL ks := by
 conv => lhs; unfold nmdT
 rw [if_neg (fun e => by rcases e.1 with e | e; exact hk.1 e; exact hk.2 e)]
theorem nmd_nm {h : Hd} {ks : List Tr} (hk : h.k = 2 ∨ h.k = 15) (hn : nmdT (.mk h ks) = true) : Nm h.name.data.toList ∧ nmdL ks = true := by
 unfold nmdT at hn
 by_cases hv : Va.validB h.name.data.toList = false
 ·rw [if_pos ⟨hk, hv⟩] at hn; cases hn
 ·rw [if_neg (fun e => hv e.2)] at hn
  exact ⟨nm_valid (by simpa using hv), hn⟩
theorem nmd_yes {h : Hd} {ks : List Tr} (hk : Nm h.name.data.toList) (hn : nmdL ks = true) : nmdT (.mk h ks) = true := by
 unfold nmdT
 rw [if_neg (fun e => by rw [valid_nm hk] at e; cases e.2), hn]
theorem nmd_two {a b : Tr} (h : nmdL [a, b] = true) : nmdT a = true ∧ nmdT b = true := by
 rw [nmdL_cons, nmdL_cons, nmdL_nil] at h
 simpa using h
theorem nmd_one {a : Tr} (h : nmdL [a] = true) : nmdT a = true := by
 rw [nmdL_cons, nmdL_nil] at h
 simpa using h
def rgT : Tm → Prop
 | .num _ l => ∀ x ∈ l, x < 4294967296
 | .add l r => rgT l ∧ rgT r
 | .sub l r => rgT l ∧ rgT r
 | .mul l r => rgT l ∧ rgT r
 | .neg t => rgT t
 | .pow t e => rgT t ∧ e ≤ 9223372036854775807
 | _ => True
def rgF : Fo → Prop
 | .atom l _ r => rgT l ∧ rgT r
 | .not f => rgF f
 | .and l r => rgF l ∧ rgF r
 | .or l r => rgF l ∧ rgF r
 | .implies l r => rgF l ∧ rgF r
 | .iff l r => rgF l ∧ rgF r
 | .quant _ _ f => rgF f
 | _ => True
theorem trim_sub (l : List Nat) : ∀ x ∈ trimN l, x ∈ l := fun x hx => List.mem_of_mem_take hx
theorem okR_pr : ∀ t : Tm, rgT t → nmdT (plainT t) = true → okR (prT t)
 | .odd, _, _ => ⟨rfl, rfl, fun x h => absurd h List.not_mem_nil⟩
 | .num neg l, h, _ => by
  show okR (posTm (.num (normB neg l) (trimN l)))
  have h1 : okR (.num false (trimN l)) := ⟨rfl, trimN_idem l, fun x hx => h x (trim_sub l x hx)⟩
  cases normB neg l with
  | false => exact h1
  | true => exact h1
 | .name s, _, hn => (nmd_nm (.inl rfl) hn).1
 | .add l r, h, hn => by
  obtain ⟨h1, h2⟩ := nmd_two ((nmd_in (by decide)).symm.trans hn)
  exact ⟨okR_pr l h.1 h1, okR_pr r h.2 h2⟩
 | .sub l r, h, hn => by
  obtain ⟨h1, h2⟩ := nmd_two ((nmd_in (by decide)).symm.trans hn)
  exact ⟨okR_pr l h.1 h1, okR_pr r h.2 h2⟩
 | .mul l r, h, hn => by
  obtain ⟨h1, h2⟩ := nmd_two ((nmd_in (by decide)).symm.trans hn)
  exact ⟨okR_pr l h.1 h1, okR_pr r h.2 h2⟩
 | .neg t, h, hn => okR_pr t h (nmd_one ((nmd_in (by decide)).symm.trans hn))
 | .pow t e, h, hn => by
  refine ⟨okR_pr t h.1 (nmd_one ((nmd_in (h := { hd0 7 with exp := max e 0 }) ⟨by simp [hd0], by simp [hd0]⟩).symm.trans hn)), by omega, ?_⟩
  refine digN_le _ 40 (by omega) (Nat.lt_of_le_of_lt (m := 9223372036854775807) ?_ (by decide))
  have := h.2
  omega
theorem okF_pr : ∀ f : Fo, rgF f → nmdT (plainF f) = true → okF (prF f)
 | .odd, _, _ => trivial
 | .truth b, _, _ => trivial
 | .atom l e r, h, hn => by
  obtain ⟨h1, h2⟩ := nmd_two ((nmd_in (h := { hd0 9 with rel := relR e }) ⟨by simp [hd0], by simp [hd0]⟩).symm.trans hn)
  exact ⟨okR_pr l h.1 h1, relR_in e, okR_pr r h.2 h2⟩
 | .not f, h, hn => okF_pr f h (nmd_one ((nmd_in (by decide)).symm.trans hn))
 | .and l r, h, hn => by
  obtain ⟨h1, h2⟩ := nmd_two ((nmd_in (by decide)).symm.trans hn)
  exact ⟨okF_pr l h.1 h1, okF_pr r h.2 h2⟩
 | .or l r, h, hn => by
  obtain ⟨h1, h2⟩ := nmd_two ((nmd_in (by decide)).symm.trans hn)
  exact ⟨okF_pr l h.1 h1, okF_pr r h.2 h2⟩
 | .implies l r, h, hn => by
  obtain ⟨h1, h2⟩ := nmd_two ((nmd_in (by decide)).symm.trans hn)
  exact ⟨okF_pr l h.1 h1, okF_pr r h.2 h2⟩
 | .iff l r, h, hn => by
  obtain ⟨h1, h2⟩ := nmd_two ((nmd_in (by decide)).symm.trans hn)
  exact ⟨okF_pr l h.1 h1, okF_pr r h.2 h2⟩
 | .quant a n f, h, hn => by
  obtain ⟨h1, h2⟩ := nmd_nm (h := { hd0 15 with name := n, all := a }) (.inr rfl) hn
  exact ⟨h1, okF_pr f h (nmd_one h2)⟩
end Rd
end Go.Proofs.YteneobpacobpdaaGreatDoor
namespace Go.Proofs.YteneobpacobpdaaGreatDoor
open Go.RowKit
namespace Rd
open Lx Fm Dc Pr Pa
theorem rg_bd : ∀ t : Tm, bdT t → rgT t
 | .odd, _ => trivial
 | .num n l, h => h.2
 | .name s, _ => trivial
 | .add l r, h => ⟨rg_bd l h.1, rg_bd r h.2⟩
 | .sub l r, h => ⟨rg_bd l h.1, rg_bd r h.2⟩
 | .mul l r, h => ⟨rg_bd l h.1, rg_bd r h.2⟩
 | .neg t, h => rg_bd t h
 | .pow t e, h => ⟨rg_bd t h.1, h.2⟩
theorem rgF_bd : ∀ f : Fo, bdF f → rgF f
 | .odd, _ => trivial
 | .truth b, _ => trivial
 | .atom l e r, h => ⟨rg_bd l h.1, rg_bd r h.2⟩
 | .not f, h => rgF_bd f h
 | .and l r, h => ⟨rgF_bd l h.1, rgF_bd r h.2⟩
 | .or l r, h => ⟨rgF_bd l h.1, rgF_bd r h.2⟩
 | .implies l r, h => ⟨rgF_bd l h.1, rgF_bd r h.2⟩
 | .iff l r, h => ⟨rgF_bd l h.1, rgF_bd r h.2⟩
 | .quant a n f, h => rgF_bd f h.2
end Rd
end Go.Proofs.YteneobpacobpdaaGreatDoor
