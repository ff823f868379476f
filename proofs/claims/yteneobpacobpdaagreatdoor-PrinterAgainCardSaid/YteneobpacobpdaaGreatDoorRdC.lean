/-
  Numbers without leading zero limbs; what is parsed is printable; how many parentheses a parse takes: in plain Lean.
-/
import Derived.Test.YteneobpacobpdaaGreatDoorRd
import Derived.Test.YteneobpacobpdaaGreatDoorPrG
import Derived.Test.YteneobpacobpdaaGreatDoorPrL
namespace Go.Proofs.YteneobpacobpdaaGreatDoor
open Go.RowKit
set_option linter.unusedSimpArgs false
set_option linter.unusedVariables false
namespace Rd
open Lx Fm Dc Pr Pa

/-! ### limbs -/
theorem trimLen_cons (x : Nat) (xs : List Nat) : ∀ n, n ≤ xs.length → trimLen (x :: xs) (n + 1) = if trimLen xs n = 0 then (if x = 0 then 0 else 1) else trimLen xs n + 1
  | 0, _ => by by_cases hx : x = 0 <;> simp [trimLen, hx]
  | n + 1, h => by
    have ih := trimLen_cons x xs n (by omega)
    rw [show trimLen (x :: xs) (n + 1 + 1) = if (x :: xs).getD (n + 1) 1 = 0 then trimLen (x :: xs) (n + 1) else n + 1 + 1 from rfl, show trimLen xs (n + 1) = if xs.getD n 1 = 0 then trimLen xs n else n + 1 from rfl, show (x :: xs).getD (n + 1) 1 = xs.getD n 1 from by simp [List.getD]]
    by_cases h0 : xs.getD n 1 = 0
    · rw [if_pos h0, if_pos h0, ih]
    · rw [if_neg h0, if_neg h0, if_neg (by omega)]
theorem trimN_nil (l : List Nat) : trimN l = [] ↔ trimLen l l.length = 0 := by
  rw [← List.length_eq_zero_iff, trimN_len]
theorem trimN_cons (x : Nat) (xs : List Nat) : trimN (x :: xs) = if trimN xs = [] ∧ x = 0 then [] else x :: trimN xs := by
  have h := trimLen_cons x xs xs.length (Nat.le_refl _)
  have e := trimN_nil xs
  unfold trimN at e ⊢
  rw [List.length_cons, h]
  by_cases h0 : trimLen xs xs.length = 0
  · rw [if_pos h0]
    by_cases hx : x = 0
    · rw [if_pos hx, if_pos ⟨e.2 h0, hx⟩]
      rfl
    · rw [if_neg hx, if_neg (fun h => hx h.2), h0]
      rfl
  · rw [if_neg h0, if_neg (fun h => h0 (e.1 h.1))]
    rfl
theorem limbF_zero (k : Nat) : limbF k 0 = [] := by cases k <;> rfl
theorem limbF_trim : ∀ (l : List Nat) (k : Nat), l.length ≤ k → (∀ x ∈ l, x < 4294967296) → limbF k (valN l) = trimN l
  | [], k, _, _ => by rw [valN_nil, limbF_zero]; rfl
  | x :: xs, 0, h, _ => by simp at h
  | x :: xs, k + 1, h, hx => by
    have ih := limbF_trim xs k (by simpa using h) (fun y hy => hx y (List.mem_cons_of_mem _ hy))
    have h1 := hx x List.mem_cons_self
    have hz : trimN xs = [] ↔ valN xs = 0 := by rw [← trim_zero, List.length_eq_zero_iff]
    rw [trimN_cons, valN_cons]
    show (if x + 4294967296 * valN xs = 0 then [] else (x + 4294967296 * valN xs) % 4294967296 :: limbF k ((x + 4294967296 * valN xs) / 4294967296)) = _
    rw [show (x + 4294967296 * valN xs) % 4294967296 = x by omega, show (x + 4294967296 * valN xs) / 4294967296 = valN xs by omega, ih]
    by_cases h0 : valN xs = 0 ∧ x = 0
    · rw [if_pos (by omega), if_pos ⟨hz.2 h0.1, h0.2⟩]
    · rw [if_neg (by omega), if_neg (fun e => h0 ⟨hz.1 e.1, e.2⟩)]
theorem limbF_more : ∀ (j k n : Nat), n < 4294967296 ^ j → j ≤ k → limbF k n = limbF j n
  | 0, k, n, h, _ => by
    obtain rfl : n = 0 := by simpa using h
    rw [limbF_zero]; rfl
  | j + 1, k + 1, n, h, hk => by
    show (if n = 0 then [] else n % 4294967296 :: limbF k (n / 4294967296)) = if n = 0 then [] else n % 4294967296 :: limbF j (n / 4294967296)
    rw [limbF_more j k (n / 4294967296) (by rw [Nat.pow_succ] at h; exact Nat.div_lt_of_lt_mul (by rw [Nat.mul_comm]; exact h)) (by omega)]
theorem limbF_lt : ∀ (k n : Nat), ∀ x ∈ limbF k n, x < 4294967296
  | 0, n, x, h => absurd h List.not_mem_nil
  | k + 1, n, x, h => by
    unfold limbF at h
    split at h
    · exact absurd h List.not_mem_nil
    · rcases List.mem_cons.1 h with rfl | h
      · omega
      · exact limbF_lt k _ x h
theorem limbF_len : ∀ (k n : Nat), (limbF k n).length ≤ k
  | 0, n => Nat.le_refl _
  | k + 1, n => by
    unfold limbF
    split
    · simp
    · have := limbF_len k (n / 4294967296)
      simp only [List.length_cons]; omega
theorem big_pow : 10 ^ 40 < 4294967296 ^ 8 := by decide
theorem limbs_can {n : Nat} (h : n < 10 ^ 40) : trimN (limbs n) = limbs n := by
  have h1 := limbF_trim (limbs n) 8 (limbF_len 8 n) (limbF_lt 8 n)
  rw [valN_limbs n h] at h1
  exact h1.symm
theorem limbs_val {l : List Nat} (hl : trimN l = l) (hx : ∀ x ∈ l, x < 4294967296) (h : valN l < 10 ^ 40) : limbs (valN l) = l := by
  have h1 := limbF_trim l (max 8 l.length) (by omega) hx
  rw [limbF_more 8 _ _ (Nat.lt_trans h big_pow) (by omega), hl] at h1
  exact h1
theorem revd_pow : ∀ (m n : Nat), n ≤ m → n < 10 ^ (revd n).length
  | 0, n, h => by
    obtain rfl : n = 0 := by omega
    exact Nat.pow_pos (by decide)
  | m + 1, n, h => by
    by_cases hp : 0 < n
    · have ih := revd_pow m (n / 10) (by omega)
      rw [revd_pos hp, List.length_cons, Nat.pow_succ]
      omega
    · obtain rfl : n = 0 := by omega
      exact Nat.pow_pos (by decide)
theorem digN_lt {n : Nat} (h : digN n ≤ 40) : n < 10 ^ 40 := by
  have h1 := revd_pow n n (Nat.le_refl _)
  unfold digN at h
  exact Nat.lt_of_lt_of_le h1 (Nat.pow_le_pow_right (by decide) (by omega))

/-! ### what is parsed of a printed text is what was printed -/
theorem rd_eq : ∀ t : Tm, okR t → dgR t = true → gdT (rd t) = true → rd t = t
  | .odd, h, _, _ => h.elim
  | .num neg l, h, hd, _ => by
    obtain rfl : neg = false := h.1
    simp only [dgR, decide_eq_true_eq] at hd
    show Tm.num false (limbs (decV (numS (valN l)))) = _
    rw [decV_numS, limbs_val h.2.1 h.2.2 (digN_lt hd)]
  | .name s, _, _, _ => rfl
  | .add l r, h, hd, hg => by
    simp only [dgR, Bool.and_eq_true] at hd
    simp only [rd, gdT, Bool.and_eq_true] at hg
    simp only [rd]
    rw [rd_eq l h.1 hd.1 hg.1.1, rd_eq r h.2 hd.2 hg.1.2]
  | .sub l r, h, hd, hg => by
    simp only [dgR, Bool.and_eq_true] at hd
    simp only [rd, gdT, Bool.and_eq_true] at hg
    simp only [rd]
    rw [rd_eq l h.1 hd.1 hg.1.1, rd_eq r h.2 hd.2 hg.1.2]
  | .mul l r, h, hd, hg => by
    simp only [dgR, Bool.and_eq_true] at hd
    simp only [rd, gdT, Bool.and_eq_true] at hg
    simp only [rd]
    rw [rd_eq l h.1 hd.1 hg.1.1, rd_eq r h.2 hd.2 hg.1.2]
  | .neg t, h, hd, hg => by
    simp only [rd]
    rw [rd_eq t h hd hg]
  | .pow t e, h, hd, hg => by
    simp only [rd, gdT, Bool.and_eq_true, decide_eq_true_eq] at hg
    simp only [rd]
    rw [rd_eq t h.1 hd hg.1.1]
    have h8 := hg.1.2
    unfold expN at h8 ⊢
    rw [decV_numS] at h8 ⊢
    have := h.2.1
    congr 1
    omega
theorem rdF_eq : ∀ f : Fo, okF f → dgF f = true → gdF (rdF f) = true → rdF f = f
  | .odd, h, _, _ => h.elim
  | .truth b, _, _, _ => rfl
  | .atom l e r, h, hd, hg => by
    simp only [dgF, Bool.and_eq_true] at hd
    simp only [rdF, gdF, Bool.and_eq_true] at hg
    simp only [rdF]
    rw [rd_eq l h.1 hd.1 hg.1, rd_eq r h.2.2 hd.2 hg.2]
  | .not f, h, hd, hg => by
    simp only [rdF]
    rw [rdF_eq f h hd hg]
  | .and l r, h, hd, hg => by
    simp only [dgF, Bool.and_eq_true] at hd
    simp only [rdF, gdF, Bool.and_eq_true] at hg
    simp only [rdF]
    rw [rdF_eq l h.1 hd.1 hg.1, rdF_eq r h.2 hd.2 hg.2]
  | .or l r, h, hd, hg => by
    simp only [dgF, Bool.and_eq_true] at hd
    simp only [rdF, gdF, Bool.and_eq_true] at hg
    simp only [rdF]
    rw [rdF_eq l h.1 hd.1 hg.1, rdF_eq r h.2 hd.2 hg.2]
  | .implies l r, h, hd, hg => by
    simp only [dgF, Bool.and_eq_true] at hd
    simp only [rdF, gdF, Bool.and_eq_true] at hg
    simp only [rdF]
    rw [rdF_eq l h.1 hd.1 hg.1, rdF_eq r h.2 hd.2 hg.2]
  | .iff l r, h, hd, hg => by
    simp only [dgF, Bool.and_eq_true] at hd
    simp only [rdF, gdF, Bool.and_eq_true] at hg
    simp only [rdF]
    rw [rdF_eq l h.1 hd.1 hg.1, rdF_eq r h.2 hd.2 hg.2]
  | .quant a n f, h, hd, hg => by
    simp only [rdF]
    rw [rdF_eq f h.2 hd hg]
theorem lex_lim {s : Bytes} {L : List Tk} (h : Sy s L false) {T : List Tok} {q : Nat} (hx : lex s = (T, q, 0)) : False := by
  by_cases hl : s.length ≤ 4000
  · rw [lex_small _ hl, if_neg (by rw [h.lim 0]; decide)] at hx
    have := congrArg (fun z => z.2.2) hx
    simp only [h.lim 0] at this
    exact absurd this (by decide)
  · rw [lex_long _ (by omega)] at hx
    have := congrArg (fun z => z.2.2) hx
    simp at this
/-- what is printed of a formula is parsed as it, or refused -/
theorem read_F (f : Fo) (h : okF f) : Gives (txtF f) f := by
  rcases gives_F f h with hp | hp
  · obtain ⟨g, T, t, e, hx, hB, hr, ho, -⟩ := parse_ok hp
    cases e
    have hd : dgF f = true := by
      cases hd : dgF f with
      | true => rfl
      | false =>
        have hy := sy_F f h
        rw [hd] at hy
        exact (lex_lim hy hx).elim
    have hT : TokOk T := by have := tokOk_lex (txtF f); rw [hx] at this; exact this
    have hg : gdF (rdF f) = true := Big.good hT hB _ rfl ho rfl
    rw [rdF_eq f h hd hg] at hp
    exact .inl hp
  · exact .inr hp
/-! ### what is parsed can be printed -/
def NamOk (T : List Tok) : Prop := ∀ t ∈ T, t.kind = 2 → Nm t.text
theorem NamOk.pk {T : List Tok} (h : NamOk T) (s : PS) (hk : (Pa.pk T s).kind = 2) : Nm (Pa.pk T s).text := by
  have hlt := pk_lt (s := s) (T := T) (by omega)
  have e : Pa.pk T s = T[s.next] := by unfold Pa.pk; rw [List.getElem?_eq_getElem hlt]; rfl
  rw [e] at hk ⊢
  exact h _ (List.getElem_mem hlt) hk
theorem next_nm_ok (c : UInt8) (r : Bytes) (h : (next (c :: r)).2.2 = 0) (hk : (next (c :: r)).1 = 2) : Nm ((c :: r).take (next (c :: r)).2.1) := by
  have hbl := next_head c r h
  unfold next at h hk ⊢
  dsimp only at h hk ⊢
  by_cases hd : dig c = true
  · rw [if_pos hd] at hk
    split at hk
    · cases hk
    · split at hk <;> cases hk
  · rw [if_neg hd] at h hk ⊢
    by_cases hl : ltr c = true
    · rw [if_pos hl] at h hk ⊢
      by_cases h16 : 16 < run aln (c :: r)
      · rw [if_pos h16] at hk; cases hk
      · rw [if_neg h16] at h hk ⊢
        dsimp only at hk ⊢
        have hw : isWord ((c :: r).take (run aln (c :: r))) = false := by
          cases hx : isWord ((c :: r).take (run aln (c :: r))) with
          | false => rfl
          | true => rw [hx, if_pos rfl] at hk; cases hk
        have hp : 0 < run aln (c :: r) := run_pos aln c r (by unfold aln; rw [hl]; rfl)
        refine ⟨hw, (all_take aln _ _ (run_le _ _)).2 (Nat.le_refl _), by rw [List.length_take]; omega, c, r.take (run aln (c :: r) - 1), ?_, by simpa using hd, hl, hbl⟩
        obtain ⟨m, hm⟩ : ∃ m, run aln (c :: r) = m + 1 := ⟨run aln (c :: r) - 1, by omega⟩
        rw [hm]
        rfl
    · rw [if_neg hl] at hk
      split at hk <;> cases hk
theorem namOk_bl : ∀ (p : Nat) (r : Bytes), NamOk (lexBl p r).1 := by
  refine lexBl_ind (P := fun p r => NamOk (lexBl p r).1) ?_ ?_ ?_ ?_
  · intro p t ht; rw [lexBl_nil] at ht; exact absurd ht List.not_mem_nil
  · intro p c r hb ih; rw [lexBl_blank p c r hb]; exact ih
  · intro p c r hb he t ht
    rw [lexBl_non _ _ _ hb, lexA_err _ _ (by simp) he] at ht
    exact absurd ht List.not_mem_nil
  · intro p c r hb he ih t ht hk
    rw [lexBl_non _ _ _ hb, lexA_ok' _ _ (by simp) he] at ht
    rcases List.mem_cons.1 ht with rfl | ht
    · exact next_nm_ok c r he hk
    · exact ih t ht hk
theorem namOk_lex (s : Bytes) : NamOk (lex s).1 := by
  by_cases hl : s.length ≤ 4000
  · rw [lex_small _ hl]
    split
    · exact namOk_bl _ _
    · intro t ht; exact absurd ht List.not_mem_nil
  · rw [lex_long _ (by omega)]
    intro t ht; exact absurd ht List.not_mem_nil
def vV : PV → Prop
  | .tm t => okR t
  | .fo f => okF f
def vB : PC → Prop
  | .iffL x => vV x
  | .orL x => vV x
  | .andL x => vV x
  | .termL t => okR t
  | .prodL t => okR t
  | .powT t => okR t
  | .term (some t) => okR t
  | .prod (some t) => okR t
  | .fac (some t) => okR t
  | .pow (some t) => okR t
  | .atomT _ (some t) => okR t
  | _ => True
theorem asF_v {x : PV} (h : vV x) : okF (asF x) := by
  cases x with
  | tm t => trivial
  | fo f => exact h
theorem rel_in {t : Tok} (h : relOf t ≠ 0) : 1 ≤ relOf t ∧ relOf t ≤ 6 := by
  unfold relOf at h ⊢
  split
  · rename_i hk
    rw [if_pos hk] at h
    split; decide
    split; decide
    split; decide
    split; decide
    split; decide
    split; decide
    rename_i h1 h2 h3 h4 h5 h6
    rw [if_neg h1, if_neg h2, if_neg h3, if_neg h4, if_neg h5, if_neg h6] at h
    exact absurd rfl h
  · rename_i hk
    rw [if_neg hk] at h
    exact absurd rfl h
theorem sum_v {k : Tok} {x y : Tm} (hx : okR x) (hy : okR y) : okR (sumT k x y) := by
  unfold sumT
  split
  · exact ⟨hx, hy⟩
  · exact ⟨hx, hy⟩
theorem exp_v (l : Bytes) : (0 : Int) ≤ (expN l : Nat) ∧ digN ((expN l : Nat) : Int).toNat ≤ 40 := by
  refine ⟨by omega, ?_⟩
  have : expN l ≤ 2147483647 := Nat.min_le_right _ _
  refine digN_le _ 40 (by omega) ?_
  rw [Int.toNat_natCast]
  exact Nat.lt_of_le_of_lt this (by decide)
theorem num_v {T : List Tok} (hT : TokOk T) (s : PS) (h : (pk T s).kind = 1) : okR (numT (pk T s).text) :=
  ⟨rfl, limbs_can (tokOk_val hT s h).1, limbF_lt 8 _⟩
theorem Big.okv {T : List Tok} (hT : TokOk T) (hN : NamOk T) {c : PC} {s s' : PS} {r : Option PV} (h : Big T c s r s') : ∀ z, r = some z → vB c → vV z := by
  induction h with
  | iff_no _ _ => intro z e; cases e
  | iffL_bad _ _ _ => intro z e; cases e
  | imp_no _ _ => intro z e; cases e
  | imp_bad _ _ _ _ _ => intro z e; cases e
  | or_no _ _ => intro z e; cases e
  | orL_bad _ _ _ => intro z e; cases e
  | and_no _ _ => intro z e; cases e
  | andL_bad _ _ _ => intro z e; cases e
  | un_not_no _ _ _ => intro z e; cases e
  | qu_no _ => intro z e; cases e
  | qu_comma_no _ _ _ _ => intro z e; cases e
  | qu_dot_no _ _ _ _ _ => intro z e; cases e
  | qu_bad _ _ _ => intro z e; cases e
  | at_no _ _ _ => intro z e; cases e
  | atT_no _ _ => intro z e; cases e
  | atT_none _ _ _ _ => intro z e; cases e
  | atT_bad _ _ _ _ _ => intro z e; cases e
  | en_no _ _ => intro z e; cases e
  | en_bad _ _ _ => intro z e; cases e
  | te_no _ _ => intro z e; cases e
  | teL_bad _ _ _ => intro z e; cases e
  | pd_no _ _ => intro z e; cases e
  | pdL_bad _ _ _ => intro z e; cases e
  | fa_no _ _ _ => intro z e; cases e
  | po_no _ _ => intro z e; cases e
  | pT_bad _ _ => intro z e; cases e
  | pr_no _ _ _ => intro z e; cases e
  | pr_bad _ _ _ _ => intro z e; cases e
  | pr_none _ _ _ => intro z e; cases e
  | @iff_go b s x s1 r s2 h1 h2 i1 i2 =>
    intro z e
    intro hg; exact i2 _ e (i1 _ rfl trivial)
  | @iffL_end x s h0  =>
    intro z e
    cases e; intro hg; exact hg
  | @iffL_go x s y s1 r s2 h0 h1 h2 i1 i2 =>
    intro z e
    intro hg; exact i2 _ e ⟨asF_v (x := x) hg, asF_v (i1 _ rfl trivial)⟩
  | @imp_one b s x s1 h1 h0 i1 =>
    intro z e
    cases e; intro hg; exact i1 _ rfl trivial
  | @imp_two b s x s1 y s2 h1 h0 h2 i1 i2 =>
    intro z e
    cases e; intro hg; exact ⟨asF_v (i1 _ rfl trivial), asF_v (i2 _ rfl trivial)⟩
  | @or_go b s x s1 r s2 h1 h2 i1 i2 =>
    intro z e
    intro hg; exact i2 _ e (i1 _ rfl trivial)
  | @orL_end x s h0  =>
    intro z e
    cases e; intro hg; exact hg
  | @orL_go x s y s1 r s2 h0 h1 h2 i1 i2 =>
    intro z e
    intro hg; exact i2 _ e ⟨asF_v (x := x) hg, asF_v (i1 _ rfl trivial)⟩
  | @and_go b s x s1 r s2 h1 h2 i1 i2 =>
    intro z e
    intro hg; exact i2 _ e (i1 _ rfl trivial)
  | @andL_end x s h0  =>
    intro z e
    cases e; intro hg; exact hg
  | @andL_go x s y s1 r s2 h0 h1 h2 i1 i2 =>
    intro z e
    intro hg; exact i2 _ e ⟨asF_v (x := x) hg, asF_v (i1 _ rfl trivial)⟩
  | @un_not b s x s1 h0 h1 i1 =>
    intro z e
    cases e; intro hg; exact asF_v (i1 _ rfl trivial)
  | @un_all b s r s1 h0 h1 h2 i1 =>
    intro z e
    intro hg; exact i1 _ e trivial
  | @un_ex b s r s1 h0 h1 h2 h3 i1 =>
    intro z e
    intro hg; exact i1 _ e trivial
  | @un_true b s h0 h1 h2 h3  =>
    intro z e
    cases e; intro hg; trivial
  | @un_false b s h0 h1 h2 h3 h4  =>
    intro z e
    cases e; intro hg; trivial
  | @un_atom b s r s1 h0 h1 h2 h3 h4 h5 i1 =>
    intro z e
    intro hg; exact i1 _ e trivial
  | @qu_comma a s x s1 h0 h1 h2 i1 =>
    intro z e
    cases e; intro hg; exact ⟨by rw [bs_data]; exact hN.pk s h0, asF_v (i1 _ rfl trivial)⟩
  | @qu_dot a s x s1 h0 h1 h2 h3 i1 =>
    intro z e
    cases e; intro hg; exact ⟨by rw [bs_data]; exact hN.pk s h0, asF_v (i1 _ rfl trivial)⟩
  | @at_fo b s f s1 h0 h1 i1 =>
    intro z e
    cases e; intro hg; exact i1 _ rfl trivial
  | @at_par b s t s1 r s2 h0 h1 h2 i1 i2 =>
    intro z e
    intro hg; exact i2 _ e (i1 _ rfl trivial)
  | @at_go b s r s2 h0 h1 i1 =>
    intro z e
    intro hg; exact i1 _ e trivial
  | @atT_bare b q s l s1 h1 h2 h3 i1 =>
    intro z e
    cases e; intro hg; exact i1 _ rfl (by cases q with | none => trivial | some t => exact hg)
  | @atT_ok b q s l s1 m s2 h1 h2 h3 i1 i2 =>
    intro z e
    cases e; intro hg; exact ⟨i1 _ rfl (by cases q with | none => trivial | some t => exact hg), rel_in h2, i2 _ rfl trivial⟩
  | @en_ok s x s1 h1 h2 i1 =>
    intro z e
    cases e; intro hg; exact i1 _ rfl trivial
  | @te_go q s x s1 r s2 h1 h2 i1 i2 =>
    intro z e
    intro hg; exact i2 _ e (i1 _ rfl (by cases q with | none => trivial | some t => exact hg))
  | @teL_end x s h0  =>
    intro z e
    cases e; intro hg; exact hg
  | @teL_go x s y s1 r s2 h0 h1 h2 i1 i2 =>
    intro z e
    intro hg; exact i2 _ e (sum_v hg (i1 _ rfl trivial))
  | @pd_go q s x s1 r s2 h1 h2 i1 i2 =>
    intro z e
    intro hg; exact i2 _ e (i1 _ rfl (by cases q with | none => trivial | some t => exact hg))
  | @pdL_end x s h0  =>
    intro z e
    cases e; intro hg; exact hg
  | @pdL_go x s y s1 r s2 h0 h1 h2 i1 i2 =>
    intro z e
    intro hg; exact i2 _ e ⟨hg, i1 _ rfl trivial⟩
  | @fa_first x s r s1 h1 i1 =>
    intro z e
    intro hg; exact i1 _ e hg
  | @fa_pow s r s1 h0 h1 i1 =>
    intro z e
    intro hg; exact i1 _ e trivial
  | @fa_neg s t s1 h0 h1 i1 =>
    intro z e
    cases e; intro hg; exact (i1 _ rfl trivial : vV (.tm t))
  | @po_first x s r s2 h1 i1 =>
    intro z e
    intro hg; exact i1 _ e hg
  | @po_go s x s1 r s2 h1 h2 i1 i2 =>
    intro z e
    intro hg; exact i2 _ e (i1 _ rfl trivial)
  | @pT_end x s h0  =>
    intro z e
    cases e; intro hg; exact hg
  | @pT_ok x s h0 h1  =>
    intro z e
    cases e; intro hg; exact ⟨hg, exp_v _⟩
  | @pr_num s h0  =>
    intro z e
    cases e; intro hg; exact num_v hT s h0
  | @pr_name s h0  =>
    intro z e
    cases e; intro hg; show Nm _; rw [bs_data]; exact hN.pk s h0
  | @pr_ok s x s1 h0 h1 h2 i1 =>
    intro z e
    cases e; intro hg; exact i1 _ rfl trivial
theorem parsed_F {s : Bytes} {f : Fo} {p : Nat} (h : ParseR (.iff false) fm s (some (.fo f)) p 0) : okF f ∧ gdF f = true ∧ atomsF f ≤ 16 ∧ ∃ NS : List ByteArray, NS.length ≤ 4 ∧ ∀ n ∈ mF f, n ∈ NS := by
  obtain ⟨f', T, t, e, hx, hB, hr, ho, -⟩ := parse_ok h
  cases e
  have hT : TokOk T := by have := tokOk_lex s; rw [hx] at this; exact this
  have hN : NamOk T := by have := namOk_lex s; rw [hx] at this; exact this
  have hg := Big.go hB _ rfl
  refine ⟨Big.okv hT hN hB _ rfl trivial, Big.good hT hB _ rfl ho rfl, ?_, t.names, hg.nam4 ho (by decide), fun n hn => ?_⟩
  · have h1 := Big.atoms hB _ rfl
    have h2 := hg.rel16 ho (by decide)
    simp only [aV, aB, s0] at h1
    omega
  · rcases Big.names hB _ rfl n hn with h1 | h1
    · exact absurd h1 List.not_mem_nil
    · exact h1
/-! ### printable means canonical -/
theorem can_ok : ∀ t : Tm, okR t → canTm t = t
  | .odd, h => h.elim
  | .num neg l, h => by
    obtain rfl : neg = false := h.1
    show Tm.num (normB false l) (trimN l) = _
    rw [h.2.1]; rfl
  | .name s, _ => rfl
  | .add l r, h => by simp only [canTm]; rw [can_ok l h.1, can_ok r h.2]
  | .sub l r, h => by simp only [canTm]; rw [can_ok l h.1, can_ok r h.2]
  | .mul l r, h => by simp only [canTm]; rw [can_ok l h.1, can_ok r h.2]
  | .neg t, h => by simp only [canTm]; rw [can_ok t h]
  | .pow t e, h => by simp only [canTm]; rw [can_ok t h.1]; congr 1; have := h.2.1; omega
theorem pos_ok : ∀ t : Tm, okR t → posTm t = t
  | .odd, h => h.elim
  | .num neg l, h => by
    obtain rfl : neg = false := h.1
    rfl
  | .name s, _ => rfl
  | .add l r, h => by simp only [posTm]; rw [pos_ok l h.1, pos_ok r h.2]
  | .sub l r, h => by simp only [posTm]; rw [pos_ok l h.1, pos_ok r h.2]
  | .mul l r, h => by simp only [posTm]; rw [pos_ok l h.1, pos_ok r h.2]
  | .neg t, h => by simp only [posTm]; rw [pos_ok t h]
  | .pow t e, h => by simp only [posTm]; rw [pos_ok t h.1]
theorem relR_ok {e : Int} (h : 1 ≤ e ∧ e ≤ 6) : relR e = e := by unfold relR; rw [if_neg (by omega)]
theorem canF_ok : ∀ f : Fo, okF f → canFo f = f
  | .odd, h => h.elim
  | .truth b, _ => rfl
  | .atom l e r, h => by simp only [canFo]; rw [can_ok l h.1, can_ok r h.2.2, relR_ok h.2.1]
  | .not f, h => by simp only [canFo]; rw [canF_ok f h]
  | .and l r, h => by simp only [canFo]; rw [canF_ok l h.1, canF_ok r h.2]
  | .or l r, h => by simp only [canFo]; rw [canF_ok l h.1, canF_ok r h.2]
  | .implies l r, h => by simp only [canFo]; rw [canF_ok l h.1, canF_ok r h.2]
  | .iff l r, h => by simp only [canFo]; rw [canF_ok l h.1, canF_ok r h.2]
  | .quant a n f, h => by simp only [canFo]; rw [canF_ok f h.2]
theorem posF_ok : ∀ f : Fo, okF f → posF f = f
  | .odd, h => h.elim
  | .truth b, _ => rfl
  | .atom l e r, h => by simp only [posF]; rw [pos_ok l h.1, pos_ok r h.2.2]
  | .not f, h => by simp only [posF]; rw [posF_ok f h]
  | .and l r, h => by simp only [posF]; rw [posF_ok l h.1, posF_ok r h.2]
  | .or l r, h => by simp only [posF]; rw [posF_ok l h.1, posF_ok r h.2]
  | .implies l r, h => by simp only [posF]; rw [posF_ok l h.1, posF_ok r h.2]
  | .iff l r, h => by simp only [posF]; rw [posF_ok l h.1, posF_ok r h.2]
  | .quant a n f, h => by simp only [posF]; rw [posF_ok f h.2]
theorem pr_ok (f : Fo) (h : okF f) : prF f = f := by unfold prF; rw [canF_ok f h, posF_ok f h]
/-! ### names -/
theorem valid_nm {l : Bytes} (h : Nm l) : Va.validB l = true := by
  unfold Va.validB
  rw [decide_eq_true h.len, h.wd]
  have ha := h.all
  obtain ⟨c, r, rfl, h1, h2, h3⟩ := h.hd
  rw [List.all_cons, Bool.and_eq_true] at ha
  show (true && ((ltr c && r.all aln) && !false)) = true
  rw [h2, ha.2]
  rfl
theorem nmd_in {h : Hd} {ks : List Tr} (hk : h.k ≠ 2 ∧ h.k ≠ 15) : nmdT (.mk h ks) = nmdL ks := by
  conv => lhs; unfold nmdT
  rw [if_neg (fun e => by rcases e.1 with e | e; exact hk.1 e; exact hk.2 e)]
theorem nmd_yes {h : Hd} {ks : List Tr} (hk : Nm h.name.data.toList) (hn : nmdL ks = true) : nmdT (.mk h ks) = true := by
  unfold nmdT
  rw [if_neg (fun e => by rw [valid_nm hk] at e; cases e.2), hn]
theorem nmd_okT : ∀ t : Tm, okR t → nmdT (plainT t) = true
  | .odd, h => h.elim
  | .num neg l, _ => (nmd_in (h := { hd0 1 with neg := normB neg l, abs := trimN l }) ⟨by simp [hd0], by simp [hd0]⟩).trans nmdL_nil
  | .name s, h => nmd_yes h nmdL_nil
  | .add l r, h => (nmd_in (by decide)).trans (by rw [nmdL_cons, nmdL_cons, nmdL_nil, nmd_okT l h.1, nmd_okT r h.2]; rfl)
  | .sub l r, h => (nmd_in (by decide)).trans (by rw [nmdL_cons, nmdL_cons, nmdL_nil, nmd_okT l h.1, nmd_okT r h.2]; rfl)
  | .mul l r, h => (nmd_in (by decide)).trans (by rw [nmdL_cons, nmdL_cons, nmdL_nil, nmd_okT l h.1, nmd_okT r h.2]; rfl)
  | .neg t, h => (nmd_in (by decide)).trans (by rw [nmdL_cons, nmdL_nil, nmd_okT t h]; rfl)
  | .pow t e, h => (nmd_in (h := { hd0 7 with exp := max e 0 }) ⟨by simp [hd0], by simp [hd0]⟩).trans (by rw [nmdL_cons, nmdL_nil, nmd_okT t h.1]; rfl)
theorem nmd_okF : ∀ f : Fo, okF f → nmdT (plainF f) = true
  | .odd, h => h.elim
  | .truth b, _ => (nmd_in (h := { hd0 8 with truth := b }) ⟨by simp [hd0], by simp [hd0]⟩).trans nmdL_nil
  | .atom l e r, h => (nmd_in (h := { hd0 9 with rel := relR e }) ⟨by simp [hd0], by simp [hd0]⟩).trans (by rw [nmdL_cons, nmdL_cons, nmdL_nil, nmd_okT l h.1, nmd_okT r h.2.2]; rfl)
  | .not f, h => (nmd_in (by decide)).trans (by rw [nmdL_cons, nmdL_nil, nmd_okF f h]; rfl)
  | .and l r, h => (nmd_in (by decide)).trans (by rw [nmdL_cons, nmdL_cons, nmdL_nil, nmd_okF l h.1, nmd_okF r h.2]; rfl)
  | .or l r, h => (nmd_in (by decide)).trans (by rw [nmdL_cons, nmdL_cons, nmdL_nil, nmd_okF l h.1, nmd_okF r h.2]; rfl)
  | .implies l r, h => (nmd_in (by decide)).trans (by rw [nmdL_cons, nmdL_cons, nmdL_nil, nmd_okF l h.1, nmd_okF r h.2]; rfl)
  | .iff l r, h => (nmd_in (by decide)).trans (by rw [nmdL_cons, nmdL_cons, nmdL_nil, nmd_okF l h.1, nmd_okF r h.2]; rfl)
  | .quant a n f, h => nmd_yes (h := { hd0 15 with name := n, all := a }) h.1 (by rw [nmdL_cons, nmdL_nil, nmd_okF f h.2]; rfl)
end Rd
end Go.Proofs.YteneobpacobpdaaGreatDoor

/-
  Ranges of a term out of a small tree.
-/
namespace Go.Proofs.YteneobpacobpdaaGreatDoor
open Go.RowKit
set_option linter.unusedVariables false
namespace Rd
open Lx Fm Dc Pr Pa
end Rd
end Go.Proofs.YteneobpacobpdaaGreatDoor
