/-
  What a parsed formula is: small, printable, and read back as itself. Plain Lean.
-/
import Derived.Test.YteneobpacobpdaaGreatDoorRdC
namespace Go.Proofs.YteneobpacobpdaaGreatDoor
open Go.RowKit
set_option linter.unusedSimpArgs false
set_option linter.unusedVariables false
namespace Rd
open Lx Fm Dc Pr Pa
theorem rd_gd : ∀ t : Tm, okR t → gdT t = true → rd t = t ∧ dgR t = true
  | .odd, h, _ => h.elim
  | .num neg l, h, hg => by
    obtain rfl : neg = false := h.1
    simp only [gdT, decide_eq_true_eq] at hg
    refine ⟨?_, decide_eq_true hg⟩
    show Tm.num false (limbs (decV (numS (valN l)))) = _
    rw [decV_numS, limbs_val h.2.1 h.2.2 (digN_lt hg)]
  | .name s, _, _ => ⟨rfl, rfl⟩
  | .add l r, h, hg => by
    simp only [gdT, Bool.and_eq_true] at hg
    obtain ⟨a, b⟩ := rd_gd l h.1 hg.1.1
    obtain ⟨c, d⟩ := rd_gd r h.2 hg.1.2
    simp [rd, dgR, a, b, c, d]
  | .sub l r, h, hg => by
    simp only [gdT, Bool.and_eq_true] at hg
    obtain ⟨a, b⟩ := rd_gd l h.1 hg.1.1
    obtain ⟨c, d⟩ := rd_gd r h.2 hg.1.2
    simp [rd, dgR, a, b, c, d]
  | .mul l r, h, hg => by
    simp only [gdT, Bool.and_eq_true] at hg
    obtain ⟨a, b⟩ := rd_gd l h.1 hg.1.1
    obtain ⟨c, d⟩ := rd_gd r h.2 hg.1.2
    simp [rd, dgR, a, b, c, d]
  | .neg t, h, hg => by
    obtain ⟨a, b⟩ := rd_gd t h hg
    simp [rd, dgR, a, b]
  | .pow t e, h, hg => by
    simp only [gdT, Bool.and_eq_true, decide_eq_true_eq] at hg
    obtain ⟨a, b⟩ := rd_gd t h.1 hg.1.1
    simp only [rd, dgR, a, b]
    refine ⟨?_, trivial⟩
    unfold expN
    rw [decV_numS]
    have := h.2.1
    have := hg.1.2
    congr 1
    omega
theorem rdF_gd : ∀ f : Fo, okF f → gdF f = true → rdF f = f ∧ dgF f = true
  | .odd, h, _ => h.elim
  | .truth b, _, _ => ⟨rfl, rfl⟩
  | .atom l e r, h, hg => by
    simp only [gdF, Bool.and_eq_true] at hg
    obtain ⟨a, b⟩ := rd_gd l h.1 hg.1
    obtain ⟨c, d⟩ := rd_gd r h.2.2 hg.2
    simp [rdF, dgF, a, b, c, d]
  | .not f, h, hg => by
    obtain ⟨a, b⟩ := rdF_gd f h hg
    simp [rdF, dgF, a, b]
  | .and l r, h, hg => by
    simp only [gdF, Bool.and_eq_true] at hg
    obtain ⟨a, b⟩ := rdF_gd l h.1 hg.1
    obtain ⟨c, d⟩ := rdF_gd r h.2 hg.2
    simp [rdF, dgF, a, b, c, d]
  | .or l r, h, hg => by
    simp only [gdF, Bool.and_eq_true] at hg
    obtain ⟨a, b⟩ := rdF_gd l h.1 hg.1
    obtain ⟨c, d⟩ := rdF_gd r h.2 hg.2
    simp [rdF, dgF, a, b, c, d]
  | .implies l r, h, hg => by
    simp only [gdF, Bool.and_eq_true] at hg
    obtain ⟨a, b⟩ := rdF_gd l h.1 hg.1
    obtain ⟨c, d⟩ := rdF_gd r h.2 hg.2
    simp [rdF, dgF, a, b, c, d]
  | .iff l r, h, hg => by
    simp only [gdF, Bool.and_eq_true] at hg
    obtain ⟨a, b⟩ := rdF_gd l h.1 hg.1
    obtain ⟨c, d⟩ := rdF_gd r h.2 hg.2
    simp [rdF, dgF, a, b, c, d]
  | .quant a n f, h, hg => by
    obtain ⟨a, b⟩ := rdF_gd f h.2 hg
    simp [rdF, dgF, a, b]
theorem limb_len {l : List Nat} (hl : trimN l = l) (hx : ∀ x ∈ l, x < 4294967296) (h : digN (valN l) ≤ 40) : l.length ≤ 8 := by
  rw [← limbs_val hl hx (digN_lt h)]
  exact limbF_len 8 _
theorem sm_leaf {h : Hd} (h1 : h.abs.length ≤ 20) (h2 : h.name.size ≤ 40) : Sm (.mk h []) := by unfold Sm; exact ⟨h1, h2, by unfold SmL; trivial⟩
theorem sm_one {h : Hd} {a : Tr} (h1 : h.abs.length ≤ 20) (h2 : h.name.size ≤ 40) (ha : Sm a) : Sm (.mk h [a]) := by unfold Sm; exact ⟨h1, h2, by unfold SmL SmL; exact ⟨ha, trivial⟩⟩
theorem sm_two {h : Hd} {a b : Tr} (h1 : h.abs.length ≤ 20) (h2 : h.name.size ≤ 40) (ha : Sm a) (hb : Sm b) : Sm (.mk h [a, b]) := by unfold Sm; exact ⟨h1, h2, by unfold SmL SmL SmL; exact ⟨ha, hb, trivial⟩⟩
theorem nm_size {s : ByteArray} (h : Nm s.data.toList) : s.size ≤ 40 := by have := h.len; have : s.data.toList.length = s.size := rfl; omega
/-- a parsed term is small, and its numbers lie in the range of their types -/
theorem small_T : ∀ t : Tm, okR t → gdT t = true → Sm (plainT t) ∧ SmT t ∧ bdT t
  | .odd, h, _ => h.elim
  | .num neg l, h, hg => by
    simp only [gdT, decide_eq_true_eq] at hg
    have h8 := limb_len h.2.1 h.2.2 hg
    exact ⟨sm_leaf (h := { hd0 1 with neg := normB neg l, abs := trimN l }) (by show (trimN l).length ≤ 20; rw [h.2.1]; omega) (Nat.zero_le _), by show l.length ≤ 1000000; omega, by omega, h.2.2⟩
  | .name s, h, _ => ⟨sm_leaf (h := { hd0 2 with name := s }) (Nat.zero_le _) (nm_size h), trivial, nm_size h⟩
  | .add l r, h, hg => by
    simp only [gdT, Bool.and_eq_true] at hg
    obtain ⟨a, b, c⟩ := small_T l h.1 hg.1.1
    obtain ⟨d, e, f⟩ := small_T r h.2 hg.1.2
    exact ⟨sm_two (Nat.zero_le _) (Nat.zero_le _) a d, ⟨b, e⟩, c, f⟩
  | .sub l r, h, hg => by
    simp only [gdT, Bool.and_eq_true] at hg
    obtain ⟨a, b, c⟩ := small_T l h.1 hg.1.1
    obtain ⟨d, e, f⟩ := small_T r h.2 hg.1.2
    exact ⟨sm_two (Nat.zero_le _) (Nat.zero_le _) a d, ⟨b, e⟩, c, f⟩
  | .mul l r, h, hg => by
    simp only [gdT, Bool.and_eq_true] at hg
    obtain ⟨a, b, c⟩ := small_T l h.1 hg.1.1
    obtain ⟨d, e, f⟩ := small_T r h.2 hg.1.2
    exact ⟨sm_two (Nat.zero_le _) (Nat.zero_le _) a d, ⟨b, e⟩, c, f⟩
  | .neg t, h, hg => by
    obtain ⟨a, b, c⟩ := small_T t h hg
    exact ⟨sm_one (Nat.zero_le _) (Nat.zero_le _) a, b, c⟩
  | .pow t e, h, hg => by
    simp only [gdT, Bool.and_eq_true, decide_eq_true_eq] at hg
    obtain ⟨a, b, c⟩ := small_T t h.1 hg.1.1
    exact ⟨sm_one (h := { hd0 7 with exp := max e 0 }) (Nat.zero_le _) (Nat.zero_le _) a, b, c, by have := hg.1.2; omega⟩
theorem small_F : ∀ f : Fo, okF f → gdF f = true → Sm (plainF f) ∧ SmF f ∧ bdF f
  | .odd, h, _ => h.elim
  | .truth b, _, _ => ⟨sm_leaf (h := { hd0 8 with truth := b }) (Nat.zero_le _) (Nat.zero_le _), trivial, trivial⟩
  | .atom l e r, h, hg => by
    simp only [gdF, Bool.and_eq_true] at hg
    obtain ⟨a, b, c⟩ := small_T l h.1 hg.1
    obtain ⟨d, e', f⟩ := small_T r h.2.2 hg.2
    exact ⟨sm_two (h := { hd0 9 with rel := relR e }) (Nat.zero_le _) (Nat.zero_le _) a d, ⟨b, e'⟩, c, f⟩
  | .not f, h, hg => by
    obtain ⟨a, b, c⟩ := small_F f h hg
    exact ⟨sm_one (Nat.zero_le _) (Nat.zero_le _) a, b, c⟩
  | .and l r, h, hg => by
    simp only [gdF, Bool.and_eq_true] at hg
    obtain ⟨a, b, c⟩ := small_F l h.1 hg.1
    obtain ⟨d, e', f⟩ := small_F r h.2 hg.2
    exact ⟨sm_two (Nat.zero_le _) (Nat.zero_le _) a d, ⟨b, e'⟩, c, f⟩
  | .or l r, h, hg => by
    simp only [gdF, Bool.and_eq_true] at hg
    obtain ⟨a, b, c⟩ := small_F l h.1 hg.1
    obtain ⟨d, e', f⟩ := small_F r h.2 hg.2
    exact ⟨sm_two (Nat.zero_le _) (Nat.zero_le _) a d, ⟨b, e'⟩, c, f⟩
  | .implies l r, h, hg => by
    simp only [gdF, Bool.and_eq_true] at hg
    obtain ⟨a, b, c⟩ := small_F l h.1 hg.1
    obtain ⟨d, e', f⟩ := small_F r h.2 hg.2
    exact ⟨sm_two (Nat.zero_le _) (Nat.zero_le _) a d, ⟨b, e'⟩, c, f⟩
  | .iff l r, h, hg => by
    simp only [gdF, Bool.and_eq_true] at hg
    obtain ⟨a, b, c⟩ := small_F l h.1 hg.1
    obtain ⟨d, e', f⟩ := small_F r h.2 hg.2
    exact ⟨sm_two (Nat.zero_le _) (Nat.zero_le _) a d, ⟨b, e'⟩, c, f⟩
  | .quant a n f, h, hg => by
    obtain ⟨x, b, c⟩ := small_F f h.2 hg
    exact ⟨sm_one (h := { hd0 15 with name := n, all := a }) (Nat.zero_le _) (nm_size h.1) x, b, nm_size h.1, c⟩
theorem big_len {T : List Tok} {c : PC} {s s' : PS} {r : Option PV} (h : Big T c s r s') : ∀ z, r = some z → (c = .encl → s.next < T.length) → s.next ≤ T.length → s'.next ≤ T.length := by
  induction h with
  | iff_no _ _ => intro z e; cases e
  | iffL_bad _ _ _ => intro z e; cases e
  | imp_no _ _ => intro z e; cases e
  | imp_bad _ _ _ _ _ => intro z e; cases e
  | or_no _ _ => intro z e; cases e
  | orL_bad _ _ _ => intro z e; cases e
  | and_no _ _ => intro z e; cases e
  | andL_bad _ _ _ => intro z e; cases e
  | un_not_no _ _ _ => intro z e; cases e
  | qu_no _ => intro z e; cases e
  | qu_comma_no _ _ _ _ => intro z e; cases e
  | qu_dot_no _ _ _ _ _ => intro z e; cases e
  | qu_bad _ _ _ => intro z e; cases e
  | at_no _ _ _ => intro z e; cases e
  | atT_no _ _ => intro z e; cases e
  | atT_none _ _ _ _ => intro z e; cases e
  | atT_bad _ _ _ _ _ => intro z e; cases e
  | en_no _ _ => intro z e; cases e
  | en_bad _ _ _ => intro z e; cases e
  | te_no _ _ => intro z e; cases e
  | teL_bad _ _ _ => intro z e; cases e
  | pd_no _ _ => intro z e; cases e
  | pdL_bad _ _ _ => intro z e; cases e
  | fa_no _ _ _ => intro z e; cases e
  | po_no _ _ => intro z e; cases e
  | pT_bad _ _ => intro z e; cases e
  | pr_no _ _ _ => intro z e; cases e
  | pr_bad _ _ _ _ => intro z e; cases e
  | pr_none _ _ _ => intro z e; cases e
  | @iff_go b s x s1 r s2 h1 h2 i1 i2 =>
    intro z e
    intro hE hl; exact i2 _ e (fun h => nomatch h) (i1 _ rfl (fun h => nomatch h) hl)
  | @iffL_end x s h0  =>
    intro z e
    intro hE hl; exact hl
  | @iffL_go x s y s1 r s2 h0 h1 h2 i1 i2 =>
    intro z e
    intro hE hl; exact i2 _ e (fun h => nomatch h) (i1 _ rfl (fun h => nomatch h) (sees_lt h0))
  | @imp_one b s x s1 h1 h0 i1 =>
    intro z e
    intro hE hl; exact i1 _ rfl (fun h => nomatch h) hl
  | @imp_two b s x s1 y s2 h1 h0 h2 i1 i2 =>
    intro z e
    intro hE hl; exact i2 _ rfl (fun h => nomatch h) (sees_lt h0)
  | @or_go b s x s1 r s2 h1 h2 i1 i2 =>
    intro z e
    intro hE hl; exact i2 _ e (fun h => nomatch h) (i1 _ rfl (fun h => nomatch h) hl)
  | @orL_end x s h0  =>
    intro z e
    intro hE hl; exact hl
  | @orL_go x s y s1 r s2 h0 h1 h2 i1 i2 =>
    intro z e
    intro hE hl; exact i2 _ e (fun h => nomatch h) (i1 _ rfl (fun h => nomatch h) (sees_lt h0))
  | @and_go b s x s1 r s2 h1 h2 i1 i2 =>
    intro z e
    intro hE hl; exact i2 _ e (fun h => nomatch h) (i1 _ rfl (fun h => nomatch h) hl)
  | @andL_end x s h0  =>
    intro z e
    intro hE hl; exact hl
  | @andL_go x s y s1 r s2 h0 h1 h2 i1 i2 =>
    intro z e
    intro hE hl; exact i2 _ e (fun h => nomatch h) (i1 _ rfl (fun h => nomatch h) (sees_lt h0))
  | @un_not b s x s1 h0 h1 i1 =>
    intro z e
    intro hE hl; exact i1 _ rfl (fun h => nomatch h) (by rw [opn_next]; exact sees_lt h0)
  | @un_all b s r s1 h0 h1 h2 i1 =>
    intro z e
    intro hE hl; exact i1 _ e (fun h => nomatch h) (sees_lt h1)
  | @un_ex b s r s1 h0 h1 h2 h3 i1 =>
    intro z e
    intro hE hl; exact i1 _ e (fun h => nomatch h) (sees_lt h2)
  | @un_true b s h0 h1 h2 h3  =>
    intro z e
    intro hE hl; exact sees_lt h3
  | @un_false b s h0 h1 h2 h3 h4  =>
    intro z e
    intro hE hl; exact sees_lt h4
  | @un_atom b s r s1 h0 h1 h2 h3 h4 h5 i1 =>
    intro z e
    intro hE hl; exact i1 _ e (fun h => nomatch h) hl
  | @qu_comma a s x s1 h0 h1 h2 i1 =>
    intro z e
    intro hE hl; exact i1 _ rfl (fun h => nomatch h) (sees_lt h1)
  | @qu_dot a s x s1 h0 h1 h2 h3 i1 =>
    intro z e
    intro hE hl; exact i1 _ rfl (fun h => nomatch h) (sees_lt h2)
  | @at_fo b s f s1 h0 h1 i1 =>
    intro z e
    intro hE hl; exact i1 _ rfl (fun _ => sees_lt h0) hl
  | @at_par b s t s1 r s2 h0 h1 h2 i1 i2 =>
    intro z e
    intro hE hl; exact i2 _ e (fun h => nomatch h) (i1 _ rfl (fun _ => sees_lt h0) hl)
  | @at_go b s r s2 h0 h1 i1 =>
    intro z e
    intro hE hl; exact i1 _ e (fun h => nomatch h) hl
  | @atT_bare b q s l s1 h1 h2 h3 i1 =>
    intro z e
    intro hE hl; exact i1 _ rfl (fun h => nomatch h) hl
  | @atT_ok b q s l s1 m s2 h1 h2 h3 i1 i2 =>
    intro z e
    intro hE hl; exact i2 _ rfl (fun h => nomatch h) (by rw [relS_next]; exact relOf_lt h2)
  | @en_ok s x s1 h1 h2 i1 =>
    intro z e
    intro hE hl; exact sees_lt (s := dn s1) h2
  | @te_go q s x s1 r s2 h1 h2 i1 i2 =>
    intro z e
    intro hE hl; exact i2 _ e (fun h => nomatch h) (i1 _ rfl (fun h => nomatch h) hl)
  | @teL_end x s h0  =>
    intro z e
    intro hE hl; exact hl
  | @teL_go x s y s1 r s2 h0 h1 h2 i1 i2 =>
    intro z e
    intro hE hl
    refine i2 _ e (fun h => nomatch h) ?_
    rw [meas_next]
    refine i1 _ rfl (fun h => nomatch h) ?_
    rw [Bool.or_eq_true] at h0
    rcases h0 with h | h <;> exact sees_lt h
  | @pd_go q s x s1 r s2 h1 h2 i1 i2 =>
    intro z e
    intro hE hl; exact i2 _ e (fun h => nomatch h) (i1 _ rfl (fun h => nomatch h) hl)
  | @pdL_end x s h0  =>
    intro z e
    intro hE hl; exact hl
  | @pdL_go x s y s1 r s2 h0 h1 h2 i1 i2 =>
    intro z e
    intro hE hl
    refine i2 _ e (fun h => nomatch h) ?_
    rw [meas_next]
    exact i1 _ rfl (fun h => nomatch h) (sees_lt h0)
  | @fa_first x s r s1 h1 i1 =>
    intro z e
    intro hE hl; exact i1 _ e (fun h => nomatch h) hl
  | @fa_pow s r s1 h0 h1 i1 =>
    intro z e
    intro hE hl; exact i1 _ e (fun h => nomatch h) hl
  | @fa_neg s t s1 h0 h1 i1 =>
    intro z e
    intro hE hl; exact i1 _ rfl (fun h => nomatch h) (by rw [opn_next]; exact sees_lt h0)
  | @po_first x s r s2 h1 i1 =>
    intro z e
    intro hE hl; exact i1 _ e (fun h => nomatch h) hl
  | @po_go s x s1 r s2 h1 h2 i1 i2 =>
    intro z e
    intro hE hl; exact i2 _ e (fun h => nomatch h) (i1 _ rfl (fun h => nomatch h) hl)
  | @pT_end x s h0  =>
    intro z e
    intro hE hl; exact hl
  | @pT_ok x s h0 h1  =>
    intro z e
    intro hE hl; rw [powS_next]; exact pk_lt (s := adv s) (by rw [h1]; decide)
  | @pr_num s h0  =>
    intro z e
    intro hE hl; exact pk_lt (s := s) (by rw [h0]; decide)
  | @pr_name s h0  =>
    intro z e
    intro hE hl; rw [nam_next]; exact pk_lt (s := s) (by rw [h0]; decide)
  | @pr_ok s x s1 h0 h1 h2 i1 =>
    intro z e
    intro hE hl; exact sees_lt (s := dn s1) h2
/-- what is parsed is printed, and that is parsed as it, or too deep -/
theorem again {s : Bytes} {f : Fo} {p : Nat} (h : ParseR (.iff false) fm s (some (.fo f)) p 0) :
    okF f ∧ Sm (plainF f) ∧ SmF f ∧ bdF f ∧ fnn f ≤ 4000 ∧ (ParseR (.iff false) fm (txtF f) (some (.fo f)) 0 0 ∨ (60 < (txtF f).length ∧ ∃ q, ParseR (.iff false) fm (txtF f) none q 8)) := by
  obtain ⟨hok, hgd, hat, NS, hNS, hmem⟩ := parsed_F h
  obtain ⟨h1, h2, h3⟩ := small_F f hok hgd
  obtain ⟨h4, h5⟩ := rdF_gd f hok hgd
  refine ⟨hok, h1, h2, h3, ?_, ?_⟩
  · obtain ⟨f', T, t, e, hx, hB, hr, ho, -⟩ := parse_ok h
    cases e
    have a1 := Big.nodes hB _ rfl
    have a2 := big_len hB _ rfl (fun h => nomatch h) (Nat.zero_le _)
    have hl := lex_pos s (by rw [hx])
    rw [hx] at hl
    have a3 : fnn f + 0 ≤ 0 + t.next := a1
    have a4 := hl.1.1
    have a5 := hl.1.2
    dsimp only at a4
    omega
  · by_cases hl : (txtF f).length ≤ 60
    · have := again_F f hok NS hNS (by rw [h4]; exact ⟨hgd, hmem⟩) hat h5 hl
      rw [h4] at this
      exact .inl this
    · rcases read_F f hok with hp | hp
      · exact .inl hp
      · exact .inr ⟨by omega, hp⟩
end Rd
end Go.Proofs.YteneobpacobpdaaGreatDoor
