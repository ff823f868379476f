/-
  What is parsed violates no limit: Check gives OK or ErrName. Plain Lean.
-/
import Derived.Test.YtkjbfomokdjbnaaGreatPbG
import Derived.Test.YtkjbfomokdjbnaaGreatCkD
namespace Go.Proofs.YtkjbfomokdjbnaaGreat
open Go.RowKit
set_option linter.unusedSimpArgs false
set_option linter.unusedVariables false
namespace Pa
open Lx Fm Dc
theorem step_len (g : ByteArray → Int) (s : List ByteArray) (nm : ByteArray) : (freeStep s g nm).length ≤ s.length + 1 := by
  unfold freeStep; split
  · simp
  · omega
theorem fold_len (g : ByteArray → Int) (l : List ByteArray) : ∀ s : List ByteArray, (l.foldl (fun s nm => freeStep s g nm) s).length ≤ s.length + l.length := by
  induction l with
  | nil => intro s; simp
  | cons a l ih => intro s; rw [List.foldl_cons, List.length_cons]; have := ih (freeStep s g a); have := step_len g s a; omega
theorem free_len (f : Fo) : ∀ (g : ByteArray → Int) (s : List ByteArray), (walkS freeStep f g s).length ≤ s.length + fsz f := by
  induction f with
  | odd => intro g s; exact Nat.le_add_right _ _
  | truth b => intro g s; exact Nat.le_add_right _ _
  | atom l e r => intro g s; unfold walkS fsz; have h1 := fold_len g (namesT l) s; have h2 := fold_len g (namesT r) ((namesT l).foldl (fun s nm => freeStep s g nm) s); omega
  | not f ih => intro g s; unfold walkS fsz; have := ih g s; omega
  | and l r il ir => intro g s; unfold walkS fsz; have := il g s; have := ir g (walkS freeStep l g s); omega
  | or l r il ir => intro g s; unfold walkS fsz; have := il g s; have := ir g (walkS freeStep l g s); omega
  | implies l r il ir => intro g s; unfold walkS fsz; have := il g s; have := ir g (walkS freeStep l g s); omega
  | iff l r il ir => intro g s; unfold walkS fsz; have := il g s; have := ir g (walkS freeStep l g s); omega
  | quant a n f ih => intro g s; unfold walkS fsz; have := ih (incG g n) s; omega
theorem fold_in (g : ByteArray → Int) (l : List ByteArray) : ∀ (s : List ByteArray) (x : ByteArray), x ∈ l.foldl (fun s nm => freeStep s g nm) s → x ∈ s ∨ x ∈ l := by
  induction l with
  | nil => intro s x h; exact .inl h
  | cons a l ih =>
    intro s x h
    rw [List.foldl_cons] at h
    rcases ih _ _ h with h | h
    · unfold freeStep at h
      split at h
      · rw [List.mem_append, List.mem_singleton] at h
        rcases h with h | rfl
        · exact .inl h
        · exact .inr (List.mem_cons_self ..)
      · exact .inl h
    · exact .inr (List.mem_cons_of_mem _ h)
theorem free_in (f : Fo) : ∀ (g : ByteArray → Int) (s : List ByteArray) (x : ByteArray), x ∈ walkS freeStep f g s → x ∈ s ∨ x ∈ namesF f := by
  induction f with
  | odd => intro g s x h; exact .inl h
  | truth b => intro g s x h; exact .inl h
  | atom l e r =>
    intro g s x h
    unfold walkS at h
    unfold namesF
    rw [List.mem_append]
    rcases fold_in g _ _ _ h with h | h
    · rcases fold_in g _ _ _ h with h | h
      · exact .inl h
      · exact .inr (.inl h)
    · exact .inr (.inr h)
  | not f ih => intro g s x h; exact ih g s x h
  | and l r il ir => intro g s x h; unfold walkS at h; unfold namesF; rw [List.mem_append]; rcases ir _ _ _ h with h | h; (rcases il _ _ _ h with h | h; exact .inl h; exact .inr (.inl h)); exact .inr (.inr h)
  | or l r il ir => intro g s x h; unfold walkS at h; unfold namesF; rw [List.mem_append]; rcases ir _ _ _ h with h | h; (rcases il _ _ _ h with h | h; exact .inl h; exact .inr (.inl h)); exact .inr (.inr h)
  | implies l r il ir => intro g s x h; unfold walkS at h; unfold namesF; rw [List.mem_append]; rcases ir _ _ _ h with h | h; (rcases il _ _ _ h with h | h; exact .inl h; exact .inr (.inl h)); exact .inr (.inr h)
  | iff l r il ir => intro g s x h; unfold walkS at h; unfold namesF; rw [List.mem_append]; rcases ir _ _ _ h with h | h; (rcases il _ _ _ h with h | h; exact .inl h; exact .inr (.inl h)); exact .inr (.inr h)
  | quant a n f ih => intro g s x h; exact ih _ s x h

theorem Big.len {T : List Tok} {c : PC} {s s' : PS} {r : Option PV} (h : Big T c s r s') : ∀ z, r = some z → (c = .encl → s.next < T.length) → s.next ≤ T.length → s'.next ≤ T.length := by
  induction h with
  | iff_no _ _ => intro z e; cases e
  | iffL_bad _ _ _ => intro z e; cases e
  | imp_no _ _ => intro z e; cases e
  | imp_bad _ _ _ _ _ => intro z e; cases e
  | or_no _ _ => intro z e; cases e
  | orL_bad _ _ _ => intro z e; cases e
  | and_no _ _ => intro z e; cases e
  | andL_bad _ _ _ => intro z e; cases e
  | un_not_no _ _ _ => intro z e; cases e
  | qu_no _ => intro z e; cases e
  | qu_comma_no _ _ _ _ => intro z e; cases e
  | qu_dot_no _ _ _ _ _ => intro z e; cases e
  | qu_bad _ _ _ => intro z e; cases e
  | at_no _ _ _ => intro z e; cases e
  | atT_no _ _ => intro z e; cases e
  | atT_none _ _ _ _ => intro z e; cases e
  | atT_bad _ _ _ _ _ => intro z e; cases e
  | en_no _ _ => intro z e; cases e
  | en_bad _ _ _ => intro z e; cases e
  | te_no _ _ => intro z e; cases e
  | teL_bad _ _ _ => intro z e; cases e
  | pd_no _ _ => intro z e; cases e
  | pdL_bad _ _ _ => intro z e; cases e
  | fa_no _ _ _ => intro z e; cases e
  | po_no _ _ => intro z e; cases e
  | pT_bad _ _ => intro z e; cases e
  | pr_no _ _ _ => intro z e; cases e
  | pr_bad _ _ _ _ => intro z e; cases e
  | pr_none _ _ _ => intro z e; cases e
  | @iff_go b s x s1 r s2 h1 h2 i1 i2 =>
    intro z e
    intro hE hl; exact i2 _ e (fun h => nomatch h) (i1 _ rfl (fun h => nomatch h) hl)
  | @iffL_end x s h0  =>
    intro z e
    intro hE hl; exact hl
  | @iffL_go x s y s1 r s2 h0 h1 h2 i1 i2 =>
    intro z e
    intro hE hl; exact i2 _ e (fun h => nomatch h) (i1 _ rfl (fun h => nomatch h) (sees_lt h0))
  | @imp_one b s x s1 h1 h0 i1 =>
    intro z e
    intro hE hl; exact i1 _ rfl (fun h => nomatch h) hl
  | @imp_two b s x s1 y s2 h1 h0 h2 i1 i2 =>
    intro z e
    intro hE hl; exact i2 _ rfl (fun h => nomatch h) (sees_lt h0)
  | @or_go b s x s1 r s2 h1 h2 i1 i2 =>
    intro z e
    intro hE hl; exact i2 _ e (fun h => nomatch h) (i1 _ rfl (fun h => nomatch h) hl)
  | @orL_end x s h0  =>
    intro z e
    intro hE hl; exact hl
  | @orL_go x s y s1 r s2 h0 h1 h2 i1 i2 =>
    intro z e
    intro hE hl; exact i2 _ e (fun h => nomatch h) (i1 _ rfl (fun h => nomatch h) (sees_lt h0))
  | @and_go b s x s1 r s2 h1 h2 i1 i2 =>
    intro z e
    intro hE hl; exact i2 _ e (fun h => nomatch h) (i1 _ rfl (fun h => nomatch h) hl)
  | @andL_end x s h0  =>
    intro z e
    intro hE hl; exact hl
  | @andL_go x s y s1 r s2 h0 h1 h2 i1 i2 =>
    intro z e
    intro hE hl; exact i2 _ e (fun h => nomatch h) (i1 _ rfl (fun h => nomatch h) (sees_lt h0))
  | @un_not b s x s1 h0 h1 i1 =>
    intro z e
    intro hE hl; exact i1 _ rfl (fun h => nomatch h) (by rw [opn_next]; exact sees_lt h0)
  | @un_all b s r s1 h0 h1 h2 i1 =>
    intro z e
    intro hE hl; exact i1 _ e (fun h => nomatch h) (sees_lt h1)
  | @un_ex b s r s1 h0 h1 h2 h3 i1 =>
    intro z e
    intro hE hl; exact i1 _ e (fun h => nomatch h) (sees_lt h2)
  | @un_true b s h0 h1 h2 h3  =>
    intro z e
    intro hE hl; exact sees_lt h3
  | @un_false b s h0 h1 h2 h3 h4  =>
    intro z e
    intro hE hl; exact sees_lt h4
  | @un_atom b s r s1 h0 h1 h2 h3 h4 h5 i1 =>
    intro z e
    intro hE hl; exact i1 _ e (fun h => nomatch h) hl
  | @qu_comma a s x s1 h0 h1 h2 i1 =>
    intro z e
    intro hE hl; exact i1 _ rfl (fun h => nomatch h) (sees_lt h1)
  | @qu_dot a s x s1 h0 h1 h2 h3 i1 =>
    intro z e
    intro hE hl; exact i1 _ rfl (fun h => nomatch h) (sees_lt h2)
  | @at_fo b s f s1 h0 h1 i1 =>
    intro z e
    intro hE hl; exact i1 _ rfl (fun _ => sees_lt h0) hl
  | @at_par b s t s1 r s2 h0 h1 h2 i1 i2 =>
    intro z e
    intro hE hl; exact i2 _ e (fun h => nomatch h) (i1 _ rfl (fun _ => sees_lt h0) hl)
  | @at_go b s r s2 h0 h1 i1 =>
    intro z e
    intro hE hl; exact i1 _ e (fun h => nomatch h) hl
  | @atT_bare b q s l s1 h1 h2 h3 i1 =>
    intro z e
    intro hE hl; exact i1 _ rfl (fun h => nomatch h) hl
  | @atT_ok b q s l s1 m s2 h1 h2 h3 i1 i2 =>
    intro z e
    intro hE hl; exact i2 _ rfl (fun h => nomatch h) (by rw [relS_next]; exact relOf_lt h2)
  | @en_ok s x s1 h1 h2 i1 =>
    intro z e
    intro hE hl; exact sees_lt (s := dn s1) h2
  | @te_go q s x s1 r s2 h1 h2 i1 i2 =>
    intro z e
    intro hE hl; exact i2 _ e (fun h => nomatch h) (i1 _ rfl (fun h => nomatch h) hl)
  | @teL_end x s h0  =>
    intro z e
    intro hE hl; exact hl
  | @teL_go x s y s1 r s2 h0 h1 h2 i1 i2 =>
    intro z e
    intro hE hl
    refine i2 _ e (fun h => nomatch h) ?_
    rw [meas_next]
    refine i1 _ rfl (fun h => nomatch h) ?_
    rw [Bool.or_eq_true] at h0
    rcases h0 with h | h <;> exact sees_lt h
  | @pd_go q s x s1 r s2 h1 h2 i1 i2 =>
    intro z e
    intro hE hl; exact i2 _ e (fun h => nomatch h) (i1 _ rfl (fun h => nomatch h) hl)
  | @pdL_end x s h0  =>
    intro z e
    intro hE hl; exact hl
  | @pdL_go x s y s1 r s2 h0 h1 h2 i1 i2 =>
    intro z e
    intro hE hl
    refine i2 _ e (fun h => nomatch h) ?_
    rw [meas_next]
    exact i1 _ rfl (fun h => nomatch h) (sees_lt h0)
  | @fa_first x s r s1 h1 i1 =>
    intro z e
    intro hE hl; exact i1 _ e (fun h => nomatch h) hl
  | @fa_pow s r s1 h0 h1 i1 =>
    intro z e
    intro hE hl; exact i1 _ e (fun h => nomatch h) hl
  | @fa_neg s t s1 h0 h1 i1 =>
    intro z e
    intro hE hl; exact i1 _ rfl (fun h => nomatch h) (by rw [opn_next]; exact sees_lt h0)
  | @po_first x s r s2 h1 i1 =>
    intro z e
    intro hE hl; exact i1 _ e (fun h => nomatch h) hl
  | @po_go s x s1 r s2 h1 h2 i1 i2 =>
    intro z e
    intro hE hl; exact i2 _ e (fun h => nomatch h) (i1 _ rfl (fun h => nomatch h) hl)
  | @pT_end x s h0  =>
    intro z e
    intro hE hl; exact hl
  | @pT_ok x s h0 h1  =>
    intro z e
    intro hE hl; rw [powS_next]; exact pk_lt (s := adv s) (by rw [h1]; decide)
  | @pr_num s h0  =>
    intro z e
    intro hE hl; exact pk_lt (s := s) (by rw [h0]; decide)
  | @pr_name s h0  =>
    intro z e
    intro hE hl; rw [nam_next]; exact pk_lt (s := s) (by rw [h0]; decide)
  | @pr_ok s x s1 h0 h1 h2 i1 =>
    intro z e
    intro hE hl; exact sees_lt (s := dn s1) h2

theorem nodup_le : ∀ (L M : List ByteArray), L.Nodup → (∀ x ∈ L, x ∈ M) → L.length ≤ M.length
  | [], M, _, _ => Nat.zero_le _
  | a :: L, M, hn, hs => by
    have ha := hs a (List.mem_cons_self ..)
    rw [List.nodup_cons] at hn
    obtain ⟨P, Q, rfl⟩ := List.append_of_mem ha
    have h := nodup_le L (P ++ Q) hn.2 (fun x hx => by
      have hne : x ≠ a := by rintro rfl; exact hn.1 hx
      have h1 := hs x (List.mem_cons_of_mem _ hx)
      rw [List.mem_append, List.mem_cons] at h1
      rw [List.mem_append]
      rcases h1 with h1 | h1 | h1
      · exact .inl h1
      · exact absurd h1 hne
      · exact .inr h1)
    rw [List.length_append] at h
    rw [List.length_cons, List.length_append, List.length_cons]; omega
theorem addN_nodup {L : List ByteArray} (h : L.Nodup) (x : ByteArray) : (addN L x).Nodup := by
  unfold addN
  split
  · exact h
  · rename_i hx; exact nodup_snoc h hx
theorem fold_addN (l : List ByteArray) : ∀ L : List ByteArray, L.Nodup → (l.foldl addN L).Nodup ∧ ∀ x ∈ l.foldl addN L, x ∈ L ∨ x ∈ l := by
  induction l with
  | nil => intro L h; exact ⟨h, fun x hx => .inl hx⟩
  | cons a l ih =>
    intro L h
    obtain ⟨h1, h2⟩ := ih (addN L a) (addN_nodup h a)
    refine ⟨h1, fun x hx => ?_⟩
    rcases h2 x hx with h | h
    · rcases (addN_mem L a x).1 h with h | rfl
      · exact .inl h
      · exact .inr (List.mem_cons_self ..)
    · exact .inr (List.mem_cons_of_mem _ h)
theorem ck_names (l : List ByteArray) : ∀ s : CkS, (l.foldl ckStep s).2.1 = l.foldl addN s.2.1 := by
  induction l with
  | nil => intro s; rfl
  | cons a l ih => intro s; rw [List.foldl_cons, List.foldl_cons, ih]; rfl
theorem b_names (l : List ByteArray) : ∀ p : CkS × List ByteArray, (l.foldl bStep p).1.2.1 = l.foldl addN p.1.2.1 := by
  induction l with
  | nil => intro s; rfl
  | cons a l ih => intro s; rw [List.foldl_cons, List.foldl_cons, ih]; rfl
theorem in_mF : ∀ (f : Fo) (x : ByteArray), x ∈ namesF f ∨ x ∈ boundN f → x ∈ mF f
  | .odd, x, h => by simp [namesF, boundN] at h
  | .truth _, x, h => by simp [namesF, boundN] at h
  | .atom l _ r, x, h => by
    rcases h with h | h
    · exact h
    · simp [boundN] at h
  | .not f, x, h => in_mF f x h
  | .and l r, x, h => by
    unfold mF
    rw [List.mem_append]
    rcases h with h | h <;> rcases List.mem_append.1 h with h | h
    · exact .inl (in_mF l x (.inl h))
    · exact .inr (in_mF r x (.inl h))
    · exact .inl (in_mF l x (.inr h))
    · exact .inr (in_mF r x (.inr h))
  | .or l r, x, h => by
    unfold mF
    rw [List.mem_append]
    rcases h with h | h <;> rcases List.mem_append.1 h with h | h
    · exact .inl (in_mF l x (.inl h))
    · exact .inr (in_mF r x (.inl h))
    · exact .inl (in_mF l x (.inr h))
    · exact .inr (in_mF r x (.inr h))
  | .implies l r, x, h => by
    unfold mF
    rw [List.mem_append]
    rcases h with h | h <;> rcases List.mem_append.1 h with h | h
    · exact .inl (in_mF l x (.inl h))
    · exact .inr (in_mF r x (.inl h))
    · exact .inl (in_mF l x (.inr h))
    · exact .inr (in_mF r x (.inr h))
  | .iff l r, x, h => by
    unfold mF
    rw [List.mem_append]
    rcases h with h | h <;> rcases List.mem_append.1 h with h | h
    · exact .inl (in_mF l x (.inl h))
    · exact .inr (in_mF r x (.inl h))
    · exact .inl (in_mF l x (.inr h))
    · exact .inr (in_mF r x (.inr h))
  | .quant _ n f, x, h => by
    unfold mF
    rw [List.mem_cons]
    rcases h with h | h
    · exact .inr (in_mF f x (.inl h))
    · rcases List.mem_cons.1 h with h | h
      · exact .inl h
      · exact .inr (in_mF f x (.inr h))
theorem gd_small : ∀ t : Tm, gdT t = true → smallT t = true
  | .odd, h => by cases h
  | .num _ l, h => h
  | .name _, _ => rfl
  | .add l r, h => by simp only [gdT, Bool.and_eq_true] at h; unfold smallT; rw [gd_small l h.1.1, gd_small r h.1.2]; rfl
  | .sub l r, h => by simp only [gdT, Bool.and_eq_true] at h; unfold smallT; rw [gd_small l h.1.1, gd_small r h.1.2]; rfl
  | .mul l r, h => by simp only [gdT, Bool.and_eq_true] at h; unfold smallT; rw [gd_small l h.1.1, gd_small r h.1.2]; rfl
  | .neg t, h => gd_small t h
  | .pow t e, h => by simp only [gdT, Bool.and_eq_true] at h; unfold smallT; rw [gd_small t h.1.1, h.1.2]; rfl
theorem gd_ok (t : Tm) (h : gdT t = true) : okT t = true := by
  have h1 := gd_large t h
  unfold large at h1
  simp only [Bool.or_eq_false_iff, decide_eq_false_iff_not] at h1
  unfold okT
  rw [gd_small t h, decide_eq_true (by omega : degT t ≤ 8), decide_eq_true (by omega : wgtT t ≤ 320)]; rfl
theorem gd_lim : ∀ f : Fo, gdF f = true → limF f = true
  | .odd, _ => rfl
  | .truth _, _ => rfl
  | .atom l _ r, h => by simp only [gdF, Bool.and_eq_true] at h; unfold limF; rw [gd_ok l h.1, gd_ok r h.2]; rfl
  | .not f, h => gd_lim f h
  | .and l r, h => by simp only [gdF, Bool.and_eq_true] at h; unfold limF; rw [gd_lim l h.1, gd_lim r h.2]; rfl
  | .or l r, h => by simp only [gdF, Bool.and_eq_true] at h; unfold limF; rw [gd_lim l h.1, gd_lim r h.2]; rfl
  | .implies l r, h => by simp only [gdF, Bool.and_eq_true] at h; unfold limF; rw [gd_lim l h.1, gd_lim r h.2]; rfl
  | .iff l r, h => by simp only [gdF, Bool.and_eq_true] at h; unfold limF; rw [gd_lim l h.1, gd_lim r h.2]; rfl
  | .quant _ _ f, h => gd_lim f h
theorem namesT_tn : ∀ t : Tm, (namesT t).length ≤ tn t
  | .odd => Nat.zero_le _
  | .num _ _ => Nat.zero_le _
  | .name _ => Nat.le_refl _
  | .add l r => by have := namesT_tn l; have := namesT_tn r; unfold namesT tn; rw [List.length_append]; omega
  | .sub l r => by have := namesT_tn l; have := namesT_tn r; unfold namesT tn; rw [List.length_append]; omega
  | .mul l r => by have := namesT_tn l; have := namesT_tn r; unfold namesT tn; rw [List.length_append]; omega
  | .neg t => by have := namesT_tn t; unfold namesT tn; omega
  | .pow t _ => by have := namesT_tn t; unfold namesT tn; omega
theorem fsz_fnn (f : Fo) : fsz f ≤ fnn f := by
  induction f <;> simp [fsz, fnn]
  all_goals first | omega | skip
  rename_i l e r
  have := namesT_tn l
  have := namesT_tn r
  omega
theorem names_tm {w : World} {S : Nat → Prop} : ∀ (t : Tm) (v : Value), TmAt w S t v → ∀ n ∈ namesT t, n.size ≤ 9223372036854775807
  | .odd, v, h, n, hn => by cases hn
  | .num _ _, v, h, n, hn => by cases hn
  | .name s, v, h, n, hn => by
    have hn : n ∈ [s] := hn
    simp at hn
    rw [hn]; exact h.2
  | .add l r, v, h, n, hn => by
    obtain ⟨vl, vr, _, h1, h2⟩ := h
    rcases List.mem_append.1 hn with hn | hn
    · exact names_tm l vl h1 n hn
    · exact names_tm r vr h2 n hn
  | .sub l r, v, h, n, hn => by
    obtain ⟨vl, vr, _, h1, h2⟩ := h
    rcases List.mem_append.1 hn with hn | hn
    · exact names_tm l vl h1 n hn
    · exact names_tm r vr h2 n hn
  | .mul l r, v, h, n, hn => by
    obtain ⟨vl, vr, _, h1, h2⟩ := h
    rcases List.mem_append.1 hn with hn | hn
    · exact names_tm l vl h1 n hn
    · exact names_tm r vr h2 n hn
  | .neg t, v, h, n, hn => by obtain ⟨vt, _, h1⟩ := h; exact names_tm t vt h1 n hn
  | .pow t e, v, h, n, hn => by obtain ⟨vt, _, h1⟩ := h; exact names_tm t vt h1 n hn
theorem names_fo {w : World} {S : Nat → Prop} : ∀ (f : Fo) (v : Value), FoAt w S f v → ∀ n ∈ mF f, n.size ≤ 9223372036854775807
  | .odd, v, h, n, hn => by cases hn
  | .truth _, v, h, n, hn => by cases hn
  | .atom l _ r, v, h, n, hn => by
    obtain ⟨vl, vr, _, h1, h2⟩ := h
    rcases List.mem_append.1 hn with hn | hn
    · exact names_tm l vl h1 n hn
    · exact names_tm r vr h2 n hn
  | .not f, v, h, n, hn => by obtain ⟨vt, _, h1⟩ := h; exact names_fo f vt h1 n hn
  | .and l r, v, h, n, hn => by
    obtain ⟨vl, vr, _, h1, h2⟩ := h
    rcases List.mem_append.1 hn with hn | hn
    · exact names_fo l vl h1 n hn
    · exact names_fo r vr h2 n hn
  | .or l r, v, h, n, hn => by
    obtain ⟨vl, vr, _, h1, h2⟩ := h
    rcases List.mem_append.1 hn with hn | hn
    · exact names_fo l vl h1 n hn
    · exact names_fo r vr h2 n hn
  | .implies l r, v, h, n, hn => by
    obtain ⟨vl, vr, _, h1, h2⟩ := h
    rcases List.mem_append.1 hn with hn | hn
    · exact names_fo l vl h1 n hn
    · exact names_fo r vr h2 n hn
  | .iff l r, v, h, n, hn => by
    obtain ⟨vl, vr, _, h1, h2⟩ := h
    rcases List.mem_append.1 hn with hn | hn
    · exact names_fo l vl h1 n hn
    · exact names_fo r vr h2 n hn
  | .quant _ m f, v, h, n, hn => by
    obtain ⟨vf, _, h0, h1⟩ := h
    rcases List.mem_cons.1 hn with hn | hn
    · rw [hn]; exact h0
    · exact names_fo f vf h1 n hn
/-- what holds of a parsed formula -/
structure ParsedF (s : Bytes) (f : Fo) : Prop where
  ck : checkF f = 0 ∨ checkF f = 7
  nn : fnn f ≤ (lex s).1.length
  len : (lex s).1.length ≤ 4000
  lex0 : (lex s).2.2 = 0
theorem parsed_any {s : Bytes} {f : Fo} {p : Nat} (h : ParseR (.iff false) fm s (some (.fo f)) p 0) : ParsedF s f := by
  obtain ⟨f', T, t, e, hx, hB, hr, ho, hp⟩ := parse_ok h
  cases e
  have hg := Big.go hB _ rfl
  have h1 := hB.nodes _ rfl
  have h2 := hB.atoms _ rfl
  have h3 := hB.names _ rfl
  have h4 := hB.good (by have := tokOk_lex s; rw [hx] at this; exact this) _ rfl ho rfl
  have h5 := hB.len _ rfl (fun h => nomatch h) (Nat.zero_le _)
  have hl := lex_pos s (by rw [hx])
  rw [hx] at hl
  dsimp only at hl
  have hn : fnn f ≤ T.length := by
    have h1 : fnn f + 0 ≤ 0 + t.next := h1
    omega
  have ha : atomsF f ≤ 16 := by
    have h2 : atomsF f + 0 ≤ 0 + t.rels := h2
    have := hg.rel16 ho (by show 0 ≤ 16; omega)
    omega
  have hnm : (ckS2 f).1.2.1.length ≤ 4 := by
    have e2 : (ckS2 f).1.2.1 = (boundN f).foldl addN ((namesF f).foldl addN []) := by unfold ckS2; rw [b_names]; show _ = _; unfold ckS1; rw [ck_names]
    rw [e2]
    obtain ⟨d1, d2⟩ := fold_addN (namesF f) [] List.nodup_nil
    obtain ⟨d3, d4⟩ := fold_addN (boundN f) _ d1
    refine Nat.le_trans (nodup_le _ t.names d3 (fun x hx => ?_)) (hg.nam4 ho (by show 0 ≤ 4; omega))
    have hm : x ∈ mF f := by
      rcases d4 x hx with h | h
      · rcases d2 x h with h | h
        · cases h
        · exact in_mF f x (.inl h)
      · exact in_mF f x (.inr h)
    rcases h3 x hm with h | h
    · cases h
    · exact h
  refine ⟨?_, by rw [hx]; exact hn, by rw [hx]; exact Nat.le_trans hl.1.1 hl.1.2, by rw [hx]⟩
  unfold checkF
  by_cases hk : ckOk f = false
  · rw [if_pos hk]; exact .inr rfl
  · rw [if_neg hk]
    have : ckBig f = false := by
      unfold ckBig
      rw [gd_lim f h4]
      simp
      omega
    rw [this]; exact .inl rfl
end Pa
end Go.Proofs.YtkjbfomokdjbnaaGreat
