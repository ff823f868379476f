/-
  A parse that succeeds goes on doing so among other tokens: parentheses behind, other counters; and where a term is borne in parentheses too.
-/
import Derived.Test.YtkjbfomokdjbnaaGreatPaH
import Derived.Test.YtkjbfomokdjbnaaGreatPaX
import Derived.Test.YtkjbfomokdjbnaaGreatPaE
namespace Go.Proofs.YtkjbfomokdjbnaaGreat
open Go.RowKit
set_option linter.unusedSimpArgs false
set_option linter.unusedVariables false
namespace Pa
open Lx Fm Dc
/-- the same call, where a term in parentheses is borne -/
def raise : PC → PC
  | .iff _ => .iff true
  | .imp _ => .imp true
  | .or _ => .or true
  | .and _ => .and true
  | .un _ => .un true
  | .atom _ => .atom true
  | .atomT _ q => .atomT true q
  | c => c
theorem Big.raise {T : List Tok} {c : PC} {s s' : PS} {r : Option PV} (h : Big T c s r s') : ∀ x, r = some x → Big T (raise c) s (some x) s' := by
  induction h with
  | iff_no _ _ => intro x e; cases e
  | iff_go h1 h2 i1 i2 => intro x e; exact .iff_go (i1 _ rfl) (i2 _ e)
  | iffL_end h0 => intro x e; cases e; exact .iffL_end h0
  | iffL_bad _ _ _ => intro x e; cases e
  | iffL_go h0 h1 h2 i1 i2 => intro x e; exact .iffL_go h0 h1 (i2 _ e)
  | or_no _ _ => intro x e; cases e
  | or_go h1 h2 i1 i2 => intro x e; exact .or_go (i1 _ rfl) (i2 _ e)
  | orL_end h0 => intro x e; cases e; exact .orL_end h0
  | orL_bad _ _ _ => intro x e; cases e
  | orL_go h0 h1 h2 i1 i2 => intro x e; exact .orL_go h0 h1 (i2 _ e)
  | and_no _ _ => intro x e; cases e
  | and_go h1 h2 i1 i2 => intro x e; exact .and_go (i1 _ rfl) (i2 _ e)
  | andL_end h0 => intro x e; cases e; exact .andL_end h0
  | andL_bad _ _ _ => intro x e; cases e
  | andL_go h0 h1 h2 i1 i2 => intro x e; exact .andL_go h0 h1 (i2 _ e)
  | imp_no _ _ => intro x e; cases e
  | imp_one h1 h0 i1 => intro x e; cases e; exact .imp_one (i1 _ rfl) h0
  | imp_bad _ _ _ _ _ => intro x e; cases e
  | imp_two h1 h0 h2 i1 i2 => intro x e; cases e; exact .imp_two (i1 _ rfl) h0 h2
  | un_not_no _ _ _ => intro x e; cases e
  | un_not h0 h1 i1 => intro x e; cases e; exact .un_not h0 h1
  | un_all h0 h1 h2 i2 => intro x e; exact .un_all h0 h1 (e ▸ h2)
  | un_ex h0 h1 h2 h3 i3 => intro x e; exact .un_ex h0 h1 h2 (e ▸ h3)
  | un_true h0 h1 h2 h3 => intro x e; cases e; exact .un_true h0 h1 h2 h3
  | un_false h0 h1 h2 h3 h4 => intro x e; cases e; exact .un_false h0 h1 h2 h3 h4
  | un_atom h0 h1 h2 h3 h4 h5 i5 => intro x e; exact .un_atom h0 h1 h2 h3 h4 (i5 _ e)
  | qu_no _ => intro x e; cases e
  | qu_comma_no _ _ _ _ => intro x e; cases e
  | qu_comma h0 h1 h2 i2 => intro x e; cases e; exact .qu_comma h0 h1 h2
  | qu_dot_no _ _ _ _ _ => intro x e; cases e
  | qu_dot h0 h1 h2 h3 i3 => intro x e; cases e; exact .qu_dot h0 h1 h2 h3
  | qu_bad _ _ _ => intro x e; cases e
  | at_no _ _ _ => intro x e; cases e
  | at_fo h0 h1 i1 => intro x e; cases e; exact .at_fo h0 h1
  | at_par h0 h1 h2 i1 i2 => intro x e; exact .at_par h0 h1 (i2 _ e)
  | at_go h0 h1 i1 => intro x e; exact .at_go h0 (i1 _ e)
  | atT_no _ _ => intro x e; cases e
  | atT_bare h1 h2 h3 i1 => intro x e; cases e; exact .atT_bare h1 h2 (by rw [Bool.and_eq_true] at h3 ⊢; exact ⟨rfl, h3.2⟩)
  | atT_none _ _ _ _ => intro x e; cases e
  | atT_bad _ _ _ _ _ => intro x e; cases e
  | atT_ok h1 h2 h3 i1 i2 => intro x e; cases e; exact .atT_ok h1 h2 h3
  | en_no _ _ => intro x e; cases e
  | en_bad _ _ _ => intro x e; cases e
  | en_ok h1 h2 i1 => intro x e; cases e; exact .en_ok h1 h2
  | te_no _ _ => intro x e; cases e
  | te_go h1 h2 i1 i2 => intro x e; exact .te_go h1 (i2 _ e)
  | teL_end h0 => intro x e; cases e; exact .teL_end h0
  | teL_bad _ _ _ => intro x e; cases e
  | @teL_go xx ss yy ss1 rr ss2 h0 h1 h2 i1 i2 => intro x e; exact .teL_go h0 h1 (i2 _ e)
  | pd_no _ _ => intro x e; cases e
  | pd_go h1 h2 i1 i2 => intro x e; exact .pd_go h1 (i2 _ e)
  | pdL_end h0 => intro x e; cases e; exact .pdL_end h0
  | pdL_bad _ _ _ => intro x e; cases e
  | @pdL_go xx ss yy ss1 rr ss2 h0 h1 h2 i1 i2 => intro x e; exact .pdL_go h0 h1 (i2 _ e)
  | fa_first h1 i1 => intro x e; exact .fa_first (i1 _ e)
  | fa_pow h0 h1 i1 => intro x e; exact .fa_pow h0 (i1 _ e)
  | fa_no _ _ _ => intro x e; cases e
  | fa_neg h0 h1 i1 => intro x e; cases e; exact .fa_neg h0 h1
  | po_first h1 i1 => intro x e; exact .po_first (i1 _ e)
  | po_no _ _ => intro x e; cases e
  | po_go h1 h2 i1 i2 => intro x e; exact .po_go h1 (i2 _ e)
  | pT_end h0 => intro x e; cases e; exact .pT_end h0
  | pT_bad _ _ => intro x e; cases e
  | @pT_ok xx ss h0 h1 => intro x e; cases e; exact .pT_ok h0 h1
  | pr_num h0 => intro x e; cases e; exact .pr_num h0
  | pr_name h0 => intro x e; cases e; exact .pr_name h0
  | pr_no _ _ _ => intro x e; cases e
  | pr_bad _ _ _ _ => intro x e; cases e
  | pr_ok h0 h1 h2 i1 => intro x e; cases e; exact .pr_ok h0 h1 h2
  | pr_none _ _ _ => intro x e; cases e
/-! ### the rest of the tokens -/
abbrev rst (T : List Tok) (s : PS) : List (Nat × Bytes) := (T.drop s.next).map kt
theorem kt_pk (T : List Tok) (s : PS) : kt (pk T s) = (rst T s).headD (0, []) := by
  have e : (T.drop s.next).head? = T[s.next]? := List.head?_drop
  unfold pk rst
  rw [← e]
  cases T.drop s.next <;> rfl
theorem rst_next {T : List Tok} {s s1 : PS} (h : s1.next = s.next + 1) : rst T s1 = (rst T s).tail := by
  unfold rst
  rw [h, ← List.map_tail, List.tail_drop]
def seesK (k : Nat × Bytes) (x : Bytes) : Bool := (decide (k.1 = 3) || decide (k.1 = 4)) && (k.2 == x)
theorem sees_k (T : List Tok) (s : PS) (x : Bytes) : sees T s x = seesK ((rst T s).headD (0, [])) x := by rw [← kt_pk]; rfl
/-- what may stand behind -/
def EndR (R : List (Nat × Bytes)) : Prop := R = [] ∨ ∃ R', R = (4, cShut) :: R'
section
variable {T T' : List Tok} {R : List (Nat × Bytes)}
def Sim (T T' : List Tok) (R : List (Nat × Bytes)) (s t : PS) : Prop := rst T' t = rst T s ++ R
theorem Sim.same {s t s1 t1 : PS} (h : Sim T T' R s t) (e1 : s1.next = s.next) (e2 : t1.next = t.next) : Sim T T' R s1 t1 := by
  unfold Sim rst at *; rw [e1, e2]; exact h
theorem Sim.step {s t s1 t1 : PS} (h : Sim T T' R s t) (hn : rst T s ≠ []) (e1 : s1.next = s.next + 1) (e2 : t1.next = t.next + 1) : Sim T T' R s1 t1 := by
  unfold Sim at *
  rw [rst_next e1, rst_next e2, h]
  cases hL : rst T s with
  | nil => exact absurd hL hn
  | cons a l => rfl
theorem Sim.true {s t : PS} (h : Sim T T' R s t) {x : Bytes} (hs : sees T s x = true) : sees T' t x = true ∧ rst T s ≠ [] := by
  rw [sees_k] at hs ⊢
  rw [h]
  cases hL : rst T s with
  | nil => rw [hL] at hs; simp [seesK] at hs
  | cons a l => rw [hL] at hs; exact ⟨hs, by simp⟩
theorem Sim.sees {s t : PS} (h : Sim T T' R s t) (hR : EndR R) {x : Bytes} (hx : (cShut == x) = false) : sees T' t x = sees T s x := by
  rw [sees_k, sees_k, h]
  cases hL : rst T s with
  | nil =>
    rcases hR with rfl | ⟨R', rfl⟩
    · rfl
    · show seesK (4, cShut) x = seesK (0, []) x
      unfold seesK
      rw [hx]; rfl
  | cons a l => rfl
theorem Sim.kind {s t : PS} (h : Sim T T' R s t) (hk : (pk T s).kind ≠ 0) : kt (pk T' t) = kt (pk T s) ∧ rst T s ≠ [] := by
  rw [kt_pk, kt_pk, h]
  have hk : (kt (pk T s)).1 ≠ 0 := hk
  rw [kt_pk] at hk
  cases hL : rst T s with
  | nil => rw [hL] at hk; exact absurd rfl hk
  | cons a l => exact ⟨rfl, by simp⟩
theorem relOf_kt {a b : Tok} (h : kt a = kt b) : relOf a = relOf b := by
  injection h with h1 h2
  unfold relOf; rw [h1, h2]
theorem Sim.rel {s t : PS} (h : Sim T T' R s t) (hR : EndR R) : relOf (pk T' t) = relOf (pk T s) := by
  by_cases hk : (pk T s).kind = 0
  · have e0 : relOf (pk T s) = 0 := by unfold relOf; rw [hk]; rfl
    rw [e0]
    cases hL : rst T s with
    | nil =>
      have e := kt_pk T' t
      rw [h, hL] at e
      rcases hR with rfl | ⟨R', rfl⟩
      · injection e with e1 e2; unfold relOf; rw [e1]; rfl
      · injection e with e1 e2; unfold relOf; rw [e1, e2]; rfl
    | cons a l =>
      have e := kt_pk T' t
      have e2 := kt_pk T s
      rw [h, hL] at e
      rw [hL] at e2
      rw [relOf_kt (e.trans e2.symm), e0]
  · exact relOf_kt (h.kind hk).1
theorem sees_nz {s : PS} {x : Bytes} (h : Pa.sees T s x = true) : (pk T s).kind ≠ 0 := by
  rcases (sees_kind h).1 with e | e <;> rw [e] <;> decide
theorem rel_nz {s : PS} (h : relOf (pk T s) ≠ 0) : (pk T s).kind ≠ 0 := by
  intro e; unfold relOf at h; rw [e] at h; exact h rfl
theorem kt_txt {a b : Tok} (h : kt a = kt b) : a.text = b.text := by injection h
theorem kt_knd {a b : Tok} (h : kt a = kt b) : a.kind = b.kind := by injection h
theorem sumT_kt {a b : Tok} (h : kt a = kt b) (x y : Tm) : sumT a x y = sumT b x y := by unfold sumT; rw [kt_txt h]
theorem Big.sim {c : PC} {s s' : PS} {r : Option PV} (hR : EndR R) (h : Big T c s r s') : ∀ x, r = some x → ∀ t, Sim T T' R s t → (c = .encl → rst T s ≠ []) → ∃ t', Big T' c t (some x) t' ∧ Sim T T' R s' t' := by
  induction h with
  | iff_no _ _ => intro x e; cases e
  | iff_go h1 h2 i1 i2 =>
    intro x e t hs hE
    obtain ⟨t1, b1, hs1⟩ := i1 _ rfl t hs (fun h => nomatch h)
    obtain ⟨t2, b2, hs2⟩ := i2 _ e t1 hs1 (fun h => nomatch h)
    exact ⟨t2, .iff_go b1 b2, hs2⟩
  | iffL_end h0 =>
    intro x e t hs hE
    cases e
    exact ⟨t, .iffL_end (by rw [hs.sees hR (by decide)]; exact h0), hs⟩
  | iffL_bad _ _ _ => intro x e; cases e
  | iffL_go h0 h1 h2 i1 i2 =>
    intro x e t hs hE
    obtain ⟨g0, gn⟩ := hs.true h0
    obtain ⟨t1, b1, hs1⟩ := i1 _ rfl (adv t) (hs.step gn rfl rfl) (fun h => nomatch h)
    obtain ⟨t2, b2, hs2⟩ := i2 _ e t1 hs1 (fun h => nomatch h)
    exact ⟨t2, .iffL_go g0 b1 b2, hs2⟩
  | or_no _ _ => intro x e; cases e
  | or_go h1 h2 i1 i2 =>
    intro x e t hs hE
    obtain ⟨t1, b1, hs1⟩ := i1 _ rfl t hs (fun h => nomatch h)
    obtain ⟨t2, b2, hs2⟩ := i2 _ e t1 hs1 (fun h => nomatch h)
    exact ⟨t2, .or_go b1 b2, hs2⟩
  | orL_end h0 =>
    intro x e t hs hE
    cases e
    exact ⟨t, .orL_end (by rw [hs.sees hR (by decide)]; exact h0), hs⟩
  | orL_bad _ _ _ => intro x e; cases e
  | orL_go h0 h1 h2 i1 i2 =>
    intro x e t hs hE
    obtain ⟨g0, gn⟩ := hs.true h0
    obtain ⟨t1, b1, hs1⟩ := i1 _ rfl (adv t) (hs.step gn rfl rfl) (fun h => nomatch h)
    obtain ⟨t2, b2, hs2⟩ := i2 _ e t1 hs1 (fun h => nomatch h)
    exact ⟨t2, .orL_go g0 b1 b2, hs2⟩
  | and_no _ _ => intro x e; cases e
  | and_go h1 h2 i1 i2 =>
    intro x e t hs hE
    obtain ⟨t1, b1, hs1⟩ := i1 _ rfl t hs (fun h => nomatch h)
    obtain ⟨t2, b2, hs2⟩ := i2 _ e t1 hs1 (fun h => nomatch h)
    exact ⟨t2, .and_go b1 b2, hs2⟩
  | andL_end h0 =>
    intro x e t hs hE
    cases e
    exact ⟨t, .andL_end (by rw [hs.sees hR (by decide)]; exact h0), hs⟩
  | andL_bad _ _ _ => intro x e; cases e
  | andL_go h0 h1 h2 i1 i2 =>
    intro x e t hs hE
    obtain ⟨g0, gn⟩ := hs.true h0
    obtain ⟨t1, b1, hs1⟩ := i1 _ rfl (adv t) (hs.step gn rfl rfl) (fun h => nomatch h)
    obtain ⟨t2, b2, hs2⟩ := i2 _ e t1 hs1 (fun h => nomatch h)
    exact ⟨t2, .andL_go g0 b1 b2, hs2⟩
  | imp_no _ _ => intro x e; cases e
  | imp_one h1 h0 i1 =>
    intro x e t hs hE
    cases e
    obtain ⟨t1, b1, hs1⟩ := i1 _ rfl t hs (fun h => nomatch h)
    exact ⟨t1, .imp_one b1 (by rw [hs1.sees hR (by decide)]; exact h0), hs1⟩
  | imp_bad _ _ _ _ _ => intro x e; cases e
  | imp_two h1 h0 h2 i1 i2 =>
    intro x e t hs hE
    cases e
    obtain ⟨t1, b1, hs1⟩ := i1 _ rfl t hs (fun h => nomatch h)
    obtain ⟨g0, gn⟩ := hs1.true h0
    obtain ⟨t2, b2, hs2⟩ := i2 _ rfl (adv t1) (hs1.step gn rfl rfl) (fun h => nomatch h)
    exact ⟨t2, .imp_two b1 g0 b2, hs2⟩
  | un_not_no _ _ _ => intro x e; cases e
  | un_not h0 h1 i1 =>
    intro x e t hs hE
    cases e
    obtain ⟨g0, gn⟩ := hs.true h0
    obtain ⟨t1, b1, hs1⟩ := i1 _ rfl (opn T' t) (hs.step gn (opn_next _ _) (opn_next _ _)) (fun h => nomatch h)
    exact ⟨dn t1, .un_not g0 b1, hs1.same rfl rfl⟩
  | un_all h0 h1 h2 i2 =>
    intro x e t hs hE
    obtain ⟨g0, gn⟩ := hs.true h1
    obtain ⟨t1, b1, hs1⟩ := i2 _ e (adv t) (hs.step gn rfl rfl) (fun h => nomatch h)
    exact ⟨t1, .un_all (by rw [hs.sees hR (by decide)]; exact h0) g0 b1, hs1⟩
  | un_ex h0 h1 h2 h3 i3 =>
    intro x e t hs hE
    obtain ⟨g0, gn⟩ := hs.true h2
    obtain ⟨t1, b1, hs1⟩ := i3 _ e (adv t) (hs.step gn rfl rfl) (fun h => nomatch h)
    exact ⟨t1, .un_ex (by rw [hs.sees hR (by decide)]; exact h0) (by rw [hs.sees hR (by decide)]; exact h1) g0 b1, hs1⟩
  | un_true h0 h1 h2 h3 =>
    intro x e t hs hE
    cases e
    obtain ⟨g0, gn⟩ := hs.true h3
    exact ⟨adv t, .un_true (by rw [hs.sees hR (by decide)]; exact h0) (by rw [hs.sees hR (by decide)]; exact h1) (by rw [hs.sees hR (by decide)]; exact h2) g0, hs.step gn rfl rfl⟩
  | un_false h0 h1 h2 h3 h4 =>
    intro x e t hs hE
    cases e
    obtain ⟨g0, gn⟩ := hs.true h4
    exact ⟨adv t, .un_false (by rw [hs.sees hR (by decide)]; exact h0) (by rw [hs.sees hR (by decide)]; exact h1) (by rw [hs.sees hR (by decide)]; exact h2) (by rw [hs.sees hR (by decide)]; exact h3) g0, hs.step gn rfl rfl⟩
  | un_atom h0 h1 h2 h3 h4 h5 i5 =>
    intro x e t hs hE
    obtain ⟨t1, b1, hs1⟩ := i5 _ e t hs (fun h => nomatch h)
    exact ⟨t1, .un_atom (by rw [hs.sees hR (by decide)]; exact h0) (by rw [hs.sees hR (by decide)]; exact h1) (by rw [hs.sees hR (by decide)]; exact h2) (by rw [hs.sees hR (by decide)]; exact h3) (by rw [hs.sees hR (by decide)]; exact h4) b1, hs1⟩
  | qu_no _ => intro x e; cases e
  | qu_comma_no _ _ _ _ => intro x e; cases e
  | qu_comma h0 h1 h2 i2 =>
    intro x e t hs hE
    obtain ⟨gk, gn⟩ := hs.kind (by rw [h0]; decide)
    have hs0 : Sim T T' R (nam T (inc T _)) (nam T' (inc T' t)) := hs.step gn (by rw [nam_next, inc_next]) (by rw [nam_next, inc_next])
    cases e
    obtain ⟨g1, gm⟩ := hs0.true h1
    obtain ⟨t1, b1, hs1⟩ := i2 _ rfl (adv (nam T' (inc T' t))) (hs0.step gm rfl rfl) (fun h => nomatch h)
    refine ⟨dn t1, ?_, hs1.same rfl rfl⟩
    rw [← kt_txt gk]
    exact .qu_comma (by rw [kt_knd gk]; exact h0) g1 b1
  | qu_dot_no _ _ _ _ _ => intro x e; cases e
  | qu_dot h0 h1 h2 h3 i3 =>
    intro x e t hs hE
    obtain ⟨gk, gn⟩ := hs.kind (by rw [h0]; decide)
    have hs0 : Sim T T' R (nam T (inc T _)) (nam T' (inc T' t)) := hs.step gn (by rw [nam_next, inc_next]) (by rw [nam_next, inc_next])
    cases e
    obtain ⟨g1, gm⟩ := hs0.true h2
    obtain ⟨t1, b1, hs1⟩ := i3 _ rfl (adv (nam T' (inc T' t))) (hs0.step gm rfl rfl) (fun h => nomatch h)
    refine ⟨dn t1, ?_, hs1.same rfl rfl⟩
    rw [← kt_txt gk]
    exact .qu_dot (by rw [kt_knd gk]; exact h0) (by rw [hs0.sees hR (by decide)]; exact h1) g1 b1
  | qu_bad _ _ _ => intro x e; cases e
  | at_no _ _ _ => intro x e; cases e
  | at_fo h0 h1 i1 =>
    intro x e t hs hE
    cases e
    obtain ⟨g0, gn⟩ := hs.true h0
    obtain ⟨t1, b1, hs1⟩ := i1 _ rfl t hs (fun _ => gn)
    exact ⟨t1, .at_fo g0 b1, hs1⟩
  | at_par h0 h1 h2 i1 i2 =>
    intro x e t hs hE
    obtain ⟨g0, gn⟩ := hs.true h0
    obtain ⟨t1, b1, hs1⟩ := i1 _ rfl t hs (fun _ => gn)
    obtain ⟨t2, b2, hs2⟩ := i2 _ e t1 hs1 (fun h => nomatch h)
    exact ⟨t2, .at_par g0 b1 b2, hs2⟩
  | at_go h0 h1 i1 =>
    intro x e t hs hE
    obtain ⟨t1, b1, hs1⟩ := i1 _ e t hs (fun h => nomatch h)
    exact ⟨t1, .at_go (by rw [hs.sees hR (by decide)]; exact h0) b1, hs1⟩
  | atT_no _ _ => intro x e; cases e
  | atT_bare h1 h2 h3 i1 =>
    intro x e t hs hE
    cases e
    obtain ⟨t1, b1, hs1⟩ := i1 _ rfl t hs (fun h => nomatch h)
    rw [Bool.and_eq_true] at h3
    exact ⟨t1, .atT_bare b1 (by rw [hs1.rel hR]; exact h2) (by rw [Bool.and_eq_true]; exact ⟨h3.1, (hs1.true h3.2).1⟩), hs1⟩
  | atT_none _ _ _ _ => intro x e; cases e
  | atT_bad _ _ _ _ _ => intro x e; cases e
  | atT_ok h1 h2 h3 i1 i2 =>
    intro x e t hs hE
    cases e
    obtain ⟨t1, b1, hs1⟩ := i1 _ rfl t hs (fun h => nomatch h)
    have er := hs1.rel hR
    obtain ⟨gk, gn⟩ := hs1.kind (rel_nz h2)
    obtain ⟨t2, b2, hs2⟩ := i2 _ rfl (relS T' t1) (hs1.step gn (relS_next _ _) (relS_next _ _)) (fun h => nomatch h)
    refine ⟨t2, ?_, hs2⟩
    rw [← er]
    exact .atT_ok b1 (by rw [er]; exact h2) b2
  | en_no _ _ => intro x e; cases e
  | en_bad _ _ _ => intro x e; cases e
  | en_ok h1 h2 i1 =>
    intro x e t hs hE
    cases e
    obtain ⟨t1, b1, hs1⟩ := i1 _ rfl (opn T' t) (hs.step (hE rfl) (opn_next _ _) (opn_next _ _)) (fun h => nomatch h)
    have hs1' : Sim T T' R (dn _) (dn t1) := hs1.same rfl rfl
    obtain ⟨g1, gm⟩ := hs1'.true h2
    exact ⟨adv (dn t1), .en_ok b1 g1, hs1'.step gm rfl rfl⟩
  | te_no _ _ => intro x e; cases e
  | te_go h1 h2 i1 i2 =>
    intro x e t hs hE
    obtain ⟨t1, b1, hs1⟩ := i1 _ rfl t hs (fun h => nomatch h)
    obtain ⟨t2, b2, hs2⟩ := i2 _ e t1 hs1 (fun h => nomatch h)
    exact ⟨t2, .te_go b1 b2, hs2⟩
  | teL_end h0 =>
    intro x e t hs hE
    cases e
    exact ⟨t, .teL_end (by rw [hs.sees hR (by decide), hs.sees hR (by decide)]; exact h0), hs⟩
  | teL_bad _ _ _ => intro x e; cases e
  | @teL_go xx ss yy ss1 rr ss2 h0 h1 h2 i1 i2 =>
    intro x e t hs hE
    have hk : (pk T ss).kind ≠ 0 := by
      rw [Bool.or_eq_true] at h0
      rcases h0 with h | h <;> exact sees_nz h
    obtain ⟨gk, gn⟩ := hs.kind hk
    obtain ⟨t1, b1, hs1⟩ := i1 _ rfl (adv t) (hs.step gn rfl rfl) (fun h => nomatch h)
    rw [← sumT_kt gk] at i2
    obtain ⟨t2, b2, hs2⟩ := i2 _ e (meas t1 (pk T' t) (sumT (pk T' t) xx yy) [xx, yy]) (hs1.same (meas_next _ _ _ _) (meas_next _ _ _ _)) (fun h => nomatch h)
    exact ⟨t2, .teL_go (by rw [hs.sees hR (by decide), hs.sees hR (by decide)]; exact h0) b1 b2, hs2⟩
  | pd_no _ _ => intro x e; cases e
  | pd_go h1 h2 i1 i2 =>
    intro x e t hs hE
    obtain ⟨t1, b1, hs1⟩ := i1 _ rfl t hs (fun h => nomatch h)
    obtain ⟨t2, b2, hs2⟩ := i2 _ e t1 hs1 (fun h => nomatch h)
    exact ⟨t2, .pd_go b1 b2, hs2⟩
  | pdL_end h0 =>
    intro x e t hs hE
    cases e
    exact ⟨t, .pdL_end (by rw [hs.sees hR (by decide)]; exact h0), hs⟩
  | pdL_bad _ _ _ => intro x e; cases e
  | @pdL_go xx ss yy ss1 rr ss2 h0 h1 h2 i1 i2 =>
    intro x e t hs hE
    obtain ⟨g0, gn⟩ := hs.true h0
    obtain ⟨t1, b1, hs1⟩ := i1 _ rfl (adv t) (hs.step gn rfl rfl) (fun h => nomatch h)
    obtain ⟨t2, b2, hs2⟩ := i2 _ e (meas t1 (pk T' t) (.mul xx yy) [xx, yy]) (hs1.same (meas_next _ _ _ _) (meas_next _ _ _ _)) (fun h => nomatch h)
    exact ⟨t2, .pdL_go g0 b1 b2, hs2⟩
  | fa_first h1 i1 =>
    intro x e t hs hE
    obtain ⟨t1, b1, hs1⟩ := i1 _ e t hs (fun h => nomatch h)
    exact ⟨t1, .fa_first b1, hs1⟩
  | fa_pow h0 h1 i1 =>
    intro x e t hs hE
    obtain ⟨t1, b1, hs1⟩ := i1 _ e t hs (fun h => nomatch h)
    exact ⟨t1, .fa_pow (by rw [hs.sees hR (by decide)]; exact h0) b1, hs1⟩
  | fa_no _ _ _ => intro x e; cases e
  | fa_neg h0 h1 i1 =>
    intro x e t hs hE
    cases e
    obtain ⟨g0, gn⟩ := hs.true h0
    obtain ⟨t1, b1, hs1⟩ := i1 _ rfl (opn T' t) (hs.step gn (opn_next _ _) (opn_next _ _)) (fun h => nomatch h)
    exact ⟨dn t1, .fa_neg g0 b1, hs1.same rfl rfl⟩
  | po_first h1 i1 =>
    intro x e t hs hE
    obtain ⟨t1, b1, hs1⟩ := i1 _ e t hs (fun h => nomatch h)
    exact ⟨t1, .po_first b1, hs1⟩
  | po_no _ _ => intro x e; cases e
  | po_go h1 h2 i1 i2 =>
    intro x e t hs hE
    obtain ⟨t1, b1, hs1⟩ := i1 _ rfl t hs (fun h => nomatch h)
    obtain ⟨t2, b2, hs2⟩ := i2 _ e t1 hs1 (fun h => nomatch h)
    exact ⟨t2, .po_go b1 b2, hs2⟩
  | pT_end h0 =>
    intro x e t hs hE
    cases e
    exact ⟨t, .pT_end (by rw [hs.sees hR (by decide)]; exact h0), hs⟩
  | pT_bad _ _ => intro x e; cases e
  | @pT_ok xx ss h0 h1 =>
    intro x e t hs hE
    cases e
    obtain ⟨g0, gn⟩ := hs.true h0
    have hs1 : Sim T T' R (adv _) (adv t) := hs.step gn rfl rfl
    obtain ⟨gk, gm⟩ := hs1.kind (by rw [h1]; decide)
    refine ⟨powS T' xx t, ?_, hs1.step gm (by rw [powS_next]; rfl) (by rw [powS_next]; rfl)⟩
    rw [← kt_txt gk]
    exact .pT_ok g0 (by rw [kt_knd gk]; exact h1)
  | pr_num h0 =>
    intro x e t hs hE
    cases e
    obtain ⟨gk, gn⟩ := hs.kind (by rw [h0]; decide)
    refine ⟨adv t, ?_, hs.step gn rfl rfl⟩
    rw [← kt_txt gk]
    exact .pr_num (by rw [kt_knd gk]; exact h0)
  | pr_name h0 =>
    intro x e t hs hE
    cases e
    obtain ⟨gk, gn⟩ := hs.kind (by rw [h0]; decide)
    refine ⟨nam T' t, ?_, hs.step gn (nam_next _ _) (nam_next _ _)⟩
    rw [← kt_txt gk]
    exact .pr_name (by rw [kt_knd gk]; exact h0)
  | pr_no _ _ _ => intro x e; cases e
  | pr_bad _ _ _ _ => intro x e; cases e
  | pr_ok h0 h1 h2 i1 =>
    intro x e t hs hE
    cases e
    obtain ⟨g0, gn⟩ := hs.true h0
    obtain ⟨t1, b1, hs1⟩ := i1 _ rfl (opn T' t) (hs.step gn (opn_next _ _) (opn_next _ _)) (fun h => nomatch h)
    have hs1' : Sim T T' R (dn _) (dn t1) := hs1.same rfl rfl
    obtain ⟨g1, gm⟩ := hs1'.true h2
    exact ⟨adv (dn t1), .pr_ok g0 b1 g1, hs1'.step gm rfl rfl⟩
  | pr_none _ _ _ => intro x e; cases e
end
end Pa
end Go.Proofs.YtkjbfomokdjbnaaGreat

/-
  Texts put together: their tokens (without the offsets), in plain Lean.
-/
namespace Go.Proofs.YtkjbfomokdjbnaaGreat
open Go.RowKit
set_option linter.unusedSimpArgs false
set_option linter.unusedVariables false
namespace Pa
open Lx Fm Dc
/-- a byte that ends every token -/
def stp (c : UInt8) : Bool := !aln c && !(c.toNat == 61 || c.toNat == 62)
theorem stp_sg2 (d c : UInt8) (h : stp c = true) : sg2 d c = false := by
  unfold stp at h
  simp only [Bool.and_eq_true, Bool.not_eq_true', Bool.or_eq_false_iff] at h
  unfold sg2
  rw [h.2.1, h.2.2]
  simp
theorem stp_aln (c : UInt8) (h : stp c = true) : aln c = false := by
  unfold stp at h
  simp only [Bool.and_eq_true, Bool.not_eq_true'] at h
  exact h.1
theorem stp_dig (c : UInt8) (h : stp c = true) : dig c = false := by
  have := stp_aln c h
  unfold aln at this
  simp only [Bool.or_eq_false_iff] at this
  exact this.2
theorem signLen_stp (r : Bytes) (c : UInt8) (x : Bytes) (hr : r ≠ []) (h : stp c = true) : signLen (r ++ c :: x) = signLen r := by
  match r, hr with
  | [d], _ => show signLen (d :: c :: x) = _; simp only [signLen, stp_sg2 d c h]; rfl
  | d :: e :: y, _ => rfl
theorem next_stp (r : Bytes) (c : UInt8) (x : Bytes) (hr : r ≠ []) (h : stp c = true) : next (r ++ c :: x) = next r := by
  have e1 := run_app dig r c x (stp_dig c h)
  have e2 := run_app aln r c x (stp_aln c h)
  have e3 := signLen_stp r c x hr h
  match r, hr with
  | d :: y, _ =>
    have e4 : ((d :: y) ++ c :: x).take (run aln (d :: y)) = (d :: y).take (run aln (d :: y)) := List.take_append_of_le_length (run_le _ _)
    rw [List.cons_append] at e1 e2 e3 e4 ⊢
    unfold next
    dsimp only
    rw [e1, e2, e3, e4]
/-- two texts, the second of which begins with such a byte -/
theorem lexBl_stp (x : UInt8) (hx : stp x = true) (b : Bytes) : ∀ (p : Nat) (a : Bytes), lexBl p (a ++ x :: b) =
    if (lexBl p a).2.2 = 0 then ((lexBl p a).1 ++ (lexBl (p + a.length) (x :: b)).1, (lexBl (p + a.length) (x :: b)).2) else lexBl p a := by
  refine lexBl_ind (P := fun p a => lexBl p (a ++ x :: b) = if (lexBl p a).2.2 = 0 then ((lexBl p a).1 ++ (lexBl (p + a.length) (x :: b)).1, (lexBl (p + a.length) (x :: b)).2) else lexBl p a) ?_ ?_ ?_ ?_
  · intro p
    rw [List.nil_append, lexBl_nil, if_pos rfl]
    rfl
  · intro p c r hb ih
    have e : p + 1 + r.length = p + (c :: r).length := by simp only [List.length_cons]; omega
    rw [List.cons_append, lexBl_blank _ _ _ hb, lexBl_blank _ _ _ hb, ih, e]
  · intro p c r hb hn
    have hn' : next (c :: (r ++ x :: b)) = next (c :: r) := next_stp (c :: r) x b (by simp) hx
    rw [List.cons_append, lexBl_non _ _ _ hb, lexBl_non _ _ _ hb, lexA_err _ _ (by simp) (by rw [hn']; exact hn), lexA_err _ _ (by simp) hn, hn']
    rw [if_neg hn]
  · intro p c r hb hn ih
    have hn' : next (c :: (r ++ x :: b)) = next (c :: r) := next_stp (c :: r) x b (by simp) hx
    obtain ⟨h1, h2, _⟩ := next_ok _ hn
    have hd : (c :: (r ++ x :: b)).drop (next (c :: r)).2.1 = (c :: r).drop (next (c :: r)).2.1 ++ x :: b := by
      show ((c :: r) ++ x :: b).drop _ = _
      rw [List.drop_append_of_le_length h2]
    have ht : (c :: (r ++ x :: b)).take (next (c :: r)).2.1 = (c :: r).take (next (c :: r)).2.1 := by
      show ((c :: r) ++ x :: b).take _ = _
      rw [List.take_append_of_le_length h2]
    have e : p + (next (c :: r)).2.1 + ((c :: r).drop (next (c :: r)).2.1).length = p + (c :: r).length := by rw [List.length_drop]; omega
    rw [List.cons_append, lexBl_non _ _ _ hb, lexBl_non _ _ _ hb, lexA_ok' _ _ (by simp) (by rw [hn']; exact hn), lexA_ok' _ _ (by simp) hn, hn', hd, ht, ih, e]
    dsimp only
    split
    · rfl
    · rfl
/-- a text's tokens, wherever it stands -/
def Says (r : Bytes) (L : List (Nat × Bytes)) : Prop := ∀ p, (lexBl p r).2 = (0, 0) ∧ (lexBl p r).1.map kt = L
theorem map_mv (d : Nat) (l : List Tok) : (l.map (mv d)).map kt = l.map kt := by rw [List.map_map]; rfl
theorem Says.of_lex {s : Bytes} {T : List Tok} {q : Nat} (h : lex s = (T, q, 0)) : Says s (T.map kt) ∧ q = 0 := by
  rcases Nat.lt_or_ge 4000 s.length with hl | hl
  · rw [lex_long s hl] at h; injection h with _ h; injection h with _ h; cases h
  · rw [lex_small s hl] at h
    split at h
    · rename_i h0
      injection h with h1 h2
      injection h2 with h2 h3
      refine ⟨fun p => ?_, h2.symm⟩
      have hm := lexBl_move p 0 s
      rw [Nat.zero_add, h0, if_pos rfl] at hm
      rw [hm, map_mv, h1]
      exact ⟨rfl, rfl⟩
    · rename_i h0
      injection h with h1 h2
      injection h2 with h2 h3
      exact absurd h3 h0
theorem Says.lex {s : Bytes} {L : List (Nat × Bytes)} (h : Says s L) (hl : s.length ≤ 4000) : ∃ T, Lx.lex s = (T, 0, 0) ∧ T.map kt = L := by
  obtain ⟨h1, h2⟩ := h 0
  rw [lex_small s hl, h1, if_pos rfl]
  exact ⟨_, rfl, h2⟩
theorem Says.nil : Says [] [] := fun p => ⟨rfl, rfl⟩
theorem Says.app {a b : Bytes} {c : UInt8} {L M : List (Nat × Bytes)} (hc : stp c = true) (ha : Says a L) (hb : Says (c :: b) M) : Says (a ++ c :: b) (L ++ M) := by
  intro p
  obtain ⟨h1, h2⟩ := ha p
  obtain ⟨h3, h4⟩ := hb (p + a.length)
  rw [lexBl_stp c hc, h1, if_pos rfl, List.map_append, h2, h4]
  exact ⟨h3, rfl⟩
theorem Says.blank {b : Bytes} {c : UInt8} {M : List (Nat × Bytes)} (hc : bl c = true) (hb : Says b M) : Says (c :: b) M := by
  intro p
  rw [lexBl_blank _ _ _ hc]
  exact hb _
/-- a sign of one byte -/
def one (c : UInt8) : Bool := sg1 c && !aln c && !bl c && !(c.toNat == 60 || c.toNat == 62)
theorem next_one (c : UInt8) (b : Bytes) (hc : one c = true) : next (c :: b) = (4, 1, 0) := by
  unfold one at hc
  simp only [Bool.and_eq_true, Bool.not_eq_true', Bool.or_eq_false_iff] at hc
  obtain ⟨⟨⟨h1, h2⟩, h3⟩, h4, h5⟩ := hc
  unfold aln at h2
  simp only [Bool.or_eq_false_iff] at h2
  have hs : signLen (c :: b) = 1 := by
    match b with
    | [] => show (if sg1 c then 1 else 0) = 1; rw [if_pos h1]
    | d :: b =>
      show (if sg2 c d then 2 else if sg1 c then 1 else 0) = 1
      have : sg2 c d = false := by unfold sg2; rw [h4, h5]; rfl
      rw [this, if_pos h1]; rfl
  unfold next
  dsimp only
  rw [h2.1, h2.2, hs]; rfl
theorem Says.sign {b : Bytes} {c : UInt8} {M : List (Nat × Bytes)} (hc : one c = true) (hb : Says b M) : Says (c :: b) ((4, [c]) :: M) := by
  intro p
  have hn := next_one c b hc
  have hbl : bl c = false := by
    unfold one at hc
    simp only [Bool.and_eq_true, Bool.not_eq_true', Bool.or_eq_false_iff] at hc
    exact hc.1.2
  rw [lexBl_non _ _ _ hbl, lexA_ok' _ _ (by simp) (by rw [hn]), hn]
  obtain ⟨h1, h2⟩ := hb (p + 1)
  refine ⟨h1, ?_⟩
  rw [List.map_cons]
  show _ :: ((lexBl (p + 1) b).1).map kt = _
  rw [h2]; rfl
theorem Says.word {w rest : Bytes} {M : List (Nat × Bytes)} (h : Wd w) (hr : run aln rest = 0) (hb : Says rest M) : Says (w ++ rest) ((3, w) :: M) := by
  intro p
  rw [bl_wd w rest h hr p]
  obtain ⟨h1, h2⟩ := hb (p + w.length)
  exact ⟨h1, by rw [List.map_cons, h2]; rfl⟩
/-- a name, behind which no letter stands -/
structure Nm (w : Bytes) : Prop where
  wd : isWord w = false
  all : w.all aln = true
  len : w.length ≤ 16
  hd : ∃ c r, w = c :: r ∧ dig c = false ∧ ltr c = true ∧ bl c = false
theorem next_nm (w rest : Bytes) (h : Nm w) (hr : run aln rest = 0) : next (w ++ rest) = (2, w.length, 0) := by
  obtain ⟨c, r, rfl, h1, h2, h3⟩ := h.hd
  have e := run_all aln (c :: r) rest h.all hr
  have hl := h.len
  have hw := h.wd
  rw [List.cons_append] at e ⊢
  unfold next
  dsimp only
  rw [if_neg (by rw [h1]; simp), if_pos h2, e, if_neg (by omega)]
  have ht : (c :: (r ++ rest)).take (c :: r).length = c :: r := by rw [← List.cons_append]; exact List.take_left
  rw [ht, if_neg (by rw [hw]; simp)]
theorem Says.name {w rest : Bytes} {M : List (Nat × Bytes)} (h : Nm w) (hr : run aln rest = 0) (hb : Says rest M) : Says (w ++ rest) ((2, w) :: M) := by
  intro p
  have hn := next_nm w rest h hr
  obtain ⟨c, r, rfl, h1, h2, h3⟩ := h.hd
  rw [List.cons_append] at hn ⊢
  rw [lexBl_non _ _ _ h3, lexA_ok' _ _ (by simp) (by rw [hn]), hn]
  dsimp only
  have ht : (c :: (r ++ rest)).take (c :: r).length = c :: r := by rw [← List.cons_append]; exact List.take_left
  have hdr : (c :: (r ++ rest)).drop (c :: r).length = rest := by rw [← List.cons_append]; exact List.drop_left
  rw [ht, hdr]
  obtain ⟨h4, h5⟩ := hb (p + (c :: r).length)
  exact ⟨h4, by rw [List.map_cons, h5]; rfl⟩
theorem wd_not : Wd wNot := ⟨by decide, by decide, by decide, _, _, rfl, by decide, by decide, by decide⟩
theorem wd_forall : Wd wForall := ⟨by decide, by decide, by decide, _, _, rfl, by decide, by decide, by decide⟩
theorem wd_exists : Wd wExists := ⟨by decide, by decide, by decide, _, _, rfl, by decide, by decide, by decide⟩
end Pa
end Go.Proofs.YtkjbfomokdjbnaaGreat

/-
  What Parse gives for a text in parentheses, behind not, behind a quantifier, and for two texts with a connective between.
-/
namespace Go.Proofs.YtkjbfomokdjbnaaGreat
open Go.RowKit
set_option linter.unusedSimpArgs false
set_option linter.unusedVariables false
namespace Pa
open Lx Fm Dc
/-- Parse gives this formula, or refuses the text -/
def Gives (X : Bytes) (g : Fo) : Prop := ParseR (.iff false) fm X (some (.fo g)) 0 0 ∨ ∃ p, ParseR (.iff false) fm X none p 8
theorem drop_all {T : List Tok} {s : PS} (h : rst T s = []) : T.length ≤ s.next := by
  have : T.drop s.next = [] := by simpa [rst] using h
  exact List.drop_eq_nil_iff.1 this
theorem gives_of {X : Bytes} {L : List (Nat × Bytes)} {g : Fo} (hX : Says X L) (hl : X.length ≤ 4000) (h : ∀ T, T.map kt = L → ∃ t, Big T (.iff false) s0 (some (.fo g)) t ∧ rst T t = []) : Gives X g := by
  obtain ⟨T, hx, hT⟩ := hX.lex hl
  obtain ⟨t, hb, hr⟩ := h T hT
  have hn : ¬ t.next < T.length := by have := drop_all hr; omega
  by_cases ho : t.over = true
  · refine .inr ⟨t.off, ?_⟩
    unfold ParseR
    rw [hx, if_neg (by simp)]
    refine ⟨_, t, hb, ?_, rfl⟩
    unfold verd
    rw [if_neg hn, if_neg (by simp [fm]), if_pos ho]
  · refine .inl ?_
    unfold ParseR
    rw [hx, if_neg (by simp)]
    refine ⟨_, t, hb, ?_, rfl⟩
    unfold verd
    rw [if_neg hn, if_neg (by simp [fm]), if_neg ho]
/-- what a successful parse tells -/
theorem parse_ok {s : Bytes} {x : PV} {p : Nat} (h : ParseR (.iff false) fm s (some x) p 0) : ∃ f T t, x = .fo f ∧ lex s = (T, 0, 0) ∧ Big T (.iff false) s0 (some (.fo f)) t ∧ rst T t = [] ∧ t.over = false ∧ p = 0 := by
  unfold ParseR at h
  split at h
  · cases h.1
  · rename_i h0
    have h0 : (lex s).2.2 = 0 := Decidable.of_not_not h0
    obtain ⟨r0, s', hB, hv, hr⟩ := h
    rw [if_pos rfl] at hr
    rcases hlx : lex s with ⟨T, q, e⟩
    rw [hlx] at h0 hB hv
    dsimp only at h0 hB hv
    subst h0
    obtain ⟨-, rfl⟩ := Says.of_lex hlx
    match r0, hr with
    | some (.fo f), hr =>
      injection hr with hr
      unfold verd at hv
      split at hv
      · cases hv
      · rename_i hn
        split at hv
        · cases hv
        · split at hv
          · cases hv
          · rename_i ho
            injection hv with hv _
            refine ⟨f, T, s', hr, rfl, hB, ?_, by simpa using ho, hv⟩
            have : T.drop s'.next = [] := List.drop_eq_nil_iff.2 (by omega)
            simp [rst, this]
section
variable {T : List Tok}
theorem sees_hd2 {s : PS} {a : Nat × Bytes} {l : List (Nat × Bytes)} (h : rst T s = a :: l) (x : Bytes) : sees T s x = seesK a x := by rw [sees_k, h]; rfl
theorem sees_nil2 {s : PS} (h : rst T s = []) (x : Bytes) : sees T s x = false := by rw [sees_k, h]; rfl
theorem rst_tail {s s1 : PS} {a : Nat × Bytes} {l : List (Nat × Bytes)} (h : rst T s = a :: l) (e : s1.next = s.next + 1) : rst T s1 = l := by rw [rst_next e, h]; rfl
theorem rst_same {s s1 : PS} {l : List (Nat × Bytes)} (h : rst T s = l) (e : s1.next = s.next) : rst T s1 = l := by unfold rst; rw [e]; exact h
theorem pk_hd2 {s : PS} {a : Nat × Bytes} {l : List (Nat × Bytes)} (h : rst T s = a :: l) : (pk T s).kind = a.1 ∧ (pk T s).text = a.2 := by
  have e := kt_pk T s
  rw [h] at e
  exact ⟨congrArg Prod.fst e, congrArg Prod.snd e⟩
theorem up_iff {b : Bool} {s s' : PS} {x : PV} (h : Big T (.un b) s (some x) s') (e : rst T s' = []) : Big T (.iff b) s (some x) s' :=
  .iff_go (.imp_one (.or_go (.and_go h (.andL_end (sees_nil2 e _))) (.orL_end (sees_nil2 e _))) (sees_nil2 e _)) (.iffL_end (sees_nil2 e _))
/-- a formula in parentheses -/
theorem encl_ok {T0 : List Tok} {a a' s : PS} {f : Fo} {R : List (Nat × Bytes)} (b : Bool) (h : Big T0 (.iff false) a (some (.fo f)) a') (ha' : rst T0 a' = []) (hs : rst T s = (4, cOpen) :: (rst T0 a ++ (4, cShut) :: R)) : ∃ s', Big T (.un b) s (some (.fo f)) s' ∧ rst T s' = R := by
  have h1 := h.raise _ rfl
  have hS : Sim T0 T ((4, cShut) :: R) a (opn T s) := rst_tail hs (opn_next _ _)
  obtain ⟨t1, b1, hs1⟩ := h1.sim (.inr ⟨R, rfl⟩) _ rfl _ hS (fun h => nomatch h)
  have e1 : rst T (dn t1) = (4, cShut) :: R := by
    have : rst T t1 = rst T0 a' ++ (4, cShut) :: R := hs1
    rw [ha'] at this
    exact rst_same this rfl
  have hE : Big T .encl s (some (.fo f)) (adv (dn t1)) := .en_ok b1 (by rw [sees_hd2 e1]; rfl)
  refine ⟨adv (dn t1), ?_, rst_tail e1 rfl⟩
  exact .un_atom (by rw [sees_hd2 hs]; rfl) (by rw [sees_hd2 hs]; rfl) (by rw [sees_hd2 hs]; rfl) (by rw [sees_hd2 hs]; rfl) (by rw [sees_hd2 hs]; rfl) (.at_fo (by rw [sees_hd2 hs]; rfl) hE)
end
def joinF (k : Nat) (f g : Fo) : Fo := if k = 0 then .and f g else if k = 1 then .or f g else if k = 2 then .implies f g else .iff f g
section
variable {s : Bytes} {x : PV} {p : Nat}
theorem rst_s0 (T : List Tok) : rst T s0 = T.map kt := rfl
theorem gives_paren {f : Fo} (h : ParseR (.iff false) fm s (some (.fo f)) p 0) (hl : s.length ≤ 1000) : Gives (40 :: (s ++ [41])) f := by
  obtain ⟨f', T0, a', e, hx, hB, hr, ho, hp⟩ := parse_ok h
  cases e
  refine gives_of (Says.sign (by decide) (Says.app (by decide) (Says.of_lex hx).1 (Says.sign (by decide) Says.nil))) (by simp; omega) fun T hT => ?_
  obtain ⟨s', hb, e⟩ := encl_ok false hB hr (T := T) (s := s0) (R := []) (by rw [rst_s0, rst_s0, hT]; rfl)
  exact ⟨s', up_iff hb e, e⟩
theorem gives_not {f : Fo} (h : ParseR (.iff false) fm s (some (.fo f)) p 0) (hl : s.length ≤ 1000) : Gives (wNot ++ 32 :: 40 :: (s ++ [41])) (.not f) := by
  obtain ⟨f', T0, a', e, hx, hB, hr, ho, hp⟩ := parse_ok h
  cases e
  refine gives_of (Says.word wd_not rfl (Says.blank (by decide) (Says.sign (by decide) (Says.app (by decide) (Says.of_lex hx).1 (Says.sign (by decide) Says.nil))))) (by simp [wNot]; omega) fun T hT => ?_
  have h0 : rst T s0 = (3, wNot) :: ((4, cOpen) :: (rst T0 s0 ++ [(4, cShut)])) := by rw [rst_s0, rst_s0, hT]; rfl
  obtain ⟨s', hb, e⟩ := encl_ok false hB hr (T := T) (s := opn T s0) (R := []) (rst_tail h0 (opn_next _ _))
  have e' : rst T (dn s') = [] := rst_same e rfl
  exact ⟨dn s', up_iff (.un_not (by rw [sees_hd2 h0]; rfl) hb) e', e'⟩
theorem gives_quant {f : Fo} (all : Bool) (h : ParseR (.iff false) fm s (some (.fo f)) p 0) (hl : s.length ≤ 1000) : Gives ((if all then wForall else wExists) ++ 32 :: 120 :: 49 :: 32 :: 46 :: 32 :: s) (.quant all (bs [120, 49]) f) := by
  obtain ⟨f', T0, a', e, hx, hB, hr, ho, hp⟩ := parse_ok h
  cases e
  have nm : Nm [120, 49] := ⟨by decide, by decide, by decide, _, _, rfl, by decide, by decide, by decide⟩
  have hrest : Says (32 :: 120 :: 49 :: 32 :: 46 :: 32 :: s) ((2, [120, 49]) :: (4, [46]) :: T0.map kt) := Says.blank (by decide) (Says.name (w := [120, 49]) nm rfl (Says.blank (by decide) (Says.sign (by decide) (Says.blank (by decide) (Says.of_lex hx).1))))
  cases all with
  | true =>
    refine gives_of (Says.word wd_forall rfl hrest) (by simp [wForall]; omega) fun T hT => ?_
    have h0 : rst T s0 = (3, wForall) :: (2, [120, 49]) :: (4, cDot) :: (rst T0 s0) := by rw [rst_s0, rst_s0, hT]; rfl
    have h1 : rst T (adv s0) = (2, [120, 49]) :: (4, cDot) :: (rst T0 s0) := rst_tail h0 rfl
    have h2 : rst T (nam T (inc T (adv s0))) = (4, cDot) :: (rst T0 s0) := rst_tail h1 (by rw [nam_next, inc_next])
    have h3 : Sim T0 T [] s0 (adv (nam T (inc T (adv s0)))) := by unfold Sim; rw [List.append_nil]; exact rst_tail h2 rfl
    obtain ⟨t1, b1, hs1⟩ := hB.sim (.inl rfl) _ rfl _ h3 (fun h => nomatch h)
    have e1 : rst T (dn t1) = [] := by
      have : rst T t1 = rst T0 a' ++ [] := hs1
      rw [hr] at this
      exact rst_same this rfl
    obtain ⟨k1, k2⟩ := pk_hd2 h1
    have hq := Big.qu_dot (T := T) (a := true) k1 (by rw [sees_hd2 h2]; rfl) (by rw [sees_hd2 h2]; rfl) b1
    rw [k2] at hq
    exact ⟨dn t1, up_iff (.un_all (by rw [sees_hd2 h0]; rfl) (by rw [sees_hd2 h0]; rfl) hq) e1, e1⟩
  | false =>
    refine gives_of (Says.word wd_exists rfl hrest) (by simp [wExists]; omega) fun T hT => ?_
    have h0 : rst T s0 = (3, wExists) :: (2, [120, 49]) :: (4, cDot) :: (rst T0 s0) := by rw [rst_s0, rst_s0, hT]; rfl
    have h1 : rst T (adv s0) = (2, [120, 49]) :: (4, cDot) :: (rst T0 s0) := rst_tail h0 rfl
    have h2 : rst T (nam T (inc T (adv s0))) = (4, cDot) :: (rst T0 s0) := rst_tail h1 (by rw [nam_next, inc_next])
    have h3 : Sim T0 T [] s0 (adv (nam T (inc T (adv s0)))) := by unfold Sim; rw [List.append_nil]; exact rst_tail h2 rfl
    obtain ⟨t1, b1, hs1⟩ := hB.sim (.inl rfl) _ rfl _ h3 (fun h => nomatch h)
    have e1 : rst T (dn t1) = [] := by
      have : rst T t1 = rst T0 a' ++ [] := hs1
      rw [hr] at this
      exact rst_same this rfl
    obtain ⟨k1, k2⟩ := pk_hd2 h1
    have hq := Big.qu_dot (T := T) (a := false) k1 (by rw [sees_hd2 h2]; rfl) (by rw [sees_hd2 h2]; rfl) b1
    rw [k2] at hq
    exact ⟨dn t1, up_iff (.un_ex (by rw [sees_hd2 h0]; rfl) (by rw [sees_hd2 h0]; rfl) (by rw [sees_hd2 h0]; rfl) hq) e1, e1⟩
/-- two texts with a connective between -/
theorem gives_join {t : Bytes} {f g : Fo} {q : Nat} (k : Nat) (hk : k < 4) (h : ParseR (.iff false) fm s (some (.fo f)) p 0) (h' : ParseR (.iff false) fm t (some (.fo g)) q 0) (hl : s.length ≤ 500) (hl' : t.length ≤ 500) :
    Gives (40 :: (s ++ 41 :: 32 :: (opW k ++ 32 :: 40 :: (t ++ [41])))) (joinF k f g) := by
  obtain ⟨f', T0, a', e, hx, hB, hr, ho, hp⟩ := parse_ok h
  cases e
  obtain ⟨g', U0, c', e, hy, hC, hr', ho', hp'⟩ := parse_ok h'
  cases e
  have hlw : (opW k).length ≤ 7 := by unfold opW; split; decide; split; decide; split <;> decide
  refine gives_of (Says.sign (by decide) (Says.app (by decide) (Says.of_lex hx).1 (Says.sign (by decide) (Says.blank (by decide) (Says.word (wd_op k) rfl (Says.blank (by decide) (Says.sign (by decide) (Says.app (by decide) (Says.of_lex hy).1 (Says.sign (by decide) Says.nil))))))))) (by simp; omega) fun T hT => ?_
  obtain ⟨s1, b1, e1⟩ := encl_ok false hB hr (T := T) (s := s0) (R := (3, opW k) :: (4, cOpen) :: (rst U0 s0 ++ [(4, cShut)])) (by rw [rst_s0, rst_s0, rst_s0, hT]; rfl)
  have e2 : rst T (adv s1) = (4, cOpen) :: (rst U0 s0 ++ [(4, cShut)]) := rst_tail e1 rfl
  obtain ⟨s2, b2, e3⟩ := encl_ok false hC hr' (T := T) (s := adv s1) (R := []) e2
  refine ⟨s2, ?_, e3⟩
  match k, hk with
  | 0, _ =>
    exact .iff_go (.imp_one (.or_go (.and_go b1 (.andL_go (by rw [sees_hd2 e1]; rfl) b2 (.andL_end (sees_nil2 e3 _)))) (.orL_end (sees_nil2 e3 _))) (sees_nil2 e3 _)) (.iffL_end (sees_nil2 e3 _))
  | 1, _ =>
    exact .iff_go (.imp_one (.or_go (.and_go b1 (.andL_end (by rw [sees_hd2 e1]; rfl))) (.orL_go (by rw [sees_hd2 e1]; rfl) (.and_go b2 (.andL_end (sees_nil2 e3 _))) (.orL_end (sees_nil2 e3 _)))) (sees_nil2 e3 _)) (.iffL_end (sees_nil2 e3 _))
  | 2, _ =>
    exact .iff_go (.imp_two (.or_go (.and_go b1 (.andL_end (by rw [sees_hd2 e1]; rfl))) (.orL_end (by rw [sees_hd2 e1]; rfl))) (by rw [sees_hd2 e1]; rfl) (.imp_one (.or_go (.and_go b2 (.andL_end (sees_nil2 e3 _))) (.orL_end (sees_nil2 e3 _))) (sees_nil2 e3 _))) (.iffL_end (sees_nil2 e3 _))
  | 3, _ =>
    exact .iff_go (.imp_one (.or_go (.and_go b1 (.andL_end (by rw [sees_hd2 e1]; rfl))) (.orL_end (by rw [sees_hd2 e1]; rfl))) (by rw [sees_hd2 e1]; rfl)) (.iffL_go (by rw [sees_hd2 e1]; rfl) (.imp_one (.or_go (.and_go b2 (.andL_end (sees_nil2 e3 _))) (.orL_end (sees_nil2 e3 _))) (sees_nil2 e3 _)) (.iffL_end (sees_nil2 e3 _)))
end
end Pa
end Go.Proofs.YtkjbfomokdjbnaaGreat

/-
  Parse on a text that gives a formula or is refused; the law's refused, join; Same at one formula.
-/
namespace Go.Proofs.YtkjbfomokdjbnaaGreat
open Go.RowKit
set_option linter.unusedSimpArgs false
set_option linter.unusedVariables false
namespace Pa
open Lx Fm Dc
theorem FoAt.up {w w' : World} {f : Fo} {v : Value} (h : FoAt w (fun k => k < w.heap.size) f v) (hb : Below w.heap.size w w') : FoAt w' (fun k => k < w'.heap.size) f v :=
  FoAt.more (fun b h1 => Nat.lt_of_lt_of_le h1 hb.size) _ _ (h.below (fun b h => h) hb)
def GivesPost (Y : ByteArray) (g : Fo) (w : World) (e : Ending) (w' : World) : Prop :=
  ∃ va p x, e = .returned (.tuple #[va, .int .i64 p, .int .i64 x]) ∧ va.oneCell' = true ∧ ((x = 0 ∧ (∃ u z, va = .iface u z) ∧ FoAt w' (fun k => k < w'.heap.size) g va ∧ SmF g) ∨ (x = 8 ∧ va = .nilIface ∧ ∃ q, ParseR (.iff false) fm Y.data.toList none q 8)) ∧ Below w.heap.size w w'
theorem gives_walk (Y : ByteArray) (g : Fo) (h : Gives Y.data.toList g) (hs : Y.size ≤ 140737488351232) (w : World) : Calls Tryz.prog 5 #[.string Y] w (GivesPost Y g w) := by
  rcases h with h | ⟨p, h⟩
  · refine (Parse_walk Y _ _ _ h hs w).mono ?_
    rintro e w' ⟨⟨u, z, rfl, hV⟩, hb⟩
    exact ⟨.iface u z, 0, 0, rfl, rfl, .inl ⟨rfl, ⟨_, _, rfl⟩, hV.1, hV.2.2⟩, hb⟩
  · refine (Parse_walk Y _ _ _ h hs w).mono ?_
    rintro e w' ⟨rfl, hb⟩
    exact ⟨.nilIface, p, 8, rfl, rfl, .inr ⟨rfl, rfl, p, h⟩, hb⟩
theorem no_none {c : PC} {g : Option PV → Option PV} {s : Bytes} {p : Nat} (h : ParseR c g s none p 0) : False := by
  unfold ParseR at h
  split at h
  · rename_i h0; exact h0 h.2.2.symm
  · obtain ⟨r0, s', -, hv, hr⟩ := h
    rw [if_pos rfl] at hr
    rw [← hr] at hv
    unfold verd at hv
    split at hv
    · cases hv
    · cases hv
theorem parse_none {c : PC} {g : Option PV → Option PV} {s : Bytes} {r : Option PV} {p e : Nat} (h : ParseR c g s r p e) (he : e ≠ 0) : r = none := by
  unfold ParseR at h
  split at h
  · exact h.1
  · obtain ⟨r0, s', -, hv, hr⟩ := h
    simpa [he] using hr
theorem same_true (f : Fo) (va vf : Value) (w : World) (ha : FoAt w (fun k => k < w.heap.size) f va) (hf : FoAt w (fun k => k < w.heap.size) f vf) (sf : SmF f) : Calls Tryz.prog 9 #[va, vf] w fun e w' => e = .returned (.bool true) ∧ Below w.heap.size w w' :=
  fsame_any f f va vf _ w (fun b h => h) ha hf sf sf true (by simp)
end Pa
end Go.Proofs.YtkjbfomokdjbnaaGreat
