/-
  The parser: every call keeps its contract; every call ends.
-/
import Derived.Test.YteneobpacobpdaaGreatDoorPaI
import Derived.Test.YteneobpacobpdaaGreatDoorPaM
import Derived.Test.YteneobpacobpdaaGreatDoorPaT
import Derived.Test.YteneobpacobpdaaGreatDoorLxPlain
import Derived.Test.YteneobpacobpdaaGreatDoorLxR
namespace Go.Proofs.YteneobpacobpdaaGreatDoor
open Go.RowKit
set_option linter.unusedSimpArgs false
set_option linter.unusedVariables false
namespace Pa
open Lx Fm Dc

theorem all_any (C : Cx) (htok : TokOk C.T) : ∀ M, IH C M := by
  intro M
  induction M with
  | zero => intro c s h; exact absurd h (Nat.not_lt_zero _)
  | succ M ih =>
    intro c s hm r s' hB hg hok w h
    have ih' : IH C (mea C.T c s) := fun c2 s2 h2 => ih c2 s2 (by omega)
    cases c with
    | iff b => exact iff_walk C b s r s' hB hg ih' w h
    | imp b => exact implies_walk C b s r s' hB hg htok ih' w h
    | or b => exact or_walk C b s r s' hB hg ih' w h
    | and b => exact and_walk C b s r s' hB hg ih' w h
    | un b => exact unary_walk C b s r s' hB hg htok ih' w h
    | qu a => exact quant_walk C a s r s' hB hg htok ih' w h
    | atom b => exact atom_walk C b s r s' hB hg htok ih' w h
    | encl => exact enclosed_walk C s r s' hB hg hok htok ih' w h
    | term q => exact fun v hq => term_walk C q v s r s' hB hg ih' w h hq
    | prod q => exact fun v hq => product_walk C q v s r s' hB hg ih' w h hq
    | fac q => exact fun v hq => factor_walk C q v s r s' hB hg htok ih' w h hq
    | pow q => exact fun v hq => power_walk C q v s r s' hB hg htok ih' w h hq
    | prim => exact primary_walk C s r s' hB hg htok ih' w h
    | iffL x => trivial
    | orL x => trivial
    | andL x => trivial
    | atomT b q => trivial
    | termL x => trivial
    | prodL x => trivial
    | powT x => trivial
theorem call_any (C : Cx) (htok : TokOk C.T) (c : PC) (s : PS) : CP C c s := all_any C htok _ c s (Nat.lt_succ_self _)

/-! ### every call ends -/
theorem mea_le {T : List Tok} {c d : PC} {s s1 : PS} (h : s.next ≤ s1.next) (hl : lvl c < lvl d) : mea T c s1 < mea T d s := by unfold mea; omega
theorem total_lt (T : List Tok) : ∀ (M : Nat) (c : PC) (s : PS), mea T c s < M → Ok T c s → ∃ r s', Big T c s r s' := by
  intro M
  induction M with
  | zero => intro c s h; exact absurd h (Nat.not_lt_zero _)
  | succ M ih =>
    intro c s hm hok
    have call : ∀ c2 s2, c2 ≠ .encl → mea T c2 s2 < mea T c s → ∃ r s', Big T c2 s2 r s' := fun c2 s2 hne h2 => ih c2 s2 (by omega) (notEncl hne)
    cases c with
    | iff b =>
      obtain ⟨r, s1, h1⟩ := call (.imp b) s (by simp) (mea_same (by simp [lvl]))
      rcases r with _ | x
      · exact ⟨_, _, .iff_no h1⟩
      · obtain ⟨r2, s2, h2⟩ := call (.iffL x) s1 (by simp) (mea_le h1.mono (by simp [lvl]))
        exact ⟨_, _, .iff_go h1 h2⟩
    | iffL x =>
      rcases hs : sees T s wIff with _ | _
      · exact ⟨_, _, .iffL_end hs⟩
      · have hlt : s.next < T.length := sees_lt hs
        obtain ⟨r, s1, h1⟩ := call (.imp false) (adv s) (by simp) (mea_adv (Nat.lt_succ_self _) hlt)
        rcases r with _ | y
        · exact ⟨_, _, .iffL_bad hs h1⟩
        · obtain ⟨r2, s2, h2⟩ := call (.iffL (.fo (.iff (asF x) (asF y)))) s1 (by simp) (mea_adv h1.mono hlt)
          exact ⟨_, _, .iffL_go hs h1 h2⟩
    | imp b =>
      obtain ⟨r, s1, h1⟩ := call (.or b) s (by simp) (mea_same (by simp [lvl]))
      rcases r with _ | x
      · exact ⟨_, _, .imp_no h1⟩
      · rcases hs : sees T s1 wImplies with _ | _
        · exact ⟨_, _, .imp_one h1 hs⟩
        · obtain ⟨r2, s2, h2⟩ := call (.imp false) (adv s1) (by simp) (mea_adv (Nat.lt_succ_of_le h1.mono) (Nat.lt_of_le_of_lt h1.mono (sees_lt hs)))
          rcases r2 with _ | y
          · exact ⟨_, _, .imp_bad h1 hs h2⟩
          · exact ⟨_, _, .imp_two h1 hs h2⟩
    | or b =>
      obtain ⟨r, s1, h1⟩ := call (.and b) s (by simp) (mea_same (by simp [lvl]))
      rcases r with _ | x
      · exact ⟨_, _, .or_no h1⟩
      · obtain ⟨r2, s2, h2⟩ := call (.orL x) s1 (by simp) (mea_le h1.mono (by simp [lvl]))
        exact ⟨_, _, .or_go h1 h2⟩
    | orL x =>
      rcases hs : sees T s wOr with _ | _
      · exact ⟨_, _, .orL_end hs⟩
      · have hlt : s.next < T.length := sees_lt hs
        obtain ⟨r, s1, h1⟩ := call (.and false) (adv s) (by simp) (mea_adv (Nat.lt_succ_self _) hlt)
        rcases r with _ | y
        · exact ⟨_, _, .orL_bad hs h1⟩
        · obtain ⟨r2, s2, h2⟩ := call (.orL (.fo (.or (asF x) (asF y)))) s1 (by simp) (mea_adv h1.mono hlt)
          exact ⟨_, _, .orL_go hs h1 h2⟩
    | and b =>
      obtain ⟨r, s1, h1⟩ := call (.un b) s (by simp) (mea_same (by simp [lvl]))
      rcases r with _ | x
      · exact ⟨_, _, .and_no h1⟩
      · obtain ⟨r2, s2, h2⟩ := call (.andL x) s1 (by simp) (mea_le h1.mono (by simp [lvl]))
        exact ⟨_, _, .and_go h1 h2⟩
    | andL x =>
      rcases hs : sees T s wAnd with _ | _
      · exact ⟨_, _, .andL_end hs⟩
      · have hlt : s.next < T.length := sees_lt hs
        obtain ⟨r, s1, h1⟩ := call (.un false) (adv s) (by simp) (mea_adv (Nat.lt_succ_self _) hlt)
        rcases r with _ | y
        · exact ⟨_, _, .andL_bad hs h1⟩
        · obtain ⟨r2, s2, h2⟩ := call (.andL (.fo (.and (asF x) (asF y)))) s1 (by simp) (mea_adv h1.mono hlt)
          exact ⟨_, _, .andL_go hs h1 h2⟩
    | un b =>
      rcases a0 : sees T s wNot with _ | _
      · rcases a1 : sees T s wForall with _ | _
        · rcases a2 : sees T s wExists with _ | _
          · rcases a3 : sees T s wTrue with _ | _
            · rcases a4 : sees T s wFalse with _ | _
              · obtain ⟨r, s1, h1⟩ := call (.atom b) s (by simp) (mea_same (by simp [lvl]))
                exact ⟨_, _, .un_atom a0 a1 a2 a3 a4 h1⟩
              · exact ⟨_, _, .un_false a0 a1 a2 a3 a4⟩
            · exact ⟨_, _, .un_true a0 a1 a2 a3⟩
          · obtain ⟨r, s1, h1⟩ := call (.qu false) (adv s) (by simp) (mea_adv (Nat.lt_succ_self _) (sees_lt a2))
            exact ⟨_, _, .un_ex a0 a1 a2 h1⟩
        · obtain ⟨r, s1, h1⟩ := call (.qu true) (adv s) (by simp) (mea_adv (Nat.lt_succ_self _) (sees_lt a1))
          exact ⟨_, _, .un_all a0 a1 h1⟩
      · obtain ⟨r, s1, h1⟩ := call (.un false) (opn T s) (by simp) (mea_adv (by rw [opn_next]; exact Nat.lt_succ_self _) (sees_lt a0))
        rcases r with _ | x
        · exact ⟨_, _, .un_not_no a0 h1⟩
        · exact ⟨_, _, .un_not a0 h1⟩
    | qu a =>
      by_cases hk : (pk T s).kind = 2
      · have hlt : s.next < T.length := pk_lt (by rw [hk]; decide)
        have hn : s.next < (adv (nam T (inc T s))).next := by rw [adv_next, nam_next, inc_next]; omega
        rcases hc : sees T (nam T (inc T s)) cComma with _ | _
        · rcases hd : sees T (nam T (inc T s)) cDot with _ | _
          · exact ⟨_, _, .qu_bad hk hc hd⟩
          · obtain ⟨r, s1, h1⟩ := call (.iff false) (adv (nam T (inc T s))) (by simp) (mea_adv hn hlt)
            rcases r with _ | x
            · exact ⟨_, _, .qu_dot_no hk hc hd h1⟩
            · exact ⟨_, _, .qu_dot hk hc hd h1⟩
        · obtain ⟨r, s1, h1⟩ := call (.qu a) (adv (nam T (inc T s))) (by simp) (mea_adv hn hlt)
          rcases r with _ | x
          · exact ⟨_, _, .qu_comma_no hk hc h1⟩
          · exact ⟨_, _, .qu_comma hk hc h1⟩
      · exact ⟨_, _, .qu_no hk⟩
    | atom b =>
      rcases hs : sees T s cOpen with _ | _
      · obtain ⟨r, s1, h1⟩ := call (.atomT b none) s (by simp) (mea_same (by simp [lvl]))
        exact ⟨_, _, .at_go hs h1⟩
      · obtain ⟨r, s1, h1⟩ := ih .encl s (by have : mea T .encl s < mea T (.atom b) s := mea_same (by simp [lvl]); omega) (fun _ => hs)
        rcases r with _ | (t | f)
        · exact ⟨_, _, .at_no hs h1⟩
        · obtain ⟨r2, s2, h2⟩ := call (.atomT b (some t)) s1 (by simp) (mea_le h1.mono (by simp [lvl]))
          exact ⟨_, _, .at_par hs h1 h2⟩
        · exact ⟨_, _, .at_fo hs h1⟩
    | atomT b q =>
      obtain ⟨r, s1, h1⟩ := call (.term q) s (by simp) (mea_same (by simp [lvl]))
      rcases h1.term rfl with rfl | ⟨l, rfl⟩
      · exact ⟨_, _, .atT_no h1⟩
      · by_cases hr : relOf (pk T s1) = 0
        · rcases hb : (b && sees T s1 cShut) with _ | _
          · exact ⟨_, _, .atT_none h1 hr hb⟩
          · exact ⟨_, _, .atT_bare h1 hr hb⟩
        · obtain ⟨r2, s2, h2⟩ := call (.term none) (relS T s1) (by simp) (mea_adv (by rw [relS_next]; exact Nat.lt_succ_of_le h1.mono) (Nat.lt_of_le_of_lt h1.mono (relOf_lt hr)))
          rcases h2.term rfl with rfl | ⟨m, rfl⟩
          · exact ⟨_, _, .atT_bad h1 hr h2⟩
          · exact ⟨_, _, .atT_ok h1 hr h2⟩
    | encl =>
      obtain ⟨r, s1, h1⟩ := call (.iff true) (opn T s) (by simp) (mea_adv (by rw [opn_next]; exact Nat.lt_succ_self _) (sees_lt (hok rfl)))
      rcases r with _ | x
      · exact ⟨_, _, .en_no h1⟩
      · rcases hs : sees T (dn s1) cShut with _ | _
        · exact ⟨_, _, .en_bad h1 hs⟩
        · exact ⟨_, _, .en_ok h1 hs⟩
    | term q =>
      obtain ⟨r, s1, h1⟩ := call (.prod q) s (by simp) (mea_same (by simp [lvl]))
      rcases h1.term rfl with rfl | ⟨x, rfl⟩
      · exact ⟨_, _, .te_no h1⟩
      · obtain ⟨r2, s2, h2⟩ := call (.termL x) s1 (by simp) (mea_le h1.mono (by simp [lvl]))
        exact ⟨_, _, .te_go h1 h2⟩
    | termL x =>
      rcases hs : (sees T s cPlus || sees T s cMinus) with _ | _
      · exact ⟨_, _, .teL_end hs⟩
      · have hlt : s.next < T.length := (by simp only [Bool.or_eq_true] at hs; exact hs.elim sees_lt sees_lt)
        obtain ⟨r, s1, h1⟩ := call (.prod none) (adv s) (by simp) (mea_adv (Nat.lt_succ_self _) hlt)
        rcases h1.term rfl with rfl | ⟨y, rfl⟩
        · exact ⟨_, _, .teL_bad hs h1⟩
        · obtain ⟨r2, s2, h2⟩ := call (.termL (sumT (pk T s) x y)) (meas s1 (pk T s) (sumT (pk T s) x y) [x, y]) (by simp) (mea_adv (by rw [meas_next]; exact h1.mono) hlt)
          exact ⟨_, _, .teL_go hs h1 h2⟩
    | prod q =>
      obtain ⟨r, s1, h1⟩ := call (.fac q) s (by simp) (mea_same (by simp [lvl]))
      rcases h1.term rfl with rfl | ⟨x, rfl⟩
      · exact ⟨_, _, .pd_no h1⟩
      · obtain ⟨r2, s2, h2⟩ := call (.prodL x) s1 (by simp) (mea_le h1.mono (by simp [lvl]))
        exact ⟨_, _, .pd_go h1 h2⟩
    | prodL x =>
      rcases hs : sees T s cStar with _ | _
      · exact ⟨_, _, .pdL_end hs⟩
      · have hlt : s.next < T.length := sees_lt hs
        obtain ⟨r, s1, h1⟩ := call (.fac none) (adv s) (by simp) (mea_adv (Nat.lt_succ_self _) hlt)
        rcases h1.term rfl with rfl | ⟨y, rfl⟩
        · exact ⟨_, _, .pdL_bad hs h1⟩
        · obtain ⟨r2, s2, h2⟩ := call (.prodL (.mul x y)) (meas s1 (pk T s) (.mul x y) [x, y]) (by simp) (mea_adv (by rw [meas_next]; exact h1.mono) hlt)
          exact ⟨_, _, .pdL_go hs h1 h2⟩
    | fac q =>
      rcases q with _ | x
      · rcases hs : sees T s cMinus with _ | _
        · obtain ⟨r, s1, h1⟩ := call (.pow none) s (by simp) (mea_same (by simp [lvl]))
          exact ⟨_, _, .fa_pow hs h1⟩
        · obtain ⟨r, s1, h1⟩ := call (.fac none) (opn T s) (by simp) (mea_adv (by rw [opn_next]; exact Nat.lt_succ_self _) (sees_lt hs))
          rcases h1.term rfl with rfl | ⟨t, rfl⟩
          · exact ⟨_, _, .fa_no hs h1⟩
          · exact ⟨_, _, .fa_neg hs h1⟩
      · obtain ⟨r, s1, h1⟩ := call (.pow (some x)) s (by simp) (mea_same (by simp [lvl]))
        exact ⟨_, _, .fa_first h1⟩
    | pow q =>
      rcases q with _ | x
      · obtain ⟨r, s1, h1⟩ := call .prim s (by simp) (mea_same (by simp [lvl]))
        rcases h1.term rfl with rfl | ⟨t, rfl⟩
        · exact ⟨_, _, .po_no h1⟩
        · obtain ⟨r2, s2, h2⟩ := call (.powT t) s1 (by simp) (mea_le h1.mono (by simp [lvl]))
          exact ⟨_, _, .po_go h1 h2⟩
      · obtain ⟨r2, s2, h2⟩ := call (.powT x) s (by simp) (mea_same (by simp [lvl]))
        exact ⟨_, _, .po_first h2⟩
    | powT x =>
      rcases hs : sees T s cHat with _ | _
      · exact ⟨_, _, .pT_end hs⟩
      · by_cases hk : (pk T (adv s)).kind = 1
        · exact ⟨_, _, .pT_ok hs hk⟩
        · exact ⟨_, _, .pT_bad hs hk⟩
    | prim =>
      by_cases k1 : (pk T s).kind = 1
      · exact ⟨_, _, .pr_num k1⟩
      · by_cases k2 : (pk T s).kind = 2
        · exact ⟨_, _, .pr_name k2⟩
        · rcases hs : sees T s cOpen with _ | _
          · exact ⟨_, _, .pr_none k1 k2 hs⟩
          · obtain ⟨r, s1, h1⟩ := call (.term none) (opn T s) (by simp) (mea_adv (by rw [opn_next]; exact Nat.lt_succ_self _) (sees_lt hs))
            rcases h1.term rfl with rfl | ⟨t, rfl⟩
            · exact ⟨_, _, .pr_no hs h1⟩
            · rcases hq : sees T (dn s1) cShut with _ | _
              · exact ⟨_, _, .pr_bad hs h1 hq⟩
              · exact ⟨_, _, .pr_ok hs h1 hq⟩
theorem total (T : List Tok) (c : PC) (s : PS) (h : Ok T c s) : ∃ r s', Big T c s r s' := total_lt T _ c s (Nat.lt_succ_self _) h
end Pa
end Go.Proofs.YteneobpacobpdaaGreatDoor

/-
  The parser: formula, Parse, Term.
-/
namespace Go.Proofs.YteneobpacobpdaaGreatDoor
open Go.RowKit
set_option linter.unusedSimpArgs false
set_option linter.unusedVariables false
namespace Pa
open Lx Fm Dc
attribute [local go_sem] run_store fieldTok0 fieldTok2
/-! ### the lexer's tokens -/
theorem next_ok2 (c : UInt8) (r : Bytes) (h : (next (c :: r)).2.2 = 0) (p : Nat) : ((c :: r).take (next (c :: r)).2.1).length ≤ 40 ∧ ((next (c :: r)).1 = 1 → (∀ x ∈ (c :: r).take (next (c :: r)).2.1, dig x = true) ∧ 0 < ((c :: r).take (next (c :: r)).2.1).length ∧ (((c :: r).take (next (c :: r)).2.1).length = 1 ∨ ∀ h : 0 < ((c :: r).take (next (c :: r)).2.1).length, (((c :: r).take (next (c :: r)).2.1)[0]'h).toNat ≠ 48)) := by
  unfold next at h ⊢
  dsimp only at h ⊢
  by_cases hd : dig c = true
  · simp only [if_pos hd] at h ⊢
    by_cases h1 : c.toNat = 48 ∧ 1 < run dig (c :: r)
    · rw [if_pos h1] at h; cases h
    · simp only [if_neg h1] at h ⊢
      by_cases h2 : 40 < run dig (c :: r)
      · rw [if_pos h2] at h; cases h
      · simp only [if_neg h2] at h ⊢
        have e : (c :: r).take (run dig (c :: r)) = (c :: r).takeWhile dig := (List.prefix_iff_eq_take.1 (List.takeWhile_prefix dig)).symm
        have hl : ((c :: r).take (run dig (c :: r))).length = run dig (c :: r) := by rw [e]; rfl
        refine ⟨by rw [hl]; omega, fun _ => ⟨?_, ?_, ?_⟩⟩
        · rw [e]; intro x hx; have := List.all_takeWhile (p := dig) (l := c :: r); rw [List.all_eq_true] at this; exact this x hx
        · rw [hl, run_cons, if_pos hd]; omega
        · rcases Nat.lt_or_ge 1 (run dig (c :: r)) with h3 | h3
          · right
            intro h4
            rw [List.getElem_take]
            exact fun e => h1 ⟨e, h3⟩
          · left; rw [hl]; have := run_cons dig c r; rw [if_pos hd] at this; omega
  · simp only [if_neg hd] at h ⊢
    by_cases hl : ltr c = true
    · simp only [if_pos hl] at h ⊢
      by_cases h2 : 16 < run aln (c :: r)
      · rw [if_pos h2] at h; cases h
      · simp only [if_neg h2] at h ⊢
        refine ⟨by rw [List.length_take]; omega, fun e => ?_⟩
        split at e <;> cases e
    · simp only [if_neg hl] at h ⊢
      by_cases h2 : 0 < signLen (c :: r)
      · simp only [if_pos h2] at h ⊢
        refine ⟨?_, fun e => by cases e⟩
        rw [List.length_take]
        have : signLen (c :: r) ≤ 2 := by
          unfold signLen
          split
          · omega
          · split <;> omega
          · split
            · omega
            · split <;> omega
        omega
      · rw [if_neg h2] at h; cases h
theorem tokOk_bl : ∀ (p : Nat) (r : Bytes), TokOk (lexBl p r).1 := by
  refine lexBl_ind (P := fun p r => TokOk (lexBl p r).1) ?_ ?_ ?_ ?_
  · intro p t ht; rw [lexBl_nil] at ht; simp at ht
  · intro p c r hb ih t ht
    rw [lexBl_blank _ _ _ hb] at ht
    exact ih t ht
  · intro p c r hb hn t ht
    rw [lexBl_non _ _ _ hb, lexA_err _ _ (by simp) hn] at ht; simp at ht
  · intro p c r hb hn ih t ht
    rw [lexBl_non _ _ _ hb, lexA_ok' _ _ (by simp) hn] at ht
    rcases List.mem_cons.1 ht with rfl | ht
    · exact next_ok2 c r hn p
    · exact ih t ht
theorem lex_long (s : Bytes) (h : 4000 < s.length) : lex s = ([], 4000, 8) := by unfold lex; rw [if_pos h]
theorem tokOk_lex (s : Bytes) : TokOk (lex s).1 := by
  rcases Nat.lt_or_ge 4000 s.length with h | h
  · rw [lex_long s h]; intro t ht; cases ht
  · rw [lex_small s h]
    split
    · exact tokOk_bl 0 s
    · intro t ht; cases ht
theorem bl_pos : ∀ (p : Nat) (r : Bytes), (lexBl p r).1.length ≤ r.length ∧ ∀ t ∈ (lexBl p r).1, t.pos ≤ p + r.length := by
  refine lexBl_ind (P := fun p r => (lexBl p r).1.length ≤ r.length ∧ ∀ t ∈ (lexBl p r).1, t.pos ≤ p + r.length) ?_ ?_ ?_ ?_
  · intro p; rw [lexBl_nil]; exact ⟨Nat.le_refl _, fun t ht => by cases ht⟩
  · intro p c r hb ih
    rw [lexBl_blank _ _ _ hb]
    refine ⟨Nat.le_succ_of_le ih.1, fun t ht => ?_⟩
    have := ih.2 t ht
    simp only [List.length_cons]; omega
  · intro p c r hb hn
    rw [lexBl_non _ _ _ hb, lexA_err _ _ (by simp) hn]
    exact ⟨Nat.zero_le _, fun t ht => by cases ht⟩
  · intro p c r hb hn ih
    rw [lexBl_non _ _ _ hb, lexA_ok' _ _ (by simp) hn]
    obtain ⟨h1, h2, _⟩ := next_ok _ hn
    have h3 := ih.1
    rw [List.length_drop] at h3
    refine ⟨by simp only [List.length_cons] at *; omega, fun t ht => ?_⟩
    rcases List.mem_cons.1 ht with rfl | ht
    · exact Nat.le_add_right _ _
    · have := ih.2 t ht
      rw [List.length_drop] at this
      omega
theorem lex_pos (s : Bytes) (h0 : (lex s).2.2 = 0) : ((lex s).1.length ≤ s.length ∧ s.length ≤ 4000) ∧ ∀ t ∈ (lex s).1, t.pos ≤ 4000 := by
  rcases Nat.lt_or_ge 4000 s.length with h | h
  · rw [lex_long s h] at h0; cases h0
  · have h1 := bl_pos 0 s
    rw [lex_small s h]
    split
    · exact ⟨⟨h1.1, h⟩, fun t ht => by have := h1.2 t ht; omega⟩
    · exact ⟨⟨Nat.zero_le _, h⟩, fun t ht => by cases ht⟩
/-! ### formula -/
def fm : Option PV → Option PV
  | some (.fo f) => some (.fo f)
  | _ => none
set_option maxRecDepth 100000 in
theorem formula_any (C : Cx) (htok : TokOk C.T) (s : PS) (r : Option PV) (s' : PS) (hB : Big C.T (.iff false) s r s') (hg : Gd s) (w : World) (h : C.At s w) :
    Calls Tryz.prog 14 #[C.p] w (FPost C (fm r) s' w) := by
  have HI := Lib.hid (call_any C htok _ s _ _ hB hg (notEncl (by simp)) w h)
  obtain ⟨Cb, Cpb, Cmb, CT, CA, Cn, Cc⟩ := C
  clear h hg hB htok
  match r, HI with
  | none, HI =>
    go_enter Tryz.func14, Tryz.ntmps14
    go_wp2_with fail
    refine HI.out.mono ?_
    rintro e w1 ⟨v, rfl, hov, hP, hO⟩
    have HE := Lib.hid (show FPost ⟨Cb, Cpb, Cmb, CT, CA, Cn, Cc⟩ none s' w (.returned (.tuple #[.nilIface, .bool false])) w1 from ⟨_, rfl, rfl, hP, hO⟩)
    clear hP hO
    go_wp2
    go_ret2
    exact HE.out
  | some (.fo f), HI =>
    go_enter Tryz.func14, Tryz.ntmps14
    go_wp2_with fail
    refine HI.out.mono ?_
    rintro e w1 ⟨u, z, rfl, hv, hP, hO⟩
    obtain ⟨u', z', ee, hyF⟩ := PVAt.isF hv
    injection ee with e1 e2
    obtain rfl := e1
    obtain rfl := e2
    have HE := Lib.hid (show FPost ⟨Cb, Cpb, Cmb, CT, CA, Cn, Cc⟩ (some (.fo f)) s' w (.returned (.tuple #[.iface u z, .bool true])) w1 from ⟨_, _, rfl, hv, hP, hO⟩)
    clear hP hO hv
    go_wp2
    go_ret2
    exact HE.out
  | some (.tm t), HI =>
    go_enter Tryz.func14, Tryz.ntmps14
    go_wp2_with fail
    refine HI.out.mono ?_
    rintro e w1 ⟨u, z, rfl, hv, hP, hO⟩
    obtain ⟨u', z', ee, hyF, hyT⟩ := PVAt.isT hv
    injection ee with e1 e2
    obtain rfl := e1
    obtain rfl := e2
    have HE := Lib.hid (show FPost ⟨Cb, Cpb, Cmb, CT, CA, Cn, Cc⟩ none s' w (.returned (.tuple #[.nilIface, .bool false])) w1 from ⟨_, rfl, rfl, hP, hO⟩)
    clear hP hO hv
    go_wp2
    go_ret2
    exact HE.out
/-! ### Parse -/
def s0 : PS := ⟨0, 0, 0, [], false, 0⟩
/-- what a parse gives: the value, the offset, the error -/
def ParseR (c : PC) (g : Option PV → Option PV) (s : Bytes) (r : Option PV) (p e : Nat) : Prop :=
  if (lex s).2.2 ≠ 0 then r = none ∧ p = (lex s).2.1 ∧ e = (lex s).2.2
  else ∃ r0 s', Big (lex s).1 c s0 r0 s' ∧ (p, e) = verd (lex s).1 (g r0).isSome s.length s' ∧ r = if e = 0 then g r0 else none
theorem parse_ends (c : PC) (hc : c ≠ .encl) (g : Option PV → Option PV) (s : Bytes) : ∃ r p e, ParseR c g s r p e := by
  unfold ParseR
  split
  · exact ⟨_, _, _, rfl, rfl, rfl⟩
  · obtain ⟨r, s', h⟩ := total (lex s).1 c s0 (notEncl hc)
    exact ⟨_, _, _, r, s', h, rfl, rfl⟩
theorem below_owns {B : Nat} {F : Nat → Prop} {w w' : World} (h : Owns w w' F F) (hF : ∀ k, F k → B ≤ k) (hB : B ≤ w.heap.size) : Below B w w' := ⟨h.os, h.tape, h.output, h.size, fun k hk => h.same k (Nat.lt_of_lt_of_le hk hB) (fun e => absurd (hF k e) (by omega))⟩
theorem PVAt.all {w : World} {pb mb : Nat} {x : PV} {v : Value} (h : PVAt w (Gp pb mb w) x v) : PVAt w (fun k => k < w.heap.size) x v := by
  cases x with
  | tm t => exact ⟨TmAt.more (fun b hb => hb.1) _ _ h.1, h.2⟩
  | fo f => exact ⟨FoAt.more (fun b hb => hb.1) _ _ h.1, h.2⟩
theorem PVAt.below2 {w w' : World} {x : PV} {v : Value} (h : PVAt w (fun k => k < w.heap.size) x v) (hb : Below w.heap.size w w') : PVAt w' (fun k => k < w'.heap.size) x v := by
  cases x with
  | tm t => exact ⟨TmAt.more (fun b h1 => Nat.lt_of_lt_of_le h1 hb.size) _ _ (h.1.below (fun b h1 => h1) hb), h.2⟩
  | fo f => exact ⟨FoAt.more (fun b h1 => Nat.lt_of_lt_of_le h1 hb.size) _ _ (h.1.below (fun b h1 => h1) hb), h.2⟩
def ParsePost (r : Option PV) (p e : Nat) (w : World) (en : Ending) (w' : World) : Prop :=
  (match r with
  | none => en = .returned (.tuple #[.nilIface, .int .i64 p, .int .i64 e])
  | some x => ∃ u z, en = .returned (.tuple #[.iface u z, .int .i64 p, .int .i64 e]) ∧ PVAt w' (fun k => k < w'.heap.size) x (.iface u z)) ∧ Below w.heap.size w w'
set_option maxRecDepth 100000 in
set_option maxHeartbeats 4000000 in
theorem Parse_walk (s : ByteArray) (r : Option PV) (p e : Nat) (hR : ParseR (.iff false) fm s.data.toList r p e) (hs : s.size ≤ 140737488351232) (w : World) :
    Calls Tryz.prog 6 #[.string s] w (ParsePost r p e w) := by
  have hmm := @run_makeMap Tryz.prog
  unfold ParseR at hR
  have HL := Lib.hid (lex_any s w hs)
  rcases hlx : lex s.data.toList with ⟨toks, q, er⟩
  rw [hlx] at hR
  by_cases he : er = 0
  case neg =>
    rw [if_pos he] at hR
    obtain ⟨rfl, rfl, rfl⟩ := hR
    have hene : ((e : Int) == 0) = false := by rw [beq_eq_false_iff_ne]; omega
    have HX := Lib.hid hlx
    clear hlx he
    go_enter Tryz.func6, Tryz.ntmps6
    go_wp2_with fail
    refine HL.out.mono ?_
    rintro e w' ⟨v, toks', p', er', rfl, hlex, hown, hbel⟩
    rw [HX.out] at hlex
    injection hlex with g1 g2
    injection g2 with g2 g3
    subst g1 g2 g3
    have hov : v.oneCell' = true := by obtain ⟨A, c, rfl⟩ := (Sl.of_own hown).form; rfl
    have HB := Lib.hid hbel
    clear hown hbel
    go_wp2
    go_ret3
    exact ⟨rfl, HB.out⟩
  case pos =>
    subst he
    rw [if_neg (by simp)] at hR
    obtain ⟨r0, s', hB, hv, hr⟩ := hR
    have htok := tokOk_lex s.data.toList
    have hpos := lex_pos s.data.toList (by rw [hlx])
    rw [hlx] at htok hpos
    dsimp only at htok hpos
    have HX := Lib.hid hlx
    have HV := Lib.hid hv
    have HR := Lib.hid hr
    have HBg := Lib.hid hB
    have HTO := Lib.hid htok
    have HPO := Lib.hid hpos
    clear hlx hv hr hB htok hpos
    go_enter Tryz.func6, Tryz.ntmps6
    go_wp2_with fail
    refine HL.out.mono ?_
    rintro en w1 ⟨v, toks', p', er', rfl, hlex, hown, hbel⟩
    rw [HX.out] at hlex
    injection hlex with g1 g2
    injection g2 with g2 g3
    subst g1 g2 g3
    have hS := Sl.of_own hown
    obtain ⟨A, c, rfl⟩ := hS.form
    have HB := Lib.hid hbel
    have HS := Lib.hid hS
    clear hown hbel hS
    obtain ⟨W, hWW⟩ : ∃ W, (w1.alloc (.map #[] 0)).alloc (.cells #[.slice A toks.length c, .int .i64 0, .int .i64 0, .int .i64 0, .map (some w1.heap.size), .bool false, .int .i64 0] tPa) = W := ⟨_, rfl⟩
    have hbW : Below w1.heap.size w1 W := by
      rw [← hWW]
      exact ((Below.refl _ w1).alloc (Nat.le_refl _) _).alloc (by simp) _
    have hP : PAt w1.heap.size (w1.heap.size + 1) w1.heap.size toks A toks.length c s0 W :=
      { ne := by omega, bp := Nat.le_succ _, bm := Nat.le_refl _, hn := rfl, len := Nat.le_trans HPO.out.1.1 HPO.out.1.2, next := Nat.zero_le _, depth := Nat.zero_le _, rels := Nat.zero_le _, nms := Nat.zero_le _, small := HPO.out.2
        box := by
          rw [← hWW]
          have h := heap_alloc_new (w1.alloc (.map #[] 0)) (.cells #[.slice A toks.length c, .int .i64 0, .int .i64 0, .int .i64 0, .map (some w1.heap.size), .bool false, .int .i64 0] tPa)
          have e : (w1.alloc (.map #[] 0)).heap.size = w1.heap.size + 1 := by simp
          rw [e] at h
          exact h
        map := by
          refine (MapB.made w1).keep ?_
          rw [← hWW, Below.heap_alloc _ _ _ (by simp)]
        toks := HS.out.keep (fun p hp => hbW.cell hp) }
    have hFF := (formula_any ⟨w1.heap.size, w1.heap.size + 1, w1.heap.size, toks, A, toks.length, c⟩ HTO.out s0 r0 s' HBg.out ⟨Nat.le_refl _, Nat.le_refl _, Nat.le_refl _⟩ W hP)
    obtain ⟨X, hX⟩ : ∃ X, X = fm r0 := ⟨_, rfl⟩
    rw [← hX] at hFF HV HR
    have HF := Lib.hid hFF
    clear hFF hX
    have HB1 := Lib.hid (HB.out.trans (hbW.mono HB.out.size))
    have HPT := Lib.hid (show w1.heap.size + 1 < W.heap.size from hP.lt)
    clear hP hbW
    have HBO := Lib.hid (fun w2 (h : Owns W w2 (Fp (w1.heap.size + 1) w1.heap.size) (Fp (w1.heap.size + 1) w1.heap.size)) => HB1.out.trans (below_owns h (B := w.heap.size) (fun k hk => by have h5 := HB.out.size; rcases (show k = w1.heap.size + 1 ∨ k = w1.heap.size from hk) with e | e <;> omega) (HB1.out.size)))
    go_wp2_with fail
    refine HF.out.mono ?_
    intro en w2 hF
    clear hWW
    cases X with
    | none =>
      obtain ⟨v2, rfl, hov2, hP2, hO2⟩ := hF
      have hVd := verdict_any _ _ _ _ _ _ _ s' false s.size w2 hP2
      have hv := HV.out
      have he6 : e = 6 := by
        have h7 : e = (verd toks false s.size s').2 := by have := congrArg Prod.snd hv; exact this
        rw [h7]; unfold verd; split <;> rfl
      rw [show verd toks false s.size s' = (p, e) from hv.symm] at hVd
      obtain rfl : r = none := by have h8 := HR.out; rw [if_neg (by rw [he6]; decide)] at h8; exact h8
      subst he6
      have HVd := Lib.hid hVd
      have HB3 := Lib.hid (HBO.out w2 hO2)
      clear hP2 hO2 hv hVd
      go_wp2_with fail
      refine HVd.out.mono ?_
      rintro en w3 ⟨rfl, hb3⟩
      have HE := Lib.hid (show ParsePost none p 6 w (.returned (.tuple #[.nilIface, .int .i64 p, .int .i64 ((6 : Nat) : Int)])) w3 from ⟨rfl, HB3.out.trans (hb3.mono HB3.out.size)⟩)
      clear hb3
      go_wp2
      go_ret3
      exact HE.out
    | some x =>
      obtain ⟨u, z, rfl, hvx, hP2, hO2⟩ := hF
      have hVd := verdict_any _ _ _ _ _ _ _ s' true s.size w2 hP2
      have hv := HV.out
      rw [show verd toks true s.size s' = (p, e) from hv.symm] at hVd
      have HVd := Lib.hid hVd
      have HB3 := Lib.hid (HBO.out w2 hO2)
      have HVX := Lib.hid hvx
      by_cases he : e = 0
      case pos =>
        have hp0 : p = 0 := by
          have h7 : e = (verd toks true s.size s').2 := congrArg Prod.snd hv
          have h8 : p = (verd toks true s.size s').1 := congrArg Prod.fst hv
          rw [h8]; rw [he] at h7
          unfold verd at h7 ⊢
          split at h7
          · cases h7
          · split at h7
            · cases h7
            · split at h7
              · cases h7
              · rename_i a b c; rw [if_neg a, if_neg b, if_neg c]
        obtain rfl : r = some x := by have h8 := HR.out; rw [if_pos he] at h8; exact h8
        subst he hp0
        clear hP2 hO2 hv hVd hvx
        go_wp2_with fail
        refine HVd.out.mono ?_
        rintro en w3 ⟨rfl, hb3⟩
        have HE := Lib.hid (show ParsePost (some x) 0 0 w (.returned (.tuple #[.iface u z, .int .i64 0, .int .i64 0])) w3 from ⟨⟨u, z, rfl, (HVX.out.all).below2 hb3⟩, HB3.out.trans (hb3.mono HB3.out.size)⟩)
        clear hb3
        go_wp2
        go_ret3
        exact HE.out
      case neg =>
        have hene : ((e : Int) == 0) = false := by rw [beq_eq_false_iff_ne]; omega
        obtain rfl : r = none := by have h8 := HR.out; rw [if_neg he] at h8; exact h8
        clear hP2 hO2 hv hVd hvx he
        go_wp2_with fail
        refine HVd.out.mono ?_
        rintro en w3 ⟨rfl, hb3⟩
        have HE := Lib.hid (show ParsePost none p e w (.returned (.tuple #[.nilIface, .int .i64 p, .int .i64 e])) w3 from ⟨rfl, HB3.out.trans (hb3.mono HB3.out.size)⟩)
        clear hb3
        go_wp2
        go_ret3
        exact HE.out
end Pa
end Go.Proofs.YteneobpacobpdaaGreatDoor

/-
  The parser: Term.
-/
namespace Go.Proofs.YteneobpacobpdaaGreatDoor
open Go.RowKit
set_option linter.unusedSimpArgs false
set_option linter.unusedVariables false
namespace Pa
open Lx Fm Dc
attribute [local go_sem] run_store fieldTok0 fieldTok2
end Pa
end Go.Proofs.YteneobpacobpdaaGreatDoor
