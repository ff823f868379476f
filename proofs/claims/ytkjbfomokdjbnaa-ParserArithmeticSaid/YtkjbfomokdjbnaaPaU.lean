/-
  The parser: every call keeps its contract; every call ends.
-/
import Derived.Test.YtkjbfomokdjbnaaPaI
import Derived.Test.YtkjbfomokdjbnaaPaM
import Derived.Test.YtkjbfomokdjbnaaPaN
import Derived.Test.YtkjbfomokdjbnaaPaT
namespace Go.Proofs.Ytkjbfomokdjbnaa
open Go.RowKit
set_option linter.unusedSimpArgs false
set_option linter.unusedVariables false
namespace Pa
open Lx Fm Dc

theorem all_any (C : Cx) (htok : TokOk C.T) : ∀ M, IH C M := by
  intro M
  induction M with
  | zero => intro c s h; exact absurd h (Nat.not_lt_zero _)
  | succ M ih =>
    intro c s hm r s' hB hg hok w h
    have ih' : IH C (mea C.T c s) := fun c2 s2 h2 => ih c2 s2 (by omega)
    cases c with
    | iff b => exact iff_walk C b s r s' hB hg ih' w h
    | imp b => exact implies_walk C b s r s' hB hg htok ih' w h
    | or b => exact or_walk C b s r s' hB hg ih' w h
    | and b => exact and_walk C b s r s' hB hg ih' w h
    | un b => exact unary_walk C b s r s' hB hg htok ih' w h
    | qu a => exact quant_walk C a s r s' hB hg htok ih' w h
    | atom b => exact atom_walk C b s r s' hB hg htok ih' w h
    | encl => exact enclosed_walk C s r s' hB hg hok htok ih' w h
    | term q => exact fun v hq => term_walk C q v s r s' hB hg ih' w h hq
    | prod q => exact fun v hq => product_walk C q v s r s' hB hg ih' w h hq
    | fac q => exact fun v hq => factor_walk C q v s r s' hB hg htok ih' w h hq
    | pow q => exact fun v hq => power_walk C q v s r s' hB hg htok ih' w h hq
    | prim => exact primary_walk C s r s' hB hg htok ih' w h
    | iffL x => trivial
    | orL x => trivial
    | andL x => trivial
    | atomT b q => trivial
    | termL x => trivial
    | prodL x => trivial
    | powT x => trivial
theorem call_any (C : Cx) (htok : TokOk C.T) (c : PC) (s : PS) : CP C c s := all_any C htok _ c s (Nat.lt_succ_self _)

/-! ### every call ends -/
theorem mea_le {T : List Tok} {c d : PC} {s s1 : PS} (h : s.next ≤ s1.next) (hl : lvl c < lvl d) : mea T c s1 < mea T d s := by unfold mea; omega
theorem total_lt (T : List Tok) : ∀ (M : Nat) (c : PC) (s : PS), mea T c s < M → Ok T c s → ∃ r s', Big T c s r s' := by
  intro M
  induction M with
  | zero => intro c s h; exact absurd h (Nat.not_lt_zero _)
  | succ M ih =>
    intro c s hm hok
    have call : ∀ c2 s2, c2 ≠ .encl → mea T c2 s2 < mea T c s → ∃ r s', Big T c2 s2 r s' := fun c2 s2 hne h2 => ih c2 s2 (by omega) (notEncl hne)
    cases c with
    | iff b =>
      obtain ⟨r, s1, h1⟩ := call (.imp b) s (by simp) (mea_same (by simp [lvl]))
      rcases r with _ | x
      · exact ⟨_, _, .iff_no h1⟩
      · obtain ⟨r2, s2, h2⟩ := call (.iffL x) s1 (by simp) (mea_le h1.mono (by simp [lvl]))
        exact ⟨_, _, .iff_go h1 h2⟩
    | iffL x =>
      rcases hs : sees T s wIff with _ | _
      · exact ⟨_, _, .iffL_end hs⟩
      · have hlt : s.next < T.length := sees_lt hs
        obtain ⟨r, s1, h1⟩ := call (.imp false) (adv s) (by simp) (mea_adv (Nat.lt_succ_self _) hlt)
        rcases r with _ | y
        · exact ⟨_, _, .iffL_bad hs h1⟩
        · obtain ⟨r2, s2, h2⟩ := call (.iffL (.fo (.iff (asF x) (asF y)))) s1 (by simp) (mea_adv h1.mono hlt)
          exact ⟨_, _, .iffL_go hs h1 h2⟩
    | imp b =>
      obtain ⟨r, s1, h1⟩ := call (.or b) s (by simp) (mea_same (by simp [lvl]))
      rcases r with _ | x
      · exact ⟨_, _, .imp_no h1⟩
      · rcases hs : sees T s1 wImplies with _ | _
        · exact ⟨_, _, .imp_one h1 hs⟩
        · obtain ⟨r2, s2, h2⟩ := call (.imp false) (adv s1) (by simp) (mea_adv (Nat.lt_succ_of_le h1.mono) (Nat.lt_of_le_of_lt h1.mono (sees_lt hs)))
          rcases r2 with _ | y
          · exact ⟨_, _, .imp_bad h1 hs h2⟩
          · exact ⟨_, _, .imp_two h1 hs h2⟩
    | or b =>
      obtain ⟨r, s1, h1⟩ := call (.and b) s (by simp) (mea_same (by simp [lvl]))
      rcases r with _ | x
      · exact ⟨_, _, .or_no h1⟩
      · obtain ⟨r2, s2, h2⟩ := call (.orL x) s1 (by simp) (mea_le h1.mono (by simp [lvl]))
        exact ⟨_, _, .or_go h1 h2⟩
    | orL x =>
      rcases hs : sees T s wOr with _ | _
      · exact ⟨_, _, .orL_end hs⟩
      · have hlt : s.next < T.length := sees_lt hs
        obtain ⟨r, s1, h1⟩ := call (.and false) (adv s) (by simp) (mea_adv (Nat.lt_succ_self _) hlt)
        rcases r with _ | y
        · exact ⟨_, _, .orL_bad hs h1⟩
        · obtain ⟨r2, s2, h2⟩ := call (.orL (.fo (.or (asF x) (asF y)))) s1 (by simp) (mea_adv h1.mono hlt)
          exact ⟨_, _, .orL_go hs h1 h2⟩
    | and b =>
      obtain ⟨r, s1, h1⟩ := call (.un b) s (by simp) (mea_same (by simp [lvl]))
      rcases r with _ | x
      · exact ⟨_, _, .and_no h1⟩
      · obtain ⟨r2, s2, h2⟩ := call (.andL x) s1 (by simp) (mea_le h1.mono (by simp [lvl]))
        exact ⟨_, _, .and_go h1 h2⟩
    | andL x =>
      rcases hs : sees T s wAnd with _ | _
      · exact ⟨_, _, .andL_end hs⟩
      · have hlt : s.next < T.length := sees_lt hs
        obtain ⟨r, s1, h1⟩ := call (.un false) (adv s) (by simp) (mea_adv (Nat.lt_succ_self _) hlt)
        rcases r with _ | y
        · exact ⟨_, _, .andL_bad hs h1⟩
        · obtain ⟨r2, s2, h2⟩ := call (.andL (.fo (.and (asF x) (asF y)))) s1 (by simp) (mea_adv h1.mono hlt)
          exact ⟨_, _, .andL_go hs h1 h2⟩
    | un b =>
      rcases a0 : sees T s wNot with _ | _
      · rcases a1 : sees T s wForall with _ | _
        · rcases a2 : sees T s wExists with _ | _
          · rcases a3 : sees T s wTrue with _ | _
            · rcases a4 : sees T s wFalse with _ | _
              · obtain ⟨r, s1, h1⟩ := call (.atom b) s (by simp) (mea_same (by simp [lvl]))
                exact ⟨_, _, .un_atom a0 a1 a2 a3 a4 h1⟩
              · exact ⟨_, _, .un_false a0 a1 a2 a3 a4⟩
            · exact ⟨_, _, .un_true a0 a1 a2 a3⟩
          · obtain ⟨r, s1, h1⟩ := call (.qu false) (adv s) (by simp) (mea_adv (Nat.lt_succ_self _) (sees_lt a2))
            exact ⟨_, _, .un_ex a0 a1 a2 h1⟩
        · obtain ⟨r, s1, h1⟩ := call (.qu true) (adv s) (by simp) (mea_adv (Nat.lt_succ_self _) (sees_lt a1))
          exact ⟨_, _, .un_all a0 a1 h1⟩
      · obtain ⟨r, s1, h1⟩ := call (.un false) (opn T s) (by simp) (mea_adv (by rw [opn_next]; exact Nat.lt_succ_self _) (sees_lt a0))
        rcases r with _ | x
        · exact ⟨_, _, .un_not_no a0 h1⟩
        · exact ⟨_, _, .un_not a0 h1⟩
    | qu a =>
      by_cases hk : (pk T s).kind = 2
      · have hlt : s.next < T.length := pk_lt (by rw [hk]; decide)
        have hn : s.next < (adv (nam T (inc T s))).next := by rw [adv_next, nam_next, inc_next]; omega
        rcases hc : sees T (nam T (inc T s)) cComma with _ | _
        · rcases hd : sees T (nam T (inc T s)) cDot with _ | _
          · exact ⟨_, _, .qu_bad hk hc hd⟩
          · obtain ⟨r, s1, h1⟩ := call (.iff false) (adv (nam T (inc T s))) (by simp) (mea_adv hn hlt)
            rcases r with _ | x
            · exact ⟨_, _, .qu_dot_no hk hc hd h1⟩
            · exact ⟨_, _, .qu_dot hk hc hd h1⟩
        · obtain ⟨r, s1, h1⟩ := call (.qu a) (adv (nam T (inc T s))) (by simp) (mea_adv hn hlt)
          rcases r with _ | x
          · exact ⟨_, _, .qu_comma_no hk hc h1⟩
          · exact ⟨_, _, .qu_comma hk hc h1⟩
      · exact ⟨_, _, .qu_no hk⟩
    | atom b =>
      rcases hs : sees T s cOpen with _ | _
      · obtain ⟨r, s1, h1⟩ := call (.atomT b none) s (by simp) (mea_same (by simp [lvl]))
        exact ⟨_, _, .at_go hs h1⟩
      · obtain ⟨r, s1, h1⟩ := ih .encl s (by have : mea T .encl s < mea T (.atom b) s := mea_same (by simp [lvl]); omega) (fun _ => hs)
        rcases r with _ | (t | f)
        · exact ⟨_, _, .at_no hs h1⟩
        · obtain ⟨r2, s2, h2⟩ := call (.atomT b (some t)) s1 (by simp) (mea_le h1.mono (by simp [lvl]))
          exact ⟨_, _, .at_par hs h1 h2⟩
        · exact ⟨_, _, .at_fo hs h1⟩
    | atomT b q =>
      obtain ⟨r, s1, h1⟩ := call (.term q) s (by simp) (mea_same (by simp [lvl]))
      rcases h1.term rfl with rfl | ⟨l, rfl⟩
      · exact ⟨_, _, .atT_no h1⟩
      · by_cases hr : relOf (pk T s1) = 0
        · rcases hb : (b && sees T s1 cShut) with _ | _
          · exact ⟨_, _, .atT_none h1 hr hb⟩
          · exact ⟨_, _, .atT_bare h1 hr hb⟩
        · obtain ⟨r2, s2, h2⟩ := call (.term none) (relS T s1) (by simp) (mea_adv (by rw [relS_next]; exact Nat.lt_succ_of_le h1.mono) (Nat.lt_of_le_of_lt h1.mono (relOf_lt hr)))
          rcases h2.term rfl with rfl | ⟨m, rfl⟩
          · exact ⟨_, _, .atT_bad h1 hr h2⟩
          · exact ⟨_, _, .atT_ok h1 hr h2⟩
    | encl =>
      obtain ⟨r, s1, h1⟩ := call (.iff true) (opn T s) (by simp) (mea_adv (by rw [opn_next]; exact Nat.lt_succ_self _) (sees_lt (hok rfl)))
      rcases r with _ | x
      · exact ⟨_, _, .en_no h1⟩
      · rcases hs : sees T (dn s1) cShut with _ | _
        · exact ⟨_, _, .en_bad h1 hs⟩
        · exact ⟨_, _, .en_ok h1 hs⟩
    | term q =>
      obtain ⟨r, s1, h1⟩ := call (.prod q) s (by simp) (mea_same (by simp [lvl]))
      rcases h1.term rfl with rfl | ⟨x, rfl⟩
      · exact ⟨_, _, .te_no h1⟩
      · obtain ⟨r2, s2, h2⟩ := call (.termL x) s1 (by simp) (mea_le h1.mono (by simp [lvl]))
        exact ⟨_, _, .te_go h1 h2⟩
    | termL x =>
      rcases hs : (sees T s cPlus || sees T s cMinus) with _ | _
      · exact ⟨_, _, .teL_end hs⟩
      · have hlt : s.next < T.length := (by simp only [Bool.or_eq_true] at hs; exact hs.elim sees_lt sees_lt)
        obtain ⟨r, s1, h1⟩ := call (.prod none) (adv s) (by simp) (mea_adv (Nat.lt_succ_self _) hlt)
        rcases h1.term rfl with rfl | ⟨y, rfl⟩
        · exact ⟨_, _, .teL_bad hs h1⟩
        · obtain ⟨r2, s2, h2⟩ := call (.termL (sumT (pk T s) x y)) (meas s1 (pk T s) (sumT (pk T s) x y) [x, y]) (by simp) (mea_adv (by rw [meas_next]; exact h1.mono) hlt)
          exact ⟨_, _, .teL_go hs h1 h2⟩
    | prod q =>
      obtain ⟨r, s1, h1⟩ := call (.fac q) s (by simp) (mea_same (by simp [lvl]))
      rcases h1.term rfl with rfl | ⟨x, rfl⟩
      · exact ⟨_, _, .pd_no h1⟩
      · obtain ⟨r2, s2, h2⟩ := call (.prodL x) s1 (by simp) (mea_le h1.mono (by simp [lvl]))
        exact ⟨_, _, .pd_go h1 h2⟩
    | prodL x =>
      rcases hs : sees T s cStar with _ | _
      · exact ⟨_, _, .pdL_end hs⟩
      · have hlt : s.next < T.length := sees_lt hs
        obtain ⟨r, s1, h1⟩ := call (.fac none) (adv s) (by simp) (mea_adv (Nat.lt_succ_self _) hlt)
        rcases h1.term rfl with rfl | ⟨y, rfl⟩
        · exact ⟨_, _, .pdL_bad hs h1⟩
        · obtain ⟨r2, s2, h2⟩ := call (.prodL (.mul x y)) (meas s1 (pk T s) (.mul x y) [x, y]) (by simp) (mea_adv (by rw [meas_next]; exact h1.mono) hlt)
          exact ⟨_, _, .pdL_go hs h1 h2⟩
    | fac q =>
      rcases q with _ | x
      · rcases hs : sees T s cMinus with _ | _
        · obtain ⟨r, s1, h1⟩ := call (.pow none) s (by simp) (mea_same (by simp [lvl]))
          exact ⟨_, _, .fa_pow hs h1⟩
        · obtain ⟨r, s1, h1⟩ := call (.fac none) (opn T s) (by simp) (mea_adv (by rw [opn_next]; exact Nat.lt_succ_self _) (sees_lt hs))
          rcases h1.term rfl with rfl | ⟨t, rfl⟩
          · exact ⟨_, _, .fa_no hs h1⟩
          · exact ⟨_, _, .fa_neg hs h1⟩
      · obtain ⟨r, s1, h1⟩ := call (.pow (some x)) s (by simp) (mea_same (by simp [lvl]))
        exact ⟨_, _, .fa_first h1⟩
    | pow q =>
      rcases q with _ | x
      · obtain ⟨r, s1, h1⟩ := call .prim s (by simp) (mea_same (by simp [lvl]))
        rcases h1.term rfl with rfl | ⟨t, rfl⟩
        · exact ⟨_, _, .po_no h1⟩
        · obtain ⟨r2, s2, h2⟩ := call (.powT t) s1 (by simp) (mea_le h1.mono (by simp [lvl]))
          exact ⟨_, _, .po_go h1 h2⟩
      · obtain ⟨r2, s2, h2⟩ := call (.powT x) s (by simp) (mea_same (by simp [lvl]))
        exact ⟨_, _, .po_first h2⟩
    | powT x =>
      rcases hs : sees T s cHat with _ | _
      · exact ⟨_, _, .pT_end hs⟩
      · by_cases hk : (pk T (adv s)).kind = 1
        · exact ⟨_, _, .pT_ok hs hk⟩
        · exact ⟨_, _, .pT_bad hs hk⟩
    | prim =>
      by_cases k1 : (pk T s).kind = 1
      · exact ⟨_, _, .pr_num k1⟩
      · by_cases k2 : (pk T s).kind = 2
        · exact ⟨_, _, .pr_name k2⟩
        · rcases hs : sees T s cOpen with _ | _
          · exact ⟨_, _, .pr_none k1 k2 hs⟩
          · obtain ⟨r, s1, h1⟩ := call (.term none) (opn T s) (by simp) (mea_adv (by rw [opn_next]; exact Nat.lt_succ_self _) (sees_lt hs))
            rcases h1.term rfl with rfl | ⟨t, rfl⟩
            · exact ⟨_, _, .pr_no hs h1⟩
            · rcases hq : sees T (dn s1) cShut with _ | _
              · exact ⟨_, _, .pr_bad hs h1 hq⟩
              · exact ⟨_, _, .pr_ok hs h1 hq⟩
theorem total (T : List Tok) (c : PC) (s : PS) (h : Ok T c s) : ∃ r s', Big T c s r s' := total_lt T _ c s (Nat.lt_succ_self _) h
end Pa
end Go.Proofs.Ytkjbfomokdjbnaa
