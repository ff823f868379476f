/-
  How many parentheses a parse takes, and how many are printed: in plain Lean.
-/
import Derived.Test.YtkjbfomokdjbnaaGreatDoorRdC
namespace Go.Proofs.YtkjbfomokdjbnaaGreatDoor
open Go.RowKit
set_option linter.unusedSimpArgs false
set_option linter.unusedVariables false
namespace Rd
open Lx Fm Dc Pr Pa
def np : Tm → Nat
  | .add l r => (np l + if sT l < 1 then 1 else 0) + (np r + if sT r < 2 then 1 else 0)
  | .sub l r => (np l + if sT l < 1 then 1 else 0) + (np r + if sT r < 2 then 1 else 0)
  | .mul l r => (np l + if sT l < 2 then 1 else 0) + (np r + if sT r < 3 then 1 else 0)
  | .neg t => np t + if sT t < 3 then 1 else 0
  | .pow t _ => np t + if sT t < 5 then 1 else 0
  | _ => 0
/-- how many parentheses a term takes where a strength is required -/
def pp (k : Nat) (t : Tm) : Nat := np t + if sT t < k then 1 else 0
theorem pp_le (t : Tm) (j k : Nat) (h : j ≤ k) : pp j t ≤ pp k t := by
  unfold pp
  split
  · rw [if_pos (by omega)]; exact Nat.le_refl _
  · omega
theorem pp_one (t : Tm) (k : Nat) : pp k t ≤ pp 1 t + 1 := by
  unfold pp
  split <;> omega
theorem pp_sum (k : Tok) (x y : Tm) : pp 1 (sumT k x y) = pp 1 x + pp 2 y := by
  unfold sumT
  split
  · simp [pp, sT, np]
  · simp [pp, sT, np]
theorem pp_mul (x y : Tm) : pp 2 (.mul x y) = pp 2 x + pp 3 y := by
  simp [pp, sT, np]
theorem pp_neg (x : Tm) : pp 3 (.neg x) = pp 3 x := by
  simp [pp, sT, np]
theorem pp_pow (x : Tm) (e : Int) : pp 4 (.pow x e) = pp 5 x := by
  simp [pp, sT, np]
def cnt (T : List Tok) (s : PS) : Nat := ((T.drop s.next).filter (fun t => t.text == cOpen)).length
theorem cnt_same {T : List Tok} {s s1 : PS} (h : s1.next = s.next) : cnt T s1 = cnt T s := by unfold cnt; rw [h]
theorem cnt_adv (T : List Tok) (s : PS) : cnt T (adv s) ≤ cnt T s := by
  unfold cnt adv
  dsimp only
  rcases Nat.lt_or_ge s.next T.length with h | h
  · rw [List.drop_eq_getElem_cons h, List.filter_cons]
    split
    · simp
    · exact Nat.le_refl _
  · rw [List.drop_eq_nil_iff.2 h, List.drop_eq_nil_iff.2 (by omega)]
    exact Nat.le_refl _
theorem cnt_open {T : List Tok} {s : PS} (h : sees T s cOpen = true) : cnt T s = cnt T (adv s) + 1 := by
  have hlt := sees_lt h
  have ht := (sees_kind h).2
  have e : pk T s = T[s.next] := by unfold pk; rw [List.getElem?_eq_getElem hlt]; rfl
  rw [e] at ht
  unfold cnt adv
  dsimp only
  rw [List.drop_eq_getElem_cons hlt, List.filter_cons, ht, if_pos (by decide)]
  rfl
theorem cnt_opn (T : List Tok) (s : PS) : cnt T (opn T s) ≤ cnt T s := by rw [cnt_same (s := adv s) (opn_next _ _)]; exact cnt_adv T s
def bN : PC → Nat
  | .termL x => pp 1 x
  | .prodL x => pp 2 x
  | .powT x => pp 5 x
  | .term (some x) => pp 5 x
  | .prod (some x) => pp 5 x
  | .fac (some x) => pp 5 x
  | .pow (some x) => pp 5 x
  | _ => 0
def rN : PC → Tm → Nat
  | .term _, t => pp 1 t
  | .termL _, t => pp 1 t
  | .prod _, t => pp 2 t
  | .prodL _, t => pp 2 t
  | .fac _, t => pp 3 t
  | .pow _, t => pp 4 t
  | .powT _, t => pp 4 t
  | .prim, t => pp 5 t
  | _, _ => 0
theorem Big.parens {T : List Tok} {c : PC} {s s' : PS} {r : Option PV} (h : Big T c s r s') : ∀ z, r = some z → isT c = true → ∀ t, z = .tm t → rN c t + cnt T s' ≤ bN c + cnt T s := by
  induction h with
  | iff_no _ _ => intro z e; cases e
  | iffL_bad _ _ _ => intro z e; cases e
  | imp_no _ _ => intro z e; cases e
  | imp_bad _ _ _ _ _ => intro z e; cases e
  | or_no _ _ => intro z e; cases e
  | orL_bad _ _ _ => intro z e; cases e
  | and_no _ _ => intro z e; cases e
  | andL_bad _ _ _ => intro z e; cases e
  | un_not_no _ _ _ => intro z e; cases e
  | qu_no _ => intro z e; cases e
  | qu_comma_no _ _ _ _ => intro z e; cases e
  | qu_dot_no _ _ _ _ _ => intro z e; cases e
  | qu_bad _ _ _ => intro z e; cases e
  | at_no _ _ _ => intro z e; cases e
  | atT_no _ _ => intro z e; cases e
  | atT_none _ _ _ _ => intro z e; cases e
  | atT_bad _ _ _ _ _ => intro z e; cases e
  | en_no _ _ => intro z e; cases e
  | en_bad _ _ _ => intro z e; cases e
  | te_no _ _ => intro z e; cases e
  | teL_bad _ _ _ => intro z e; cases e
  | pd_no _ _ => intro z e; cases e
  | pdL_bad _ _ _ => intro z e; cases e
  | fa_no _ _ _ => intro z e; cases e
  | po_no _ _ => intro z e; cases e
  | pT_bad _ _ => intro z e; cases e
  | pr_no _ _ _ => intro z e; cases e
  | pr_bad _ _ _ _ => intro z e; cases e
  | pr_none _ _ _ => intro z e; cases e
  | @iff_go b s x s1 r s2 h1 h2 i1 i2 =>
    intro z e
    intro hc; exact absurd hc (by simp [isT])
  | @iffL_end x s h0  =>
    intro z e
    intro hc; exact absurd hc (by simp [isT])
  | @iffL_go x s y s1 r s2 h0 h1 h2 i1 i2 =>
    intro z e
    intro hc; exact absurd hc (by simp [isT])
  | @imp_one b s x s1 h1 h0 i1 =>
    intro z e
    intro hc; exact absurd hc (by simp [isT])
  | @imp_two b s x s1 y s2 h1 h0 h2 i1 i2 =>
    intro z e
    intro hc; exact absurd hc (by simp [isT])
  | @or_go b s x s1 r s2 h1 h2 i1 i2 =>
    intro z e
    intro hc; exact absurd hc (by simp [isT])
  | @orL_end x s h0  =>
    intro z e
    intro hc; exact absurd hc (by simp [isT])
  | @orL_go x s y s1 r s2 h0 h1 h2 i1 i2 =>
    intro z e
    intro hc; exact absurd hc (by simp [isT])
  | @and_go b s x s1 r s2 h1 h2 i1 i2 =>
    intro z e
    intro hc; exact absurd hc (by simp [isT])
  | @andL_end x s h0  =>
    intro z e
    intro hc; exact absurd hc (by simp [isT])
  | @andL_go x s y s1 r s2 h0 h1 h2 i1 i2 =>
    intro z e
    intro hc; exact absurd hc (by simp [isT])
  | @un_not b s x s1 h0 h1 i1 =>
    intro z e
    intro hc; exact absurd hc (by simp [isT])
  | @un_all b s r s1 h0 h1 h2 i1 =>
    intro z e
    intro hc; exact absurd hc (by simp [isT])
  | @un_ex b s r s1 h0 h1 h2 h3 i1 =>
    intro z e
    intro hc; exact absurd hc (by simp [isT])
  | @un_true b s h0 h1 h2 h3  =>
    intro z e
    intro hc; exact absurd hc (by simp [isT])
  | @un_false b s h0 h1 h2 h3 h4  =>
    intro z e
    intro hc; exact absurd hc (by simp [isT])
  | @un_atom b s r s1 h0 h1 h2 h3 h4 h5 i1 =>
    intro z e
    intro hc; exact absurd hc (by simp [isT])
  | @qu_comma a s x s1 h0 h1 h2 i1 =>
    intro z e
    intro hc; exact absurd hc (by simp [isT])
  | @qu_dot a s x s1 h0 h1 h2 h3 i1 =>
    intro z e
    intro hc; exact absurd hc (by simp [isT])
  | @at_fo b s f s1 h0 h1 i1 =>
    intro z e
    intro hc; exact absurd hc (by simp [isT])
  | @at_par b s t s1 r s2 h0 h1 h2 i1 i2 =>
    intro z e
    intro hc; exact absurd hc (by simp [isT])
  | @at_go b s r s2 h0 h1 i1 =>
    intro z e
    intro hc; exact absurd hc (by simp [isT])
  | @atT_bare b q s l s1 h1 h2 h3 i1 =>
    intro z e
    intro hc; exact absurd hc (by simp [isT])
  | @atT_ok b q s l s1 m s2 h1 h2 h3 i1 i2 =>
    intro z e
    intro hc; exact absurd hc (by simp [isT])
  | @en_ok s x s1 h1 h2 i1 =>
    intro z e
    intro hc; exact absurd hc (by simp [isT])
  | @te_go q s x s1 r s2 h1 h2 i1 i2 =>
    intro z e
    intro hc t e2
    have g1 := i1 _ rfl rfl _ rfl
    have g2 := i2 _ e rfl t e2
    have := pp_le x 1 2 (by decide)
    cases q <;> simp only [rN, bN] at g1 g2 ⊢ <;> omega
  | @teL_end x s h0  =>
    intro z e
    cases e; intro hc t e2; cases e2; exact Nat.le_refl _
  | @teL_go x s y s1 r s2 h0 h1 h2 i1 i2 =>
    intro z e
    intro hc t e2
    have g1 := i1 _ rfl rfl _ rfl
    have g2 := i2 _ e rfl t e2
    have k1 := pp_sum (pk T s) x y
    have k2 : cnt T (meas s1 (pk T s) (sumT (pk T s) x y) [x, y]) = cnt T s1 := cnt_same (meas_next _ _ _ _)
    have k3 := cnt_adv T s
    simp only [rN, bN] at g1 g2 ⊢
    omega
  | @pd_go q s x s1 r s2 h1 h2 i1 i2 =>
    intro z e
    intro hc t e2
    have g1 := i1 _ rfl rfl _ rfl
    have g2 := i2 _ e rfl t e2
    have := pp_le x 2 3 (by decide)
    cases q <;> simp only [rN, bN] at g1 g2 ⊢ <;> omega
  | @pdL_end x s h0  =>
    intro z e
    cases e; intro hc t e2; cases e2; exact Nat.le_refl _
  | @pdL_go x s y s1 r s2 h0 h1 h2 i1 i2 =>
    intro z e
    intro hc t e2
    have g1 := i1 _ rfl rfl _ rfl
    have g2 := i2 _ e rfl t e2
    have k1 := pp_mul x y
    have k2 : cnt T (meas s1 (pk T s) (.mul x y) [x, y]) = cnt T s1 := cnt_same (meas_next _ _ _ _)
    have k3 := cnt_adv T s
    simp only [rN, bN] at g1 g2 ⊢
    omega
  | @fa_first x s r s1 h1 i1 =>
    intro z e
    intro hc t e2
    have g1 := i1 _ e rfl t e2
    have := pp_le t 3 4 (by decide)
    simp only [rN, bN] at g1 ⊢
    omega
  | @fa_pow s r s1 h0 h1 i1 =>
    intro z e
    intro hc t e2
    have g1 := i1 _ e rfl t e2
    have := pp_le t 3 4 (by decide)
    simp only [rN, bN] at g1 ⊢
    omega
  | @fa_neg s t s1 h0 h1 i1 =>
    intro z e
    cases e
    intro hc u e2
    cases e2
    have g1 := i1 _ rfl rfl _ rfl
    have k1 := pp_neg t
    have k2 : cnt T (dn s1) = cnt T s1 := cnt_same rfl
    have k3 := cnt_opn T s
    simp only [rN, bN] at g1 ⊢
    omega
  | @po_first x s r s2 h1 i1 =>
    intro z e
    intro hc t e2; exact i1 _ e rfl t e2
  | @po_go s x s1 r s2 h1 h2 i1 i2 =>
    intro z e
    intro hc t e2
    have g1 := i1 _ rfl rfl _ rfl
    have g2 := i2 _ e rfl t e2
    simp only [rN, bN] at g1 g2 ⊢
    omega
  | @pT_end x s h0  =>
    intro z e
    cases e
    intro hc t e2
    cases e2
    have := pp_le x 4 5 (by decide)
    simp only [rN, bN]
    omega
  | @pT_ok x s h0 h1  =>
    intro z e
    cases e
    intro hc t e2
    cases e2
    have k1 := pp_pow x (expN (pk T (adv s)).text)
    have k2 := cnt_adv T s
    have k3 := cnt_adv T (adv s)
    have k4 : cnt T (powS T x s) = cnt T (adv (adv s)) := cnt_same (powS_next _ _ _)
    simp only [rN, bN]
    omega
  | @pr_num s h0  =>
    intro z e
    cases e
    intro hc t e2
    cases e2
    have k1 := cnt_adv T s
    have k2 : pp 5 (numT (pk T s).text) = 0 := rfl
    simp only [rN, bN]
    omega
  | @pr_name s h0  =>
    intro z e
    cases e
    intro hc t e2
    cases e2
    have k1 := cnt_adv T s
    have k3 : cnt T (nam T s) = cnt T (adv s) := cnt_same (nam_next _ _)
    have k2 : pp 5 (.name (bs (pk T s).text)) = 0 := rfl
    simp only [rN, bN]
    omega
  | @pr_ok s x s1 h0 h1 h2 i1 =>
    intro z e
    cases e
    intro hc t e2
    cases e2
    have g1 := i1 _ rfl rfl _ rfl
    have k1 := pp_one x 5
    have k2 := cnt_open h0
    have k3 : cnt T (opn T s) = cnt T (adv s) := cnt_same (opn_next _ _)
    have k4 := cnt_adv T (dn s1)
    have k5 : cnt T (dn s1) = cnt T s1 := cnt_same rfl
    simp only [rN, bN] at g1 ⊢
    omega
/-! ### bytes -/
abbrev ct (l : Bytes) : Nat := (l.filter (fun c => c == 40)).length
theorem ct_app (a b : Bytes) : ct (a ++ b) = ct a + ct b := by simp [ct]
theorem toks_ct : ∀ (p : Nat) (r : Bytes), ((lexBl p r).1.filter (fun t => t.text == cOpen)).length ≤ ct r := by
  refine lexBl_ind (P := fun p r => ((lexBl p r).1.filter (fun t => t.text == cOpen)).length ≤ ct r) ?_ ?_ ?_ ?_
  · intro p; rw [lexBl_nil]; exact Nat.zero_le _
  · intro p c r hb ih
    rw [lexBl_blank p c r hb]
    refine Nat.le_trans ih ?_
    show ct r ≤ ct ([c] ++ r)
    rw [ct_app]; omega
  · intro p c r hb he
    rw [lexBl_non _ _ _ hb, lexA_err _ _ (by simp) he]; exact Nat.zero_le _
  · intro p c r hb he ih
    rw [lexBl_non _ _ _ hb, lexA_ok' _ _ (by simp) he]
    have e : ct (c :: r) = ct ((c :: r).take (next (c :: r)).2.1) + ct ((c :: r).drop (next (c :: r)).2.1) := by rw [← ct_app, List.take_append_drop]
    rw [List.filter_cons]
    dsimp only
    split
    · rename_i h
      rw [eq_of_beq h] at e
      have h1 : ct cOpen = 1 := by decide
      rw [List.length_cons]
      omega
    · omega
theorem lex_ct {s : Bytes} {T : List Tok} {q : Nat} (h : lex s = (T, q, 0)) : (T.filter (fun t => t.text == cOpen)).length ≤ ct s := by
  by_cases hl : s.length ≤ 4000
  · rw [lex_small _ hl] at h
    split at h
    · have := congrArg (fun z => z.1) h
      simp only at this
      rw [← this]
      exact toks_ct 0 s
    · have := congrArg (fun z => z.1) h
      simp only at this
      rw [← this]
      exact Nat.zero_le _
  · rw [lex_long _ (by omega)] at h
    have := congrArg (fun z => z.1) h
    simp only at this
    rw [← this]
    exact Nat.zero_le _
/-- a text that is parsed has at least the parentheses that its term needs -/
theorem parse_np {s : Bytes} {x : Tm} {p : Nat} (h : ParseR (.term none) id s (some (.tm x)) p 0) : np x ≤ ct s := by
  obtain ⟨T, t, hx, hB, hr, ho⟩ := parse_okT h
  have h1 := Big.parens hB _ rfl rfl _ rfl
  have h2 := lex_ct hx
  have h3 : cnt T s0 = (T.filter (fun t => t.text == cOpen)).length := rfl
  have h4 : np x ≤ pp 1 x := Nat.le_add_right _ _
  simp only [rN, bN] at h1
  omega
/-! ### the printed text -/
theorem ct_no {l : Bytes} (h : ∀ c ∈ l, c ≠ 40) : ct l = 0 := by
  have : l.filter (fun c => c == 40) = [] := by
    rw [List.filter_eq_nil_iff]
    intro c hc
    simpa using h c hc
  show (l.filter (fun c => c == 40)).length = 0
  rw [this]; rfl
abbrev cs (l : Bytes) : Nat := (l.filter (fun c => c == 41)).length
theorem cs_app (a b : Bytes) : cs (a ++ b) = cs a + cs b := by simp [cs]
/-- of every end of the text: at least as many parentheses are closed as opened -/
def Bal (l : Bytes) : Prop := ∀ a b, l = a ++ b → ct b ≤ cs b
theorem Bal.app {l m : Bytes} (hl : Bal l) (hm : Bal m) : Bal (l ++ m) := by
  intro a b e
  rcases List.append_eq_append_iff.1 e with ⟨c, e1, e2⟩ | ⟨c, e1, e2⟩
  · exact hm c b e2
  · rw [e2, ct_app, cs_app]
    have h1 := hl a c e1
    have h2 := hm [] m rfl
    omega
theorem Bal.no {l : Bytes} (h : ∀ c ∈ l, c ≠ 40) : Bal l := by
  intro a b e
  rw [ct_no (fun c hc => h c (by rw [e]; exact List.mem_append_right _ hc))]
  exact Nat.zero_le _
theorem Bal.par {l : Bytes} (b : Bool) (h : Bal l) : Bal (par b l) := by
  cases b with
  | false => exact h
  | true =>
    intro a c e
    have e' : 40 :: (l ++ [41]) = a ++ c := e
    have h0 := h [] l rfl
    match a, e' with
    | [], e' =>
      have e2 : c = [40] ++ (l ++ [41]) := e'.symm
      rw [e2, ct_app, ct_app, cs_app, cs_app]
      have h1 : ct [40] = 1 := by decide
      have h2 : ct [41] = 0 := by decide
      have h3 : cs [40] = 0 := by decide
      have h4 : cs [41] = 1 := by decide
      omega
    | x :: a', e' =>
      have e2 : l ++ [41] = a' ++ c := (List.cons.inj e').2
      have hm : Bal (l ++ [41]) := h.app (Bal.no (by decide))
      exact hm a' c e2
theorem ct_par (b : Bool) (l : Bytes) : ct (par b l) = ct l + if b then 1 else 0 := by
  cases b with
  | false => rfl
  | true =>
    show ct ([40] ++ (l ++ [41])) = _
    rw [ct_app, ct_app]
    have h1 : ct [40] = 1 := by decide
    have h2 : ct [41] = 0 := by decide
    rw [h1, h2, if_pos rfl]; omega
theorem aln_no {c : UInt8} (h : aln c = true) : c ≠ 40 ∧ c ≠ 41 := by
  constructor
  · rintro rfl; exact absurd h (by decide)
  · rintro rfl; exact absurd h (by decide)
theorem nm_no {w : Bytes} (h : Nm w) : ∀ c ∈ w, c ≠ 40 := fun c hc => (aln_no (List.all_eq_true.1 h.all c hc)).1
theorem num_no (n : Nat) : ∀ c ∈ numS n, c ≠ 40 := fun c hc => (aln_no (by unfold aln; rw [List.all_eq_true.1 (numS_facts n).1 c hc, Bool.or_true])).1
theorem txt_np : ∀ t : Tm, okR t → ct (txtT t) = np t ∧ Bal (txtT t)
  | .odd, h => h.elim
  | .num neg l, h => by
    obtain rfl : neg = false := h.1
    exact ⟨ct_no (num_no _), Bal.no (num_no _)⟩
  | .name s, h => ⟨ct_no (nm_no h), Bal.no (nm_no h)⟩
  | .add l r, h => by
    obtain ⟨a1, b1⟩ := txt_np l h.1
    obtain ⟨a2, b2⟩ := txt_np r h.2
    have e1 := dec_s l 1
    have e2 := dec_s r 2
    unfold txtT np
    rw [show (1 : Int) = ((1 : Nat) : Int) from rfl, show (2 : Int) = ((2 : Nat) : Int) from rfl, e1, e2]
    refine ⟨?_, ((Bal.par _ b1).app (Bal.no (by decide))).app (Bal.par _ b2)⟩
    rw [ct_app, ct_app, ct_par, ct_par, a1, a2, show ct [32, 43, 32] = 0 by decide]
    simp only [decide_eq_true_eq]
    omega
  | .sub l r, h => by
    obtain ⟨a1, b1⟩ := txt_np l h.1
    obtain ⟨a2, b2⟩ := txt_np r h.2
    have e1 := dec_s l 1
    have e2 := dec_s r 2
    unfold txtT np
    rw [show (1 : Int) = ((1 : Nat) : Int) from rfl, show (2 : Int) = ((2 : Nat) : Int) from rfl, e1, e2]
    refine ⟨?_, ((Bal.par _ b1).app (Bal.no (by decide))).app (Bal.par _ b2)⟩
    rw [ct_app, ct_app, ct_par, ct_par, a1, a2, show ct [32, 45, 32] = 0 by decide]
    simp only [decide_eq_true_eq]
    omega
  | .mul l r, h => by
    obtain ⟨a1, b1⟩ := txt_np l h.1
    obtain ⟨a2, b2⟩ := txt_np r h.2
    have e1 := dec_s l 2
    have e2 := dec_s r 3
    unfold txtT np
    rw [show (3 : Int) = ((3 : Nat) : Int) from rfl, show (2 : Int) = ((2 : Nat) : Int) from rfl, e1, e2]
    refine ⟨?_, ((Bal.par _ b1).app (Bal.no (by decide))).app (Bal.par _ b2)⟩
    rw [ct_app, ct_app, ct_par, ct_par, a1, a2, show ct [42] = 0 by decide]
    simp only [decide_eq_true_eq]
    omega
  | .neg t, h => by
    obtain ⟨a1, b1⟩ := txt_np t h
    have e1 := dec_s t 3
    unfold txtT np
    rw [show (3 : Int) = ((3 : Nat) : Int) from rfl, e1]
    refine ⟨?_, (Bal.no (l := [45]) (by decide)).app (Bal.par _ b1)⟩
    show ct ([45] ++ par (decide (sT t < 3)) (txtT t)) = _
    rw [ct_app, ct_par, a1, show ct [45] = 0 by decide]
    simp only [decide_eq_true_eq]
    omega
  | .pow t e, h => by
    obtain ⟨a1, b1⟩ := txt_np t h.1
    have e1 := dec_s t 5
    have hn : ∀ c ∈ 94 :: numS e.toNat, c ≠ 40 := fun c hc => by
      rcases List.mem_cons.1 hc with rfl | hc
      · decide
      · exact num_no _ c hc
    unfold txtT np
    rw [show (5 : Int) = ((5 : Nat) : Int) from rfl, e1, fmt_list]
    refine ⟨?_, (Bal.par _ b1).app (Bal.no hn)⟩
    rw [ct_app, ct_par, a1, ct_no hn]
    simp only [decide_eq_true_eq]
    omega
end Rd
end Go.Proofs.YtkjbfomokdjbnaaGreatDoor
