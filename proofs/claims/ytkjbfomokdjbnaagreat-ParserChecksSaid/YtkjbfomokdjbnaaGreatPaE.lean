/-
  The parser as a program in plain Lean, on the tokens that are left; what it finds holds of the relation.
-/
import Derived.Test.YtkjbfomokdjbnaaGreatPaX
import Derived.Test.YtkjbfomokdjbnaaGreatFmT2
namespace Go.Proofs.YtkjbfomokdjbnaaGreat
open Go.RowKit
set_option linter.unusedSimpArgs false
set_option linter.unusedVariables false
namespace Pa
open Lx Fm Dc
def seesT (t : Tok) (x : Bytes) : Bool := (decide (t.kind = 3) || decide (t.kind = 4)) && (t.text == x)
def incT (t : Tok) (s : PS) : PS := if 60 < s.depth + 1 then exc { s with depth := s.depth + 1 } t.pos else { s with depth := s.depth + 1 }
def nm1T (t : Tok) (s : PS) : PS :=
  if s.names.any (fun n => n.data.toList == t.text) = true then s else
  if 4 < s.names.length + 1 then exc { s with names := s.names ++ [bs t.text] } t.pos else { s with names := s.names ++ [bs t.text] }
def rel1T (t : Tok) (s : PS) : PS := if 16 < s.rels + 1 then exc { s with rels := s.rels + 1 } t.pos else { s with rels := s.rels + 1 }
def powT' (t u : Tok) (x : Tm) (s : PS) : PS :=
  meas (if 8 < expN u.text then exc (adv (adv s)) u.pos else adv (adv s)) t (.pow x (expN u.text)) [x]
theorem nm1_T (T : List Tok) (s : PS) : nm1 T s = nm1T (pk T s) s := by
  have e : (s.names.any (fun n => n.data.toList == (pk T s).text) = true) = (bs (pk T s).text ∈ s.names) := by
    apply propext
    rw [List.any_eq_true]
    constructor
    · rintro ⟨x, hx, h⟩
      have := eq_bs (eq_of_beq h)
      rw [← this]; exact hx
    · intro h
      exact ⟨_, h, by rw [bs_data]; exact beq_self_eq_true _⟩
  unfold nm1 nm1T
  simp only [e]
abbrev Ev := Option (Option PV × PS × List Tok)
def ev : Nat → PC → PS → List Tok → Ev
  | 0, _, _, _ => none
  | k + 1, c, s, L => match c with
    | .iff b => match ev k (.imp b) s L with
      | some (some x, s1, L1) => ev k (.iffL x) s1 L1
      | some (none, s1, L1) => some (none, s1, L1)
      | _ => none
    | .iffL x => match seesT (L.headD tok0) wIff with
      | false => some (some x, s, L)
      | true => match ev k (.imp false) (adv s) L.tail with
        | some (some y, s1, L1) => ev k (.iffL (.fo (.iff (asF x) (asF y)))) s1 L1
        | some (none, s1, L1) => some (none, s1, L1)
        | _ => none
    | .imp b => match ev k (.or b) s L with
      | some (some x, s1, L1) => (match seesT (L1.headD tok0) wImplies with
        | false => some (some x, s1, L1)
        | true => match ev k (.imp false) (adv s1) L1.tail with
          | some (some y, s2, L2) => some (some (.fo (.implies (asF x) (asF y))), s2, L2)
          | some (none, s2, L2) => some (none, s2, L2)
          | _ => none)
      | some (none, s1, L1) => some (none, s1, L1)
      | _ => none
    | .or b => match ev k (.and b) s L with
      | some (some x, s1, L1) => ev k (.orL x) s1 L1
      | some (none, s1, L1) => some (none, s1, L1)
      | _ => none
    | .orL x => match seesT (L.headD tok0) wOr with
      | false => some (some x, s, L)
      | true => match ev k (.and false) (adv s) L.tail with
        | some (some y, s1, L1) => ev k (.orL (.fo (.or (asF x) (asF y)))) s1 L1
        | some (none, s1, L1) => some (none, s1, L1)
        | _ => none
    | .and b => match ev k (.un b) s L with
      | some (some x, s1, L1) => ev k (.andL x) s1 L1
      | some (none, s1, L1) => some (none, s1, L1)
      | _ => none
    | .andL x => match seesT (L.headD tok0) wAnd with
      | false => some (some x, s, L)
      | true => match ev k (.un false) (adv s) L.tail with
        | some (some y, s1, L1) => ev k (.andL (.fo (.and (asF x) (asF y)))) s1 L1
        | some (none, s1, L1) => some (none, s1, L1)
        | _ => none
    | .un b => match seesT (L.headD tok0) wNot with
      | true => (match ev k (.un false) (adv (incT (L.headD tok0) s)) L.tail with
        | some (some x, s1, L1) => some (some (.fo (.not (asF x))), dn s1, L1)
        | some (none, s1, L1) => some (none, dn s1, L1)
        | _ => none)
      | false => match seesT (L.headD tok0) wForall with
        | true => ev k (.qu true) (adv s) L.tail
        | false => match seesT (L.headD tok0) wExists with
          | true => ev k (.qu false) (adv s) L.tail
          | false => match seesT (L.headD tok0) wTrue with
            | true => some (some (.fo (.truth true)), adv s, L.tail)
            | false => match seesT (L.headD tok0) wFalse with
              | true => some (some (.fo (.truth false)), adv s, L.tail)
              | false => ev k (.atom b) s L
    | .qu a => match decide ((L.headD tok0).kind = 2) with
      | false => some (none, s, L)
      | true => match seesT (L.tail.headD tok0) cComma with
        | true => (match ev k (.qu a) (adv (adv (nm1T (L.headD tok0) (incT (L.headD tok0) s)))) L.tail.tail with
          | some (some x, s1, L1) => some (some (.fo (.quant a (bs (L.headD tok0).text) (asF x))), dn s1, L1)
          | some (none, s1, L1) => some (none, dn s1, L1)
          | _ => none)
        | false => match seesT (L.tail.headD tok0) cDot with
          | true => (match ev k (.iff false) (adv (adv (nm1T (L.headD tok0) (incT (L.headD tok0) s)))) L.tail.tail with
            | some (some x, s1, L1) => some (some (.fo (.quant a (bs (L.headD tok0).text) (asF x))), dn s1, L1)
            | some (none, s1, L1) => some (none, dn s1, L1)
            | _ => none)
          | false => some (none, dn (adv (nm1T (L.headD tok0) (incT (L.headD tok0) s))), L.tail)
    | .atom b => match seesT (L.headD tok0) cOpen with
      | false => ev k (.atomT b none) s L
      | true => match ev k .encl s L with
        | some (some (.fo f), s1, L1) => some (some (.fo f), s1, L1)
        | some (some (.tm t), s1, L1) => ev k (.atomT b (some t)) s1 L1
        | some (none, s1, L1) => some (none, s1, L1)
        | _ => none
    | .atomT b q => match ev k (.term q) s L with
      | some (some (.tm l), s1, L1) => (match decide (relOf (L1.headD tok0) = 0) with
        | true => (match (b && seesT (L1.headD tok0) cShut) with
          | true => some (some (.tm l), s1, L1)
          | false => some (none, s1, L1))
        | false => match ev k (.term none) (adv (rel1T (L1.headD tok0) s1)) L1.tail with
          | some (some (.tm m), s2, L2) => some (some (.fo (.atom l (relOf (L1.headD tok0)) m)), s2, L2)
          | some (none, s2, L2) => some (none, s2, L2)
          | _ => none)
      | some (none, s1, L1) => some (none, s1, L1)
      | _ => none
    | .encl => match ev k (.iff true) (adv (incT (L.headD tok0) s)) L.tail with
      | some (some x, s1, L1) => (match seesT (L1.headD tok0) cShut with
        | true => some (some x, adv (dn s1), L1.tail)
        | false => some (none, dn s1, L1))
      | some (none, s1, L1) => some (none, dn s1, L1)
      | _ => none
    | .term q => match ev k (.prod q) s L with
      | some (some (.tm x), s1, L1) => ev k (.termL x) s1 L1
      | some (none, s1, L1) => some (none, s1, L1)
      | _ => none
    | .termL x => match (seesT (L.headD tok0) cPlus || seesT (L.headD tok0) cMinus) with
      | false => some (some (.tm x), s, L)
      | true => match ev k (.prod none) (adv s) L.tail with
        | some (some (.tm y), s1, L1) => ev k (.termL (sumT (L.headD tok0) x y)) (meas s1 (L.headD tok0) (sumT (L.headD tok0) x y) [x, y]) L1
        | some (none, s1, L1) => some (none, s1, L1)
        | _ => none
    | .prod q => match ev k (.fac q) s L with
      | some (some (.tm x), s1, L1) => ev k (.prodL x) s1 L1
      | some (none, s1, L1) => some (none, s1, L1)
      | _ => none
    | .prodL x => match seesT (L.headD tok0) cStar with
      | false => some (some (.tm x), s, L)
      | true => match ev k (.fac none) (adv s) L.tail with
        | some (some (.tm y), s1, L1) => ev k (.prodL (.mul x y)) (meas s1 (L.headD tok0) (.mul x y) [x, y]) L1
        | some (none, s1, L1) => some (none, s1, L1)
        | _ => none
    | .fac q => match q with
      | some x => ev k (.pow (some x)) s L
      | none => match seesT (L.headD tok0) cMinus with
        | false => ev k (.pow none) s L
        | true => match ev k (.fac none) (adv (incT (L.headD tok0) s)) L.tail with
          | some (some (.tm t), s1, L1) => some (some (.tm (.neg t)), dn s1, L1)
          | some (none, s1, L1) => some (none, dn s1, L1)
          | _ => none
    | .pow q => match q with
      | some x => ev k (.powT x) s L
      | none => match ev k .prim s L with
        | some (some (.tm x), s1, L1) => ev k (.powT x) s1 L1
        | some (none, s1, L1) => some (none, s1, L1)
        | _ => none
    | .powT x => match seesT (L.headD tok0) cHat with
      | false => some (some (.tm x), s, L)
      | true => match decide ((L.tail.headD tok0).kind = 1) with
        | false => some (none, adv s, L.tail)
        | true => some (some (.tm (.pow x (expN (L.tail.headD tok0).text))), powT' (L.headD tok0) (L.tail.headD tok0) x s, L.tail.tail)
    | .prim => match decide ((L.headD tok0).kind = 1) with
      | true => some (some (.tm (numT (L.headD tok0).text)), adv s, L.tail)
      | false => match decide ((L.headD tok0).kind = 2) with
        | true => some (some (.tm (.name (bs (L.headD tok0).text))), adv (nm1T (L.headD tok0) s), L.tail)
        | false => match seesT (L.headD tok0) cOpen with
          | false => some (none, s, L)
          | true => match ev k (.term none) (adv (incT (L.headD tok0) s)) L.tail with
            | some (some (.tm x), s1, L1) => (match seesT (L1.headD tok0) cShut with
              | true => some (some (.tm x), adv (dn s1), L1.tail)
              | false => some (none, dn s1, L1))
            | some (none, s1, L1) => some (none, dn s1, L1)
            | _ => none
theorem hd_pk {T L : List Tok} {s : PS} (h : L = T.drop s.next) : L.headD tok0 = pk T s := by
  rw [h, List.headD_eq_head?_getD, List.head?_drop]; rfl
theorem tl_adv {T L : List Tok} {s : PS} (h : L = T.drop s.next) : L.tail = T.drop (adv s).next := by rw [h, List.tail_drop]; rfl
theorem ev_ok (T : List Tok) : ∀ (k : Nat) (c : PC) (s : PS) (L : List Tok) (r : Option PV) (s' : PS) (L' : List Tok), ev k c s L = some (r, s', L') → L = T.drop s.next → Big T c s r s' ∧ L' = T.drop s'.next := by
  intro k
  induction k with
  | zero => intro c s L r s' L' h; cases h
  | succ k ih =>
    intro c s L r s' L' h hL
    have ht := hd_pk hL
    have htl := tl_adv hL
    cases c with
    | iff b =>
      simp only [ev] at h
      split at h
      · rename_i x s1 L1 h1
        obtain ⟨a1, b1⟩ := ih _ _ _ _ _ _ h1 hL
        obtain ⟨a2, b2⟩ := ih _ _ _ _ _ _ h b1
        exact ⟨.iff_go a1 a2, b2⟩
      · rename_i s1 L1 h1
        cases h
        obtain ⟨a1, b1⟩ := ih _ _ _ _ _ _ h1 hL
        exact ⟨.iff_no a1, b1⟩
      · cases h
    | iffL x =>
      simp only [ev, ht] at h
      split at h
      · rename_i hs; cases h; exact ⟨.iffL_end hs, hL⟩
      · rename_i hs
        split at h
        · rename_i y s1 L1 h1
          obtain ⟨a1, b1⟩ := ih _ _ _ _ _ _ h1 htl
          obtain ⟨a2, b2⟩ := ih _ _ _ _ _ _ h (by exact b1)
          exact ⟨.iffL_go hs a1 a2, b2⟩
        · rename_i s1 L1 h1
          cases h
          obtain ⟨a1, b1⟩ := ih _ _ _ _ _ _ h1 htl
          exact ⟨.iffL_bad hs a1, b1⟩
        · cases h
    | imp b =>
      simp only [ev] at h
      split at h
      · rename_i x s1 L1 h1
        obtain ⟨a1, b1⟩ := ih _ _ _ _ _ _ h1 hL
        rw [hd_pk b1] at h
        split at h
        · rename_i hs; cases h; exact ⟨.imp_one a1 hs, b1⟩
        · rename_i hs
          split at h
          · rename_i y s2 L2 h2
            cases h
            obtain ⟨a2, b2⟩ := ih _ _ _ _ _ _ h2 (tl_adv b1)
            exact ⟨.imp_two a1 hs a2, b2⟩
          · rename_i s2 L2 h2
            cases h
            obtain ⟨a2, b2⟩ := ih _ _ _ _ _ _ h2 (tl_adv b1)
            exact ⟨.imp_bad a1 hs a2, b2⟩
          · cases h
      · rename_i s1 L1 h1
        cases h
        obtain ⟨a1, b1⟩ := ih _ _ _ _ _ _ h1 hL
        exact ⟨.imp_no a1, b1⟩
      · cases h
    | or b =>
      simp only [ev] at h
      split at h
      · rename_i x s1 L1 h1
        obtain ⟨a1, b1⟩ := ih _ _ _ _ _ _ h1 hL
        obtain ⟨a2, b2⟩ := ih _ _ _ _ _ _ h b1
        exact ⟨.or_go a1 a2, b2⟩
      · rename_i s1 L1 h1
        cases h
        obtain ⟨a1, b1⟩ := ih _ _ _ _ _ _ h1 hL
        exact ⟨.or_no a1, b1⟩
      · cases h
    | orL x =>
      simp only [ev, ht] at h
      split at h
      · rename_i hs; cases h; exact ⟨.orL_end hs, hL⟩
      · rename_i hs
        split at h
        · rename_i y s1 L1 h1
          obtain ⟨a1, b1⟩ := ih _ _ _ _ _ _ h1 htl
          obtain ⟨a2, b2⟩ := ih _ _ _ _ _ _ h (by exact b1)
          exact ⟨.orL_go hs a1 a2, b2⟩
        · rename_i s1 L1 h1
          cases h
          obtain ⟨a1, b1⟩ := ih _ _ _ _ _ _ h1 htl
          exact ⟨.orL_bad hs a1, b1⟩
        · cases h
    | and b =>
      simp only [ev] at h
      split at h
      · rename_i x s1 L1 h1
        obtain ⟨a1, b1⟩ := ih _ _ _ _ _ _ h1 hL
        obtain ⟨a2, b2⟩ := ih _ _ _ _ _ _ h b1
        exact ⟨.and_go a1 a2, b2⟩
      · rename_i s1 L1 h1
        cases h
        obtain ⟨a1, b1⟩ := ih _ _ _ _ _ _ h1 hL
        exact ⟨.and_no a1, b1⟩
      · cases h
    | andL x =>
      simp only [ev, ht] at h
      split at h
      · rename_i hs; cases h; exact ⟨.andL_end hs, hL⟩
      · rename_i hs
        split at h
        · rename_i y s1 L1 h1
          obtain ⟨a1, b1⟩ := ih _ _ _ _ _ _ h1 htl
          obtain ⟨a2, b2⟩ := ih _ _ _ _ _ _ h (by exact b1)
          exact ⟨.andL_go hs a1 a2, b2⟩
        · rename_i s1 L1 h1
          cases h
          obtain ⟨a1, b1⟩ := ih _ _ _ _ _ _ h1 htl
          exact ⟨.andL_bad hs a1, b1⟩
        · cases h
    | un b =>
      have hN : L.tail = T.drop (opn T s).next := by rw [opn_next]; exact htl
      simp only [ev, ht] at h
      split at h
      · rename_i a0
        split at h
        · rename_i x s1 L1 h1
          cases h
          obtain ⟨a1, b1⟩ := ih _ _ _ _ _ _ h1 hN
          exact ⟨.un_not a0 a1, b1⟩
        · rename_i s1 L1 h1
          cases h
          obtain ⟨a1, b1⟩ := ih _ _ _ _ _ _ h1 hN
          exact ⟨.un_not_no a0 a1, b1⟩
        · cases h
      · rename_i a0
        split at h
        · rename_i a1
          obtain ⟨a2, b2⟩ := ih _ _ _ _ _ _ h htl
          exact ⟨.un_all a0 a1 a2, b2⟩
        · rename_i a1
          split at h
          · rename_i a2
            obtain ⟨a3, b3⟩ := ih _ _ _ _ _ _ h htl
            exact ⟨.un_ex a0 a1 a2 a3, b3⟩
          · rename_i a2
            split at h
            · rename_i a3; cases h; exact ⟨.un_true a0 a1 a2 a3, htl⟩
            · rename_i a3
              split at h
              · rename_i a4; cases h; exact ⟨.un_false a0 a1 a2 a3 a4, htl⟩
              · rename_i a4
                obtain ⟨a5, b5⟩ := ih _ _ _ _ _ _ h hL
                exact ⟨.un_atom a0 a1 a2 a3 a4 a5, b5⟩
    | qu a =>
      have hN : L.tail = T.drop (nam T (inc T s)).next := by rw [nam_next, inc_next]; exact htl
      have eN : adv (nm1T (pk T s) (incT (pk T s) s)) = nam T (inc T s) := by
        unfold nam
        rw [nm1_T, pk_inc]
        rfl
      have hp := hd_pk hN
      simp only [ev, ht, hp, eN] at h
      split at h
      · rename_i hk; cases h; exact ⟨.qu_no (by simpa using hk), hL⟩
      · rename_i hk
        have hk : (pk T s).kind = 2 := by simpa using hk
        split at h
        · rename_i hc
          split at h
          · rename_i x s1 L1 h1
            cases h
            obtain ⟨a1, b1⟩ := ih _ _ _ _ _ _ h1 (tl_adv hN)
            exact ⟨.qu_comma hk hc a1, b1⟩
          · rename_i s1 L1 h1
            cases h
            obtain ⟨a1, b1⟩ := ih _ _ _ _ _ _ h1 (tl_adv hN)
            exact ⟨.qu_comma_no hk hc a1, b1⟩
          · cases h
        · rename_i hc
          split at h
          · rename_i hd
            split at h
            · rename_i x s1 L1 h1
              cases h
              obtain ⟨a1, b1⟩ := ih _ _ _ _ _ _ h1 (tl_adv hN)
              exact ⟨.qu_dot hk hc hd a1, b1⟩
            · rename_i s1 L1 h1
              cases h
              obtain ⟨a1, b1⟩ := ih _ _ _ _ _ _ h1 (tl_adv hN)
              exact ⟨.qu_dot_no hk hc hd a1, b1⟩
            · cases h
          · rename_i hd; cases h; exact ⟨.qu_bad hk hc hd, hN⟩
    | atom b =>
      simp only [ev, ht] at h
      split at h
      · rename_i hs
        obtain ⟨a1, b1⟩ := ih _ _ _ _ _ _ h hL
        exact ⟨.at_go hs a1, b1⟩
      · rename_i hs
        split at h
        · rename_i f s1 L1 h1
          cases h
          obtain ⟨a1, b1⟩ := ih _ _ _ _ _ _ h1 hL
          exact ⟨.at_fo hs a1, b1⟩
        · rename_i t s1 L1 h1
          obtain ⟨a1, b1⟩ := ih _ _ _ _ _ _ h1 hL
          obtain ⟨a2, b2⟩ := ih _ _ _ _ _ _ h b1
          exact ⟨.at_par hs a1 a2, b2⟩
        · rename_i s1 L1 h1
          cases h
          obtain ⟨a1, b1⟩ := ih _ _ _ _ _ _ h1 hL
          exact ⟨.at_no hs a1, b1⟩
        · cases h
    | atomT b q =>
      simp only [ev] at h
      split at h
      · rename_i l s1 L1 h1
        obtain ⟨a1, b1⟩ := ih _ _ _ _ _ _ h1 hL
        rw [hd_pk b1] at h
        split at h
        · rename_i hr
          have hr : relOf (pk T s1) = 0 := by simpa using hr
          split at h
          · rename_i hb; cases h; exact ⟨.atT_bare a1 hr hb, b1⟩
          · rename_i hb; cases h; exact ⟨.atT_none a1 hr hb, b1⟩
        · rename_i hr
          have hr : relOf (pk T s1) ≠ 0 := by simpa using hr
          have hN : L1.tail = T.drop (relS T s1).next := by rw [relS_next]; exact tl_adv b1
          split at h
          · rename_i m s2 L2 h2
            cases h
            obtain ⟨a2, b2⟩ := ih _ _ _ _ _ _ h2 hN
            exact ⟨.atT_ok a1 hr a2, b2⟩
          · rename_i s2 L2 h2
            cases h
            obtain ⟨a2, b2⟩ := ih _ _ _ _ _ _ h2 hN
            exact ⟨.atT_bad a1 hr a2, b2⟩
          · cases h
      · rename_i s1 L1 h1
        cases h
        obtain ⟨a1, b1⟩ := ih _ _ _ _ _ _ h1 hL
        exact ⟨.atT_no a1, b1⟩
      · cases h
    | encl =>
      have hN : L.tail = T.drop (opn T s).next := by rw [opn_next]; exact htl
      simp only [ev, ht] at h
      split at h
      · rename_i x s1 L1 h1
        obtain ⟨a1, b1⟩ := ih _ _ _ _ _ _ h1 hN
        have b1' : L1 = T.drop (dn s1).next := b1
        rw [hd_pk b1'] at h
        split at h
        · rename_i hs; cases h; exact ⟨.en_ok a1 hs, tl_adv b1'⟩
        · rename_i hs; cases h; exact ⟨.en_bad a1 hs, b1⟩
      · rename_i s1 L1 h1
        cases h
        obtain ⟨a1, b1⟩ := ih _ _ _ _ _ _ h1 hN
        exact ⟨.en_no a1, b1⟩
      · cases h
    | term q =>
      simp only [ev] at h
      split at h
      · rename_i x s1 L1 h1
        obtain ⟨a1, b1⟩ := ih _ _ _ _ _ _ h1 hL
        obtain ⟨a2, b2⟩ := ih _ _ _ _ _ _ h b1
        exact ⟨.te_go a1 a2, b2⟩
      · rename_i s1 L1 h1
        cases h
        obtain ⟨a1, b1⟩ := ih _ _ _ _ _ _ h1 hL
        exact ⟨.te_no a1, b1⟩
      · cases h
    | termL x =>
      simp only [ev, ht] at h
      split at h
      · rename_i hs; cases h; exact ⟨.teL_end hs, hL⟩
      · rename_i hs
        split at h
        · rename_i y s1 L1 h1
          obtain ⟨a1, b1⟩ := ih _ _ _ _ _ _ h1 htl
          obtain ⟨a2, b2⟩ := ih _ _ _ _ _ _ h (by rw [meas_next]; exact b1)
          exact ⟨.teL_go hs a1 a2, b2⟩
        · rename_i s1 L1 h1
          cases h
          obtain ⟨a1, b1⟩ := ih _ _ _ _ _ _ h1 htl
          exact ⟨.teL_bad hs a1, b1⟩
        · cases h
    | prod q =>
      simp only [ev] at h
      split at h
      · rename_i x s1 L1 h1
        obtain ⟨a1, b1⟩ := ih _ _ _ _ _ _ h1 hL
        obtain ⟨a2, b2⟩ := ih _ _ _ _ _ _ h b1
        exact ⟨.pd_go a1 a2, b2⟩
      · rename_i s1 L1 h1
        cases h
        obtain ⟨a1, b1⟩ := ih _ _ _ _ _ _ h1 hL
        exact ⟨.pd_no a1, b1⟩
      · cases h
    | prodL x =>
      simp only [ev, ht] at h
      split at h
      · rename_i hs; cases h; exact ⟨.pdL_end hs, hL⟩
      · rename_i hs
        split at h
        · rename_i y s1 L1 h1
          obtain ⟨a1, b1⟩ := ih _ _ _ _ _ _ h1 htl
          obtain ⟨a2, b2⟩ := ih _ _ _ _ _ _ h (by rw [meas_next]; exact b1)
          exact ⟨.pdL_go hs a1 a2, b2⟩
        · rename_i s1 L1 h1
          cases h
          obtain ⟨a1, b1⟩ := ih _ _ _ _ _ _ h1 htl
          exact ⟨.pdL_bad hs a1, b1⟩
        · cases h
    | fac q =>
      have hN : L.tail = T.drop (opn T s).next := by rw [opn_next]; exact htl
      simp only [ev, ht] at h
      cases q with
      | some x =>
        obtain ⟨a1, b1⟩ := ih _ _ _ _ _ _ h hL
        exact ⟨.fa_first a1, b1⟩
      | none =>
        dsimp only at h
        split at h
        · rename_i hs
          obtain ⟨a1, b1⟩ := ih _ _ _ _ _ _ h hL
          exact ⟨.fa_pow hs a1, b1⟩
        · rename_i hs
          split at h
          · rename_i t s1 L1 h1
            cases h
            obtain ⟨a1, b1⟩ := ih _ _ _ _ _ _ h1 hN
            exact ⟨.fa_neg hs a1, b1⟩
          · rename_i s1 L1 h1
            cases h
            obtain ⟨a1, b1⟩ := ih _ _ _ _ _ _ h1 hN
            exact ⟨.fa_no hs a1, b1⟩
          · cases h
    | pow q =>
      simp only [ev] at h
      cases q with
      | some x =>
        obtain ⟨a1, b1⟩ := ih _ _ _ _ _ _ h hL
        exact ⟨.po_first a1, b1⟩
      | none =>
        dsimp only at h
        split at h
        · rename_i x s1 L1 h1
          obtain ⟨a1, b1⟩ := ih _ _ _ _ _ _ h1 hL
          obtain ⟨a2, b2⟩ := ih _ _ _ _ _ _ h b1
          exact ⟨.po_go a1 a2, b2⟩
        · rename_i s1 L1 h1
          cases h
          obtain ⟨a1, b1⟩ := ih _ _ _ _ _ _ h1 hL
          exact ⟨.po_no a1, b1⟩
        · cases h
    | powT x =>
      have hp := hd_pk htl
      simp only [ev, ht, hp] at h
      split at h
      · rename_i hs; cases h; exact ⟨.pT_end hs, hL⟩
      · rename_i hs
        split at h
        · rename_i hk; cases h; exact ⟨.pT_bad hs (by simpa using hk), htl⟩
        · rename_i hk; cases h
          refine ⟨.pT_ok hs (by simpa using hk), ?_⟩
          show L.tail.tail = T.drop (powS T x s).next
          rw [powS_next]; exact tl_adv htl
    | prim =>
      have hN : L.tail = T.drop (opn T s).next := by rw [opn_next]; exact htl
      simp only [ev, ht] at h
      split at h
      · rename_i k1; cases h; exact ⟨.pr_num (by simpa using k1), htl⟩
      · rename_i k1
        split at h
        · rename_i k2; cases h
          have e : adv (nm1T (pk T s) s) = nam T s := by unfold nam; rw [nm1_T]
          rw [e]
          refine ⟨.pr_name (by simpa using k2), ?_⟩
          rw [nam_next]; exact htl
        · rename_i k2
          split at h
          · rename_i hs; cases h; exact ⟨.pr_none (by simpa using k1) (by simpa using k2) hs, hL⟩
          · rename_i hs
            split at h
            · rename_i x s1 L1 h1
              obtain ⟨a1, b1⟩ := ih _ _ _ _ _ _ h1 hN
              have b1' : L1 = T.drop (dn s1).next := b1
              rw [hd_pk b1'] at h
              split at h
              · rename_i hq; cases h; exact ⟨.pr_ok hs a1 hq, tl_adv b1'⟩
              · rename_i hq; cases h; exact ⟨.pr_bad hs a1 hq, b1⟩
            · rename_i s1 L1 h1
              cases h
              obtain ⟨a1, b1⟩ := ih _ _ _ _ _ _ h1 hN
              exact ⟨.pr_no hs a1, b1⟩
            · cases h
end Pa
end Go.Proofs.YtkjbfomokdjbnaaGreat

/-
  cylinderlaw36.awake.
-/
namespace Go.Proofs.YtkjbfomokdjbnaaGreat
open Go.RowKit
set_option linter.unusedSimpArgs false
set_option linter.unusedVariables false
namespace Pa
open Lx Fm Dc
theorem field_kind36 (x0 x1 x2 x3 x4 x5 x6 x7 x8 : Value) (w : World) : (Instr.field 53 (.agg #[x0, x1, x2, x3, x4, x5, x6, x7, x8]) 0).run Tryz.prog w = .ok x0 w := by kernel_rfl
attribute [local go_sem] run_store field_kind36
/-- a parse, computed -/
def parseE (k : Nat) (c : PC) (g : Option PV → Option PV) (s : Bytes) : Option (Option PV × Nat × Nat) :=
  match lex s with
  | (T, q, er) => match decide (er = 0) with
    | false => some (none, q, er)
    | true => match ev k c s0 T with
      | none => none
      | some (r, s', _) => some (if (verd T (g r).isSome s.length s').2 = 0 then g r else none, (verd T (g r).isSome s.length s').1, (verd T (g r).isSome s.length s').2)
theorem parseE_ok (k : Nat) (c : PC) (g : Option PV → Option PV) (s : Bytes) (r : Option PV) (p e : Nat) (h : parseE k c g s = some (r, p, e)) : ParseR c g s r p e := by
  unfold parseE at h
  unfold ParseR
  rcases hlx : lex s with ⟨T, q, er⟩
  simp only [hlx] at h ⊢
  split at h
  · rename_i he
    have he : er ≠ 0 := by simpa using he
    rw [if_pos he]
    cases h
    exact ⟨rfl, rfl, rfl⟩
  · rename_i he
    have he : er = 0 := by simpa using he
    rw [if_neg (by simp [he])]
    split at h
    · cases h
    · rename_i r0 s' L' h1
      obtain ⟨a, b⟩ := ev_ok T k c s0 T r0 s' L' h1 rfl
      cases h
      exact ⟨r0, s', a, rfl, rfl⟩
abbrev xN : ByteArray := ⟨#[120]⟩
def awF : Fo := .not (.atom (.name xN) 1 (.num false [3]))
def awS : ByteArray := ⟨#[110, 111, 116, 32, 120, 32, 60, 32, 51]⟩
theorem aw_parse : parseE 60 (.iff false) fm awS.data.toList = some (some (.fo awF), 0, 0) := by kernel_rfl
set_option maxHeartbeats 2000000 in
set_option maxRecDepth 100000 in
theorem awake_any (w : World) : Calls Tryz.prog 4 #[] w fun e w' => e = .returned (.bool true) ∧ Below w.heap.size w w' := by
  have HP := Lib.hid (fun w' => Parse_walk awS _ _ _ (parseE_ok _ _ _ _ _ _ _ aw_parse) (by decide) w')
  go_enter Tryz.func4, Tryz.ntmps4
  go_wp2_with fail
  refine (HP.out _).mono ?_
  rintro e w1 ⟨⟨u, z, rfl, hV⟩, hb⟩
  have HV := Lib.hid hV
  have HB := Lib.hid hb
  clear hb hV
  have hbW : Below w1.heap.size w1 ((w1.alloc (.cells #[.int .u32 3] 37)).alloc (.cells #[.iface tName (.agg #[.string xN]), .int .i64 1, .iface tNum (.agg #[.bool false, .slice (some ⟨w1.heap.size, 0, none⟩) 1 1])] tAtom)) := ((Below.refl _ w1).alloc (Nat.le_refl _) _).alloc (by simp) _
  have hrow : ((w1.alloc (.cells #[.int .u32 3] 37)).alloc (.cells #[.iface tName (.agg #[.string xN]), .int .i64 1, .iface tNum (.agg #[.bool false, .slice (some ⟨w1.heap.size, 0, none⟩) 1 1])] tAtom)).heap[w1.heap.size]? = some (.cells #[.int .u32 3] 37 (0, 0)) := by
    rw [Below.heap_alloc _ _ _ (by simp)]
    exact heap_alloc_new w1 (.cells #[.int .u32 3] 37)
  obtain ⟨W, hW⟩ : ∃ W, (w1.alloc (.cells #[.int .u32 3] 37)).alloc (.cells #[.iface tName (.agg #[.string xN]), .int .i64 1, .iface tNum (.agg #[.bool false, .slice (some ⟨w1.heap.size, 0, none⟩) 1 1])] tAtom) = W := ⟨_, rfl⟩
  rw [hW] at hbW hrow
  have hlt : w1.heap.size < W.heap.size := by rw [← hW]; simp; omega
  have hV2 := HV.out.below2 hbW
  have hA : FoAt W (fun k => k < W.heap.size) awF (.iface tNot (.agg #[.iface tAtom (.agg #[.iface tName (.agg #[.string xN]), .int .i64 1, .iface tNum (.agg #[.bool false, .slice (some ⟨w1.heap.size, 0, none⟩) 1 1])])])) :=
    ⟨_, rfl, _, _, rfl, ⟨rfl, by decide⟩, ⟨_, _, _, rfl, AbsAt.of_row (l := [3]) hrow rfl (by simp) (by simp) _ hlt⟩⟩
  have HS := Lib.hid (fsame_any awF awF (.iface u z) _ (fun k => k < W.heap.size) W (fun b h => h) hV2.1 hA hV2.2.2 hV2.2.2 true (by simp))
  have HPl := Lib.hid (fun w2 (h : Below W.heap.size W w2) => plain_any awF (.iface u z) (fun k => k < w2.heap.size) w2 (fun b h => h) (hV2.below2 h).1 hV2.2.2)
  have HBW := Lib.hid (HB.out.trans (hbW.mono HB.out.size))
  clear hbW hrow hlt hV2 hA
  subst hW
  go_wp2_with fail
  refine HS.out.mono ?_
  rintro e w2 ⟨rfl, hb2⟩
  have HP2 := Lib.hid (HPl.out w2 hb2)
  have HB2 := Lib.hid (HBW.out.trans (hb2.mono HBW.out.size))
  clear hb2
  go_wp2_with fail
  refine HP2.out.mono ?_
  rintro e w3 ⟨A1, n1, c1, A2, n2, c2, rfl, hT3, hb3⟩
  have HB3 := Lib.hid (HB2.out.trans (hb3.mono HB2.out.size))
  have hk : (plainF awF).h.k = 10 := by kernel_rfl
  rw [hk]
  clear hb3 hT3
  go_wp2
  go_ret
  exact ⟨rfl, HB3.out⟩
end Pa
end Go.Proofs.YtkjbfomokdjbnaaGreat

/-
  The texts of ParserLong, parsed in plain Lean.
-/
namespace Go.Proofs.YtkjbfomokdjbnaaGreat
open Go.RowKit
set_option linter.unusedSimpArgs false
set_option linter.unusedVariables false
namespace Pa
open Lx Fm Dc
def zeq : Bytes := [48, 32, 61, 32, 48]
def orz : Bytes := [32, 111, 114, 32, 48, 32, 61, 32, 48]
def ors : Nat → Bytes
  | 0 => zeq
  | k + 1 => ors k ++ orz
def lastN (k : Nat) : Bytes := if k = 0 then [97] else if k = 1 then [101] else if k = 2 then [100] else [99, 49]
/-- the text of a kind -/
def longT (h k : Nat) : Bytes :=
  if h = 0 then List.replicate k 40 ++ zeq ++ List.replicate k 41
  else if h = 1 then ors k
  else if h = 2 then [49, 94] ++ [UInt8.ofNat (48 + k % 10)] ++ [32, 61, 32, 120]
  else [97, 32, 43, 32, 98, 32, 43, 32, 99, 32, 43, 32, 100, 32, 43, 32] ++ lastN (k % 4) ++ [32, 61, 32, 48]
/-- the offset at which it is refused -/
def wantL (h k : Nat) : Option Nat :=
  if h = 0 then (if 60 < k then some 60 else none)
  else if h = 1 then (if 15 < k then some 146 else none)
  else if h = 2 then (if 8 < k % 10 then some 2 else none)
  else (if k % 4 = 1 ∨ k % 4 = 3 then some 16 else none)
def longOk (h k : Nat) : Bool := match parseE 1500 (.iff false) fm (longT h k) with
  | some (some _, p, e) => decide (wantL h k = none) && (p == 0) && (e == 0)
  | some (none, p, e) => decide (wantL h k = some p) && (e == 8)
  | none => false
theorem long0 : ∀ k < 80, longOk 0 k = true := by decide +kernel
theorem long1 : ∀ k < 80, longOk 1 k = true := by decide +kernel
theorem long2 : ∀ k < 80, longOk 2 k = true := by decide +kernel
theorem long3 : ∀ k < 80, longOk 3 k = true := by decide +kernel
theorem long_parse (h k : Nat) (hh : h < 4) (hk : k < 80) : (wantL h k = none ∧ ∃ x, ParseR (.iff false) fm (longT h k) (some x) 0 0) ∨ (∃ p, wantL h k = some p ∧ ParseR (.iff false) fm (longT h k) none p 8) := by
  have h1 : longOk h k = true := by
    match h, hh with
    | 0, _ => exact long0 k hk
    | 1, _ => exact long1 k hk
    | 2, _ => exact long2 k hk
    | 3, _ => exact long3 k hk
  unfold longOk at h1
  split at h1
  · rename_i x p e he
    simp only [Bool.and_eq_true, decide_eq_true_eq, beq_iff_eq] at h1
    obtain ⟨⟨a, rfl⟩, rfl⟩ := h1
    exact .inl ⟨a, x, parseE_ok _ _ _ _ _ _ _ he⟩
  · rename_i p e he
    simp only [Bool.and_eq_true, decide_eq_true_eq, beq_iff_eq] at h1
    obtain ⟨a, rfl⟩ := h1
    exact .inr ⟨p, a, parseE_ok _ _ _ _ _ _ _ he⟩
  · cases h1
end Pa
end Go.Proofs.YtkjbfomokdjbnaaGreat
