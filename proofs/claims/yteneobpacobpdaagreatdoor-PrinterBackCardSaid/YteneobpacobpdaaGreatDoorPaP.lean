/-
  The parser, in plain Lean: what each of its functions gives, as a relation between the states before and behind.
-/
import Derived.Test.YteneobpacobpdaaGreatDoorLxA
import Derived.Test.YteneobpacobpdaaGreatDoorDcG
import Derived.Test.YteneobpacobpdaaGreatDoorFmM
set_option linter.unusedSimpArgs false
set_option linter.unusedVariables false
namespace Go.Proofs.YteneobpacobpdaaGreatDoor
open Go.RowKit
namespace Pa
open Lx Fm Dc
inductive PV where
 | tm (t : Tm)
 | fo (f : Fo)
structure PS where
 next : Nat
 depth : Nat
 rels : Nat
 names : List ByteArray
 over : Bool
 off : Nat
def wIff : Bytes := [105, 102, 102]
def wImplies : Bytes := [105, 109, 112, 108, 105, 101, 115]
def wOr : Bytes := [111, 114]
def wAnd : Bytes := [97, 110, 100]
def wNot : Bytes := [110, 111, 116]
def wForall : Bytes := [102, 111, 114, 97, 108, 108]
def wExists : Bytes := [101, 120, 105, 115, 116, 115]
def wTrue : Bytes := [116, 114, 117, 101]
def wFalse : Bytes := [102, 97, 108, 115, 101]
def cOpen : Bytes := [40]
def cShut : Bytes := [41]
def cStar : Bytes := [42]
def cPlus : Bytes := [43]
def cComma : Bytes := [44]
def cMinus : Bytes := [45]
def cDot : Bytes := [46]
def cHat : Bytes := [94]
def exc (s : PS) (p : Nat) : PS := if s.over = false ∨ p < s.off then { s with over := true, off := p } else s
def tok0 : Tok := ⟨0, [], 0⟩
def pk (T : List Tok) (s : PS) : Tok := (T[s.next]?).getD tok0
def sees (T : List Tok) (s : PS) (x : Bytes) : Bool := (decide ((pk T s).kind = 3) || decide ((pk T s).kind = 4)) && ((pk T s).text == x)
def adv (s : PS) : PS := { s with next := s.next + 1 }
def dn (s : PS) : PS := { s with depth := s.depth - 1 }
def inc (T : List Tok) (s : PS) : PS := if 60 < s.depth + 1 then exc { s with depth := s.depth + 1 } (pk T s).pos else { s with depth := s.depth + 1 }
def opn (T : List Tok) (s : PS) : PS := adv (inc T s)
def nm1 (T : List Tok) (s : PS) : PS :=
 if bs (pk T s).text ∈ s.names then s else
 if 4 < s.names.length + 1 then exc { s with names := s.names ++ [bs (pk T s).text] } (pk T s).pos else { s with names := s.names ++ [bs (pk T s).text] }
def nam (T : List Tok) (s : PS) : PS := adv (nm1 T s)
def rel1 (T : List Tok) (s : PS) : PS := if 16 < s.rels + 1 then exc { s with rels := s.rels + 1 } (pk T s).pos else { s with rels := s.rels + 1 }
def relS (T : List Tok) (s : PS) : PS := adv (rel1 T s)
def large (t : Tm) : Bool := decide (8 < degT t) || decide (320 < wgtT t)
def meas (s : PS) (t : Tok) (whole : Tm) (ops : List Tm) : PS := if large whole = true ∧ ops.all (fun x => !large x) = true then exc s t.pos else s
def relOf (t : Tok) : Int := if t.kind = 4 then (if t.text = [60] then 1 else if t.text = [60, 61] then 2 else if t.text = [61] then 3 else if t.text = [60, 62] then 4 else if t.text = [62, 61] then 5 else if t.text = [62] then 6 else 0) else 0
def decF (a : Nat) (l : Bytes) : Nat := l.foldl (fun a c => a * 10 + (c.toNat - 48)) a
def decV (l : Bytes) : Nat := decF 0 l
def limbF : Nat → Nat → List Nat
 | 0, _ => []
 | k + 1, n => if n = 0 then [] else n % 4294967296 :: limbF k (n / 4294967296)
def limbs (n : Nat) : List Nat := limbF 8 n
def numT (l : Bytes) : Tm := .num false (limbs (decV l))
def expN (l : Bytes) : Nat := min (decV l) 2147483647
def asF : PV → Fo
 | .fo f => f
 | .tm _ => .truth false
def sumT (t : Tok) (x y : Tm) : Tm := if t.text = cMinus then .sub x y else .add x y
def powS (T : List Tok) (x : Tm) (s : PS) : PS :=
 meas (if 8 < expN (pk T (adv s)).text then exc (adv (adv s)) (pk T (adv s)).pos else adv (adv s)) (pk T s) (.pow x (expN (pk T (adv s)).text)) [x]
inductive PC where
 | iff (bare : Bool)
 | iffL (x : PV)
 | imp (bare : Bool)
 | or (bare : Bool)
 | orL (x : PV)
 | and (bare : Bool)
 | andL (x : PV)
 | un (bare : Bool)
 | qu (all : Bool)
 | atom (bare : Bool)
 | atomT (bare : Bool) (first : Option Tm)
 | encl
 | term (first : Option Tm)
 | termL (x : Tm)
 | prod (first : Option Tm)
 | prodL (x : Tm)
 | fac (first : Option Tm)
 | pow (first : Option Tm)
 | powT (x : Tm)
 | prim
section
variable (T : List Tok)
inductive Big : PC → PS → Option PV → PS → Prop
 | iff_no {b s s1} : Big (.imp b) s none s1 → Big (.iff b) s none s1
 | iff_go {b s x s1 r s2} : Big (.imp b) s (some x) s1 → Big (.iffL x) s1 r s2 → Big (.iff b) s r s2
 | iffL_end {x s} : sees T s wIff = false → Big (.iffL x) s (some x) s
 | iffL_bad {x s s1} : sees T s wIff = true → Big (.imp false) (adv s) none s1 → Big (.iffL x) s none s1
 | iffL_go {x s y s1 r s2} : sees T s wIff = true → Big (.imp false) (adv s) (some y) s1 → Big (.iffL (.fo (.iff (asF x) (asF y)))) s1 r s2 → Big (.iffL x) s r s2
 | imp_no {b s s1} : Big (.or b) s none s1 → Big (.imp b) s none s1
 | imp_one {b s x s1} : Big (.or b) s (some x) s1 → sees T s1 wImplies = false → Big (.imp b) s (some x) s1
 | imp_bad {b s x s1 s2} : Big (.or b) s (some x) s1 → sees T s1 wImplies = true → Big (.imp false) (adv s1) none s2 → Big (.imp b) s none s2
 | imp_two {b s x s1 y s2} : Big (.or b) s (some x) s1 → sees T s1 wImplies = true → Big (.imp false) (adv s1) (some y) s2 → Big (.imp b) s (some (.fo (.implies (asF x) (asF y)))) s2
 | or_no {b s s1} : Big (.and b) s none s1 → Big (.or b) s none s1
 | or_go {b s x s1 r s2} : Big (.and b) s (some x) s1 → Big (.orL x) s1 r s2 → Big (.or b) s r s2
 | orL_end {x s} : sees T s wOr = false → Big (.orL x) s (some x) s
 | orL_bad {x s s1} : sees T s wOr = true → Big (.and false) (adv s) none s1 → Big (.orL x) s none s1
 | orL_go {x s y s1 r s2} : sees T s wOr = true → Big (.and false) (adv s) (some y) s1 → Big (.orL (.fo (.or (asF x) (asF y)))) s1 r s2 → Big (.orL x) s r s2
 | and_no {b s s1} : Big (.un b) s none s1 → Big (.and b) s none s1
 | and_go {b s x s1 r s2} : Big (.un b) s (some x) s1 → Big (.andL x) s1 r s2 → Big (.and b) s r s2
 | andL_end {x s} : sees T s wAnd = false → Big (.andL x) s (some x) s
 | andL_bad {x s s1} : sees T s wAnd = true → Big (.un false) (adv s) none s1 → Big (.andL x) s none s1
 | andL_go {x s y s1 r s2} : sees T s wAnd = true → Big (.un false) (adv s) (some y) s1 → Big (.andL (.fo (.and (asF x) (asF y)))) s1 r s2 → Big (.andL x) s r s2
 | un_not_no {b s s1} : sees T s wNot = true → Big (.un false) (opn T s) none s1 → Big (.un b) s none (dn s1)
 | un_not {b s x s1} : sees T s wNot = true → Big (.un false) (opn T s) (some x) s1 → Big (.un b) s (some (.fo (.not (asF x)))) (dn s1)
 | un_all {b s r s1} : sees T s wNot = false → sees T s wForall = true → Big (.qu true) (adv s) r s1 → Big (.un b) s r s1
 | un_ex {b s r s1} : sees T s wNot = false → sees T s wForall = false → sees T s wExists = true → Big (.qu false) (adv s) r s1 → Big (.un b) s r s1
 | un_true {b s} : sees T s wNot = false → sees T s wForall = false → sees T s wExists = false → sees T s wTrue = true → Big (.un b) s (some (.fo (.truth true))) (adv s)
 | un_false {b s} : sees T s wNot = false → sees T s wForall = false → sees T s wExists = false → sees T s wTrue = false → sees T s wFalse = true → Big (.un b) s (some (.fo (.truth false))) (adv s)
 | un_atom {b s r s1} : sees T s wNot = false → sees T s wForall = false → sees T s wExists = false → sees T s wTrue = false → sees T s wFalse = false → Big (.atom b) s r s1 → Big (.un b) s r s1
 | qu_no {a s} : (pk T s).kind ≠ 2 → Big (.qu a) s none s
 | qu_comma_no {a s s1} : (pk T s).kind = 2 → sees T (nam T (inc T s)) cComma = true → Big (.qu a) (adv (nam T (inc T s))) none s1 → Big (.qu a) s none (dn s1)
 | qu_comma {a s x s1} : (pk T s).kind = 2 → sees T (nam T (inc T s)) cComma = true → Big (.qu a) (adv (nam T (inc T s))) (some x) s1 → Big (.qu a) s (some (.fo (.quant a (bs (pk T s).text) (asF x)))) (dn s1)
 | qu_dot_no {a s s1} : (pk T s).kind = 2 → sees T (nam T (inc T s)) cComma = false → sees T (nam T (inc T s)) cDot = true → Big (.iff false) (adv (nam T (inc T s))) none s1 → Big (.qu a) s none (dn s1)
 | qu_dot {a s x s1} : (pk T s).kind = 2 → sees T (nam T (inc T s)) cComma = false → sees T (nam T (inc T s)) cDot = true → Big (.iff false) (adv (nam T (inc T s))) (some x) s1 → Big (.qu a) s (some (.fo (.quant a (bs (pk T s).text) (asF x)))) (dn s1)
 | qu_bad {a s} : (pk T s).kind = 2 → sees T (nam T (inc T s)) cComma = false → sees T (nam T (inc T s)) cDot = false → Big (.qu a) s none (dn (nam T (inc T s)))
 | at_no {b s s1} : sees T s cOpen = true → Big .encl s none s1 → Big (.atom b) s none s1
 | at_fo {b s f s1} : sees T s cOpen = true → Big .encl s (some (.fo f)) s1 → Big (.atom b) s (some (.fo f)) s1
 | at_par {b s t s1 r s2} : sees T s cOpen = true → Big .encl s (some (.tm t)) s1 → Big (.atomT b (some t)) s1 r s2 → Big (.atom b) s r s2
 | at_go {b s r s2} : sees T s cOpen = false → Big (.atomT b none) s r s2 → Big (.atom b) s r s2
 | atT_no {b q s s1} : Big (.term q) s none s1 → Big (.atomT b q) s none s1
 | atT_bare {b q s l s1} : Big (.term q) s (some (.tm l)) s1 → relOf (pk T s1) = 0 → (b && sees T s1 cShut) = true → Big (.atomT b q) s (some (.tm l)) s1
 | atT_none {b q s l s1} : Big (.term q) s (some (.tm l)) s1 → relOf (pk T s1) = 0 → (b && sees T s1 cShut) = false → Big (.atomT b q) s none s1
 | atT_bad {b q s l s1 s2} : Big (.term q) s (some (.tm l)) s1 → relOf (pk T s1) ≠ 0 → Big (.term none) (relS T s1) none s2 → Big (.atomT b q) s none s2
 | atT_ok {b q s l s1 m s2} : Big (.term q) s (some (.tm l)) s1 → relOf (pk T s1) ≠ 0 → Big (.term none) (relS T s1) (some (.tm m)) s2 → Big (.atomT b q) s (some (.fo (.atom l (relOf (pk T s1)) m))) s2
 | en_no {s s1} : Big (.iff true) (opn T s) none s1 → Big .encl s none (dn s1)
 | en_bad {s x s1} : Big (.iff true) (opn T s) (some x) s1 → sees T (dn s1) cShut = false → Big .encl s none (dn s1)
 | en_ok {s x s1} : Big (.iff true) (opn T s) (some x) s1 → sees T (dn s1) cShut = true → Big .encl s (some x) (adv (dn s1))
 | te_no {q s s1} : Big (.prod q) s none s1 → Big (.term q) s none s1
 | te_go {q s x s1 r s2} : Big (.prod q) s (some (.tm x)) s1 → Big (.termL x) s1 r s2 → Big (.term q) s r s2
 | teL_end {x s} : (sees T s cPlus || sees T s cMinus) = false → Big (.termL x) s (some (.tm x)) s
 | teL_bad {x s s1} : (sees T s cPlus || sees T s cMinus) = true → Big (.prod none) (adv s) none s1 → Big (.termL x) s none s1
 | teL_go {x s y s1 r s2} : (sees T s cPlus || sees T s cMinus) = true → Big (.prod none) (adv s) (some (.tm y)) s1 → Big (.termL (sumT (pk T s) x y)) (meas s1 (pk T s) (sumT (pk T s) x y) [x, y]) r s2 → Big (.termL x) s r s2
 | pd_no {q s s1} : Big (.fac q) s none s1 → Big (.prod q) s none s1
 | pd_go {q s x s1 r s2} : Big (.fac q) s (some (.tm x)) s1 → Big (.prodL x) s1 r s2 → Big (.prod q) s r s2
 | pdL_end {x s} : sees T s cStar = false → Big (.prodL x) s (some (.tm x)) s
 | pdL_bad {x s s1} : sees T s cStar = true → Big (.fac none) (adv s) none s1 → Big (.prodL x) s none s1
 | pdL_go {x s y s1 r s2} : sees T s cStar = true → Big (.fac none) (adv s) (some (.tm y)) s1 → Big (.prodL (.mul x y)) (meas s1 (pk T s) (.mul x y) [x, y]) r s2 → Big (.prodL x) s r s2
 | fa_first {x s r s1} : Big (.pow (some x)) s r s1 → Big (.fac (some x)) s r s1
 | fa_pow {s r s1} : sees T s cMinus = false → Big (.pow none) s r s1 → Big (.fac none) s r s1
 | fa_no {s s1} : sees T s cMinus = true → Big (.fac none) (opn T s) none s1 → Big (.fac none) s none (dn s1)
 | fa_neg {s t s1} : sees T s cMinus = true → Big (.fac none) (opn T s) (some (.tm t)) s1 → Big (.fac none) s (some (.tm (.neg t))) (dn s1)
 | po_first {x s r s2} : Big (.powT x) s r s2 → Big (.pow (some x)) s r s2
 | po_no {s s1} : Big .prim s none s1 → Big (.pow none) s none s1
 | po_go {s x s1 r s2} : Big .prim s (some (.tm x)) s1 → Big (.powT x) s1 r s2 → Big (.pow none) s r s2
 | pT_end {x s} : sees T s cHat = false → Big (.powT x) s (some (.tm x)) s
 | pT_bad {x s} : sees T s cHat = true → (pk T (adv s)).kind ≠ 1 → Big (.powT x) s none (adv s)
 | pT_ok {x s} : sees T s cHat = true → (pk T (adv s)).kind = 1 → Big (.powT x) s (some (.tm (.pow x (expN (pk T (adv s)).text)))) (powS T x s)
 | pr_num {s} : (pk T s).kind = 1 → Big .prim s (some (.tm (numT (pk T s).text))) (adv s)
 | pr_name {s} : (pk T s).kind = 2 → Big .prim s (some (.tm (.name (bs (pk T s).text)))) (nam T s)
 | pr_no {s s1} : sees T s cOpen = true → Big (.term none) (opn T s) none s1 → Big .prim s none (dn s1)
 | pr_bad {s x s1} : sees T s cOpen = true → Big (.term none) (opn T s) (some (.tm x)) s1 → sees T (dn s1) cShut = false → Big .prim s none (dn s1)
 | pr_ok {s x s1} : sees T s cOpen = true → Big (.term none) (opn T s) (some (.tm x)) s1 → sees T (dn s1) cShut = true → Big .prim s (some (.tm x)) (adv (dn s1))
 | pr_none {s} : (pk T s).kind ≠ 1 → (pk T s).kind ≠ 2 → sees T s cOpen = false → Big .prim s none s
end
theorem exc_next (s : PS) (p : Nat) : (exc s p).next = s.next := by unfold exc; split <;> rfl
theorem exc_depth (s : PS) (p : Nat) : (exc s p).depth = s.depth := by unfold exc; split <;> rfl
theorem exc_rels (s : PS) (p : Nat) : (exc s p).rels = s.rels := by unfold exc; split <;> rfl
theorem exc_names (s : PS) (p : Nat) : (exc s p).names = s.names := by unfold exc; split <;> rfl
theorem exc_over (s : PS) (p : Nat) : (exc s p).over = true := by
 unfold exc; split
 ·rfl
 ·rename_i h; simp at h; simpa using h.1
theorem inc_next (T : List Tok) (s : PS) : (inc T s).next = s.next := by unfold inc; split <;> simp [exc_next]
theorem inc_depth (T : List Tok) (s : PS) : (inc T s).depth = s.depth + 1 := by unfold inc; split <;> simp [exc_depth]
theorem opn_next (T : List Tok) (s : PS) : (opn T s).next = s.next + 1 := by unfold opn adv; simp [inc_next]
theorem nm1_next (T : List Tok) (s : PS) : (nm1 T s).next = s.next := by unfold nm1; split; rfl; split <;> simp [exc_next]
theorem nam_next (T : List Tok) (s : PS) : (nam T s).next = s.next + 1 := by unfold nam adv; simp [nm1_next]
theorem relS_next (T : List Tok) (s : PS) : (relS T s).next = s.next + 1 := by unfold relS adv rel1; split <;> simp [exc_next]
theorem meas_next (s : PS) (t : Tok) (x : Tm) (l : List Tm) : (meas s t x l).next = s.next := by unfold meas; split <;> simp [exc_next]
theorem powS_next (T : List Tok) (x : Tm) (s : PS) : (powS T x s).next = s.next + 2 := by unfold powS; rw [meas_next]; split <;> simp [exc_next, adv]
theorem adv_next (s : PS) : (adv s).next = s.next + 1 := rfl
theorem dn_next (s : PS) : (dn s).next = s.next := rfl
theorem Big.mono {T : List Tok} {c : PC} {s s' : PS} {r : Option PV} (h : Big T c s r s') : s.next ≤ s'.next := by
 induction h <;> (try simp only [opn_next, nam_next, inc_next, relS_next, meas_next, powS_next, adv_next, dn_next] at *) <;> omega
theorem pk_lt {T : List Tok} {s : PS} (h : (pk T s).kind ≠ 0) : s.next < T.length := by
 unfold pk at h
 rcases Nat.lt_or_ge s.next T.length with h1 | h1
 ·exact h1
 ·rw [List.getElem?_eq_none h1] at h; exact absurd rfl h
theorem sees_lt {T : List Tok} {s : PS} {x : Bytes} (h : sees T s x = true) : s.next < T.length := by
 refine pk_lt ?_
 unfold sees at h
 intro e
 rw [e] at h
 simp at h
theorem relOf_lt {T : List Tok} {s : PS} (h : relOf (pk T s) ≠ 0) : s.next < T.length := by
 refine pk_lt ?_
 intro e
 unfold relOf at h
 rw [e] at h
 simp at h
theorem sees_kind {T : List Tok} {s : PS} {x : Bytes} (h : sees T s x = true) : ((pk T s).kind = 3 ∨ (pk T s).kind = 4) ∧ (pk T s).text = x := by
 unfold sees at h
 simpa using h
def lvl : PC → Nat
 | .iff _ => 14 | .imp _ => 13 | .or _ => 12 | .and _ => 11 | .un _ => 10 | .atom _ => 9 | .atomT _ _ => 8 | .encl => 8 | .qu _ => 8
 | .term _ => 7 | .prod _ => 6 | .fac _ => 5 | .pow _ => 4 | .prim => 3
 | .iffL _ => 2 | .orL _ => 2 | .andL _ => 2 | .termL _ => 2 | .prodL _ => 2 | .powT _ => 2
def mea (T : List Tok) (c : PC) (s : PS) : Nat := (T.length - s.next) * 16 + lvl c
def Ok (T : List Tok) (c : PC) (s : PS) : Prop := c = .encl → sees T s cOpen = true
def isT : PC → Bool
 | .term _ => true | .termL _ => true | .prod _ => true | .prodL _ => true | .fac _ => true | .pow _ => true | .powT _ => true | .prim => true
 | _ => false
theorem Big.term {T : List Tok} {c : PC} {s s' : PS} {r : Option PV} (h : Big T c s r s') (hc : isT c = true) : r = none ∨ ∃ t, r = some (.tm t) := by
 induction h <;> first | (exact .inl rfl) | (exact .inr ⟨_, rfl⟩) | (simp [isT] at hc; done) | (rename_i ih; exact ih rfl) | (rename_i ih _; exact ih rfl)
end Pa
end Go.Proofs.YteneobpacobpdaaGreatDoor
