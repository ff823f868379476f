/-
  Terms and formulas as data, and their values.
-/
import Derived.Test.YtkjbfomokdjbnaaDoorFmI
namespace Go.Proofs.YtkjbfomokdjbnaaDoor
open Go.RowKit
set_option linter.unusedSimpArgs false
set_option linter.unusedVariables false
namespace Fm

inductive Tm where
  | odd
  | num (neg : Bool) (abs : List Nat)
  | name (s : ByteArray)
  | add (l r : Tm)
  | sub (l r : Tm)
  | mul (l r : Tm)
  | neg (t : Tm)
  | pow (t : Tm) (e : Int)
inductive Fo where
  | odd
  | truth (b : Bool)
  | atom (l : Tm) (rel : Int) (r : Tm)
  | not (f : Fo)
  | and (l r : Fo)
  | or (l r : Fo)
  | implies (l r : Fo)
  | iff (l r : Fo)
  | quant (all : Bool) (name : ByteArray) (f : Fo)

abbrev tNum : TypeId := 86
abbrev tName : TypeId := 47
abbrev tAdd : TypeId := 89
abbrev tSub : TypeId := 56
abbrev tMul : TypeId := 57
abbrev tNeg : TypeId := 88
abbrev tPow : TypeId := 49
abbrev tTruth : TypeId := 71
abbrev tAtom : TypeId := 51
abbrev tNot : TypeId := 68
abbrev tAnd : TypeId := 53
abbrev tOr : TypeId := 94
abbrev tImplies : TypeId := 95
abbrev tIff : TypeId := 96
abbrev tQuant : TypeId := 98

/-- nil, or a pointer in an interface -/
def OddV (v : Value) : Prop := v = .nilIface ∨ ∃ u a, v = .iface u (.pointer a) ∧ u ∉ [tNum, tName, tAdd, tSub, tMul, tNeg, tPow, tTruth, tAtom, tNot, tAnd, tOr, tImplies, tIff, tQuant]

def TmAt (w : World) (S : Nat → Prop) : Tm → Value → Prop
  | .odd, v => OddV v
  | .num neg abs, v => ∃ A n c, v = .iface tNum (.agg #[.bool neg, .slice A n c]) ∧ AbsAt w S (.slice A n c) abs
  | .name s, v => v = .iface tName (.agg #[.string s]) ∧ s.size ≤ 9223372036854775807
  | .add l r, v => ∃ vl vr, v = .iface tAdd (.agg #[vl, vr]) ∧ TmAt w S l vl ∧ TmAt w S r vr
  | .sub l r, v => ∃ vl vr, v = .iface tSub (.agg #[vl, vr]) ∧ TmAt w S l vl ∧ TmAt w S r vr
  | .mul l r, v => ∃ vl vr, v = .iface tMul (.agg #[vl, vr]) ∧ TmAt w S l vl ∧ TmAt w S r vr
  | .neg t, v => ∃ vt, v = .iface tNeg (.agg #[vt]) ∧ TmAt w S t vt
  | .pow t e, v => ∃ vt, v = .iface tPow (.agg #[vt, .int .i64 e]) ∧ TmAt w S t vt
def FoAt (w : World) (S : Nat → Prop) : Fo → Value → Prop
  | .odd, v => OddV v
  | .truth b, v => v = .iface tTruth (.agg #[.bool b])
  | .atom l rel r, v => ∃ vl vr, v = .iface tAtom (.agg #[vl, .int .i64 rel, vr]) ∧ TmAt w S l vl ∧ TmAt w S r vr
  | .not f, v => ∃ vf, v = .iface tNot (.agg #[vf]) ∧ FoAt w S f vf
  | .and l r, v => ∃ vl vr, v = .iface tAnd (.agg #[vl, vr]) ∧ FoAt w S l vl ∧ FoAt w S r vr
  | .or l r, v => ∃ vl vr, v = .iface tOr (.agg #[vl, vr]) ∧ FoAt w S l vl ∧ FoAt w S r vr
  | .implies l r, v => ∃ vl vr, v = .iface tImplies (.agg #[vl, vr]) ∧ FoAt w S l vl ∧ FoAt w S r vr
  | .iff l r, v => ∃ vl vr, v = .iface tIff (.agg #[vl, vr]) ∧ FoAt w S l vl ∧ FoAt w S r vr
  | .quant all name f, v => ∃ vf, v = .iface tQuant (.agg #[.bool all, .string name, vf]) ∧ name.size ≤ 9223372036854775807 ∧ FoAt w S f vf

theorem OddV.one {v : Value} (h : OddV v) : v.oneCell' = true := by rcases h with rfl | ⟨u, a, rfl, _⟩ <;> rfl
theorem TmAt.one {w : World} {S : Nat → Prop} {t : Tm} {v : Value} (h : TmAt w S t v) : v.oneCell' = true := by
  cases t with
  | odd => exact OddV.one h
  | num neg abs => obtain ⟨A, n, c, rfl, _⟩ := h; rfl
  | name s => obtain ⟨rfl, _⟩ := h; rfl
  | add l r => obtain ⟨vl, vr, rfl, _⟩ := h; rfl
  | sub l r => obtain ⟨vl, vr, rfl, _⟩ := h; rfl
  | mul l r => obtain ⟨vl, vr, rfl, _⟩ := h; rfl
  | neg t => obtain ⟨vt, rfl, _⟩ := h; rfl
  | pow t e => obtain ⟨vt, rfl, _⟩ := h; rfl
theorem FoAt.one {w : World} {S : Nat → Prop} {t : Fo} {v : Value} (h : FoAt w S t v) : v.oneCell' = true := by
  cases t with
  | odd => exact OddV.one h
  | truth b => cases h; rfl
  | atom l rel r => obtain ⟨vl, vr, rfl, _⟩ := h; rfl
  | not f => obtain ⟨vf, rfl, _⟩ := h; rfl
  | and l r => obtain ⟨vl, vr, rfl, _⟩ := h; rfl
  | or l r => obtain ⟨vl, vr, rfl, _⟩ := h; rfl
  | implies l r => obtain ⟨vl, vr, rfl, _⟩ := h; rfl
  | iff l r => obtain ⟨vl, vr, rfl, _⟩ := h; rfl
  | quant all name f => obtain ⟨vf, rfl, _⟩ := h; rfl
theorem TmAt.keep {w w' : World} {S : Nat → Prop} (hk : ∀ p : Addr, S p.block → w'.cell? p = w.cell? p) (t : Tm) (v : Value) (h : TmAt w S t v) : TmAt w' S t v := by
  induction t generalizing v with
  | odd => exact h
  | num neg abs => obtain ⟨A, n, c, e, ha⟩ := h; exact ⟨A, n, c, e, ha.keep hk⟩
  | name s => exact h
  | add l r il ir => obtain ⟨vl, vr, e, h1, h2⟩ := h; exact ⟨vl, vr, e, il _ h1, ir _ h2⟩
  | sub l r il ir => obtain ⟨vl, vr, e, h1, h2⟩ := h; exact ⟨vl, vr, e, il _ h1, ir _ h2⟩
  | mul l r il ir => obtain ⟨vl, vr, e, h1, h2⟩ := h; exact ⟨vl, vr, e, il _ h1, ir _ h2⟩
  | neg t it => obtain ⟨vt, e, h1⟩ := h; exact ⟨vt, e, it _ h1⟩
  | pow t x it => obtain ⟨vt, e, h1⟩ := h; exact ⟨vt, e, it _ h1⟩
theorem FoAt.keep {w w' : World} {S : Nat → Prop} (hk : ∀ p : Addr, S p.block → w'.cell? p = w.cell? p) (t : Fo) (v : Value) (h : FoAt w S t v) : FoAt w' S t v := by
  induction t generalizing v with
  | odd => exact h
  | truth b => exact h
  | atom l rel r => obtain ⟨vl, vr, e, h1, h2⟩ := h; exact ⟨vl, vr, e, TmAt.keep hk _ _ h1, TmAt.keep hk _ _ h2⟩
  | not f it => obtain ⟨vt, e, h1⟩ := h; exact ⟨vt, e, it _ h1⟩
  | and l r il ir => obtain ⟨vl, vr, e, h1, h2⟩ := h; exact ⟨vl, vr, e, il _ h1, ir _ h2⟩
  | or l r il ir => obtain ⟨vl, vr, e, h1, h2⟩ := h; exact ⟨vl, vr, e, il _ h1, ir _ h2⟩
  | implies l r il ir => obtain ⟨vl, vr, e, h1, h2⟩ := h; exact ⟨vl, vr, e, il _ h1, ir _ h2⟩
  | iff l r il ir => obtain ⟨vl, vr, e, h1, h2⟩ := h; exact ⟨vl, vr, e, il _ h1, ir _ h2⟩
  | quant all name f it => obtain ⟨vt, e, h0, h1⟩ := h; exact ⟨vt, e, h0, it _ h1⟩
theorem TmAt.more {w : World} {S S' : Nat → Prop} (hS : ∀ b, S b → S' b) (t : Tm) (v : Value) (h : TmAt w S t v) : TmAt w S' t v := by
  induction t generalizing v with
  | odd => exact h
  | num neg abs => obtain ⟨A, n, c, e, ha⟩ := h; exact ⟨A, n, c, e, ha.more hS⟩
  | name s => exact h
  | add l r il ir => obtain ⟨vl, vr, e, h1, h2⟩ := h; exact ⟨vl, vr, e, il _ h1, ir _ h2⟩
  | sub l r il ir => obtain ⟨vl, vr, e, h1, h2⟩ := h; exact ⟨vl, vr, e, il _ h1, ir _ h2⟩
  | mul l r il ir => obtain ⟨vl, vr, e, h1, h2⟩ := h; exact ⟨vl, vr, e, il _ h1, ir _ h2⟩
  | neg t it => obtain ⟨vt, e, h1⟩ := h; exact ⟨vt, e, it _ h1⟩
  | pow t x it => obtain ⟨vt, e, h1⟩ := h; exact ⟨vt, e, it _ h1⟩
theorem FoAt.more {w : World} {S S' : Nat → Prop} (hS : ∀ b, S b → S' b) (t : Fo) (v : Value) (h : FoAt w S t v) : FoAt w S' t v := by
  induction t generalizing v with
  | odd => exact h
  | truth b => exact h
  | atom l rel r => obtain ⟨vl, vr, e, h1, h2⟩ := h; exact ⟨vl, vr, e, TmAt.more hS _ _ h1, TmAt.more hS _ _ h2⟩
  | not f it => obtain ⟨vt, e, h1⟩ := h; exact ⟨vt, e, it _ h1⟩
  | and l r il ir => obtain ⟨vl, vr, e, h1, h2⟩ := h; exact ⟨vl, vr, e, il _ h1, ir _ h2⟩
  | or l r il ir => obtain ⟨vl, vr, e, h1, h2⟩ := h; exact ⟨vl, vr, e, il _ h1, ir _ h2⟩
  | implies l r il ir => obtain ⟨vl, vr, e, h1, h2⟩ := h; exact ⟨vl, vr, e, il _ h1, ir _ h2⟩
  | iff l r il ir => obtain ⟨vl, vr, e, h1, h2⟩ := h; exact ⟨vl, vr, e, il _ h1, ir _ h2⟩
  | quant all name f it => obtain ⟨vt, e, h0, h1⟩ := h; exact ⟨vt, e, h0, it _ h1⟩
section
variable {w w' : World} {S : Nat → Prop} {B : Nat}
theorem TmAt.below {t : Tm} {v : Value} (h : TmAt w S t v) (hS : ∀ b, S b → b < B) (hb : Below B w w') : TmAt w' S t v := TmAt.keep (fun _ hp => hb.cell (hS _ hp)) t v h
theorem FoAt.below {t : Fo} {v : Value} (h : FoAt w S t v) (hS : ∀ b, S b → b < B) (hb : Below B w w') : FoAt w' S t v := FoAt.keep (fun _ hp => hb.cell (hS _ hp)) t v h
theorem TmAt.setCell {t : Tm} {v : Value} (h : TmAt w S t v) {X j : Nat} (u : Value) (hX : ¬ S X) : TmAt (w.setCell ⟨X, j, none⟩ u) S t v := TmAt.keep (setCell_keep hX) t v h
theorem FoAt.setCell {t : Fo} {v : Value} (h : FoAt w S t v) {X j : Nat} (u : Value) (hX : ¬ S X) : FoAt (w.setCell ⟨X, j, none⟩ u) S t v := FoAt.keep (setCell_keep hX) t v h
end

/-! ### what OfTerm and Of give -/
def kidsT (k : Int) : Option Nat := if k = 1 ∨ k = 2 then some 0 else if k = 6 ∨ k = 7 then some 1 else if k = 3 ∨ k = 4 ∨ k = 5 then some 2 else none
def mkT (h : Hd) (ps : List Tm) : Tm :=
  if h.k = 1 then .num (normB h.neg h.abs) (trimN h.abs) else if h.k = 2 then .name h.name
  else if h.k = 6 then .neg (ps.getD 0 .odd) else if h.k = 7 then .pow (ps.getD 0 .odd) h.exp
  else if h.k = 3 then .add (ps.getD 0 .odd) (ps.getD 1 .odd) else if h.k = 4 then .sub (ps.getD 0 .odd) (ps.getD 1 .odd) else .mul (ps.getD 0 .odd) (ps.getD 1 .odd)
mutual
def ofT : Tr → Option Tm
  | .mk h ks => if kidsT h.k = some ks.length ∧ ¬ (h.k = 7 ∧ h.exp < 0) then (ofTs ks).map (mkT h) else none
def ofTs : List Tr → Option (List Tm)
  | [] => some []
  | k :: ks => match ofT k with
    | none => none
    | some p => (ofTs ks).map (p :: ·)
end
theorem ofTs_snoc (l : List Tr) (k : Tr) : ofTs (l ++ [k]) = match ofTs l with | none => none | some ps => (ofT k).map fun p => ps ++ [p] := by
  induction l with
  | nil =>
    show ofTs [k] = _
    unfold ofTs
    cases ofT k <;> simp [ofTs]
  | cons a l ih =>
    show ofTs (a :: (l ++ [k])) = _
    unfold ofTs
    rw [ih]
    cases ofT a with
    | none => rfl
    | some p =>
      cases ofTs l with
      | none => rfl
      | some ps => cases ofT k <;> rfl
theorem ofTs_len : ∀ {l : List Tr} {ps : List Tm}, ofTs l = some ps → ps.length = l.length
  | [], ps, h => by unfold ofTs at h; injection h with h; subst h; rfl
  | k :: l, ps, h => by
    unfold ofTs at h
    cases hk : ofT k with
    | none => rw [hk] at h; cases h
    | some p =>
      rw [hk] at h
      cases hl : ofTs l with
      | none => rw [hl] at h; cases h
      | some qs =>
        rw [hl] at h
        simp only [Option.map_some, Option.some.injEq] at h
        subst h
        rw [List.length_cons, List.length_cons, ofTs_len hl]
theorem ofTs_none_at {l : List Tr} {i : Nat} {k : Tr} (h : l[i]? = some k) (hk : ofT k = none) : ofTs l = none := by
  induction l generalizing i with
  | nil => simp at h
  | cons a l ih =>
    unfold ofTs
    match i with
    | 0 => simp at h; subst h; rw [hk]
    | i + 1 =>
      rw [ih (by simpa using h)]
      cases ofT a <;> rfl
theorem TmAt.iface {w : World} {S : Nat → Prop} {t : Tm} {v : Value} (h : TmAt w S t v) (hne : t ≠ .odd) : ∃ u x, v = .iface u x := by
  cases t with
  | odd => exact absurd rfl hne
  | num neg abs => obtain ⟨A, n, c, rfl, _⟩ := h; exact ⟨_, _, rfl⟩
  | name s => obtain ⟨rfl, _⟩ := h; exact ⟨_, _, rfl⟩
  | add l r => obtain ⟨vl, vr, rfl, _⟩ := h; exact ⟨_, _, rfl⟩
  | sub l r => obtain ⟨vl, vr, rfl, _⟩ := h; exact ⟨_, _, rfl⟩
  | mul l r => obtain ⟨vl, vr, rfl, _⟩ := h; exact ⟨_, _, rfl⟩
  | neg t => obtain ⟨vt, rfl, _⟩ := h; exact ⟨_, _, rfl⟩
  | pow t e => obtain ⟨vt, rfl, _⟩ := h; exact ⟨_, _, rfl⟩
theorem FoAt.iface {w : World} {S : Nat → Prop} {t : Fo} {v : Value} (h : FoAt w S t v) (hne : t ≠ .odd) : ∃ u x, v = .iface u x := by
  cases t with
  | odd => exact absurd rfl hne
  | truth b => cases h; exact ⟨_, _, rfl⟩
  | atom l rel r => obtain ⟨vl, vr, rfl, _⟩ := h; exact ⟨_, _, rfl⟩
  | not f => obtain ⟨vf, rfl, _⟩ := h; exact ⟨_, _, rfl⟩
  | and l r => obtain ⟨vl, vr, rfl, _⟩ := h; exact ⟨_, _, rfl⟩
  | or l r => obtain ⟨vl, vr, rfl, _⟩ := h; exact ⟨_, _, rfl⟩
  | implies l r => obtain ⟨vl, vr, rfl, _⟩ := h; exact ⟨_, _, rfl⟩
  | iff l r => obtain ⟨vl, vr, rfl, _⟩ := h; exact ⟨_, _, rfl⟩
  | quant all name f => obtain ⟨vf, rfl, _⟩ := h; exact ⟨_, _, rfl⟩
theorem mkT_ne (h : Hd) (ps : List Tm) : mkT h ps ≠ .odd := by
  unfold mkT
  repeat' split
  all_goals (intro e; cases e)
theorem ofT_ne {t : Tr} {tm : Tm} (h : ofT t = some tm) : tm ≠ .odd := by
  cases t with
  | mk hd ks =>
    unfold ofT at h
    split at h
    · cases hk : ofTs ks with
      | none => rw [hk] at h; cases h
      | some ps =>
        rw [hk] at h
        simp only [Option.map_some, Option.some.injEq] at h
        rw [← h]; exact mkT_ne _ _
    · cases h
end Fm
end Go.Proofs.YtkjbfomokdjbnaaDoor
