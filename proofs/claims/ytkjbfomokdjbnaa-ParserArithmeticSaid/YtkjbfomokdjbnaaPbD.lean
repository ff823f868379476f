/-
  Sums and products of small numbers: what Term gives for them, in plain Lean.
-/
import Derived.Test.YtkjbfomokdjbnaaPbC
import Derived.Lib.QuietBelow
import Derived.BigQuiet
import Derived.Deep.QuietTactic
namespace Go.Proofs.Ytkjbfomokdjbnaa
open Go.RowKit
set_option linter.unusedSimpArgs false
set_option linter.unusedVariables false
namespace Pa
open Lx Fm Dc
def dgt (d : Nat) : Bytes := [UInt8.ofNat (48 + d)]
def aT (n : Bool) (d : Nat) : Tm := if n then .neg (numT (dgt d)) else numT (dgt d)
def aK (n : Bool) (d : Nat) : List (Nat × Bytes) := if n then [(4, cMinus), (1, dgt d)] else [(1, dgt d)]
def opC (o : Nat) : Bytes := if o = 0 then cPlus else if o = 1 then cMinus else cStar
/-- an operation, a sign, a digit -/
abbrev Itm := Nat × Bool × Nat
def itK (l : List Itm) : List (Nat × Bytes) := l.flatMap fun i => (4, opC i.1) :: aK i.2.1 i.2.2
theorem itK_cons (i : Itm) (l : List Itm) : itK (i :: l) = (4, opC i.1) :: (aK i.2.1 i.2.2 ++ itK l) := by simp [itK]
def valT : Tm → Int
  | .num _ l => ((trimN l).headD 0 : Nat)
  | .add l r => valT l + valT r
  | .sub l r => valT l - valT r
  | .mul l r => valT l * valT r
  | .neg t => -valT t
  | _ => 0
/-- a bound on all values inside -/
def bT : Tm → Nat
  | .num _ l => (trimN l).headD 0 + 1
  | .add l r => bT l + bT r
  | .sub l r => bT l + bT r
  | .mul l r => bT l * bT r
  | .neg t => bT t
  | _ => 1
def arT : Tm → Prop
  | .num n l => l.length ≤ 10 ∧ n = false
  | .add l r => arT l ∧ arT r
  | .sub l r => arT l ∧ arT r
  | .mul l r => arT l ∧ arT r
  | .neg t => arT t
  | _ => False
def sv (n : Bool) (d : Nat) : Int := if n then -(d : Int) else d
def evI : List Itm → Int → Int → Int
  | [], t, p => t + p
  | i :: r, t, p => if i.1 = 2 then evI r t (p * sv i.2.1 i.2.2) else if i.1 = 1 then evI r (t + p) (-sv i.2.1 i.2.2) else evI r (t + p) (sv i.2.1 i.2.2)
structure Gx (x : Tm) (k : Nat) : Prop where
  deg : degT x = 0
  wgt : wgtT x ≤ k
  b : bT x ≤ 10 ^ k
  ar : arT x
  k1 : 1 ≤ k
theorem pow10 {a b : Nat} (ha : 1 ≤ a) (hb : 1 ≤ b) : 10 ^ a + 10 ^ b ≤ 10 ^ (a + b) := by
  have h1 : 10 ^ 1 ≤ 10 ^ a := Nat.pow_le_pow_right (by omega) ha
  have h2 : 10 ^ 1 ≤ 10 ^ b := Nat.pow_le_pow_right (by omega) hb
  rw [Nat.pow_add]
  generalize 10 ^ a = x at *
  generalize 10 ^ b = y at *
  have h3 : 10 * y ≤ x * y := Nat.mul_le_mul_right _ (by omega)
  have h4 : x * 10 ≤ x * y := Nat.mul_le_mul_left _ (by omega)
  omega
theorem Gx.mul {x y : Tm} {a b : Nat} (hx : Gx x a) (hy : Gx y b) : Gx (.mul x y) (a + b) where
  deg := by simp [degT, hx.deg, hy.deg, capN]
  wgt := by have := hx.wgt; have := hy.wgt; have := Nat.min_le_left (wgtT x + wgtT y) 2147483647; unfold wgtT capN; omega
  b := by unfold bT; rw [Nat.pow_add]; exact Nat.mul_le_mul hx.b hy.b
  ar := ⟨hx.ar, hy.ar⟩
  k1 := by have := hx.k1; omega
theorem Gx.add {x y : Tm} {a b : Nat} (hx : Gx x a) (hy : Gx y b) : Gx (.add x y) (a + b) where
  deg := by simp [degT, hx.deg, hy.deg]
  wgt := by have := hx.wgt; have := hy.wgt; have := hx.k1; have := hy.k1; have := Nat.min_le_left (max (wgtT x) (wgtT y) + 1) 2147483647; unfold wgtT capN; omega
  b := by unfold bT; exact Nat.le_trans (Nat.add_le_add hx.b hy.b) (pow10 hx.k1 hy.k1)
  ar := ⟨hx.ar, hy.ar⟩
  k1 := by have := hx.k1; omega
theorem Gx.sub {x y : Tm} {a b : Nat} (hx : Gx x a) (hy : Gx y b) : Gx (.sub x y) (a + b) where
  deg := by simp [degT, hx.deg, hy.deg]
  wgt := by have := hx.wgt; have := hy.wgt; have := hx.k1; have := hy.k1; have := Nat.min_le_left (max (wgtT x) (wgtT y) + 1) 2147483647; unfold wgtT capN; omega
  b := by unfold bT; exact Nat.le_trans (Nat.add_le_add hx.b hy.b) (pow10 hx.k1 hy.k1)
  ar := ⟨hx.ar, hy.ar⟩
  k1 := by have := hx.k1; omega
theorem Gx.large {x : Tm} {k : Nat} (h : Gx x k) (hk : k ≤ 320) : large x = false := by
  unfold Pa.large
  have := h.deg; have := h.wgt
  simp
  omega
def limD : List Nat → Bool
  | [] => false
  | _ => true
theorem dig_facts : ∀ d < 10, digN (valN (limbs (decV (dgt d)))) ≤ 1 ∧ (trimN (limbs (decV (dgt d)))).headD 0 = d ∧ (limbs (decV (dgt d))).length ≤ 10 := by decide +kernel
theorem Gx.atom (n : Bool) {d : Nat} (hd : d < 10) : Gx (aT n d) 1 ∧ valT (aT n d) = sv n d := by
  obtain ⟨h1, h2, h3⟩ := dig_facts d hd
  have g : Gx (numT (dgt d)) 1 := ⟨rfl, by show capN _ ≤ 1; exact Nat.le_trans (Nat.min_le_left _ _) h1, by show _ + 1 ≤ 10 ^ 1; rw [h2]; omega, ⟨h3, rfl⟩, Nat.le_refl _⟩
  have v : valT (numT (dgt d)) = (d : Int) := by show (((trimN (limbs (decV (dgt d)))).headD 0 : Nat) : Int) = _; rw [h2]
  cases n with
  | true => exact ⟨⟨g.deg, g.wgt, g.b, g.ar, g.k1⟩, by show -valT (numT (dgt d)) = _; rw [v]; rfl⟩
  | false => exact ⟨g, v⟩
theorem bT_pos : ∀ t, 1 ≤ bT t
  | .odd => Nat.le_refl _
  | .num _ _ => Nat.le_add_left _ _
  | .name _ => Nat.le_refl _
  | .add l r => by have := bT_pos l; unfold bT; omega
  | .sub l r => by have := bT_pos l; unfold bT; omega
  | .mul l r => by unfold bT; exact Nat.mul_pos (bT_pos l) (bT_pos r)
  | .neg t => by unfold bT; exact bT_pos t
  | .pow _ _ => Nat.le_refl _
theorem natAbs_le {a : Int} {b : Nat} : a.natAbs ≤ b ↔ -(b : Int) ≤ a ∧ a ≤ b := by omega
theorem valT_le : ∀ t, (valT t).natAbs ≤ bT t
  | .odd => by simp [valT]
  | .num _ l => by unfold valT bT; rw [Int.natAbs_natCast]; exact Nat.le_succ _
  | .name _ => by simp [valT]
  | .add l r => by have := valT_le l; have := valT_le r; unfold valT bT; omega
  | .sub l r => by have := valT_le l; have := valT_le r; unfold valT bT; omega
  | .mul l r => by unfold valT bT; rw [Int.natAbs_mul]; exact Nat.mul_le_mul (valT_le l) (valT_le r)
  | .neg t => by unfold valT bT; rw [Int.natAbs_neg]; exact valT_le t
  | .pow _ _ => by simp [valT]
def St (s : PS) : Prop := s.over = false ∧ s.depth = 0
section
variable {T : List Tok}
theorem inc_st {s : PS} (h : s.depth + 1 ≤ 60) : inc T s = { s with depth := s.depth + 1 } := by unfold inc; rw [if_neg (by omega)]
theorem ar_pow {s : PS} {d : Nat} {R : List (Nat × Bytes)} (h : rst T s = (1, dgt d) :: R) (hR : seesK (R.headD (0, [])) cHat = false) : Big T (.pow none) s (some (.tm (numT (dgt d)))) (adv s) ∧ rst T (adv s) = R := by
  have e : rst T (adv s) = R := rst_tail h rfl
  obtain ⟨k1, k2⟩ := pk_hd2 h
  have hp := Big.pr_num (T := T) k1
  rw [k2] at hp
  exact ⟨.po_go hp (.pT_end (by rw [sees_k, e]; exact hR)), e⟩
theorem ar_fac {s : PS} {n : Bool} {d : Nat} {R : List (Nat × Bytes)} (hs : St s) (h : rst T s = aK n d ++ R) (hR : seesK (R.headD (0, [])) cHat = false) : ∃ s', Big T (.fac none) s (some (.tm (aT n d))) s' ∧ rst T s' = R ∧ St s' := by
  cases n with
  | true =>
    have h : rst T s = (4, cMinus) :: (1, dgt d) :: R := h
    obtain ⟨b1, e1⟩ := ar_pow (T := T) (s := opn T s) (rst_tail h (opn_next _ _)) hR
    have e0 : rst T (opn T s) = (1, dgt d) :: R := rst_tail h (opn_next _ _)
    refine ⟨dn (adv (opn T s)), .fa_neg (by rw [sees_hd2 h]; rfl) (.fa_pow (by rw [sees_hd2 e0]; rfl) b1), rst_same e1 rfl, ?_⟩
    unfold opn
    rw [inc_st (by rw [hs.2]; omega)]
    exact ⟨hs.1, by show s.depth + 1 - 1 = 0; rw [hs.2]⟩
  | false =>
    have h : rst T s = (1, dgt d) :: R := h
    obtain ⟨b1, e1⟩ := ar_pow (T := T) h hR
    exact ⟨adv s, .fa_pow (by rw [sees_hd2 h]; rfl) b1, e1, hs⟩
def okI (l : List Itm) : Prop := ∀ i ∈ l, i.2.2 < 10 ∧ i.1 < 3
theorem itK_hat (l : List Itm) (h : okI l) : seesK ((itK l).headD (0, [])) cHat = false := by
  match l, h with
  | [], _ => rfl
  | (o, n, d) :: r, h =>
    have := (h _ (List.mem_cons_self ..)).2
    rw [itK_cons]
    show seesK (4, opC o) cHat = false
    match o, this with
    | 0, _ => decide
    | 1, _ => decide
    | 2, _ => decide
theorem ar_prodL : ∀ (l : List Itm) (x : Tm) (k : Nat) (s : PS), okI l → Gx x k → k + l.length ≤ 300 → St s → rst T s = itK l →
    ∃ y s' l' k', Big T (.prodL x) s (some (.tm y)) s' ∧ rst T s' = itK l' ∧ St s' ∧ Gx y k' ∧ k' + l'.length = k + l.length ∧ l'.length ≤ l.length ∧ (∀ i r, l' = i :: r → i.1 ≠ 2) ∧ okI l' ∧ ∀ t c : Int, evI l t (c * valT x) = evI l' t (c * valT y) := by
  intro l
  induction l with
  | nil =>
    intro x k s hl hx hk hs h
    exact ⟨x, s, [], k, .pdL_end (sees_nil2 h _), h, hs, hx, rfl, Nat.le_refl _, fun i r e => (by cases e), hl, fun t c => rfl⟩
  | cons i r ih =>
    obtain ⟨o, n, d⟩ := i
    intro x k s hl hx hk hs h
    have hi := hl _ (List.mem_cons_self ..)
    have hr : okI r := fun j hj => hl j (List.mem_cons_of_mem _ hj)
    rw [itK_cons] at h
    by_cases ho : o = 2
    · subst ho
      have h : rst T s = (4, cStar) :: (aK n d ++ itK r) := h
      have h1 : rst T (adv s) = aK n d ++ itK r := rst_tail h rfl
      obtain ⟨s1, b1, e1, hs1⟩ := ar_fac (T := T) (s := adv s) hs h1 (itK_hat r hr)
      obtain ⟨g, gv⟩ := Gx.atom n hi.1
      have hm := hx.mul g
      have em : meas s1 (pk T s) (.mul x (aT n d)) [x, aT n d] = s1 := by
        unfold meas; rw [if_neg]; rw [hm.large (by simp at hk; omega)]; simp
      obtain ⟨y, s', l', k', b2, e2, hs2, hy, hk', hl', hh, hok, hv⟩ := ih (.mul x (aT n d)) (k + 1) s1 hr hm (by simp at hk; omega) hs1 e1
      refine ⟨y, s', l', k', .pdL_go (by rw [sees_hd2 h]; rfl) b1 (by rw [em]; exact b2), e2, hs2, hy, by simp; omega, by simp; omega, hh, hok, fun t c => ?_⟩
      rw [← hv]
      show evI r t (c * valT x * sv n d) = evI r t (c * (valT x * valT (aT n d)))
      rw [gv, Int.mul_assoc]
    · refine ⟨x, s, (o, n, d) :: r, k, .pdL_end ?_, by rw [itK_cons]; exact h, hs, hx, rfl, Nat.le_refl _, fun i r e => (by cases e; exact ho), hl, fun t c => rfl⟩
      rw [sees_hd2 h]
      have : o < 3 := hi.2
      show seesK (4, opC o) cStar = false
      match o, this, ho with
      | 0, _, _ => decide
      | 1, _, _ => decide
      | 2, _, h => exact absurd rfl h
theorem ar_termL : ∀ (m : Nat) (l : List Itm) (x : Tm) (k : Nat) (s : PS), l.length ≤ m → okI l → Gx x k → k + l.length ≤ 300 → St s → rst T s = itK l → (∀ i r, l = i :: r → i.1 ≠ 2) →
    ∃ z s', Big T (.termL x) s (some (.tm z)) s' ∧ rst T s' = [] ∧ St s' ∧ Gx z (k + l.length) ∧ ∀ t p : Int, t + p = valT x → valT z = evI l t p := by
  intro m
  induction m with
  | zero =>
    intro l x k s hm hl hx hk hs h hh
    obtain rfl : l = [] := List.length_eq_zero_iff.1 (by omega)
    exact ⟨x, s, .teL_end (by rw [sees_nil2 h, sees_nil2 h]; rfl), h, hs, hx, fun t p e => e.symm⟩
  | succ m ih =>
    intro l x k s hm hl hx hk hs h hh
    match l, hm, hl, hk, h, hh with
    | [], hm, hl, hk, h, hh => exact ⟨x, s, .teL_end (by rw [sees_nil2 h, sees_nil2 h]; rfl), h, hs, hx, fun t p e => e.symm⟩
    | (o, n, d) :: r, hm, hl, hk, h, hh =>
      have hi := hl _ (List.mem_cons_self ..)
      have hr : okI r := fun j hj => hl j (List.mem_cons_of_mem _ hj)
      rw [itK_cons] at h
      have ho2 : o ≠ 2 := hh _ _ rfl
      have h1 : rst T (adv s) = aK n d ++ itK r := rst_tail h rfl
      obtain ⟨s1, b1, e1, hs1⟩ := ar_fac (T := T) (s := adv s) hs h1 (itK_hat r hr)
      obtain ⟨g, gv⟩ := Gx.atom n hi.1
      obtain ⟨y, s2, l', k', b2, e2, hs2, hy, hk', hl', hh', hok, hv⟩ := ar_prodL r (aT n d) 1 s1 hr g (by simp at hk; have := hx.k1; omega) hs1 e1
      have hkk := hx.k1
      simp only [List.length_cons] at hk hm ⊢
      by_cases ho : o = 1
      · subst ho
        obtain ⟨k1, k2⟩ := pk_hd2 h
        have hm2 := hx.sub hy
        have es : sumT (pk T s) x y = .sub x y := by unfold sumT; rw [k2]; rfl
        have em : meas s2 (pk T s) (sumT (pk T s) x y) [x, y] = s2 := by
          rw [es]; unfold meas; rw [if_neg]; rw [hm2.large (by omega)]; simp
        obtain ⟨z, s', b3, e3, hs3, hz, hv3⟩ := ih l' (.sub x y) (k + k') s2 (by omega) hok hm2 (by omega) hs2 e2 hh'
        refine ⟨z, s', .teL_go (by rw [sees_hd2 h, sees_hd2 h]; rfl) (.pd_go b1 b2) (by rw [em, es]; exact b3), e3, hs3, ?_, fun t p e => ?_⟩
        · have : k + k' + l'.length = k + (r.length + 1) := by omega
          rw [← this]; exact hz
        · show valT z = evI r (t + p) (-sv n d)
          rw [← gv, show -valT (aT n d) = -1 * valT (aT n d) by omega, hv]
          exact hv3 _ _ (by show _ = valT x - valT y; omega)
      · have ho0 : o = 0 := by have := hi.2; omega
        subst ho0
        obtain ⟨k1, k2⟩ := pk_hd2 h
        have hm2 := hx.add hy
        have es : sumT (pk T s) x y = .add x y := by unfold sumT; rw [k2]; rfl
        have em : meas s2 (pk T s) (sumT (pk T s) x y) [x, y] = s2 := by
          rw [es]; unfold meas; rw [if_neg]; rw [hm2.large (by omega)]; simp
        obtain ⟨z, s', b3, e3, hs3, hz, hv3⟩ := ih l' (.add x y) (k + k') s2 (by omega) hok hm2 (by omega) hs2 e2 hh'
        refine ⟨z, s', .teL_go (by rw [sees_hd2 h, sees_hd2 h]; rfl) (.pd_go b1 b2) (by rw [em, es]; exact b3), e3, hs3, ?_, fun t p e => ?_⟩
        · have : k + k' + l'.length = k + (r.length + 1) := by omega
          rw [← this]; exact hz
        · show valT z = evI r (t + p) (sv n d)
          rw [← gv, show valT (aT n d) = 1 * valT (aT n d) by omega, hv]
          exact hv3 _ _ (by show _ = valT x + valT y; omega)
theorem ar_term {n : Bool} {d : Nat} {l : List Itm} (hd : d < 10) (hl : okI l) (hk : l.length ≤ 200) {s : PS} (hs : St s) (h : rst T s = aK n d ++ itK l) :
    ∃ z s', Big T (.term none) s (some (.tm z)) s' ∧ rst T s' = [] ∧ St s' ∧ Gx z (1 + l.length) ∧ valT z = evI l 0 (sv n d) := by
  obtain ⟨s1, b1, e1, hs1⟩ := ar_fac (T := T) hs h (itK_hat l hl)
  obtain ⟨g, gv⟩ := Gx.atom n hd
  obtain ⟨y, s2, l', k', b2, e2, hs2, hy, hk', hl', hh', hok, hv⟩ := ar_prodL l (aT n d) 1 s1 hl g (by omega) hs1 e1
  obtain ⟨z, s', b3, e3, hs3, hz, hv3⟩ := ar_termL (T := T) _ l' y k' s2 (Nat.le_refl _) hok hy (by omega) hs2 e2 hh'
  refine ⟨z, s', .te_go (.pd_go b1 b2) b3, e3, hs3, by rw [← hk']; exact hz, ?_⟩
  rw [← gv, show valT (aT n d) = 1 * valT (aT n d) by omega, hv]
  exact hv3 _ _ (by omega)
end
/-! ### the text -/
def aS (n : Bool) (d : Nat) : Bytes := (if n then [45] else []) ++ dgt d
def arS (n : Bool) (d : Nat) (l : List Itm) : Bytes := aS n d ++ l.flatMap fun i => 32 :: (opC i.1 ++ 32 :: aS i.2.1 i.2.2)
theorem dgt_dig : ∀ d < 10, dig (UInt8.ofNat (48 + d)) = true ∧ bl (UInt8.ofNat (48 + d)) = false := by decide +kernel
theorem Says.digit {d : Nat} {rest : Bytes} {M : List (Nat × Bytes)} (hd : d < 10) (hr : run dig rest = 0) (hb : Says rest M) : Says (dgt d ++ rest) ((1, dgt d) :: M) := by
  obtain ⟨h1, h2⟩ := dgt_dig d hd
  have hn : next (UInt8.ofNat (48 + d) :: rest) = (1, 1, 0) := by
    have e : run dig (UInt8.ofNat (48 + d) :: rest) = 1 := by rw [run_cons, if_pos h1, hr]
    unfold next
    dsimp only
    rw [if_pos h1, e, if_neg (by omega), if_neg (by omega)]
  intro p
  show (lexBl p (UInt8.ofNat (48 + d) :: rest)).2 = _ ∧ _
  rw [show dgt d ++ rest = UInt8.ofNat (48 + d) :: rest from rfl, lexBl_non _ _ _ h2, lexA_ok' _ _ (by simp) (by rw [hn]), hn]
  obtain ⟨h3, h4⟩ := hb (p + 1)
  refine ⟨h3, ?_⟩
  rw [List.map_cons]
  show _ :: ((lexBl (p + 1) rest).1).map kt = _
  rw [h4]; rfl
theorem says_a (n : Bool) {d : Nat} {rest : Bytes} {M : List (Nat × Bytes)} (hd : d < 10) (hr : run dig rest = 0) (hb : Says rest M) : Says (aS n d ++ rest) (aK n d ++ M) := by
  cases n with
  | true => exact Says.sign (by decide) (Says.digit hd hr hb)
  | false => exact Says.digit hd hr hb
theorem says_it : ∀ (l : List Itm), okI l → Says (l.flatMap fun i => 32 :: (opC i.1 ++ 32 :: aS i.2.1 i.2.2)) (itK l) ∧ run dig (l.flatMap fun i => 32 :: (opC i.1 ++ 32 :: aS i.2.1 i.2.2)) = 0
  | [], _ => ⟨Says.nil, rfl⟩
  | (o, n, d) :: r, h => by
    have hi := h _ (List.mem_cons_self ..)
    obtain ⟨h1, h2⟩ := says_it r (fun j hj => h j (List.mem_cons_of_mem _ hj))
    refine ⟨?_, by rw [List.flatMap_cons, List.cons_append, run_cons, if_neg (by decide)]⟩
    rw [itK_cons, List.flatMap_cons]
    have h3 := Says.blank (c := 32) (by decide) (says_a n hi.1 h2 h1)
    have e : (32 :: (opC o ++ 32 :: aS n d)) ++ (r.flatMap fun i => 32 :: (opC i.1 ++ 32 :: aS i.2.1 i.2.2)) = 32 :: (opC o ++ 32 :: (aS n d ++ (r.flatMap fun i => 32 :: (opC i.1 ++ 32 :: aS i.2.1 i.2.2)))) := by simp
    show Says ((32 :: (opC o ++ 32 :: aS n d)) ++ _) _
    rw [e]
    have : o < 3 := hi.2
    match o, this with
    | 0, _ => exact Says.blank (by decide) (Says.sign (by decide) h3)
    | 1, _ => exact Says.blank (by decide) (Says.sign (by decide) h3)
    | 2, _ => exact Says.blank (by decide) (Says.sign (by decide) h3)
theorem ar_parse {n : Bool} {d : Nat} {l : List Itm} (hd : d < 10) (hl : okI l) (hk : l.length ≤ 200) : ∃ z, ParseR (.term none) id (arS n d l) (some (.tm z)) 0 0 ∧ Gx z (1 + l.length) ∧ valT z = evI l 0 (sv n d) := by
  obtain ⟨h1, h2⟩ := says_it l hl
  have hS := says_a n hd h2 h1
  have hlen : (arS n d l).length ≤ 4000 := by
    have hA : ∀ n d, (aS n d).length ≤ 2 := by intro n d; unfold aS; cases n <;> simp [dgt]
    have hF : ∀ l : List Itm, (l.flatMap fun i => 32 :: (opC i.1 ++ 32 :: aS i.2.1 i.2.2)).length ≤ 5 * l.length := by
      intro l
      induction l with
      | nil => exact Nat.le_refl _
      | cons i r ih =>
        have := hA i.2.1 i.2.2
        have : (opC i.1).length ≤ 1 := by unfold opC; split; decide; split <;> decide
        simp only [List.flatMap_cons, List.length_append, List.length_cons] at *
        omega
    have := hA n d
    have := hF l
    unfold arS
    rw [List.length_append]
    omega
  obtain ⟨T, hx, hT⟩ := hS.lex hlen
  obtain ⟨z, s', hb, e, hs', hz, hv⟩ := ar_term (T := T) (s := s0) hd hl hk ⟨rfl, rfl⟩ hT
  refine ⟨z, ?_, hz, hv⟩
  unfold ParseR
  rw [show lex (arS n d l) = (T, 0, 0) from hx, if_neg (by simp)]
  refine ⟨_, s', hb, ?_, rfl⟩
  have hn : ¬ s'.next < T.length := by have := drop_all e; omega
  unfold verd
  rw [if_neg hn, if_neg (by simp), if_neg (by rw [hs'.1]; simp)]
end Pa
end Go.Proofs.Ytkjbfomokdjbnaa

/-
  cylinderlaw36.value on the tree of a sum or product of small numbers.
-/
namespace Go.Proofs.Ytkjbfomokdjbnaa
open Go.RowKit Go.Sort
set_option linter.unusedSimpArgs false
set_option linter.unusedVariables false
namespace Pa
open Lx Fm Dc
attribute [local go_sem] run_store
def IntPost (n : Int) (w : World) (e : Ending) (w' : World) : Prop := e = .returned (.int .i64 n) ∧ Below w.heap.size w w'
/-- value's contract at a tree -/
def ValC (t : Tr) (n : Int) : Prop := ∀ (cs : List Value) (S : Nat → Prop) (w : World), (∀ b, S b → b < w.heap.size) → TreeAt w S t cs → Calls Try.prog 16 #[.agg cs.toArray] w (IntPost n w)
def QuietV (f : FuncId) (args : Array Value) (n : Int) (W : World) : Prop := ∀ d os, Calls Try.prog f args (grow (redrawn W d) os) fun e w' => e = .returned (.int .i64 n) ∧ Below (grow (redrawn W d) os).heap.size (grow (redrawn W d) os) w'
set_option maxRecDepth 100000 in
set_option maxHeartbeats 4000000 in
theorem value_num (abs : List Nat) (hl : abs.length ≤ 1000) : ValC (.mk { hd0 1 with neg := false, abs := abs } []) ((abs.headD 0 : Nat) : Int) := by
  intro cs S w hS hT
  obtain ⟨va, vk, xs, rfl, hab, hnm, hkl, hks, htr⟩ := hT.cells
  dsimp only [Tr.h, Tr.kids, hd0] at hab hnm hkl hks htr ⊢
  simp only [List.length_cons, List.length_nil, Nat.zero_add, Nat.reduceAdd] at hks
  obtain ⟨A9, c9, hv⟩ := hab.form
  obtain ⟨A8, c8, hv8⟩ := hks.form
  subst hv
  subst hv8
  unfold hdC
  dsimp only
  obtain ⟨W, hW⟩ : ∃ W, w.alloc (.cells #[.int .i64 1, .bool false, .slice A9 abs.length c9, .string ⟨#[]⟩, .int .i64 0, .int .i64 0, .bool false, .bool false, .slice A8 0 c8] TT) = W := ⟨_, rfl⟩
  have hx : Box w W w.heap.size #[.int .i64 1, .bool false, .slice A9 abs.length c9, .string ⟨#[]⟩, .int .i64 0, .int .i64 0, .bool false, .bool false, .slice A8 0 c8] TT := by rw [← hW]; exact Box.new w _ _
  obtain ⟨x0, x1, x2, x3, x4, x5, x6, x7, x8⟩ := hx.c9
  cases abs with
  | nil =>
    have HX := Lib.hid hx
    clear hab hks htr hS hT hx hnm hkl
    simp only [List.length_nil] at *
    go_enter Try.func16, Try.ntmps16
    go_wp2
    go_ret
    exact ⟨rfl, HX.out.below⟩
  | cons y ys =>
    have hb2 := hab.below hS hx.below
    obtain ⟨b, q, rfl, hb, hc⟩ := hb2.1.at_ (by simp)
    have y0 : W.cell? ⟨b, q, none⟩ = some (.int .u32 (y : Int)) := by have := hc 0 (u32V y) (by simp); simpa [u32V] using this
    have hy : y < 4294967296 := hab.2.1 y (List.mem_cons_self ..)
    have HX := Lib.hid hx
    clear hab hks htr hS hT hx hnm hkl hc hb hb2
    obtain ⟨m, hm⟩ : ∃ m, m = ys.length := ⟨_, rfl⟩
    have e1 : (y :: ys).length = m + 1 := by rw [hm]; rfl
    rw [e1] at x2 hW ⊢
    have hm3 : m ≤ 1000 := by simp at hl; omega
    clear hm e1 hl
    have hz : (((m + 1 : Nat) : Int) == 0) = false := by rw [beq_eq_false_iff_ne]; omega
    have hz2 : ((m : Int) + 1 == 0) = false := by rw [beq_eq_false_iff_ne]; omega
    have hw : IntKind.i64.wrap (y : Int) = y := IntWalk.i64_in _ (by omega)
    show Calls _ _ _ _ (IntPost (y : Int) w)
    go_enter Try.func16, Try.ntmps16
    go_wp2
    go_ret
    exact ⟨rfl, HX.out.below⟩

set_option maxRecDepth 100000 in
set_option maxHeartbeats 4000000 in
theorem value_add (a b : Tr) (x y : Int) (hxy : -4611686018427387904 ≤ x + y ∧ x + y ≤ 4611686018427387904) (ia : ValC a x) (ib : ValC b y) : ValC (.mk (hd0 3) [a, b]) (x + y) := by
  intro cs S w hS hT
  obtain ⟨va, vk, xs, rfl, hab, hnm, hkl, hks, htr⟩ := hT.cells
  dsimp only [Tr.h, Tr.kids, hd0] at hab hnm hkl hks htr ⊢
  simp only [List.length_cons, List.length_nil, Nat.zero_add, Nat.reduceAdd] at hks
  obtain ⟨A9, c9, hv⟩ := hab.form
  obtain ⟨A8, c8, hv8⟩ := hks.form
  subst hv
  subst hv8
  have hK : 2 = ([a, b] : List Tr).length := rfl
  unfold hdC
  dsimp only
  obtain ⟨W, hW⟩ : ∃ W, w.alloc (.cells #[.int .i64 3, .bool false, .slice A9 0 c9, .string ⟨#[]⟩, .int .i64 0, .int .i64 0, .bool false, .bool false, .slice A8 2 c8] TT) = W := ⟨_, rfl⟩
  have hx : Box w W w.heap.size #[.int .i64 3, .bool false, .slice A9 0 c9, .string ⟨#[]⟩, .int .i64 0, .int .i64 0, .bool false, .bool false, .slice A8 2 c8] TT := by rw [← hW]; exact Box.new w _ _
  obtain ⟨x0, x1, x2, x3, x4, x5, x6, x7, x8⟩ := hx.c9
  obtain ⟨kd0, bb0, o0, A0, n0, c0, B0, m0, d0, hkd0, he0, hb0, hT0, f0, f1, f2, f3, f4, f5, f6, f7, f8⟩ := kid_cells (hks.below hS hx.below) (htr.below hS hx.below) hK 0 (by omega)
  obtain rfl : a = kd0 := by simpa using hkd0
  obtain ⟨kd1, bb1, o1, A1, n1, c1, B1, m1, d1, hkd1, he1, hb1, hT1, g0, g1, g2, g3, g4, g5, g6, g7, g8⟩ := kid_cells (hks.below hS hx.below) (htr.below hS hx.below) hK 1 (by omega)
  obtain rfl : b = kd1 := by simpa using hkd1
  rw [he0] at he1
  injection he1 with he1
  injection he1 with he1a he1b _
  subst he1a; subst he1b
  subst he0
  simp only [Nat.zero_mul, Nat.one_mul, Nat.add_zero] at f0 f1 f2 f3 f4 f5 f6 f7 f8 g0 g1 g2 g3 g4 g5 g6 g7 g8
  have hA : QuietV 16 #[.agg (hdC a.h (.slice A0 n0 c0) (.slice B0 m0 d0)).toArray] x W := fun d os =>
    ia _ S (grow (redrawn W d) os) (fun b hb => Nat.lt_of_lt_of_le (hS b hb) (Nat.le_trans hx.below.size (below_regrown W d os).size)) (hT0.below (fun b hb => Nat.lt_of_lt_of_le (hS b hb) hx.below.size) (below_regrown W d os))
  unfold QuietV hdC at hA
  have HA := Lib.hid hA
  have hB : QuietV 16 #[.agg (hdC b.h (.slice A1 n1 c1) (.slice B1 m1 d1)).toArray] y W := fun d os =>
    ib _ S (grow (redrawn W d) os) (fun b hb => Nat.lt_of_lt_of_le (hS b hb) (Nat.le_trans hx.below.size (below_regrown W d os).size)) (hT1.below (fun b hb => Nat.lt_of_lt_of_le (hS b hb) hx.below.size) (below_regrown W d os))
  unfold QuietV hdC at hB
  have HB := Lib.hid hB
  have HX := Lib.hid hx
  have rx8 := fun d os => cell_regrown x8 d os
  have rf0 := fun d os => cell_regrown f0 d os
  have rf1 := fun d os => cell_regrown f1 d os
  have rf2 := fun d os => cell_regrown f2 d os
  have rf3 := fun d os => cell_regrown f3 d os
  have rf4 := fun d os => cell_regrown f4 d os
  have rf5 := fun d os => cell_regrown f5 d os
  have rf6 := fun d os => cell_regrown f6 d os
  have rf7 := fun d os => cell_regrown f7 d os
  have rf8 := fun d os => cell_regrown f8 d os
  have rg0 := fun d os => cell_regrown g0 d os
  have rg1 := fun d os => cell_regrown g1 d os
  have rg2 := fun d os => cell_regrown g2 d os
  have rg3 := fun d os => cell_regrown g3 d os
  have rg4 := fun d os => cell_regrown g4 d os
  have rg5 := fun d os => cell_regrown g5 d os
  have rg6 := fun d os => cell_regrown g6 d os
  have rg7 := fun d os => cell_regrown g7 d os
  have rg8 := fun d os => cell_regrown g8 d os
  have hw1 : IntKind.i64.wrap (x + y) = x + y := IntWalk.i64_in _ (by omega)
  clear hA hT0 hx hks htr hS hT hkd0 hab hb0 ia hkl hnm hK hB hT1 hkd1 hb1 ib
  go_enter Try.func16, Try.ntmps16
  go_wp2_with fail
  refine wp_region_quiet_below (by kernel_rfl) (by kernel_rfl) ?_
  (repeat (quiet_step (first | (with_reducible exact Calls.regrown_of (HA.out _ _)) | (with_reducible exact Calls.regrown_of (HB.out _ _)))))
  refine wpQuiet_nil ?_
  rintro _ ⟨⟨d, os⟩, rfl⟩
  have hb2 := below_regrown W d os
  go_wp2
  go_ret
  exact ⟨rfl, HX.out.below.trans (hb2.mono HX.out.below.size)⟩

set_option maxRecDepth 100000 in
set_option maxHeartbeats 4000000 in
theorem value_sub (a b : Tr) (x y : Int) (hxy : -4611686018427387904 ≤ x - y ∧ x - y ≤ 4611686018427387904) (ia : ValC a x) (ib : ValC b y) : ValC (.mk (hd0 4) [a, b]) (x - y) := by
  intro cs S w hS hT
  obtain ⟨va, vk, xs, rfl, hab, hnm, hkl, hks, htr⟩ := hT.cells
  dsimp only [Tr.h, Tr.kids, hd0] at hab hnm hkl hks htr ⊢
  simp only [List.length_cons, List.length_nil, Nat.zero_add, Nat.reduceAdd] at hks
  obtain ⟨A9, c9, hv⟩ := hab.form
  obtain ⟨A8, c8, hv8⟩ := hks.form
  subst hv
  subst hv8
  have hK : 2 = ([a, b] : List Tr).length := rfl
  unfold hdC
  dsimp only
  obtain ⟨W, hW⟩ : ∃ W, w.alloc (.cells #[.int .i64 4, .bool false, .slice A9 0 c9, .string ⟨#[]⟩, .int .i64 0, .int .i64 0, .bool false, .bool false, .slice A8 2 c8] TT) = W := ⟨_, rfl⟩
  have hx : Box w W w.heap.size #[.int .i64 4, .bool false, .slice A9 0 c9, .string ⟨#[]⟩, .int .i64 0, .int .i64 0, .bool false, .bool false, .slice A8 2 c8] TT := by rw [← hW]; exact Box.new w _ _
  obtain ⟨x0, x1, x2, x3, x4, x5, x6, x7, x8⟩ := hx.c9
  obtain ⟨kd0, bb0, o0, A0, n0, c0, B0, m0, d0, hkd0, he0, hb0, hT0, f0, f1, f2, f3, f4, f5, f6, f7, f8⟩ := kid_cells (hks.below hS hx.below) (htr.below hS hx.below) hK 0 (by omega)
  obtain rfl : a = kd0 := by simpa using hkd0
  obtain ⟨kd1, bb1, o1, A1, n1, c1, B1, m1, d1, hkd1, he1, hb1, hT1, g0, g1, g2, g3, g4, g5, g6, g7, g8⟩ := kid_cells (hks.below hS hx.below) (htr.below hS hx.below) hK 1 (by omega)
  obtain rfl : b = kd1 := by simpa using hkd1
  rw [he0] at he1
  injection he1 with he1
  injection he1 with he1a he1b _
  subst he1a; subst he1b
  subst he0
  simp only [Nat.zero_mul, Nat.one_mul, Nat.add_zero] at f0 f1 f2 f3 f4 f5 f6 f7 f8 g0 g1 g2 g3 g4 g5 g6 g7 g8
  have hA : QuietV 16 #[.agg (hdC a.h (.slice A0 n0 c0) (.slice B0 m0 d0)).toArray] x W := fun d os =>
    ia _ S (grow (redrawn W d) os) (fun b hb => Nat.lt_of_lt_of_le (hS b hb) (Nat.le_trans hx.below.size (below_regrown W d os).size)) (hT0.below (fun b hb => Nat.lt_of_lt_of_le (hS b hb) hx.below.size) (below_regrown W d os))
  unfold QuietV hdC at hA
  have HA := Lib.hid hA
  have hB : QuietV 16 #[.agg (hdC b.h (.slice A1 n1 c1) (.slice B1 m1 d1)).toArray] y W := fun d os =>
    ib _ S (grow (redrawn W d) os) (fun b hb => Nat.lt_of_lt_of_le (hS b hb) (Nat.le_trans hx.below.size (below_regrown W d os).size)) (hT1.below (fun b hb => Nat.lt_of_lt_of_le (hS b hb) hx.below.size) (below_regrown W d os))
  unfold QuietV hdC at hB
  have HB := Lib.hid hB
  have HX := Lib.hid hx
  have rx8 := fun d os => cell_regrown x8 d os
  have rf0 := fun d os => cell_regrown f0 d os
  have rf1 := fun d os => cell_regrown f1 d os
  have rf2 := fun d os => cell_regrown f2 d os
  have rf3 := fun d os => cell_regrown f3 d os
  have rf4 := fun d os => cell_regrown f4 d os
  have rf5 := fun d os => cell_regrown f5 d os
  have rf6 := fun d os => cell_regrown f6 d os
  have rf7 := fun d os => cell_regrown f7 d os
  have rf8 := fun d os => cell_regrown f8 d os
  have rg0 := fun d os => cell_regrown g0 d os
  have rg1 := fun d os => cell_regrown g1 d os
  have rg2 := fun d os => cell_regrown g2 d os
  have rg3 := fun d os => cell_regrown g3 d os
  have rg4 := fun d os => cell_regrown g4 d os
  have rg5 := fun d os => cell_regrown g5 d os
  have rg6 := fun d os => cell_regrown g6 d os
  have rg7 := fun d os => cell_regrown g7 d os
  have rg8 := fun d os => cell_regrown g8 d os
  have hw1 : IntKind.i64.wrap (x - y) = x - y := IntWalk.i64_in _ (by omega)
  clear hA hT0 hx hks htr hS hT hkd0 hab hb0 ia hkl hnm hK hB hT1 hkd1 hb1 ib
  go_enter Try.func16, Try.ntmps16
  go_wp2_with fail
  refine wp_region_quiet_below (by kernel_rfl) (by kernel_rfl) ?_
  (repeat (quiet_step (first | (with_reducible exact Calls.regrown_of (HA.out _ _)) | (with_reducible exact Calls.regrown_of (HB.out _ _)))))
  refine wpQuiet_nil ?_
  rintro _ ⟨⟨d, os⟩, rfl⟩
  have hb2 := below_regrown W d os
  go_wp2
  go_ret
  exact ⟨rfl, HX.out.below.trans (hb2.mono HX.out.below.size)⟩

set_option maxRecDepth 100000 in
set_option maxHeartbeats 4000000 in
theorem value_mul (a b : Tr) (x y : Int) (hxy : -4611686018427387904 ≤ x * y ∧ x * y ≤ 4611686018427387904) (ia : ValC a x) (ib : ValC b y) : ValC (.mk (hd0 5) [a, b]) (x * y) := by
  intro cs S w hS hT
  obtain ⟨va, vk, xs, rfl, hab, hnm, hkl, hks, htr⟩ := hT.cells
  dsimp only [Tr.h, Tr.kids, hd0] at hab hnm hkl hks htr ⊢
  simp only [List.length_cons, List.length_nil, Nat.zero_add, Nat.reduceAdd] at hks
  obtain ⟨A9, c9, hv⟩ := hab.form
  obtain ⟨A8, c8, hv8⟩ := hks.form
  subst hv
  subst hv8
  have hK : 2 = ([a, b] : List Tr).length := rfl
  unfold hdC
  dsimp only
  obtain ⟨W, hW⟩ : ∃ W, w.alloc (.cells #[.int .i64 5, .bool false, .slice A9 0 c9, .string ⟨#[]⟩, .int .i64 0, .int .i64 0, .bool false, .bool false, .slice A8 2 c8] TT) = W := ⟨_, rfl⟩
  have hx : Box w W w.heap.size #[.int .i64 5, .bool false, .slice A9 0 c9, .string ⟨#[]⟩, .int .i64 0, .int .i64 0, .bool false, .bool false, .slice A8 2 c8] TT := by rw [← hW]; exact Box.new w _ _
  obtain ⟨x0, x1, x2, x3, x4, x5, x6, x7, x8⟩ := hx.c9
  obtain ⟨kd0, bb0, o0, A0, n0, c0, B0, m0, d0, hkd0, he0, hb0, hT0, f0, f1, f2, f3, f4, f5, f6, f7, f8⟩ := kid_cells (hks.below hS hx.below) (htr.below hS hx.below) hK 0 (by omega)
  obtain rfl : a = kd0 := by simpa using hkd0
  obtain ⟨kd1, bb1, o1, A1, n1, c1, B1, m1, d1, hkd1, he1, hb1, hT1, g0, g1, g2, g3, g4, g5, g6, g7, g8⟩ := kid_cells (hks.below hS hx.below) (htr.below hS hx.below) hK 1 (by omega)
  obtain rfl : b = kd1 := by simpa using hkd1
  rw [he0] at he1
  injection he1 with he1
  injection he1 with he1a he1b _
  subst he1a; subst he1b
  subst he0
  simp only [Nat.zero_mul, Nat.one_mul, Nat.add_zero] at f0 f1 f2 f3 f4 f5 f6 f7 f8 g0 g1 g2 g3 g4 g5 g6 g7 g8
  have hA : QuietV 16 #[.agg (hdC a.h (.slice A0 n0 c0) (.slice B0 m0 d0)).toArray] x W := fun d os =>
    ia _ S (grow (redrawn W d) os) (fun b hb => Nat.lt_of_lt_of_le (hS b hb) (Nat.le_trans hx.below.size (below_regrown W d os).size)) (hT0.below (fun b hb => Nat.lt_of_lt_of_le (hS b hb) hx.below.size) (below_regrown W d os))
  unfold QuietV hdC at hA
  have HA := Lib.hid hA
  have hB : QuietV 16 #[.agg (hdC b.h (.slice A1 n1 c1) (.slice B1 m1 d1)).toArray] y W := fun d os =>
    ib _ S (grow (redrawn W d) os) (fun b hb => Nat.lt_of_lt_of_le (hS b hb) (Nat.le_trans hx.below.size (below_regrown W d os).size)) (hT1.below (fun b hb => Nat.lt_of_lt_of_le (hS b hb) hx.below.size) (below_regrown W d os))
  unfold QuietV hdC at hB
  have HB := Lib.hid hB
  have HX := Lib.hid hx
  have rx8 := fun d os => cell_regrown x8 d os
  have rf0 := fun d os => cell_regrown f0 d os
  have rf1 := fun d os => cell_regrown f1 d os
  have rf2 := fun d os => cell_regrown f2 d os
  have rf3 := fun d os => cell_regrown f3 d os
  have rf4 := fun d os => cell_regrown f4 d os
  have rf5 := fun d os => cell_regrown f5 d os
  have rf6 := fun d os => cell_regrown f6 d os
  have rf7 := fun d os => cell_regrown f7 d os
  have rf8 := fun d os => cell_regrown f8 d os
  have rg0 := fun d os => cell_regrown g0 d os
  have rg1 := fun d os => cell_regrown g1 d os
  have rg2 := fun d os => cell_regrown g2 d os
  have rg3 := fun d os => cell_regrown g3 d os
  have rg4 := fun d os => cell_regrown g4 d os
  have rg5 := fun d os => cell_regrown g5 d os
  have rg6 := fun d os => cell_regrown g6 d os
  have rg7 := fun d os => cell_regrown g7 d os
  have rg8 := fun d os => cell_regrown g8 d os
  have hw1 : IntKind.i64.wrap (x * y) = x * y := IntWalk.i64_in _ (by omega)
  clear hA hT0 hx hks htr hS hT hkd0 hab hb0 ia hkl hnm hK hB hT1 hkd1 hb1 ib
  go_enter Try.func16, Try.ntmps16
  go_wp2_with fail
  refine wp_region_quiet_below (by kernel_rfl) (by kernel_rfl) ?_
  (repeat (quiet_step (first | (with_reducible exact Calls.regrown_of (HA.out _ _)) | (with_reducible exact Calls.regrown_of (HB.out _ _)))))
  refine wpQuiet_nil ?_
  rintro _ ⟨⟨d, os⟩, rfl⟩
  have hb2 := below_regrown W d os
  go_wp2
  go_ret
  exact ⟨rfl, HX.out.below.trans (hb2.mono HX.out.below.size)⟩

set_option maxRecDepth 100000 in
set_option maxHeartbeats 4000000 in
theorem value_neg (a : Tr) (x : Int) (hxy : -4611686018427387904 ≤ x ∧ x ≤ 4611686018427387904) (ia : ValC a x) : ValC (.mk (hd0 6) [a]) (-x) := by
  intro cs S w hS hT
  obtain ⟨va, vk, xs, rfl, hab, hnm, hkl, hks, htr⟩ := hT.cells
  dsimp only [Tr.h, Tr.kids, hd0] at hab hnm hkl hks htr ⊢
  simp only [List.length_cons, List.length_nil, Nat.zero_add, Nat.reduceAdd] at hks
  obtain ⟨A9, c9, hv⟩ := hab.form
  obtain ⟨A8, c8, hv8⟩ := hks.form
  subst hv
  subst hv8
  have hK : 1 = ([a] : List Tr).length := rfl
  unfold hdC
  dsimp only
  obtain ⟨W, hW⟩ : ∃ W, w.alloc (.cells #[.int .i64 6, .bool false, .slice A9 0 c9, .string ⟨#[]⟩, .int .i64 0, .int .i64 0, .bool false, .bool false, .slice A8 1 c8] TT) = W := ⟨_, rfl⟩
  have hx : Box w W w.heap.size #[.int .i64 6, .bool false, .slice A9 0 c9, .string ⟨#[]⟩, .int .i64 0, .int .i64 0, .bool false, .bool false, .slice A8 1 c8] TT := by rw [← hW]; exact Box.new w _ _
  obtain ⟨x0, x1, x2, x3, x4, x5, x6, x7, x8⟩ := hx.c9
  obtain ⟨kd0, bb0, o0, A0, n0, c0, B0, m0, d0, hkd0, he0, hb0, hT0, f0, f1, f2, f3, f4, f5, f6, f7, f8⟩ := kid_cells (hks.below hS hx.below) (htr.below hS hx.below) hK 0 (by omega)
  obtain rfl : a = kd0 := by simpa using hkd0
  subst he0
  simp only [Nat.zero_mul, Nat.one_mul, Nat.add_zero] at f0 f1 f2 f3 f4 f5 f6 f7 f8
  have hA := ia _ S W (fun b hb => Nat.lt_of_lt_of_le (hS b hb) hx.below.size) hT0
  unfold hdC at hA
  have HA := Lib.hid hA
  have HX := Lib.hid hx
  have hw1 : IntKind.i64.wrap (-x) = -x := IntWalk.i64_in _ (by omega)
  clear hA hT0 hx hks htr hS hT hkd0 hab hb0 ia hkl hnm hK
  go_enter Try.func16, Try.ntmps16
  go_wp2_with (go_at_call 16; refine HA.out.mono ?_; rintro e w2 ⟨rfl, hb2⟩; have HB2 := Lib.hid (HX.out.below.trans (hb2.mono HX.out.below.size)))
  go_ret
  exact ⟨rfl, HB2.out⟩
theorem value_any : ∀ t : Tm, arT t → bT t ≤ 4611686018427387904 → ValC (plainT t) (valT t)
  | .odd, h, _ => h.elim
  | .name _, h, _ => h.elim
  | .pow _ _, h, _ => h.elim
  | .num n l, h, hb => by
    have ht : (trimN l).length ≤ 1000 := Nat.le_trans (trimN_le l) (Nat.le_trans h.1 (by omega))
    have := value_num (trimN l) ht
    show ValC (.mk { hd0 1 with neg := normB n l, abs := trimN l } []) _
    rw [show normB n l = false from by rw [h.2]; unfold normB; rfl]
    exact this
  | .add l r, h, hb => by
    have h1 := valT_le (.add l r)
    have h2 : bT (.add l r) = bT l + bT r := rfl
    exact value_add _ _ _ _ (by have : valT (.add l r) = valT l + valT r := rfl; omega) (value_any l h.1 (by omega)) (value_any r h.2 (by omega))
  | .sub l r, h, hb => by
    have h1 := valT_le (.sub l r)
    have h2 : bT (.sub l r) = bT l + bT r := rfl
    exact value_sub _ _ _ _ (by have : valT (.sub l r) = valT l - valT r := rfl; omega) (value_any l h.1 (by omega)) (value_any r h.2 (by omega))
  | .mul l r, h, hb => by
    have h1 := valT_le (.mul l r)
    have h2 : bT (.mul l r) = bT l * bT r := rfl
    have h3 : bT l ≤ bT l * bT r := Nat.le_mul_of_pos_right _ (bT_pos r)
    have h4 : bT r ≤ bT l * bT r := Nat.le_mul_of_pos_left _ (bT_pos l)
    exact value_mul _ _ _ _ (by have : valT (.mul l r) = valT l * valT r := rfl; omega) (value_any l h.1 (by omega)) (value_any r h.2 (by omega))
  | .neg t, h, hb => by
    have h1 := valT_le t
    have h2 : bT (.neg t) = bT t := rfl
    exact value_neg _ _ (by omega) (value_any t h (by omega))
end Pa
end Go.Proofs.Ytkjbfomokdjbnaa
