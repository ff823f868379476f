/-
  What a successful parse keeps: nodes and tokens, relations, names, limits. Plain Lean.
-/
import Derived.Test.YteneobpacobpdaaGreatDoorPbC
import Derived.Test.YteneobpacobpdaaGreatDoorFmG
set_option linter.unusedSimpArgs false
set_option linter.unusedVariables false
namespace Go.Proofs.YteneobpacobpdaaGreatDoor
open Go.RowKit
namespace Pa
open Lx Fm Dc
structure Go2 (s s' : PS) : Prop where
 next : s.next ≤ s'.next
 rels : s.rels ≤ s'.rels
 sub : ∀ n ∈ s.names, n ∈ s'.names
 nodup : s.names.Nodup → s'.names.Nodup
 over : s'.over = false → s.over = false
 rel16 : s'.over = false → s.rels ≤ 16 → s'.rels ≤ 16
 nam4 : s'.over = false → s.names.length ≤ 4 → s'.names.length ≤ 4
theorem Go2.refl (s : PS) : Go2 s s := ⟨Nat.le_refl _, Nat.le_refl _, fun _ h => h, fun h => h, fun h => h, fun _ h => h, fun _ h => h⟩
theorem Go2.trans {a b c : PS} (h : Go2 a b) (k : Go2 b c) : Go2 a c :=
 ⟨Nat.le_trans h.next k.next, Nat.le_trans h.rels k.rels, fun n hn => k.sub n (h.sub n hn), fun hn => k.nodup (h.nodup hn), fun ho => h.over (k.over ho), fun ho hr => k.rel16 ho (h.rel16 (k.over ho) hr), fun ho hr => k.nam4 ho (h.nam4 (k.over ho) hr)⟩
theorem Go2.adv (s : PS) : Go2 s (adv s) := ⟨Nat.le_succ _, Nat.le_refl _, fun _ h => h, fun h => h, fun h => h, fun _ h => h, fun _ h => h⟩
theorem Go2.dn (s : PS) : Go2 s (dn s) := ⟨Nat.le_refl _, Nat.le_refl _, fun _ h => h, fun h => h, fun h => h, fun _ h => h, fun _ h => h⟩
theorem Go2.of_over {s s' : PS} (e1 : s.next ≤ s'.next) (e2 : s.rels ≤ s'.rels) (e3 : ∀ n ∈ s.names, n ∈ s'.names) (e4 : s.names.Nodup → s'.names.Nodup) (ho : s'.over = true) : Go2 s s' :=
 ⟨e1, e2, e3, e4, fun h => (by rw [ho] at h; cases h), fun h => (by rw [ho] at h; cases h), fun h => (by rw [ho] at h; cases h)⟩
theorem Go2.exc (s : PS) (p : Nat) : Go2 s (exc s p) := .of_over (by rw [exc_next]; exact Nat.le_refl _) (by rw [exc_rels]; exact Nat.le_refl _) (fun n h => by rw [exc_names]; exact h) (fun h => by rw [exc_names]; exact h) (exc_over s p)
theorem Go2.inc (T : List Tok) (s : PS) : Go2 s (inc T s) := by
 unfold Pa.inc
 have h0 : Go2 s { s with depth := s.depth + 1 } := ⟨Nat.le_refl _, Nat.le_refl _, fun _ h => h, fun h => h, fun h => h, fun _ h => h, fun _ h => h⟩
 split
 ·exact h0.trans (.exc _ _)
 ·exact h0
theorem Go2.opn (T : List Tok) (s : PS) : Go2 s (opn T s) := (Go2.inc T s).trans (.adv _)
theorem nodup_snoc {n : ByteArray} {l : List ByteArray} (h : l.Nodup) (hn : n ∉ l) : (l ++ [n]).Nodup := by
 rw [List.nodup_append]
 exact ⟨h, by simp, fun a ha b hb => by simp at hb; subst hb; exact fun e => hn (e ▸ ha)⟩
theorem Go2.nm1 (T : List Tok) (s : PS) : Go2 s (nm1 T s) := by
 unfold Pa.nm1
 split
 ·exact .refl s
 ·rename_i hn
  split
  ·have e := exc_over { s with names := s.names ++ [bs (pk T s).text] } (pk T s).pos
   refine .of_over (by rw [exc_next]; exact Nat.le_refl _) (by rw [exc_rels]; exact Nat.le_refl _) (fun n h => by rw [exc_names]; exact List.mem_append_left _ h) (fun h => by rw [exc_names]; exact nodup_snoc h hn) e
  ·rename_i h4
   exact ⟨Nat.le_refl _, Nat.le_refl _, fun n h => List.mem_append_left _ h, fun h => nodup_snoc h hn, fun h => h, fun _ h => h, fun _ _ => by simp; omega⟩
theorem Go2.nam (T : List Tok) (s : PS) : Go2 s (nam T s) := (Go2.nm1 T s).trans (.adv _)
theorem Go2.relS (T : List Tok) (s : PS) : Go2 s (relS T s) := by
 unfold Pa.relS rel1
 refine Go2.trans ?_ (.adv _)
 split
 ·refine .of_over (by rw [exc_next]; exact Nat.le_refl _) (by rw [exc_rels]; exact Nat.le_succ _) (fun n h => by rw [exc_names]; exact h) (fun h => by rw [exc_names]; exact h) (exc_over _ _)
 ·rename_i h
  exact ⟨Nat.le_refl _, Nat.le_succ _, fun _ h => h, fun h => h, fun h => h, fun _ _ => by simp; omega, fun _ h => h⟩
theorem Go2.meas (s : PS) (t : Tok) (x : Tm) (l : List Tm) : Go2 s (meas s t x l) := by
 unfold Pa.meas
 split
 ·exact .exc _ _
 ·exact .refl s
theorem Go2.powS (T : List Tok) (x : Tm) (s : PS) : Go2 s (powS T x s) := by
 unfold Pa.powS
 refine Go2.trans ?_ (.meas _ _ _ _)
 split
 ·exact ((Go2.adv s).trans (.adv _)).trans (.exc _ _)
 ·exact (Go2.adv s).trans (.adv _)
theorem Big.go {T : List Tok} {c : PC} {s s' : PS} {r : Option PV} (h : Big T c s r s') : ∀ z, r = some z → Go2 s s' := by
 induction h with
 | iff_no _ _ => intro z e; cases e
 | iffL_bad _ _ _ => intro z e; cases e
 | imp_no _ _ => intro z e; cases e
 | imp_bad _ _ _ _ _ => intro z e; cases e
 | or_no _ _ => intro z e; cases e
 | orL_bad _ _ _ => intro z e; cases e
 | and_no _ _ => intro z e; cases e
 | andL_bad _ _ _ => intro z e; cases e
 | un_not_no _ _ _ => intro z e; cases e
 | qu_no _ => intro z e; cases e
 | qu_comma_no _ _ _ _ => intro z e; cases e
 | qu_dot_no _ _ _ _ _ => intro z e; cases e
 | qu_bad _ _ _ => intro z e; cases e
 | at_no _ _ _ => intro z e; cases e
 | atT_no _ _ => intro z e; cases e
 | atT_none _ _ _ _ => intro z e; cases e
 | atT_bad _ _ _ _ _ => intro z e; cases e
 | en_no _ _ => intro z e; cases e
 | en_bad _ _ _ => intro z e; cases e
 | te_no _ _ => intro z e; cases e
 | teL_bad _ _ _ => intro z e; cases e
 | pd_no _ _ => intro z e; cases e
 | pdL_bad _ _ _ => intro z e; cases e
 | fa_no _ _ _ => intro z e; cases e
 | po_no _ _ => intro z e; cases e
 | pT_bad _ _ => intro z e; cases e
 | pr_no _ _ _ => intro z e; cases e
 | pr_bad _ _ _ _ => intro z e; cases e
 | pr_none _ _ _ => intro z e; cases e
 | @iff_go b s x s1 r s2 h1 h2 i1 i2 =>
  intro z e
  exact (i1 _ rfl).trans (i2 _ e)
 | @iffL_end x s h0  =>
  intro z e
  exact .refl _
 | @iffL_go x s y s1 r s2 h0 h1 h2 i1 i2 =>
  intro z e
  exact ((Go2.adv _).trans (i1 _ rfl)).trans (i2 _ e)
 | @imp_one b s x s1 h1 h0 i1 =>
  intro z e
  exact i1 _ rfl
 | @imp_two b s x s1 y s2 h1 h0 h2 i1 i2 =>
  intro z e
  exact ((i1 _ rfl).trans (.adv _)).trans (i2 _ rfl)
 | @or_go b s x s1 r s2 h1 h2 i1 i2 =>
  intro z e
  exact (i1 _ rfl).trans (i2 _ e)
 | @orL_end x s h0  =>
  intro z e
  exact .refl _
 | @orL_go x s y s1 r s2 h0 h1 h2 i1 i2 =>
  intro z e
  exact ((Go2.adv _).trans (i1 _ rfl)).trans (i2 _ e)
 | @and_go b s x s1 r s2 h1 h2 i1 i2 =>
  intro z e
  exact (i1 _ rfl).trans (i2 _ e)
 | @andL_end x s h0  =>
  intro z e
  exact .refl _
 | @andL_go x s y s1 r s2 h0 h1 h2 i1 i2 =>
  intro z e
  exact ((Go2.adv _).trans (i1 _ rfl)).trans (i2 _ e)
 | @un_not b s x s1 h0 h1 i1 =>
  intro z e
  exact ((Go2.opn T _).trans (i1 _ rfl)).trans (.dn _)
 | @un_all b s r s1 h0 h1 h2 i1 =>
  intro z e
  exact (Go2.adv _).trans (i1 _ e)
 | @un_ex b s r s1 h0 h1 h2 h3 i1 =>
  intro z e
  exact (Go2.adv _).trans (i1 _ e)
 | @un_true b s h0 h1 h2 h3  =>
  intro z e
  exact .adv _
 | @un_false b s h0 h1 h2 h3 h4  =>
  intro z e
  exact .adv _
 | @un_atom b s r s1 h0 h1 h2 h3 h4 h5 i1 =>
  intro z e
  exact i1 _ e
 | @qu_comma a s x s1 h0 h1 h2 i1 =>
  intro z e
  exact ((((Go2.inc T _).trans (.nam T _)).trans (.adv _)).trans (i1 _ rfl)).trans (.dn _)
 | @qu_dot a s x s1 h0 h1 h2 h3 i1 =>
  intro z e
  exact ((((Go2.inc T _).trans (.nam T _)).trans (.adv _)).trans (i1 _ rfl)).trans (.dn _)
 | @at_fo b s f s1 h0 h1 i1 =>
  intro z e
  exact i1 _ rfl
 | @at_par b s t s1 r s2 h0 h1 h2 i1 i2 =>
  intro z e
  exact (i1 _ rfl).trans (i2 _ e)
 | @at_go b s r s2 h0 h1 i1 =>
  intro z e
  exact i1 _ e
 | @atT_bare b q s l s1 h1 h2 h3 i1 =>
  intro z e
  exact i1 _ rfl
 | @atT_ok b q s l s1 m s2 h1 h2 h3 i1 i2 =>
  intro z e
  exact ((i1 _ rfl).trans (.relS T _)).trans (i2 _ rfl)
 | @en_ok s x s1 h1 h2 i1 =>
  intro z e
  exact (((Go2.opn T _).trans (i1 _ rfl)).trans (.dn _)).trans (.adv _)
 | @te_go q s x s1 r s2 h1 h2 i1 i2 =>
  intro z e
  exact (i1 _ rfl).trans (i2 _ e)
 | @teL_end x s h0  =>
  intro z e
  exact .refl _
 | @teL_go x s y s1 r s2 h0 h1 h2 i1 i2 =>
  intro z e
  exact (((Go2.adv _).trans (i1 _ rfl)).trans (.meas _ _ _ _)).trans (i2 _ e)
 | @pd_go q s x s1 r s2 h1 h2 i1 i2 =>
  intro z e
  exact (i1 _ rfl).trans (i2 _ e)
 | @pdL_end x s h0  =>
  intro z e
  exact .refl _
 | @pdL_go x s y s1 r s2 h0 h1 h2 i1 i2 =>
  intro z e
  exact (((Go2.adv _).trans (i1 _ rfl)).trans (.meas _ _ _ _)).trans (i2 _ e)
 | @fa_first x s r s1 h1 i1 =>
  intro z e
  exact i1 _ e
 | @fa_pow s r s1 h0 h1 i1 =>
  intro z e
  exact i1 _ e
 | @fa_neg s t s1 h0 h1 i1 =>
  intro z e
  exact ((Go2.opn T _).trans (i1 _ rfl)).trans (.dn _)
 | @po_first x s r s2 h1 i1 =>
  intro z e
  exact i1 _ e
 | @po_go s x s1 r s2 h1 h2 i1 i2 =>
  intro z e
  exact (i1 _ rfl).trans (i2 _ e)
 | @pT_end x s h0  =>
  intro z e
  exact .refl _
 | @pT_ok x s h0 h1  =>
  intro z e
  exact .powS T _ _
 | @pr_num s h0  =>
  intro z e
  exact .adv _
 | @pr_name s h0  =>
  intro z e
  exact .nam T _
 | @pr_ok s x s1 h0 h1 h2 i1 =>
  intro z e
  exact (((Go2.opn T _).trans (i1 _ rfl)).trans (.dn _)).trans (.adv _)
def mF : Fo → List ByteArray
 | .atom l _ r => namesT l ++ namesT r
 | .not f => mF f
 | .and l r => mF l ++ mF r
 | .or l r => mF l ++ mF r
 | .implies l r => mF l ++ mF r
 | .iff l r => mF l ++ mF r
 | .quant _ n f => n :: mF f
 | _ => []
theorem pk_inc2 (T : List Tok) (s : PS) : pk T (inc T s) = pk T s := by unfold pk; rw [inc_next]
def gdT : Tm → Bool
 | .num _ l => decide (digN (valN l) ≤ 40)
 | .name _ => true
 | .add l r => gdT l && gdT r && !large (.add l r)
 | .sub l r => gdT l && gdT r && !large (.sub l r)
 | .mul l r => gdT l && gdT r && !large (.mul l r)
 | .neg t => gdT t
 | .pow t e => gdT t && decide (e ≤ 8) && !large (.pow t e)
 | .odd => false
def gdF : Fo → Bool
 | .atom l _ r => gdT l && gdT r
 | .not f => gdF f
 | .and l r => gdF l && gdF r
 | .or l r => gdF l && gdF r
 | .implies l r => gdF l && gdF r
 | .iff l r => gdF l && gdF r
 | .quant _ _ f => gdF f
 | .truth _ => true
 | .odd => true
def gV : PV → Bool
 | .tm t => gdT t
 | .fo f => gdF f
def gB : PC → Bool
 | .iffL x => gV x
 | .orL x => gV x
 | .andL x => gV x
 | .termL t => gdT t
 | .prodL t => gdT t
 | .powT t => gdT t
 | .term (some t) => gdT t
 | .prod (some t) => gdT t
 | .fac (some t) => gdT t
 | .pow (some t) => gdT t
 | .atomT _ (some t) => gdT t
 | _ => true
theorem asF_g {x : PV} (h : gV x = true) : gdF (asF x) = true := by
 cases x with
 | tm t => rfl
 | fo f => exact h
theorem digN_le (N k : Nat) (hk : 1 ≤ k) (h : N < 10 ^ k) : digN N ≤ k := by
 unfold digN
 have := revd_len k N h
 omega
theorem gd_large : ∀ t : Tm, gdT t = true → large t = false
 | .odd, h => by cases h
 | .num _ l, h => by
  have h : digN (valN l) ≤ 40 := by simpa [gdT] using h
  unfold large degT wgtT capN
  simp
  omega
 | .name _, _ => by simp [large, degT, wgtT]
 | .add l r, h => by simp only [gdT, Bool.and_eq_true, Bool.not_eq_true'] at h; exact h.2
 | .sub l r, h => by simp only [gdT, Bool.and_eq_true, Bool.not_eq_true'] at h; exact h.2
 | .mul l r, h => by simp only [gdT, Bool.and_eq_true, Bool.not_eq_true'] at h; exact h.2
 | .pow l r, h => by simp only [gdT, Bool.and_eq_true, Bool.not_eq_true'] at h; exact h.2
 | .neg t, h => by show (decide (8 < degT t) || decide (320 < wgtT t)) = false; exact gd_large t h
theorem valN_limbF : ∀ (k n : Nat), n < 4294967296 ^ k → valN (limbF k n) = n
 | 0, n, h => by
  have h0 : n = 0 := by simpa using h
  rw [h0]; rfl
 | k + 1, n, h => by
  unfold limbF
  split
  ·rename_i h0; rw [h0]; rfl
  ·rw [valN_cons, valN_limbF k _ (by rw [Nat.pow_succ] at h; omega)]
   omega
theorem valN_limbs (n : Nat) (h : n < 10 ^ 40) : valN (limbs n) = n := valN_limbF 8 n (Nat.lt_of_lt_of_le h (by decide))
theorem pow_mono {a b : Nat} (h : a ≤ b) : 10 ^ a ≤ 10 ^ b := Nat.pow_le_pow_right (by omega) h
theorem tokOk_val {T : List Tok} (h : TokOk T) (s : PS) (hk : (Pa.pk T s).kind = 1) : decV (Pa.pk T s).text < 10 ^ 40 ∧ 0 < (Pa.pk T s).text.length := by
 have h1 := h.num s hk
 have h2 := h.pk s
 obtain ⟨hd, h0, h40, -⟩ := h1
 have h3 : decV (Pa.pk T s).text < 10 ^ (Pa.pk T s).text.length := decF_lt _ (fun c hc => hd c hc)
 exact ⟨Nat.lt_of_lt_of_le h3 (pow_mono h2), h0⟩
theorem gd_num {T : List Tok} (h : TokOk T) (s : PS) (hk : (pk T s).kind = 1) : gdT (numT (pk T s).text) = true := by
 obtain ⟨h1, -⟩ := tokOk_val h s hk
 unfold numT gdT
 rw [valN_limbs _ h1, decide_eq_true_eq]
 exact digN_le _ 40 (by omega) h1
theorem meas_ok {s : PS} {t : Tok} {x : Tm} {l : List Tm} (h : (meas s t x l).over = false) (hl : l.all (fun y => !large y) = true) : large x = false := by
 cases hx : large x with
 | false => rfl
 | true =>
  unfold meas at h
  rw [if_pos ⟨hx, hl⟩, exc_over] at h
  cases h
theorem two_small {x y : Tm} (hx : gdT x = true) (hy : gdT y = true) : [x, y].all (fun y => !large y) = true := by simp [gd_large x hx, gd_large y hy]
theorem one_small {x : Tm} (hx : gdT x = true) : [x].all (fun y => !large y) = true := by simp [gd_large x hx]
theorem gd_sum {k : Tok} {x y : Tm} (hx : gdT x = true) (hy : gdT y = true) (h : large (sumT k x y) = false) : gdT (sumT k x y) = true := by
 unfold sumT at h ⊢
 split at h
 ·rename_i e; rw [if_pos e]; unfold gdT; rw [hx, hy, h]; rfl
 ·rename_i e; rw [if_neg e]; unfold gdT; rw [hx, hy, h]; rfl
theorem pow_ok {T : List Tok} {x : Tm} {s : PS} (h : (powS T x s).over = false) (hx : gdT x = true) : gdT (.pow x (expN (pk T (adv s)).text)) = true := by
 have hm := meas_ok h (one_small hx)
 unfold gdT
 rw [hx, hm]
 have h2 := (Go2.meas _ _ _ _).over h
 split at h2
 ·rw [exc_over] at h2; cases h2
 ·rename_i h8
  have : decide ((((expN (pk T (adv s)).text) : Nat) : Int) ≤ 8) = true := by rw [decide_eq_true_eq]; omega
  rw [this]; rfl
theorem Big.good {T : List Tok} (hT : TokOk T) {c : PC} {s s' : PS} {r : Option PV} (h : Big T c s r s') : ∀ z, r = some z → s'.over = false → gB c = true → gV z = true := by
 induction h with
 | iff_no _ _ => intro z e; cases e
 | iffL_bad _ _ _ => intro z e; cases e
 | imp_no _ _ => intro z e; cases e
 | imp_bad _ _ _ _ _ => intro z e; cases e
 | or_no _ _ => intro z e; cases e
 | orL_bad _ _ _ => intro z e; cases e
 | and_no _ _ => intro z e; cases e
 | andL_bad _ _ _ => intro z e; cases e
 | un_not_no _ _ _ => intro z e; cases e
 | qu_no _ => intro z e; cases e
 | qu_comma_no _ _ _ _ => intro z e; cases e
 | qu_dot_no _ _ _ _ _ => intro z e; cases e
 | qu_bad _ _ _ => intro z e; cases e
 | at_no _ _ _ => intro z e; cases e
 | atT_no _ _ => intro z e; cases e
 | atT_none _ _ _ _ => intro z e; cases e
 | atT_bad _ _ _ _ _ => intro z e; cases e
 | en_no _ _ => intro z e; cases e
 | en_bad _ _ _ => intro z e; cases e
 | te_no _ _ => intro z e; cases e
 | teL_bad _ _ _ => intro z e; cases e
 | pd_no _ _ => intro z e; cases e
 | pdL_bad _ _ _ => intro z e; cases e
 | fa_no _ _ _ => intro z e; cases e
 | po_no _ _ => intro z e; cases e
 | pT_bad _ _ => intro z e; cases e
 | pr_no _ _ _ => intro z e; cases e
 | pr_bad _ _ _ _ => intro z e; cases e
 | pr_none _ _ _ => intro z e; cases e
 | @iff_go b s x s1 r s2 h1 h2 i1 i2 =>
  intro z e
  intro ho hg; exact i2 _ e ho (i1 _ rfl ((Big.go h2 _ e).over ho) rfl)
 | @iffL_end x s h0  =>
  intro z e
  cases e; intro ho hg; exact hg
 | @iffL_go x s y s1 r s2 h0 h1 h2 i1 i2 =>
  intro z e
  intro ho hg
  refine i2 _ e ho ?_
  have g1 := asF_g (x := x) hg
  have g2 := asF_g (i1 _ rfl ((Big.go h2 _ e).over ho) rfl)
  show (gdF (asF x) && gdF (asF y)) = true
  rw [g1, g2]; rfl
 | @imp_one b s x s1 h1 h0 i1 =>
  intro z e
  cases e; intro ho hg; exact i1 _ rfl ho rfl
 | @imp_two b s x s1 y s2 h1 h0 h2 i1 i2 =>
  intro z e
  cases e
  intro ho hg
  have g1 := asF_g (i1 _ rfl (((Go2.adv _).trans (Big.go h2 _ rfl)).over ho) rfl)
  have g2 := asF_g (i2 _ rfl ho rfl)
  show (gdF (asF x) && gdF (asF y)) = true
  rw [g1, g2]; rfl
 | @or_go b s x s1 r s2 h1 h2 i1 i2 =>
  intro z e
  intro ho hg; exact i2 _ e ho (i1 _ rfl ((Big.go h2 _ e).over ho) rfl)
 | @orL_end x s h0  =>
  intro z e
  cases e; intro ho hg; exact hg
 | @orL_go x s y s1 r s2 h0 h1 h2 i1 i2 =>
  intro z e
  intro ho hg
  refine i2 _ e ho ?_
  have g1 := asF_g (x := x) hg
  have g2 := asF_g (i1 _ rfl ((Big.go h2 _ e).over ho) rfl)
  show (gdF (asF x) && gdF (asF y)) = true
  rw [g1, g2]; rfl
 | @and_go b s x s1 r s2 h1 h2 i1 i2 =>
  intro z e
  intro ho hg; exact i2 _ e ho (i1 _ rfl ((Big.go h2 _ e).over ho) rfl)
 | @andL_end x s h0  =>
  intro z e
  cases e; intro ho hg; exact hg
 | @andL_go x s y s1 r s2 h0 h1 h2 i1 i2 =>
  intro z e
  intro ho hg
  refine i2 _ e ho ?_
  have g1 := asF_g (x := x) hg
  have g2 := asF_g (i1 _ rfl ((Big.go h2 _ e).over ho) rfl)
  show (gdF (asF x) && gdF (asF y)) = true
  rw [g1, g2]; rfl
 | @un_not b s x s1 h0 h1 i1 =>
  intro z e
  cases e; intro ho hg; exact asF_g (i1 _ rfl ho rfl)
 | @un_all b s r s1 h0 h1 h2 i1 =>
  intro z e
  intro ho hg; exact i1 _ e ho rfl
 | @un_ex b s r s1 h0 h1 h2 h3 i1 =>
  intro z e
  intro ho hg; exact i1 _ e ho rfl
 | @un_true b s h0 h1 h2 h3  =>
  intro z e
  cases e; intro ho hg; rfl
 | @un_false b s h0 h1 h2 h3 h4  =>
  intro z e
  cases e; intro ho hg; rfl
 | @un_atom b s r s1 h0 h1 h2 h3 h4 h5 i1 =>
  intro z e
  intro ho hg; exact i1 _ e ho rfl
 | @qu_comma a s x s1 h0 h1 h2 i1 =>
  intro z e
  cases e; intro ho hg; exact asF_g (i1 _ rfl ho rfl)
 | @qu_dot a s x s1 h0 h1 h2 h3 i1 =>
  intro z e
  cases e; intro ho hg; exact asF_g (i1 _ rfl ho rfl)
 | @at_fo b s f s1 h0 h1 i1 =>
  intro z e
  cases e; intro ho hg; exact i1 _ rfl ho rfl
 | @at_par b s t s1 r s2 h0 h1 h2 i1 i2 =>
  intro z e
  intro ho hg; exact i2 _ e ho (i1 _ rfl ((Big.go h2 _ e).over ho) rfl)
 | @at_go b s r s2 h0 h1 i1 =>
  intro z e
  intro ho hg; exact i1 _ e ho rfl
 | @atT_bare b q s l s1 h1 h2 h3 i1 =>
  intro z e
  cases e; intro ho hg; exact i1 _ rfl ho (by cases q with | none => rfl | some t => exact hg)
 | @atT_ok b q s l s1 m s2 h1 h2 h3 i1 i2 =>
  intro z e
  cases e
  intro ho hg
  have g1 := i1 _ rfl (((Go2.relS T _).trans (Big.go h3 _ rfl)).over ho) (by cases q with | none => rfl | some t => exact hg)
  have g2 := i2 _ rfl ho rfl
  show (gdT l && gdT m) = true
  rw [show gdT l = true from g1, show gdT m = true from g2]; rfl
 | @en_ok s x s1 h1 h2 i1 =>
  intro z e
  cases e; intro ho hg; exact i1 _ rfl ho rfl
 | @te_go q s x s1 r s2 h1 h2 i1 i2 =>
  intro z e
  intro ho hg; exact i2 _ e ho (i1 _ rfl ((Big.go h2 _ e).over ho) (by cases q with | none => rfl | some t => exact hg))
 | @teL_end x s h0  =>
  intro z e
  cases e; intro ho hg; exact hg
 | @teL_go x s y s1 r s2 h0 h1 h2 i1 i2 =>
  intro z e
  intro ho hg
  have ho1 := (Big.go h2 _ e).over ho
  have g2 : gdT y = true := i1 _ rfl ((Go2.meas _ _ _ _).over ho1) rfl
  exact i2 _ e ho (gd_sum hg g2 (meas_ok ho1 (two_small hg g2)))
 | @pd_go q s x s1 r s2 h1 h2 i1 i2 =>
  intro z e
  intro ho hg; exact i2 _ e ho (i1 _ rfl ((Big.go h2 _ e).over ho) (by cases q with | none => rfl | some t => exact hg))
 | @pdL_end x s h0  =>
  intro z e
  cases e; intro ho hg; exact hg
 | @pdL_go x s y s1 r s2 h0 h1 h2 i1 i2 =>
  intro z e
  intro ho hg
  have ho1 := (Big.go h2 _ e).over ho
  have g2 : gdT y = true := i1 _ rfl ((Go2.meas _ _ _ _).over ho1) rfl
  have hm := meas_ok ho1 (two_small hg g2)
  refine i2 _ e ho ?_
  show (gdT x && gdT y && !large (.mul x y)) = true
  rw [show gdT x = true from hg, g2, hm]; rfl
 | @fa_first x s r s1 h1 i1 =>
  intro z e
  intro ho hg; exact i1 _ e ho hg
 | @fa_pow s r s1 h0 h1 i1 =>
  intro z e
  intro ho hg; exact i1 _ e ho rfl
 | @fa_neg s t s1 h0 h1 i1 =>
  intro z e
  cases e; intro ho hg; exact i1 (.tm t) rfl ho rfl
 | @po_first x s r s2 h1 i1 =>
  intro z e
  intro ho hg; exact i1 _ e ho hg
 | @po_go s x s1 r s2 h1 h2 i1 i2 =>
  intro z e
  intro ho hg; exact i2 _ e ho (i1 _ rfl ((Big.go h2 _ e).over ho) rfl)
 | @pT_end x s h0  =>
  intro z e
  cases e; intro ho hg; exact hg
 | @pT_ok x s h0 h1  =>
  intro z e
  cases e; intro ho hg; exact pow_ok ho hg
 | @pr_num s h0  =>
  intro z e
  cases e; intro ho hg; exact gd_num hT s h0
 | @pr_name s h0  =>
  intro z e
  cases e; intro ho hg; rfl
 | @pr_ok s x s1 h0 h1 h2 i1 =>
  intro z e
  cases e; intro ho hg; exact i1 _ rfl ho rfl
end Pa
end Go.Proofs.YteneobpacobpdaaGreatDoor
